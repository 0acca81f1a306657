/- ClaimsAll returns true whatever its input is, and its input reads as it did. -/
import Derived.Test.YthjenkmbbnjcnaaPd7
set_option linter.unusedVariables false
set_option linter.unusedSimpArgs false
set_option linter.constructorNameAsVariable false
set_option maxRecDepth 8000
set_option maxHeartbeats 8000000
namespace Go.Proofs.Ythjenkmbbnjcnaa
open Go Go.RowKit
open Go.ChangeShapes Go.WideShapes Go.ChangeAt Go.RowKit
set_option maxRecDepth 100000
def rngSpan (x:Span):Prop:=(rngI x.frm)∧(rngI x.to)
theorem Kb (n:Nat) (e:List T) (h:WfT Try.prog (n+2) 43 e):∃ x:Span,encSpan [x]=[e]∧rngSpan x:=by
 obtain⟨q0,rfl,w0⟩:=WfT.struct (t:=43) Try.underlying43 h
 obtain⟨p0,q1,rfl,g0,w1⟩:=All2.cons_r w0
 obtain⟨p1,q2,rfl,g1,w2⟩:=All2.cons_r w1
 obtain rfl:=All2.nil_r w2
 obtain⟨f0,rfl,v0⟩:=WfT.int (t:=3) Try.underlying3 g0
 have r0:=Dk v0
 obtain⟨f1,rfl,v1⟩:=WfT.int (t:=3) Try.underlying3 g1
 have r1:=Dk v1
 exact⟨⟨f0,f1⟩,rfl,⟨r0,r1⟩⟩
theorem JF {n:Nat} {es:List (List T)} (h:∀ x∈es,WfT Try.prog (n+2) 43 x):∃ l:List Span,es=encSpan l∧∀ x∈l,rngSpan x :=
 Gv (enc:=encSpan) (R:=fun e=>WfT Try.prog (n+2) 43 e) (rng:=rngSpan) rfl (fun _ _=>rfl) (@Kb n) es h
set_option maxRecDepth 100000 in
theorem claimsAll_lifted (os:Os) (started:os.Started) (H:Type) (enc:TypeId×Value→H) :
  ReturnsInHanded {} Try.checked os 7 .any (Rows.claimsAllSpec.pre6 enc Try.prog Try.f7 Rows.claimsAllRow.domain false) (Rows.claimsAllSpec.post enc Try.prog Try.f7 false true false false):=by
 refine returnsInHanded_of_change_sized (C:=Try.checked) Try.own started (by kernel_rfl) Try.func7
  (ChangeSpec.witness6 (enc:=enc) (C:=Try.checked) false ⟨#[],#[.slice none 0 0,.slice none 0 0,.slice none 0 0,.int .i64 0,.int .i64 0,.int .i64 0],[]⟩ 8 (by kernel_rfl) (by kernel_rfl) (by kernel_rfl) (by kernel_rfl)) ?_
 intro W base args ds gs before hval hW hcnd hw _
 refine IN (fn:=Try.f7) (s:=Rows.claimsAllSpec) (tb:=4) (m:=9) Try.laidOut (by kernel_rfl) rfl Try.underlying4 rfl ?_ ?_ W base args ds gs before hval hW hw
 ·intro ds hds
  match ds,hds with
  |[d0,d1,d2,d3,d4,d5],_=>rfl
 ·intro tss h0
  obtain⟨p0,q0,rfl,g0,h1⟩:=All2.cons_r h0
  obtain⟨p1,q1,rfl,g1,h2⟩:=All2.cons_r h1
  obtain⟨p2,q2,rfl,g2,h3⟩:=All2.cons_r h2
  obtain⟨p3,q3,rfl,g3,h4⟩:=All2.cons_r h3
  obtain⟨p4,q4,rfl,g4,h5⟩:=All2.cons_r h4
  obtain⟨p5,q5,rfl,g5,h6⟩:=All2.cons_r h5
  obtain rfl:=All2.nil_r h6
  obtain⟨es0,rfl,-,k0⟩:=WfT.slice (t:=24) Try.underlying24 g0
  obtain⟨a,rfl,ra⟩:=GQ k0
  obtain⟨es1,rfl,-,k1⟩:=WfT.slice (t:=24) Try.underlying24 g1
  obtain⟨b,rfl,rb⟩:=GQ k1
  obtain⟨es2,rfl,-,k2⟩:=WfT.slice (t:=29) Try.underlying29 g2
  obtain⟨s,rfl,rs⟩:=JF k2
  obtain⟨slot,rfl,v3⟩:=WfT.int (t:=3) Try.underlying3 g3
  have rslot:=Dk v3
  obtain⟨node,rfl,v4⟩:=WfT.int (t:=3) Try.underlying3 g4
  have rnode:=Dk v4
  obtain⟨epoch,rfl,v5⟩:=WfT.int (t:=3) Try.underlying3 g5
  have repoch:=Dk v5
  exact Gj (HD a b s slot node epoch)
theorem claimsAll_holds:Rows.ClaimsAllSaid :=
 OpenClaim.holds_of_wide 7 Try.f7 rfl rfl rfl rfl rfl rfl rfl ⟨rfl,rfl,rfl,rfl,rfl⟩ rfl rfl rfl rfl rfl (by kernel_rfl) Try.func7 (by kernel_rfl)
  (of_decide_eq_true (by kernel_rfl)) (by unfold Func.isWrapper;first|(rw[if_pos (by decide +kernel)];kernel_rfl)|(rw[if_neg (by decide +kernel)];exact⟨rfl,rfl⟩))
  (fun os started H enc _=>claimsAll_lifted os started H enc)
#print axioms claimsAll_holds
end Go.Proofs.Ythjenkmbbnjcnaa
