/- BalanceAll returns true whatever its input is, and its input reads as it did. -/
import Derived.Test.YtenemndpignaoaaPa6
set_option linter.unusedVariables false
set_option linter.unusedSimpArgs false
set_option linter.constructorNameAsVariable false
set_option maxRecDepth 8000
set_option maxHeartbeats 8000000
namespace Go.Proofs.Ytenemndpignaoaa
open Go Go.RowKit
open Go.ChangeShapes Go.WideShapes Go.ChangeAt Go.RowKit
set_option maxRecDepth 100000
def rngApiStep (x:ApiStep):Prop:=(rngI x.slot)∧(rngI x.frm)∧(rngI x.to)
theorem Jt (n:Nat) (e:List T) (h:WfT Try.prog (n+2) 33 e):∃ x:ApiStep,Az [x]=[e]∧rngApiStep x:=by
 obtain⟨q0,rfl,w0⟩:=WfT.struct (t:=33) Try.underlying33 h;obtain⟨p0,q1,rfl,g0,w1⟩:=All2.cons_r w0;obtain⟨p1,q2,rfl,g1,w2⟩:=All2.cons_r w1;obtain⟨p2,q3,rfl,g2,w3⟩:=All2.cons_r w2;obtain rfl:=All2.nil_r w3;obtain⟨f0,rfl,v0⟩:=WfT.int (t:=3) Try.underlying3 g0;have r0:=D8 v0;obtain⟨f1,rfl,v1⟩:=WfT.int (t:=3) Try.underlying3 g1;have r1:=D8 v1;obtain⟨f2,rfl,v2⟩:=WfT.int (t:=3) Try.underlying3 g2;have r2:=D8 v2;exact⟨⟨f0,f1,f2⟩,rfl,⟨r0,r1,r2⟩⟩
theorem II {n:Nat} {es:List (List T)} (h:∀ x∈es,WfT Try.prog (n+2) 33 x):∃ l:List ApiStep,es=Az l∧∀ x∈l,rngApiStep x :=
 F1 (enc:=Az) (R:=fun e=>WfT Try.prog (n+2) 33 e) (rng:=rngApiStep) rfl (fun _ _=>rfl) (@Jt n) es h
set_option maxRecDepth 100000 in
theorem balanceAll_lifted (os:Os) (started:os.Started) (H:Type) (enc:TypeId×Value→H) :
  ReturnsInHanded {} Try.checked os 3 .any (Rows.balanceAllSpec.pre6 enc Try.prog Try.f3 Rows.balanceAllRow.domain false) (Rows.balanceAllSpec.post enc Try.prog Try.f3 false true false false):=by
 refine returnsInHanded_of_change_sized (C:=Try.checked) Try.own started (by kernel_rfl) Try.func3
  (ChangeSpec.witness6 (enc:=enc) (C:=Try.checked) false ⟨#[],#[.slice none 0 0,.slice none 0 0,.slice none 0 0],[]⟩ 8 (by kernel_rfl) (by kernel_rfl) (by kernel_rfl) (by kernel_rfl)) ?_
 intro W base args ds gs before hval hW hcnd hw _;refine JD (fn:=Try.f3) (s:=Rows.balanceAllSpec) (tb:=4) (m:=9) Try.laidOut (by kernel_rfl) rfl Try.underlying4 rfl ?_ ?_ W base args ds gs before hval hW hw
 ·intro ds hds;match ds,hds with
  |[d0,d1,d2],_=>rfl
 ·intro tss h0;obtain⟨p0,q0,rfl,g0,h1⟩:=All2.cons_r h0;obtain⟨p1,q1,rfl,g1,h2⟩:=All2.cons_r h1;obtain⟨p2,q2,rfl,g2,h3⟩:=All2.cons_r h2;obtain rfl:=All2.nil_r h3;obtain⟨es0,rfl,-,k0⟩:=WfT.slice (t:=22) Try.underlying22 g0;obtain⟨l,rfl,rl⟩:=J8 k0;obtain⟨es1,rfl,-,k1⟩:=WfT.slice (t:=23) Try.underlying23 g1;obtain⟨m,rfl,rm⟩:=wf_Is k1;obtain⟨es2,rfl,-,k2⟩:=WfT.slice (t:=24) Try.underlying24 g2;obtain⟨s,rfl,rs⟩:=II k2;exact Gw (HM l m s)
theorem balanceAll_holds:Rows.BalanceAllSaid :=
 OpenClaim.holds_of_wide 3 Try.f3 rfl rfl rfl rfl rfl rfl rfl ⟨rfl,rfl,rfl,rfl,rfl⟩ rfl rfl rfl rfl rfl (by kernel_rfl) Try.func3 (by kernel_rfl)
  (of_decide_eq_true (by kernel_rfl)) (by unfold Func.isWrapper;first|(rw[if_pos (by decide +kernel)];kernel_rfl)|(rw[if_neg (by decide +kernel)];exact⟨rfl,rfl⟩))
  (fun os started H enc _=>balanceAll_lifted os started H enc)
#print axioms balanceAll_holds
end Go.Proofs.Ytenemndpignaoaa
