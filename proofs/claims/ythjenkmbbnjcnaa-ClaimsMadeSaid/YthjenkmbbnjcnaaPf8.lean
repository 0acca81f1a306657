/- ClaimsMade returns true whatever its input is, and its input reads as it did. -/
import Derived.Test.YthjenkmbbnjcnaaPf7
set_option linter.unusedVariables false
set_option linter.unusedSimpArgs false
set_option linter.constructorNameAsVariable false
set_option maxRecDepth 8000
set_option maxHeartbeats 8000000
namespace Go.Proofs.Ythjenkmbbnjcnaa
open Go Go.RowKit
open Go.ChangeShapes Go.WideShapes Go.ChangeAt Go.RowKit
set_option maxRecDepth 100000 in
theorem claimsMade_lifted (os:Os) (started:os.Started) (H:Type) (enc:TypeId×Value→H) :
  ReturnsInHanded {} Try.checked os 8 .any (Rows.claimsMadeSpec.pre6 enc Try.prog Try.f8 Rows.claimsMadeRow.domain false) (Rows.claimsMadeSpec.post enc Try.prog Try.f8 false true false false):=by
 refine returnsInHanded_of_change_sized (C:=Try.checked) Try.own started (by kernel_rfl) Try.func8
  (ChangeSpec.witness6 (enc:=enc) (C:=Try.checked) false ⟨#[],#[.slice none 0 0,.slice none 0 0,.slice none 0 0,.int .u8 0,.int .u8 0,.int .u16 0],[]⟩ 8 (by kernel_rfl) (by kernel_rfl) (by kernel_rfl) (by kernel_rfl)) ?_
 intro W base args ds gs before hval hW hcnd hw _
 refine IU (fn:=Try.f8) (s:=Rows.claimsMadeSpec) (tb:=4) (m:=9) Try.laidOut (by kernel_rfl) rfl Try.underlying4 rfl ?_ ?_ W base args ds gs before hval hW hw
 ·intro ds hds
  match ds,hds with
  |[d0,d1,d2,d3,d4,d5],_=>rfl
 ·intro tss h0
  obtain⟨p0,q0,rfl,g0,h1⟩:=All2.cons_r h0
  obtain⟨p1,q1,rfl,g1,h2⟩:=All2.cons_r h1
  obtain⟨p2,q2,rfl,g2,h3⟩:=All2.cons_r h2
  obtain⟨p3,q3,rfl,g3,h4⟩:=All2.cons_r h3
  obtain⟨p4,q4,rfl,g4,h5⟩:=All2.cons_r h4
  obtain⟨p5,q5,rfl,g5,h6⟩:=All2.cons_r h5
  obtain rfl:=All2.nil_r h6
  obtain⟨es0,rfl,-,k0⟩:=WfT.slice (t:=22) Try.underlying22 g0
  obtain⟨xs,rfl,rxs⟩:=IK k0
  obtain⟨es1,rfl,-,k1⟩:=WfT.slice (t:=22) Try.underlying22 g1
  obtain⟨ys,rfl,rys⟩:=IK k1
  obtain⟨es2,rfl,-,k2⟩:=WfT.slice (t:=22) Try.underlying22 g2
  obtain⟨zs,rfl,rzs⟩:=IK k2
  obtain⟨a,rfl,v3⟩:=WfT.int (t:=5) Try.underlying5 g3
  have ra:=Ij v3
  obtain⟨b,rfl,v4⟩:=WfT.int (t:=5) Try.underlying5 g4
  have rb:=Ij v4
  obtain⟨c,rfl,v5⟩:=WfT.int (t:=33) Try.underlying33 g5
  have rc:=Kh v5
  exact F9 (G7 xs ys zs a b c rxs rys rzs ra rb rc)
theorem claimsMade_holds:Rows.ClaimsMadeSaid :=
 OpenClaim.holds_of_wide 8 Try.f8 rfl rfl rfl rfl rfl rfl rfl ⟨rfl,rfl,rfl,rfl,rfl⟩ rfl rfl rfl rfl rfl (by kernel_rfl) Try.func8 (by kernel_rfl)
  (of_decide_eq_true (by kernel_rfl)) (by unfold Func.isWrapper;first|(rw[if_pos (by decide +kernel)];kernel_rfl)|(rw[if_neg (by decide +kernel)];exact⟨rfl,rfl⟩))
  (fun os started H enc _=>claimsMade_lifted os started H enc)
#print axioms claimsMade_holds
end Go.Proofs.Ythjenkmbbnjcnaa
