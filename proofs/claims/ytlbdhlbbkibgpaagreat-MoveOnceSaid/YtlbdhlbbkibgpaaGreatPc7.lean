/- MoveOnce returns true whatever its input is. -/
import Derived.Test.YtlbdhlbbkibgpaaGreatPc6
set_option linter.unusedVariables false
set_option linter.unusedSimpArgs false
set_option linter.constructorNameAsVariable false
set_option maxRecDepth 8000
set_option maxHeartbeats 8000000
namespace Go.Proofs.YtlbdhlbbkibgpaaGreat
open Go Go.RowKit
open Go.ChangeShapes Go.WideShapes Go.ChangeAt Go.RowKit
set_option maxRecDepth 100000 in
theorem moveOnce_lifted (os:Os) (started:os.Started) (H:Type) (enc:TypeId×Value→H) :
  ReturnsInHanded {} Tryz.checked os 4 .any (Rows.moveOnceSpec.pre6 enc Tryz.prog Tryz.f4 Rows.moveOnceRow.domain false) (Rows.moveOnceSpec.post enc Tryz.prog Tryz.f4 false true false false):=by
 refine returnsInHanded_of_change_sized (C:=Tryz.checked) Tryz.own started (by kernel_rfl) Tryz.func4
  (ChangeSpec.witness6 (enc:=enc) (C:=Tryz.checked) false ⟨#[],#[.slice none 0 0,.int .u8 0,.int .u8 0,.slice none 0 0],[]⟩ 8 (by kernel_rfl) (by kernel_rfl) (by kernel_rfl) (by kernel_rfl)) ?_
 intro W base args ds gs before hval hW hcnd hw _
 refine ML (fn:=Tryz.f4) (s:=Rows.moveOnceSpec) (tb:=4) (m:=9) Tryz.laidOut (by kernel_rfl) rfl Tryz.underlying4 rfl ?_ ?_ W base args ds gs before hval hW hw
 ·intro ds hds
  match ds,hds with
  |[d0,d1,d2,d3],_=>rfl
 ·intro tss h0
  obtain⟨p0,q0,rfl,g0,h1⟩:=All2.cons_r h0
  obtain⟨p1,q1,rfl,g1,h2⟩:=All2.cons_r h1
  obtain⟨p2,q2,rfl,g2,h3⟩:=All2.cons_r h2
  obtain⟨p3,q3,rfl,g3,h4⟩:=All2.cons_r h3
  obtain rfl:=All2.nil_r h4
  obtain⟨es0,rfl,-,k0⟩:=WfT.slice (t:=22) Tryz.underlying22 g0
  obtain⟨ns,rfl,rns⟩:=Og k0
  obtain⟨which,rfl,v1⟩:=WfT.int (t:=5) Tryz.underlying5 g1
  have rwhich:=LO v1
  obtain⟨num,rfl,v2⟩:=WfT.int (t:=5) Tryz.underlying5 g2
  have rnum:=LO v2
  obtain⟨es3,rfl,-,k3⟩:=WfT.slice (t:=22) Tryz.underlying22 g3
  obtain⟨es,rfl,res⟩:=Og k3
  exact IR (Li ns which num es rns rwhich rnum res)
theorem moveOnce_holds:Rows.MoveOnceSaid :=
 OpenClaim.holds_of_wide 4 Tryz.f4 rfl rfl rfl rfl rfl rfl rfl ⟨rfl,rfl,rfl,rfl,rfl⟩ rfl rfl rfl rfl rfl (by kernel_rfl) Tryz.func4 (by kernel_rfl)
  (of_decide_eq_true (by kernel_rfl)) (by unfold Func.isWrapper;first|(rw[if_pos (by decide +kernel)];kernel_rfl)|(rw[if_neg (by decide +kernel)];exact⟨rfl,rfl⟩))
  (fun os started H enc _=>moveOnce_lifted os started H enc)
#print axioms moveOnce_holds
end Go.Proofs.YtlbdhlbbkibgpaaGreat
