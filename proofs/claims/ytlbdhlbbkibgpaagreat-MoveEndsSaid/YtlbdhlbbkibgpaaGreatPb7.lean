/- MoveEnds returns true whatever its input is. -/
import Derived.Test.YtlbdhlbbkibgpaaGreatPb6
set_option linter.unusedVariables false
set_option linter.unusedSimpArgs false
set_option linter.constructorNameAsVariable false
set_option maxRecDepth 8000
set_option maxHeartbeats 8000000
namespace Go.Proofs.YtlbdhlbbkibgpaaGreat
open Go Go.RowKit
open Go.ChangeShapes Go.WideShapes Go.ChangeAt Go.RowKit
set_option maxRecDepth 100000 in
theorem moveEnds_lifted (os:Os) (started:os.Started) (H:Type) (enc:TypeId×Value→H) :
  ReturnsInHanded {} Tryz.checked os 6 .any (Rows.moveEndsSpec.pre6 enc Tryz.prog Tryz.f6 Rows.moveEndsRow.domain false) (Rows.moveEndsSpec.post enc Tryz.prog Tryz.f6 false true false false):=by
 refine returnsInHanded_of_change_sized (C:=Tryz.checked) Tryz.own started (by kernel_rfl) Tryz.func6
  (ChangeSpec.witness6 (enc:=enc) (C:=Tryz.checked) false ⟨#[],#[.slice none 0 0,.int .u8 0],[]⟩ 8 (by kernel_rfl) (by kernel_rfl) (by kernel_rfl) (by kernel_rfl)) ?_
 intro W base args ds gs before hval hW hcnd hw _
 refine MQ (fn:=Tryz.f6) (s:=Rows.moveEndsSpec) (tb:=4) (m:=9) Tryz.laidOut (by kernel_rfl) rfl Tryz.underlying4 rfl ?_ ?_ W base args ds gs before hval hW hw
 ·intro ds hds
  match ds,hds with
  |[d0,d1],_=>rfl
 ·intro tss h0
  obtain⟨p0,q0,rfl,g0,h1⟩:=All2.cons_r h0
  obtain⟨p1,q1,rfl,g1,h2⟩:=All2.cons_r h1
  obtain rfl:=All2.nil_r h2
  obtain⟨es0,rfl,-,k0⟩:=WfT.slice (t:=22) Tryz.underlying22 g0
  obtain⟨ns,rfl,rns⟩:=wf_Us k0
  obtain⟨which,rfl,v1⟩:=WfT.int (t:=5) Tryz.underlying5 g1
  have rwhich:=Pm v1
  exact IU (Lt ns which rns rwhich)
theorem moveEnds_holds:Rows.MoveEndsSaid :=
 OpenClaim.holds_of_wide 6 Tryz.f6 rfl rfl rfl rfl rfl rfl rfl ⟨rfl,rfl,rfl,rfl,rfl⟩ rfl rfl rfl rfl rfl (by kernel_rfl) Tryz.func6 (by kernel_rfl)
  (of_decide_eq_true (by kernel_rfl)) (by unfold Func.isWrapper;first|(rw[if_pos (by decide +kernel)];kernel_rfl)|(rw[if_neg (by decide +kernel)];exact⟨rfl,rfl⟩))
  (fun os started H enc _=>moveEnds_lifted os started H enc)
#print axioms moveEnds_holds
end Go.Proofs.YtlbdhlbbkibgpaaGreat
