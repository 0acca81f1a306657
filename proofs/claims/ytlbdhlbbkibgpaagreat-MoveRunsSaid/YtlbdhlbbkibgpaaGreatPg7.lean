/- MoveRuns returns true whatever its input is. -/
import Derived.Test.YtlbdhlbbkibgpaaGreatPg6
set_option linter.unusedVariables false
set_option linter.unusedSimpArgs false
set_option linter.constructorNameAsVariable false
set_option maxRecDepth 8000
set_option maxHeartbeats 8000000
namespace Go.Proofs.YtlbdhlbbkibgpaaGreat
open Go Go.RowKit
open Go.ChangeShapes Go.WideShapes Go.ChangeAt Go.RowKit
set_option maxRecDepth 100000 in
theorem moveRuns_lifted (os:Os) (started:os.Started) (H:Type) (enc:TypeId×Value→H) :
  ReturnsInHanded {} Tryz.checked os 5 .any (Rows.moveRunsSpec.pre6 enc Tryz.prog Tryz.f5 Rows.moveRunsRow.domain false) (Rows.moveRunsSpec.post enc Tryz.prog Tryz.f5 false true false false):=by
 refine returnsInHanded_of_change_sized (C:=Tryz.checked) Tryz.own started (by kernel_rfl) Tryz.func5
  (ChangeSpec.witness6 (enc:=enc) (C:=Tryz.checked) false ⟨#[],#[.slice none 0 0,.slice none 0 0,.slice none 0 0],[]⟩ 8 (by kernel_rfl) (by kernel_rfl) (by kernel_rfl) (by kernel_rfl)) ?_
 intro W base args ds gs before hval hW hcnd hw _;refine Pt (fn:=Tryz.f5) (s:=Rows.moveRunsSpec) (tb:=4) (m:=9) Tryz.laidOut (by kernel_rfl) rfl Tryz.underlying4 rfl ?_ ?_ W base args ds gs before hval hW hw
 ·intro ds hds;match ds,hds with
  |[d0,d1,d2],_=>rfl
 ·intro tss h0;obtain⟨p0,q0,rfl,g0,h1⟩:=All2.cons_r h0;obtain⟨p1,q1,rfl,g1,h2⟩:=All2.cons_r h1;obtain⟨p2,q2,rfl,g2,h3⟩:=All2.cons_r h2;obtain rfl:=All2.nil_r h3;obtain⟨es0,rfl,-,k0⟩:=WfT.slice (t:=22) Tryz.underlying22 g0;obtain⟨ns,rfl,rns⟩:=Pl k0;obtain⟨es1,rfl,-,k1⟩:=WfT.slice (t:=22) Tryz.underlying22 g1;obtain⟨slots,rfl,rslots⟩:=Pl k1;obtain⟨es2,rfl,-,k2⟩:=WfT.slice (t:=22) Tryz.underlying22 g2;obtain⟨acts,rfl,racts⟩:=Pl k2;exact KV (NP ns slots acts rns rslots racts)
theorem moveRuns_holds:Rows.MoveRunsSaid :=
 OpenClaim.holds_of_wide 5 Tryz.f5 rfl rfl rfl rfl rfl rfl rfl ⟨rfl,rfl,rfl,rfl,rfl⟩ rfl rfl rfl rfl rfl (by kernel_rfl) Tryz.func5 (by kernel_rfl)
  (of_decide_eq_true (by kernel_rfl)) (by unfold Func.isWrapper;first|(rw[if_pos (by decide +kernel)];kernel_rfl)|(rw[if_neg (by decide +kernel)];exact⟨rfl,rfl⟩))
  (fun os started H enc _=>moveRuns_lifted os started H enc)
#print axioms moveRuns_holds
end Go.Proofs.YtlbdhlbbkibgpaaGreat
