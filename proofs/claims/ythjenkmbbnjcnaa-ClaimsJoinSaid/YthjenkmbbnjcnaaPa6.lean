/- ClaimsJoin returns true whatever its input is, and its input reads as it did. -/
import Derived.Test.YthjenkmbbnjcnaaPa5
namespace Go.Proofs.Ythjenkmbbnjcnaa
open Go Go.RowKit
open Go.ChangeShapes Go.WideShapes Go.ChangeAt Go.RowKit
set_option linter.unusedVariables false
set_option linter.unusedSimpArgs false
set_option maxRecDepth 100000 in
theorem claimsJoin_lifted (os : Os) (started : os.Started) (H : Type) (enc : TypeId × Value → H) :
    ReturnsInHanded {} Try.checked os 3 .any (Rows.claimsJoinSpec.pre6 enc Try.prog Try.f3 Rows.claimsJoinRow.domain false) (Rows.claimsJoinSpec.post enc Try.prog Try.f3 false true false false) := by
  refine returnsInHanded_of_change_sized (C := Try.checked) Try.own started (by kernel_rfl) Try.func3
    (ChangeSpec.witness6 (enc := enc) (C := Try.checked) false ⟨#[], #[.slice none 0 0, .slice none 0 0, .slice none 0 0], []⟩ 8 (by kernel_rfl) (by kernel_rfl) (by kernel_rfl) (by kernel_rfl)) ?_
  intro W base args ds gs before hval hW hcnd hw _
  refine law_calls (fn := Try.f3) (s := Rows.claimsJoinSpec) (tb := 4) (m := 9) Try.laidOut (by kernel_rfl) rfl Try.underlying4 rfl ?_ ?_ W base args ds gs before hval hW hw
  · intro ds hds
    match ds, hds with
    | [d0, d1, d2], _ => rfl
  · intro tss h0
    obtain ⟨p0, q0, rfl, g0, h1⟩ := All2.cons_r h0
    obtain ⟨p1, q1, rfl, g1, h2⟩ := All2.cons_r h1
    obtain ⟨p2, q2, rfl, g2, h3⟩ := All2.cons_r h2
    obtain rfl := All2.nil_r h3
    obtain ⟨es0, rfl, -, k0⟩ := WfT.slice (t := 22) Try.underlying22 g0
    obtain ⟨xs, rfl, rxs⟩ := wf_Hs k0
    obtain ⟨es1, rfl, -, k1⟩ := WfT.slice (t := 22) Try.underlying22 g1
    obtain ⟨bs, rfl, rbs⟩ := wf_Hs k1
    obtain ⟨es2, rfl, -, k2⟩ := WfT.slice (t := 22) Try.underlying22 g2
    obtain ⟨cs, rfl, rcs⟩ := wf_Hs k2
    exact s_l13_ClaimsJoin (ClaimsJoin_ok xs bs cs rxs rbs rcs)
theorem claimsJoin_holds : Rows.ClaimsJoinSaid :=
  OpenClaim.holds_of_wide 3 Try.f3 rfl rfl rfl rfl rfl rfl rfl ⟨rfl, rfl, rfl, rfl, rfl⟩ rfl rfl rfl rfl rfl (by kernel_rfl) Try.func3 (by kernel_rfl)
    (of_decide_eq_true (by kernel_rfl)) (by unfold Func.isWrapper; first | (rw [if_pos (by decide +kernel)]; kernel_rfl) | (rw [if_neg (by decide +kernel)]; exact ⟨rfl, rfl⟩))
    (fun os started H enc _ => claimsJoin_lifted os started H enc)
#print axioms claimsJoin_holds
end Go.Proofs.Ythjenkmbbnjcnaa

