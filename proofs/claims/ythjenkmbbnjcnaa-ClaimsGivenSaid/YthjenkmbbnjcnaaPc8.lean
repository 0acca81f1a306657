/- ClaimsGiven returns true whatever its input is, and its input reads as it did. -/
import Derived.Test.YthjenkmbbnjcnaaPc7
namespace Go.Proofs.Ythjenkmbbnjcnaa
open Go Go.RowKit
open Go.ChangeShapes Go.WideShapes Go.ChangeAt Go.RowKit
set_option linter.unusedVariables false
set_option linter.unusedSimpArgs false
set_option maxRecDepth 100000 in
theorem claimsGiven_lifted (os : Os) (started : os.Started) (H : Type) (enc : TypeId × Value → H) :
    ReturnsInHanded {} Try.checked os 5 .any (Rows.claimsGivenSpec.pre6 enc Try.prog Try.f5 Rows.claimsGivenRow.domain false) (Rows.claimsGivenSpec.post enc Try.prog Try.f5 false true false false) := by
  refine returnsInHanded_of_change_sized (C := Try.checked) Try.own started (by kernel_rfl) Try.func5
    (ChangeSpec.witness6 (enc := enc) (C := Try.checked) false ⟨#[], #[.slice none 0 0, .slice none 0 0, .int .u8 0, .int .u16 0], []⟩ 8 (by kernel_rfl) (by kernel_rfl) (by kernel_rfl) (by kernel_rfl)) ?_
  intro W base args ds gs before hval hW hcnd hw _
  refine law_calls (fn := Try.f5) (s := Rows.claimsGivenSpec) (tb := 4) (m := 9) Try.laidOut (by kernel_rfl) rfl Try.underlying4 rfl ?_ ?_ W base args ds gs before hval hW hw
  · intro ds hds
    match ds, hds with
    | [d0, d1, d2, d3], _ => rfl
  · intro tss h0
    obtain ⟨p0, q0, rfl, g0, h1⟩ := All2.cons_r h0
    obtain ⟨p1, q1, rfl, g1, h2⟩ := All2.cons_r h1
    obtain ⟨p2, q2, rfl, g2, h3⟩ := All2.cons_r h2
    obtain ⟨p3, q3, rfl, g3, h4⟩ := All2.cons_r h3
    obtain rfl := All2.nil_r h4
    obtain ⟨es0, rfl, -, k0⟩ := WfT.slice (t := 22) Try.underlying22 g0
    obtain ⟨xs, rfl, rxs⟩ := wf_Hs k0
    obtain ⟨es1, rfl, -, k1⟩ := WfT.slice (t := 22) Try.underlying22 g1
    obtain ⟨ys, rfl, rys⟩ := wf_Hs k1
    obtain ⟨a, rfl, v2⟩ := WfT.int (t := 5) Try.underlying5 g2
    have ra := wf_rngU v2
    obtain ⟨b, rfl, v3⟩ := WfT.int (t := 33) Try.underlying33 g3
    have rb := wf_rngH v3
    exact s_l13_ClaimsGiven (ClaimsGiven_ok xs ys a b rxs rys ra rb)
theorem claimsGiven_holds : Rows.ClaimsGivenSaid :=
  OpenClaim.holds_of_wide 5 Try.f5 rfl rfl rfl rfl rfl rfl rfl ⟨rfl, rfl, rfl, rfl, rfl⟩ rfl rfl rfl rfl rfl (by kernel_rfl) Try.func5 (by kernel_rfl)
    (of_decide_eq_true (by kernel_rfl)) (by unfold Func.isWrapper; first | (rw [if_pos (by decide +kernel)]; kernel_rfl) | (rw [if_neg (by decide +kernel)]; exact ⟨rfl, rfl⟩))
    (fun os started H enc _ => claimsGiven_lifted os started H enc)
#print axioms claimsGiven_holds
end Go.Proofs.Ythjenkmbbnjcnaa

