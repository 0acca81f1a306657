/- SpaceMade returns true whatever its input is, and its input reads as it did. -/
import Derived.Test.YtlkhfdccapkcdaaPm5
namespace Go.Proofs.Ytlkhfdccapkcdaa
open Go Go.RowKit
open Go.ChangeShapes Go.WideShapes Go.ChangeAt Go.RowKit
set_option linter.unusedVariables false
set_option linter.unusedSimpArgs false
set_option maxRecDepth 100000 in
theorem spaceMade_lifted (os : Os) (started : os.Started) (H : Type) (enc : TypeId × Value → H) :
    ReturnsInHanded {} Try.checked os 13 .any (Rows.spaceMadeSpec.pre6 enc Try.prog Try.f13 Rows.spaceMadeRow.domain false) (Rows.spaceMadeSpec.post enc Try.prog Try.f13 false true false false) := by
  refine returnsInHanded_of_change_sized (C := Try.checked) Try.own started (by kernel_rfl) Try.func13
    (ChangeSpec.witness6 (enc := enc) (C := Try.checked) false ⟨#[], #[.slice none 0 0, .slice none 0 0, .int .u8 0, .int .u8 0], []⟩ 8 (by kernel_rfl) (by kernel_rfl) (by kernel_rfl) (by kernel_rfl)) ?_
  intro W base args ds gs before hval hW hcnd hw _
  refine law_calls (fn := Try.f13) (s := Rows.spaceMadeSpec) (tb := 4) (m := 9) Try.laidOut (by kernel_rfl) rfl Try.underlying4 rfl ?_ ?_ W base args ds gs before hval hW hw
  · intro ds hds
    match ds, hds with
    | [d0, d1, d2, d3], _ => rfl
  · intro tss h0
    obtain ⟨p0, q0, rfl, g0, h1⟩ := All2.cons_r h0
    obtain ⟨p1, q1, rfl, g1, h2⟩ := All2.cons_r h1
    obtain ⟨p2, q2, rfl, g2, h3⟩ := All2.cons_r h2
    obtain ⟨p3, q3, rfl, g3, h4⟩ := All2.cons_r h3
    obtain rfl := All2.nil_r h4
    obtain ⟨es0, rfl, -, k0⟩ := WfT.slice (t := 22) Try.underlying22 g0
    obtain ⟨ns, rfl, rns⟩ := wf_Us k0
    obtain ⟨es1, rfl, -, k1⟩ := WfT.slice (t := 22) Try.underlying22 g1
    obtain ⟨es, rfl, res⟩ := wf_Us k1
    obtain ⟨which, rfl, v2⟩ := WfT.int (t := 5) Try.underlying5 g2
    have rwhich := wf_rngU v2
    obtain ⟨now, rfl, v3⟩ := WfT.int (t := 5) Try.underlying5 g3
    have rnow := wf_rngU v3
    exact s_l11_SpaceMade (SpaceMade_ok ns es which now rns res rwhich rnow)
theorem spaceMade_holds : Rows.SpaceMadeSaid :=
  OpenClaim.holds_of_wide 13 Try.f13 rfl rfl rfl rfl rfl rfl rfl ⟨rfl, rfl, rfl, rfl, rfl⟩ rfl rfl rfl rfl rfl (by kernel_rfl) Try.func13 (by kernel_rfl)
    (of_decide_eq_true (by kernel_rfl)) (by unfold Func.isWrapper; first | (rw [if_pos (by decide +kernel)]; kernel_rfl) | (rw [if_neg (by decide +kernel)]; exact ⟨rfl, rfl⟩))
    (fun os started H enc _ => spaceMade_lifted os started H enc)
#print axioms spaceMade_holds
end Go.Proofs.Ytlkhfdccapkcdaa

