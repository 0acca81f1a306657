/- FeedComes returns true whatever its input is, and its input reads as it did. -/
import Derived.Test.YtlkhfdccapkcdaaPh5
namespace Go.Proofs.Ytlkhfdccapkcdaa
open Go Go.RowKit
open Go.ChangeShapes Go.WideShapes Go.ChangeAt Go.RowKit
set_option linter.unusedVariables false
set_option linter.unusedSimpArgs false
set_option maxRecDepth 100000 in
theorem feedComes_lifted (os : Os) (started : os.Started) (H : Type) (enc : TypeId × Value → H) :
    ReturnsInHanded {} Try.checked os 8 .any (Rows.feedComesSpec.pre6 enc Try.prog Try.f8 Rows.feedComesRow.domain false) (Rows.feedComesSpec.post enc Try.prog Try.f8 false true false false) := by
  refine returnsInHanded_of_change_sized (C := Try.checked) Try.own started (by kernel_rfl) Try.func8
    (ChangeSpec.witness6 (enc := enc) (C := Try.checked) false ⟨#[], #[.slice none 0 0, .int .u8 0, .int .u8 0, .int .u8 0, .slice none 0 0], []⟩ 8 (by kernel_rfl) (by kernel_rfl) (by kernel_rfl) (by kernel_rfl)) ?_
  intro W base args ds gs before hval hW hcnd hw _
  refine law_calls (fn := Try.f8) (s := Rows.feedComesSpec) (tb := 4) (m := 9) Try.laidOut (by kernel_rfl) rfl Try.underlying4 rfl ?_ ?_ W base args ds gs before hval hW hw
  · intro ds hds
    match ds, hds with
    | [d0, d1, d2, d3, d4], _ => rfl
  · intro tss h0
    obtain ⟨p0, q0, rfl, g0, h1⟩ := All2.cons_r h0
    obtain ⟨p1, q1, rfl, g1, h2⟩ := All2.cons_r h1
    obtain ⟨p2, q2, rfl, g2, h3⟩ := All2.cons_r h2
    obtain ⟨p3, q3, rfl, g3, h4⟩ := All2.cons_r h3
    obtain ⟨p4, q4, rfl, g4, h5⟩ := All2.cons_r h4
    obtain rfl := All2.nil_r h5
    obtain ⟨es0, rfl, -, k0⟩ := WfT.slice (t := 22) Try.underlying22 g0
    obtain ⟨es, rfl, res⟩ := wf_Us k0
    obtain ⟨rid, rfl, v1⟩ := WfT.int (t := 5) Try.underlying5 g1
    have rrid := wf_rngU v1
    obtain ⟨other, rfl, v2⟩ := WfT.int (t := 5) Try.underlying5 g2
    have rother := wf_rngU v2
    obtain ⟨off, rfl, v3⟩ := WfT.int (t := 5) Try.underlying5 g3
    have roff := wf_rngU v3
    obtain ⟨es4, rfl, -, k4⟩ := WfT.slice (t := 22) Try.underlying22 g4
    obtain ⟨late, rfl, rlate⟩ := wf_Us k4
    exact s_l15_FeedComes (FeedComes_ok es rid other off late res rrid rother roff rlate)
theorem feedComes_holds : Rows.FeedComesSaid :=
  OpenClaim.holds_of_wide 8 Try.f8 rfl rfl rfl rfl rfl rfl rfl ⟨rfl, rfl, rfl, rfl, rfl⟩ rfl rfl rfl rfl rfl (by kernel_rfl) Try.func8 (by kernel_rfl)
    (of_decide_eq_true (by kernel_rfl)) (by unfold Func.isWrapper; first | (rw [if_pos (by decide +kernel)]; kernel_rfl) | (rw [if_neg (by decide +kernel)]; exact ⟨rfl, rfl⟩))
    (fun os started H enc _ => feedComes_lifted os started H enc)
#print axioms feedComes_holds
end Go.Proofs.Ytlkhfdccapkcdaa

