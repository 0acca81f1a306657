/- SpaceAll returns true whatever its input is, and its input reads as it did. -/
import Derived.Test.YtlkhfdccapkcdaaPo6
namespace Go.Proofs.Ytlkhfdccapkcdaa
open Go Go.RowKit
open Go.ChangeShapes Go.WideShapes Go.ChangeAt Go.RowKit
set_option linter.unusedVariables false
set_option linter.unusedSimpArgs false
set_option maxRecDepth 100000 in
theorem spaceAll_lifted (os : Os) (started : os.Started) (H : Type) (enc : TypeId × Value → H) :
    ReturnsInHanded {} Try.checked os 14 .any (Rows.spaceAllSpec.pre6 enc Try.prog Try.f14 Rows.spaceAllRow.domain false) (Rows.spaceAllSpec.post enc Try.prog Try.f14 false true false false) := by
  refine returnsInHanded_of_change_sized (C := Try.checked) Try.own started (by kernel_rfl) Try.func14
    (ChangeSpec.witness6 (enc := enc) (C := Try.checked) false ⟨#[], #[.slice none 0 0, .slice none 0 0, .slice none 0 0, .string ⟨#[]⟩, .int .i64 0, .int .i64 0], []⟩ 8 (by kernel_rfl) (by kernel_rfl) (by kernel_rfl) (by kernel_rfl)) ?_
  intro W base args ds gs before hval hW hcnd hw _
  refine law_calls (fn := Try.f14) (s := Rows.spaceAllSpec) (tb := 4) (m := 9) Try.laidOut (by kernel_rfl) rfl Try.underlying4 rfl ?_ ?_ W base args ds gs before hval hW hw
  · intro ds hds
    match ds, hds with
    | [d0, d1, d2, d3, d4, d5], _ => rfl
  · intro tss h0
    obtain ⟨p0, q0, rfl, g0, h1⟩ := All2.cons_r h0
    obtain ⟨p1, q1, rfl, g1, h2⟩ := All2.cons_r h1
    obtain ⟨p2, q2, rfl, g2, h3⟩ := All2.cons_r h2
    obtain ⟨p3, q3, rfl, g3, h4⟩ := All2.cons_r h3
    obtain ⟨p4, q4, rfl, g4, h5⟩ := All2.cons_r h4
    obtain ⟨p5, q5, rfl, g5, h6⟩ := All2.cons_r h5
    obtain rfl := All2.nil_r h6
    obtain ⟨es0, rfl, -, k0⟩ := WfT.slice (t := 56) Try.underlying56 g0
    obtain ⟨db, rfl, rdb⟩ := wf_Pairs k0
    obtain ⟨es1, rfl, -, k1⟩ := WfT.slice (t := 56) Try.underlying56 g1
    obtain ⟨other, rfl, rother⟩ := wf_Pairs k1
    obtain ⟨es2, rfl, -, k2⟩ := WfT.slice (t := 24) Try.underlying24 g2
    obtain ⟨l, rfl, rl⟩ := wf_Effects k2
    obtain ⟨key, rfl, -⟩ := WfT.str (t := 9) Try.underlying9 g3
    obtain ⟨now, rfl, v4⟩ := WfT.int (t := 3) Try.underlying3 g4
    have rnow := wf_rngI v4
    obtain ⟨slot, rfl, v5⟩ := WfT.int (t := 3) Try.underlying3 g5
    have rslot := wf_rngI v5
    exact s_l11_SpaceAll (SpaceAll_ok db other l key now slot)
theorem spaceAll_holds : Rows.SpaceAllSaid :=
  OpenClaim.holds_of_wide 14 Try.f14 rfl rfl rfl rfl rfl rfl rfl ⟨rfl, rfl, rfl, rfl, rfl⟩ rfl rfl rfl rfl rfl (by kernel_rfl) Try.func14 (by kernel_rfl)
    (of_decide_eq_true (by kernel_rfl)) (by unfold Func.isWrapper; first | (rw [if_pos (by decide +kernel)]; kernel_rfl) | (rw [if_neg (by decide +kernel)]; exact ⟨rfl, rfl⟩))
    (fun os started H enc _ => spaceAll_lifted os started H enc)
#print axioms spaceAll_holds
end Go.Proofs.Ytlkhfdccapkcdaa

