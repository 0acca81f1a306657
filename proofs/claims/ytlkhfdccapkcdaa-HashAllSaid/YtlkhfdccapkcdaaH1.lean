/- The row HashAll. -/
import Derived.Test.YtlkhfdccapkcdaaG9
import Derived.Test.YtlkhfdccapkcdaaW1
import Derived.Test.YtlkhfdccapkcdaaRB
import Derived.Test.YtlkhfdccapkcdaaRows
import Derived.ProofKit
namespace Go.Proofs.Ytlkhfdccapkcdaa
open Go Go.RowKit
open Go.ChangeShapes Go.WideShapes Go.ChangeAt Go.RowKit
set_option linter.unusedVariables false
set_option linter.unusedSimpArgs false
theorem Try.own : ownKnob Try.prog.godebug = none := by kernel_rfl
theorem Try.laidOut : laidOutB Try.prog = true := by kernel_rfl
set_option maxRecDepth 100000 in
theorem hashAll_lifted (os : Os) (started : os.Started) (H : Type) (enc : TypeId × Value → H) :
    ReturnsInHanded {} Try.checked os 6 .any (Rows.hashAllSpec.pre6 enc Try.prog Try.f6 Rows.hashAllRow.domain false) (Rows.hashAllSpec.post enc Try.prog Try.f6 false true false false) := by
  refine returnsInHanded_of_change_sized (C := Try.checked) Try.own started (by kernel_rfl) Try.func6
    (ChangeSpec.witness6 (enc := enc) (C := Try.checked) false ⟨#[], #[.slice none 0 0, .string ⟨#[]⟩, .string ⟨#[]⟩], []⟩ 8 (by kernel_rfl) (by kernel_rfl) (by kernel_rfl) (by kernel_rfl)) ?_
  intro W base args ds gs before hval hW hcnd hw _
  refine law_calls (fn := Try.f6) (s := Rows.hashAllSpec) (tb := 4) (m := 9) Try.laidOut (by kernel_rfl) rfl Try.underlying4 rfl ?_ ?_ W base args ds gs before hval hW hw
  · intro ds hds
    match ds, hds with
    | [d1, d2, d3], _ => rfl
  · intro tss h
    obtain ⟨p0, q1, rfl, g0, w1⟩ := All2.cons_r h
    obtain ⟨p1, q2, rfl, g1, w2⟩ := All2.cons_r w1
    obtain ⟨p2, q3, rfl, g2, w3⟩ := All2.cons_r w2
    obtain rfl := All2.nil_r w3
    obtain ⟨es0, rfl, -, k0⟩ := WfT.slice (t := 31) Try.underlying31 g0
    obtain ⟨l, rfl, -⟩ := wf_Fields k0
    obtain ⟨name, rfl, -⟩ := WfT.str (t := 9) Try.underlying9 g1
    obtain ⟨val, rfl, -⟩ := WfT.str (t := 9) Try.underlying9 g2
    exact s_HashAll l name val
theorem hashAll_holds : Rows.HashAllSaid :=
  OpenClaim.holds_of_wide 6 Try.f6 rfl rfl rfl rfl rfl rfl rfl ⟨rfl, rfl, rfl, rfl, rfl⟩ rfl rfl rfl rfl rfl (by kernel_rfl) Try.func6 (by kernel_rfl)
    (of_decide_eq_true (by kernel_rfl)) (by unfold Func.isWrapper; first | (rw [if_pos (by decide +kernel)]; kernel_rfl) | (rw [if_neg (by decide +kernel)]; exact ⟨rfl, rfl⟩))
    (fun os started H enc _ => hashAll_lifted os started H enc)
#print axioms hashAll_holds
end Go.Proofs.Ytlkhfdccapkcdaa
