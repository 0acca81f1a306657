/- VoteWins returns true whatever its input is, and its input reads as it did. -/
import Derived.Test.YtaibolmbafacpaaPg7
namespace Go.Proofs.Ytaibolmbafacpaa
open Go Go.RowKit
open Go.ChangeShapes Go.WideShapes Go.ChangeAt Go.RowKit
set_option linter.unusedVariables false
set_option linter.unusedSimpArgs false
set_option maxRecDepth 100000 in
theorem wf_B (n : Nat) (e : List T) (h : WfT Try.prog (n + 1) 4 e) : ∃ x : Bool, encB [x] = [e] ∧ True := by
  obtain ⟨f, rfl⟩ := WfT.bool (t := 4) Try.underlying4 h
  exact ⟨f, rfl, trivial⟩
set_option maxRecDepth 100000 in
theorem wf_Bs {n : Nat} {es : List (List T)} (h : ∀ x ∈ es, WfT Try.prog (n + 1) 4 x) : ∃ l : List Bool, es = encB l ∧ ∀ x ∈ l, True :=
  wf_list (enc := encB) (R := fun e => WfT Try.prog (n + 1) 4 e) (rng := fun _ => True) rfl (fun _ _ => rfl) (@wf_B n) es h
set_option maxRecDepth 100000 in
theorem voteWins_lifted (os : Os) (started : os.Started) (H : Type) (enc : TypeId × Value → H) :
    ReturnsInHanded {} Try.checked os 5 .any (Rows.voteWinsSpec.pre6 enc Try.prog Try.f5 Rows.voteWinsRow.domain false) (Rows.voteWinsSpec.post enc Try.prog Try.f5 false true false false) := by
  refine returnsInHanded_of_change_sized (C := Try.checked) Try.own started (by kernel_rfl) Try.func5
    (ChangeSpec.witness6 (enc := enc) (C := Try.checked) false ⟨#[], #[.slice none 0 0, .slice none 0 0], []⟩ 8 (by kernel_rfl) (by kernel_rfl) (by kernel_rfl) (by kernel_rfl)) ?_
  intro W base args ds gs before hval hW hcnd hw _
  refine law_calls (fn := Try.f5) (s := Rows.voteWinsSpec) (tb := 4) (m := 9) Try.laidOut (by kernel_rfl) rfl Try.underlying4 rfl ?_ ?_ W base args ds gs before hval hW hw
  · intro ds hds
    match ds, hds with
    | [d0, d1], _ => rfl
  · intro tss h0
    obtain ⟨p0, q0, rfl, g0, h1⟩ := All2.cons_r h0
    obtain ⟨p1, q1, rfl, g1, h2⟩ := All2.cons_r h1
    obtain rfl := All2.nil_r h2
    obtain ⟨es0, rfl, -, k0⟩ := WfT.slice (t := 22) Try.underlying22 g0
    obtain ⟨votes, rfl, rvotes⟩ := wf_Us k0
    obtain ⟨es1, rfl, -, k1⟩ := WfT.slice (t := 52) Try.underlying52 g1
    obtain ⟨epochs, rfl, repochs⟩ := wf_Bs k1
    exact s_l18_VoteWins (VoteWins_ok votes epochs rvotes)
theorem voteWins_holds : Rows.VoteWinsSaid :=
  OpenClaim.holds_of_wide 5 Try.f5 rfl rfl rfl rfl rfl rfl rfl ⟨rfl, rfl, rfl, rfl, rfl⟩ rfl rfl rfl rfl rfl (by kernel_rfl) Try.func5 (by kernel_rfl)
    (of_decide_eq_true (by kernel_rfl)) (by unfold Func.isWrapper; first | (rw [if_pos (by decide +kernel)]; kernel_rfl) | (rw [if_neg (by decide +kernel)]; exact ⟨rfl, rfl⟩))
    (fun os started H enc _ => voteWins_lifted os started H enc)
#print axioms voteWins_holds
end Go.Proofs.Ytaibolmbafacpaa

