/- FeedAll returns true whatever its input is, and its input reads as it did. -/
import Derived.Test.YtlkhfdccapkcdaaPj6
namespace Go.Proofs.Ytlkhfdccapkcdaa
open Go Go.RowKit
open Go.ChangeShapes Go.WideShapes Go.ChangeAt Go.RowKit
set_option linter.unusedVariables false
set_option linter.unusedSimpArgs false
theorem okI_rng {it : Item} (h : rngItem it) : okI it := by
  obtain ⟨-, ⟨h1, -⟩, h2, -⟩ := h
  exact ⟨by omega, by omega⟩
set_option maxRecDepth 100000 in
theorem feedAll_lifted (os : Os) (started : os.Started) (H : Type) (enc : TypeId × Value → H) :
    ReturnsInHanded {} Try.checked os 9 .any (Rows.feedAllSpec.pre6 enc Try.prog Try.f9 Rows.feedAllRow.domain false) (Rows.feedAllSpec.post enc Try.prog Try.f9 false true false false) := by
  refine returnsInHanded_of_change_sized (C := Try.checked) Try.own started (by kernel_rfl) Try.func9
    (ChangeSpec.witness6 (enc := enc) (C := Try.checked) false ⟨#[], #[.agg #[.int .i64 0, .int .i64 0, .int .i64 0, .slice none 0 0, .int .i64 0, .int .i64 0, .int .i64 0], .slice none 0 0, .slice none 0 0, .agg #[.int .i64 0, .int .i64 0], .int .i64 0, .agg #[.int .i64 0, .int .i64 0, .int .i64 0, .int .i64 0, .slice none 0 0, .slice none 0 0, .int .i64 0, .int .i64 0, .int .i64 0, .int .i64 0, .int .i64 0, .int .i64 0, .int .i64 0, .int .i64 0, .slice none 0 0]], []⟩ 8 (by kernel_rfl) (by kernel_rfl) (by kernel_rfl) (by kernel_rfl)) ?_
  intro W base args ds gs before hval hW hcnd hw _
  refine law_calls (fn := Try.f9) (s := Rows.feedAllSpec) (tb := 4) (m := 9) Try.laidOut (by kernel_rfl) rfl Try.underlying4 rfl ?_ ?_ W base args ds gs before hval hW hw
  · intro ds hds
    match ds, hds with
    | [d0, d1, d2, d3, d4, d5], _ => rfl
  · intro tss h0
    obtain ⟨p0, q0, rfl, g0, h1⟩ := All2.cons_r h0
    obtain ⟨p1, q1, rfl, g1, h2⟩ := All2.cons_r h1
    obtain ⟨p2, q2, rfl, g2, h3⟩ := All2.cons_r h2
    obtain ⟨p3, q3, rfl, g3, h4⟩ := All2.cons_r h3
    obtain ⟨p4, q4, rfl, g4, h5⟩ := All2.cons_r h4
    obtain ⟨p5, q5, rfl, g5, h6⟩ := All2.cons_r h5
    obtain rfl := All2.nil_r h6
    obtain ⟨f, z0, rf⟩ := wf_Feed _ _ g0
    have z0 := (List.cons.inj z0).1
    subst z0
    obtain ⟨es1, rfl, -, k1⟩ := WfT.slice (t := 56) Try.underlying56 g1
    obtain ⟨db, rfl, rdb⟩ := wf_Pairs k1
    obtain ⟨es2, rfl, -, k2⟩ := WfT.slice (t := 24) Try.underlying24 g2
    obtain ⟨l, rfl, rl⟩ := wf_Effects k2
    obtain ⟨rid, z3, rrid⟩ := wf_Rid _ _ g3
    have z3 := (List.cons.inj z3).1
    subst z3
    obtain ⟨off, rfl, v4⟩ := WfT.int (t := 3) Try.underlying3 g4
    have roff := wf_rngI v4
    obtain ⟨m, z5, rm⟩ := wf_Msg _ _ g5
    have z5 := (List.cons.inj z5).1
    subst z5
    exact s_l15_FeedAll (FeedAll_ok f db l rid off m (fun e he => okI_rng (rf.2.2.1.2 e he)))
theorem feedAll_holds : Rows.FeedAllSaid :=
  OpenClaim.holds_of_wide 9 Try.f9 rfl rfl rfl rfl rfl rfl rfl ⟨rfl, rfl, rfl, rfl, rfl⟩ rfl rfl rfl rfl rfl (by kernel_rfl) Try.func9 (by kernel_rfl)
    (of_decide_eq_true (by kernel_rfl)) (by unfold Func.isWrapper; first | (rw [if_pos (by decide +kernel)]; kernel_rfl) | (rw [if_neg (by decide +kernel)]; exact ⟨rfl, rfl⟩))
    (fun os started H enc _ => feedAll_lifted os started H enc)
#print axioms feedAll_holds
end Go.Proofs.Ytlkhfdccapkcdaa

