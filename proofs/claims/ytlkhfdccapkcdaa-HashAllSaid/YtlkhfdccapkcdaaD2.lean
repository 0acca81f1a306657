/- The order of texts. No program in sight. -/
import Derived.Test.YtlkhfdccapkcdaaD1
namespace Go.Proofs.Ytlkhfdccapkcdaa
open Go Go.RowKit
set_option linter.unusedVariables false
set_option linter.unusedSimpArgs false
theorem bl_irrefl : ∀ x : List UInt8, Op.bytesLess x x = false
  | [] => rfl
  | a :: x => by simp [Op.bytesLess, bl_irrefl x]
theorem cmp_lt : ∀ x y : List UInt8, (Lib.compareBytes x y < 0 ↔ Op.bytesLess x y = true) ∧ (Lib.compareBytes x y = 0 ↔ x = y)
  | [], [] => by simp [Lib.compareBytes, Op.bytesLess]
  | [], _ :: _ => by simp [Lib.compareBytes, Op.bytesLess]
  | _ :: _, [] => by simp [Lib.compareBytes, Op.bytesLess]
  | a :: x, b :: y => by
    have ih := cmp_lt x y
    simp only [Lib.compareBytes, Op.bytesLess]
    by_cases h : a < b
    · have h' : a.toNat < b.toNat := h
      have : a ≠ b := by rintro rfl; exact absurd h' (by omega)
      simp [h, h', this]
    · by_cases h2 : b < a
      · have h' : b.toNat < a.toNat := h2
        have h3 : ¬ a.toNat < b.toNat := by omega
        have : a ≠ b := by rintro rfl; exact absurd h' (by omega)
        simp [h, h2, h', h3, this]
      · have h3 : ¬ a.toNat < b.toNat := h
        have h4 : ¬ b.toNat < a.toNat := h2
        have : a = b := UInt8.toNat_inj.1 (by omega)
        subst this
        simp [h3, ih.1, ih.2]
theorem bl_trans : ∀ x y z : List UInt8, Op.bytesLess x y = true → Op.bytesLess y z = true → Op.bytesLess x z = true
  | [], [], z, h, _ => by simp [Op.bytesLess] at h
  | [], _ :: _, [], _, h => by simp [Op.bytesLess] at h
  | [], _ :: _, _ :: _, _, _ => by simp [Op.bytesLess]
  | _ :: _, [], _, h, _ => by simp [Op.bytesLess] at h
  | _ :: _, _ :: _, [], _, h => by simp [Op.bytesLess] at h
  | a :: x, b :: y, c :: z, h, k => by
    have ih := bl_trans x y z
    simp only [Op.bytesLess, Bool.or_eq_true, Bool.and_eq_true, decide_eq_true_eq, beq_iff_eq] at h k ⊢
    rcases h with h | ⟨rfl, h⟩
    · rcases k with k | ⟨rfl, k⟩
      · exact .inl (UInt8.lt_trans h k)
      · exact .inl h
    · rcases k with k | ⟨rfl, k⟩
      · exact .inl k
      · exact .inr ⟨rfl, ih h k⟩
theorem ba_ext {a b : ByteArray} (h : a.data.toList = b.data.toList) : a = b := by
  cases a; cases b; simp at h; rw [h]
theorem cmpB_lt (a b : ByteArray) : cmpB a b < 0 ↔ slt a b = true := (cmp_lt _ _).1
theorem cmpB_eq (a b : ByteArray) : cmpB a b = 0 ↔ a = b := (cmp_lt _ _).2.trans ⟨ba_ext, fun h => by rw [h]⟩
theorem slt_irrefl (a : ByteArray) : slt a a = false := bl_irrefl _
theorem slt_trans {a b c : ByteArray} (h : slt a b = true) (k : slt b c = true) : slt a c = true := bl_trans _ _ _ h k
theorem slt_total (a b : ByteArray) : slt a b = true ∨ a = b ∨ slt b a = true := by
  have h := bytesLess_or a.data.toList b.data.toList
  cases h1 : Op.bytesLess a.data.toList b.data.toList
  · cases h2 : Op.bytesLess b.data.toList a.data.toList
    · rw [h1, h2] at h
      simp at h
      exact .inr (.inl (ba_ext (by simpa using h)))
    · exact .inr (.inr h2)
  · exact .inl h1
theorem slt_asymm {a b : ByteArray} (h : slt a b = true) : slt b a = false := by
  cases k : slt b a
  · rfl
  · have := slt_trans h k
    rw [slt_irrefl] at this
    simp at this
theorem slt_ne {a b : ByteArray} (h : slt a b = true) : a ≠ b := by
  rintro rfl
  rw [slt_irrefl] at h
  simp at h
theorem slt_or (a b : ByteArray) : slt a b = false ↔ a = b ∨ slt b a = true := by
  constructor
  · intro h
    rcases slt_total a b with k | k | k
    · rw [h] at k; simp at k
    · exact .inl k
    · exact .inr k
  · rintro (rfl | h)
    · exact slt_irrefl _
    · exact slt_asymm h
/-- By halves the first place is found where p no longer holds, if it holds up to there. -/
theorem bs_first (p : Nat → Bool) (k : Nat) : ∀ (lo hi : Nat), lo ≤ k → k ≤ hi → (∀ i, lo ≤ i → i < hi → p i = decide (i < k)) → bs p lo hi = k := by
  intro lo hi
  fun_induction bs p lo hi with
  | case1 lo hi h1 hp ih =>
    intro g1 g2 g3
    have g4 := g3 ((lo + hi) / 2) (by omega) (by omega)
    rw [hp] at g4
    have g5 : (lo + hi) / 2 < k := by simpa using g4.symm
    exact ih (by omega) g2 fun i g6 g7 => g3 i (by omega) g7
  | case2 lo hi h1 hp ih =>
    intro g1 g2 g3
    have g4 := g3 ((lo + hi) / 2) (by omega) (by omega)
    have g5 : ¬ (lo + hi) / 2 < k := by
      intro h
      rw [decide_eq_true h] at g4
      exact hp g4
    exact ih g1 (by omega) fun i g6 g7 => g3 i g6 (by omega)
  | case3 lo hi h1 =>
    intro g1 g2 _
    omega
theorem find_hit {α : Type} {p : α → Bool} {l : List α} {i : Nat} {x : α} (h : (l.take i).find? p = none) (hx : l[i]? = some x) (hp : p x = true) : l.find? p = some x := by
  have e : l = l.take i ++ (x :: l.drop (i + 1)) := by
    have hi := (List.getElem?_eq_some_iff.1 hx).1
    have h2 := List.drop_eq_getElem_cons hi
    rw [(List.getElem?_eq_some_iff.1 hx).2] at h2
    rw [← h2, List.take_append_drop]
  rw [e, List.find?_append, h]
  simp [hp]
theorem find_miss {α : Type} {p : α → Bool} {l : List α} {i : Nat} {x : α} (h : (l.take i).find? p = none) (hx : l[i]? = some x) (hp : p x = false) : (l.take (i + 1)).find? p = none := by
  rw [List.take_add_one, hx, List.find?_append, h]
  simp [hp]
theorem filter_yes {α : Type} {p : α → Bool} {l : List α} {i : Nat} {x : α} (hx : l[i]? = some x) (hp : p x = true) : (l.take (i + 1)).filter p = (l.take i).filter p ++ [x] := by
  rw [List.take_add_one, hx]
  simp [hp]
theorem filter_no {α : Type} {p : α → Bool} {l : List α} {i : Nat} {x : α} (hx : l[i]? = some x) (hp : p x = false) : (l.take (i + 1)).filter p = (l.take i).filter p := by
  rw [List.take_add_one, hx]
  simp [hp]
theorem foldl_take {α β : Type} (f : β → α → β) (b : β) {l : List α} {i : Nat} {x : α} (hx : l[i]? = some x) : (l.take (i + 1)).foldl f b = f ((l.take i).foldl f b) x := by
  rw [List.take_add_one, hx]
  simp
theorem filter_take_le {α : Type} {p : α → Bool} (l : List α) (i : Nat) : ((l.take i).filter p).length ≤ i := by
  have := List.length_filter_le p (l.take i)
  simp at this
  omega
theorem take_snoc {α : Type} {l : List α} {i : Nat} {x : α} (h : l[i]? = some x) : l.take i ++ [x] = l.take (i + 1) := by
  rw [List.take_add_one, h]
  simp
end Go.Proofs.Ytlkhfdccapkcdaa
