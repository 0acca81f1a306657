/- Laws of rising fields. No program in sight. -/
import Derived.Test.YtlkhfdccapkcdaaG8
namespace Go.Proofs.Ytlkhfdccapkcdaa
open Go Go.RowKit
set_option linter.unusedVariables false
set_option linter.unusedSimpArgs false
theorem sorted_of_adj {α : Type} {key : α → ByteArray} : ∀ l : List α, (∀ i x y, l[i]? = some x → l[i + 1]? = some y → slt (key x) (key y) = true) → l.Pairwise (fun a b => slt (key a) (key b) = true)
  | [], _ => .nil
  | [a], _ => by simp
  | a :: b :: l, h => by
    have tl := sorted_of_adj (b :: l) fun i x y hx hy => h (i + 1) x y (by simpa using hx) (by simpa using hy)
    have hab := h 0 a b rfl rfl
    refine .cons (fun c hc => ?_) tl
    rcases List.mem_cons.1 hc with rfl | hc
    · exact hab
    · exact slt_trans hab ((List.pairwise_cons.1 tl).1 c hc)
theorem split_sorted {α : Type} {key : α → ByteArray} (name : ByteArray) : ∀ l : List α, l.Pairwise (fun a b => slt (key a) (key b) = true) → ∃ A B, l = A ++ B ∧ (∀ a ∈ A, slt (key a) name = true) ∧ (B = [] ∨ ∃ x B', B = x :: B' ∧ slt (key x) name = false ∧ ∀ b ∈ B', slt name (key b) = true)
  | [], _ => ⟨[], [], rfl, by simp, .inl rfl⟩
  | a :: l, h => by
    obtain ⟨h1, h2⟩ := List.pairwise_cons.1 h
    cases hs : slt (key a) name
    · refine ⟨[], a :: l, rfl, by simp, .inr ⟨a, l, rfl, hs, fun b hb => ?_⟩⟩
      rcases (slt_or _ _).1 hs with e | e
      · rw [← e]; exact h1 b hb
      · exact slt_trans e (h1 b hb)
    · obtain ⟨A, B, rfl, h3, h4⟩ := split_sorted name l h2
      exact ⟨a :: A, B, rfl, fun x hx => by rcases List.mem_cons.1 hx with rfl | hx; exact hs; exact h3 x hx, h4⟩
theorem seek_split {α : Type} [Inhabited α] {key : α → ByteArray} {name : ByteArray} {A B : List α} (hA : ∀ a ∈ A, slt (key a) name = true) (hB : B = [] ∨ ∃ x B', B = x :: B' ∧ slt (key x) name = false ∧ ∀ b ∈ B', slt name (key b) = true) :
    bs (fun i => decide (cmpB (key ((A ++ B).getD i default)) name < 0)) 0 (A ++ B).length = A.length := by
  refine bs_first _ _ _ _ (Nat.zero_le _) (by simp) fun i _ hi => ?_
  rw [decide_eq_decide, cmpB_lt]
  rcases Nat.lt_or_ge i A.length with h | h
  · have e : (A ++ B).getD i default = A[i] := by
      rw [List.getD_eq_getElem?_getD, List.getElem?_append_left h, List.getElem?_eq_getElem h]; rfl
    rw [e]
    exact ⟨fun _ => h, fun _ => hA _ (List.getElem_mem h)⟩
  · have hi' : i - A.length < B.length := by simp at hi; omega
    have e : (A ++ B).getD i default = B[i - A.length] := by
      rw [List.getD_eq_getElem?_getD, List.getElem?_append_right h, List.getElem?_eq_getElem hi']; rfl
    rw [e]
    have hno : slt (key B[i - A.length]) name = false := by
      rcases hB with rfl | ⟨x, B', rfl, hx, hB'⟩
      · simp at hi'
      · rcases List.mem_cons.1 (List.getElem_mem hi') with e | e
        · rw [e]; exact hx
        · exact slt_asymm (hB' _ e)
    rw [hno]
    simp
    omega
theorem rising_pw {l : List Field} (h : risingF l = true) : l.Pairwise (fun a b => slt a.name b.name = true) := by
  refine sorted_of_adj l fun i x y hx hy => ?_
  have hi := (List.getElem?_eq_some_iff.1 hy).1
  have h1 := List.all_eq_true.1 h (i + 1) (List.mem_range.2 hi)
  simp only [okF, hy, Nat.add_sub_cancel, hx] at h1
  simp at h1
  exact h1.2
theorem rising_len {l : List Field} (h : risingF l = true) : l.length ≤ 101 := by
  apply Nat.le_of_not_lt
  intro hlt
  have h1 := List.all_eq_true.1 h 101 (List.mem_range.2 hlt)
  have h2 : l[101]? = some l[101] := List.getElem?_eq_getElem hlt
  have h3 : l[101 - 1]? = some l[100] := List.getElem?_eq_getElem (by omega)
  simp only [okF, h2, h3] at h1
  simp at h1
theorem rising_split {l : List Field} (h : risingF l = true) (name : ByteArray) : ∃ A B, l = A ++ B ∧ (∀ a ∈ A, slt a.name name = true) ∧ (B = [] ∨ ∃ x B', B = x :: B' ∧ slt x.name name = false ∧ ∀ b ∈ B', slt name b.name = true) ∧ seekField l name = A.length := by
  obtain ⟨A, B, rfl, hA, hB⟩ := split_sorted name l (rising_pw h)
  exact ⟨A, B, rfl, hA, hB, seek_split hA hB⟩
theorem mid_get {α : Type} [Inhabited α] (A : List α) (x : α) (B : List α) : (A ++ x :: B).getD A.length default = x := by simp
theorem ne_of_slt' {a b : ByteArray} (h : slt a b = true) : b ≠ a := fun e => slt_ne h e.symm
theorem has_split {A B : List Field} {name : ByteArray} (hs : seekField (A ++ B) name = A.length) : hasField (A ++ B) name = (match B with | [] => false | x :: _ => decide (x.name = name)) := by
  unfold hasField
  rw [hs]
  cases B with
  | nil => simp
  | cons x B =>
    rw [mid_get, decide_eq_decide, cmpB_eq]
    simp
theorem find_split {A B : List Field} {name : ByteArray} (hA : ∀ a ∈ A, slt a.name name = true) (hB : B = [] ∨ ∃ x B', B = x :: B' ∧ slt x.name name = false ∧ ∀ b ∈ B', slt name b.name = true) :
    hgetF (A ++ B) name = (match B with | [] => none | x :: _ => if x.name = name then some x else none) := by
  unfold hgetF
  have h1 : A.find? (fun f => decide (f.name = name)) = none := List.find?_eq_none.2 fun a ha => by simpa using slt_ne (hA a ha)
  rw [List.find?_append, h1, Option.none_or]
  rcases hB with rfl | ⟨x, B', rfl, hx, hB'⟩
  · rfl
  · have h2 : B'.find? (fun f => decide (f.name = name)) = none := List.find?_eq_none.2 fun a ha => by simpa using ne_of_slt' (hB' a ha)
    rw [List.find?_cons, h2]
    by_cases e : x.name = name <;> simp [e]
theorem get_same {l : List Field} (h : risingF l = true) (name : ByteArray) : hasField l name = (hgetF l name).isSome ∧ (bif hasField l name then (l.getD (seekField l name) default).val else ⟨#[]⟩) = valOf (hgetF l name) := by
  obtain ⟨A, B, rfl, hA, hB, hs⟩ := rising_split h name
  rw [find_split hA hB, has_split hs, hs]
  cases B with
  | nil => simp [valOf]
  | cons x B =>
    rw [mid_get]
    by_cases e : x.name = name <;> simp [e, valOf]
theorem del_same {l : List Field} (h : risingF l = true) (name : ByteArray) : delF l name = hdelF l name := by
  obtain ⟨A, B, rfl, hA, hB, hs⟩ := rising_split h name
  unfold delF hdelF
  rw [has_split hs, hs]
  have h1 : A.filter (fun f => !decide (f.name = name)) = A := List.filter_eq_self.2 fun a ha => by simpa using slt_ne (hA a ha)
  rw [List.filter_append, h1]
  rcases hB with rfl | ⟨x, B', rfl, hx, hB'⟩
  · simp
  · have h2 : B'.filter (fun f => !decide (f.name = name)) = B' := List.filter_eq_self.2 fun a ha => by simpa using ne_of_slt' (hB' a ha)
    by_cases e : x.name = name
    · simp [e, delA, h2, List.drop_append]
    · simp [e, h2]
theorem fold_low {name val : ByteArray} : ∀ (A out : List Field), (∀ a ∈ A, slt a.name name = true) → A.foldl (hsetS name val) (out, false) = (out ++ A, false)
  | [], out, _ => by simp
  | a :: A, out, h => by
    have ha := h a (by simp)
    have e : hsetS name val (out, false) a = (out ++ [a], false) := by simp [hsetS, hsetS1, ha, slt_ne ha]
    rw [List.foldl_cons, e, fold_low A _ fun x hx => h x (by simp [hx])]
    simp
theorem fold_high {name val : ByteArray} : ∀ (B out : List Field), (∀ b ∈ B, slt name b.name = true) → B.foldl (hsetS name val) (out, true) = (out ++ B, true)
  | [], out, _ => by simp
  | a :: B, out, h => by
    have ha := h a (by simp)
    have e : hsetS name val (out, true) a = (out ++ [a], true) := by simp [hsetS, hsetS1, ne_of_slt' ha]
    rw [List.foldl_cons, e, fold_high B _ fun x hx => h x (by simp [hx])]
    simp
theorem set_same {l : List Field} (h : risingF l = true) (name val : ByteArray) : setF l name val = hsetF l name val := by
  obtain ⟨A, B, rfl, hA, hB, hs⟩ := rising_split h name
  unfold setF hsetF hsetA
  rw [has_split hs, hs, List.take_length, List.foldl_append, fold_low A [] hA]
  rcases hB with rfl | ⟨x, B', rfl, hx, hB'⟩
  · simp [insA]
  · rw [List.foldl_cons]
    by_cases e : x.name = name
    · have e1 : hsetS name val (A, false) x = (A ++ [⟨name, val⟩], true) := by simp [hsetS, hsetS1, hx, e, slt_irrefl]
      rw [List.nil_append, e1, fold_high B' _ hB']
      simp [e]
    · have e1 : hsetS name val (A, false) x = (A ++ [⟨name, val⟩] ++ [x], true) := by simp [hsetS, hsetS1, hx, e, slt_irrefl]
      rw [List.nil_append, e1, fold_high B' _ hB']
      simp [e, insA]
end Go.Proofs.Ytlkhfdccapkcdaa
