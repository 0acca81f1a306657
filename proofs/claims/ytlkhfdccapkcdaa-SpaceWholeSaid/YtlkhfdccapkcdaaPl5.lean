/- Part 5 of the proof. -/
import Derived.Test.YtlkhfdccapkcdaaPl4
import Derived.Test.YtlkhfdccapkcdaaRows
import Derived.ProofKit
/- Plain laws: spaces that rise, what an effect makes of one. -/
namespace Go.Proofs.Ytlkhfdccapkcdaa
open Go Go.RowKit
set_option linter.unusedVariables false
set_option linter.unusedSimpArgs false
section
variable {α β γ σ : Type}
/-- Rounds over a list. -/
theorem bn_fold {f : α → Option (α ⊕ β)} {a0 : α} {k : β → Option γ} {r : Option γ} {δ : Type} (l : List δ) (g : σ → δ → σ) (mk : Nat → σ → α) (s0 : σ) (b : β) (hl : l.length ≤ 140737488355328) (h0 : a0 = mk 0 s0)
    (h : ∀ i (hi : i < l.length) a, a = (l.take i).foldl g s0 → f (mk i a) = some (.inl (mk (i + 1) (g a l[i])))) (he : f (mk l.length (l.foldl g s0)) = some (.inr b)) (hk : k b = r) : bn (iter big f a0) k = r := by
  refine bn_run b (fun i => mk i ((l.take i).foldl g s0)) l.length (by unfold big; omega) h0 (fun i hi => ?_) ?_ hk
  · rw [h i hi _ rfl, ← List.take_append_getElem hi, List.foldl_append]
    rfl
  · rw [List.take_length]; exact he
/-- Where a name stands among what rises. -/
theorem shapeG {key : α → ByteArray} (name : ByteArray) : ∀ l : List α, l.Pairwise (fun a b => slt (key a) (key b) = true) → ∃ A B C, l = A ++ B ++ C ∧ (∀ a ∈ A, slt (key a) name = true) ∧ (∀ c ∈ C, slt name (key c) = true) ∧ (B = [] ∨ ∃ x, B = [x] ∧ key x = name)
  | [], _ => ⟨[], [], [], rfl, by simp, by simp, .inl rfl⟩
  | a :: l, h => by
    obtain ⟨h1, h2⟩ := List.pairwise_cons.1 h
    cases hs : slt (key a) name
    · rcases (slt_or _ _).1 hs with e | e
      · exact ⟨[], [a], l, rfl, by simp, fun c hc => e ▸ h1 c hc, .inr ⟨a, rfl, e⟩⟩
      · refine ⟨[], [], a :: l, rfl, by simp, fun c hc => ?_, .inl rfl⟩
        rcases List.mem_cons.1 hc with rfl | hc
        · exact e
        · exact slt_trans e (h1 c hc)
    · obtain ⟨A, B, C, rfl, h3, h4, h5⟩ := shapeG name l h2
      exact ⟨a :: A, B, C, rfl, fun x hx => by rcases List.mem_cons.1 hx with rfl | hx; exact hs; exact h3 x hx, h4, h5⟩
theorem Rn.eq {m : Option α} {v : α} (h : Rn m (· = v)) : m = Option.some v := by
  obtain ⟨w, h1, rfl⟩ := h
  exact h1
end
def SrtP (l : List Pair) : Prop := l.Pairwise (fun a b => slt a.key b.key = true)
def newP (e : Effect) : List Pair := if e.gone then [] else [⟨e.key, e.item⟩]
def applyP (l : List Pair) (e : Effect) : List Pair := l.filter (fun p => slt p.key e.key) ++ newP e ++ l.filter (fun p => slt e.key p.key)
theorem filtP_all {α : Type} {p : α → Bool} {l : List α} (h : ∀ a ∈ l, p a = true) : l.filter p = l := List.filter_eq_self.2 h
theorem filtP_no {α : Type} {p : α → Bool} {l : List α} (h : ∀ a ∈ l, p a = false) : l.filter p = [] := List.filter_eq_nil_iff.2 fun a ha => by simp [h a ha]
theorem applyP_shape {A B C : List Pair} {e : Effect} (hA : ∀ a ∈ A, slt a.key e.key = true) (hC : ∀ c ∈ C, slt e.key c.key = true) (hB : B = [] ∨ ∃ x, B = [x] ∧ x.key = e.key) : applyP (A ++ B ++ C) e = A ++ newP e ++ C := by
  have hB1 : ∀ b ∈ B, slt b.key e.key = false := fun b hb => by
    rcases hB with rfl | ⟨x, rfl, hx⟩
    · simp at hb
    · simp at hb; subst hb; rw [hx]; exact slt_irrefl _
  have hB2 : ∀ b ∈ B, slt e.key b.key = false := fun b hb => by
    rcases hB with rfl | ⟨x, rfl, hx⟩
    · simp at hb
    · simp at hb; subst hb; rw [hx]; exact slt_irrefl _
  unfold applyP
  rw [List.filter_append, List.filter_append, List.filter_append, List.filter_append, filtP_all hA, filtP_no hB1, filtP_no (fun c hc => slt_asymm (hC c hc)), filtP_no (fun a ha => slt_asymm (hA a ha)), filtP_no hB2, filtP_all hC]
  simp
theorem applyP_srt {l : List Pair} (h : SrtP l) (e : Effect) : SrtP (applyP l e) := by
  unfold SrtP applyP newP
  have h1 : SrtP (l.filter (fun p => slt p.key e.key)) := List.Pairwise.filter _ h
  have h2 : SrtP (l.filter (fun p => slt e.key p.key)) := List.Pairwise.filter _ h
  refine List.pairwise_append.2 ⟨List.pairwise_append.2 ⟨h1, ?_, fun a ha b hb => ?_⟩, h2, fun a ha b hb => ?_⟩
  · split <;> simp
  · split at hb
    · simp at hb
    · simp at hb; subst hb; exact (List.mem_filter.1 ha).2
  · have hb2 := (List.mem_filter.1 hb).2
    rcases List.mem_append.1 ha with ha | ha
    · exact slt_trans (List.mem_filter.1 ha).2 hb2
    · split at ha
      · simp at ha
      · simp at ha; subst ha; exact hb2
theorem applyP_len (l : List Pair) (e : Effect) (h : SrtP l) : (applyP l e).length ≤ l.length + 1 := by
  obtain ⟨A, B, C, rfl, hA, hC, hB⟩ := shapeG (key := Pair.key) e.key l h
  rw [applyP_shape hA hC hB]
  have : (newP e).length ≤ 1 := by unfold newP; split <;> simp
  simp; omega
def okP (l : List Pair) : Prop := ∀ p ∈ l, okI p.item
theorem applyP_ok {l : List Pair} {e : Effect} (h : okP l) (he : okI e.item) : okP (applyP l e) := by
  intro p hp
  unfold applyP newP at hp
  rcases List.mem_append.1 hp with hp | hp
  · rcases List.mem_append.1 hp with hp | hp
    · exact h p (List.mem_filter.1 hp).1
    · split at hp
      · simp at hp
      · simp at hp; subst hp; exact he
  · exact h p (List.mem_filter.1 hp).1
/-! ### The document's -/
def stepP (e : Effect) (a : Bool × List Pair) (x : Pair) : Bool × List Pair :=
  let a1 := if a.1 = false ∧ slt x.key e.key = false then (true, a.2 ++ [⟨e.key, e.item⟩]) else a
  if x.key = e.key then a1 else (a1.1, a1.2 ++ [x])
theorem stepP_len (e : Effect) (a : Bool × List Pair) (x : Pair) : (stepP e a x).2.length ≤ a.2.length + 2 := by
  unfold stepP
  dsimp only
  split <;> split <;> simp <;> omega
theorem foldP_len (e : Effect) : ∀ (l : List Pair) (a : Bool × List Pair), (l.foldl (stepP e) a).2.length ≤ a.2.length + 2 * l.length
  | [], a => by simp
  | x :: l, a => by
    have h1 := foldP_len e l (stepP e a x)
    have h2 := stepP_len e a x
    simp only [List.foldl_cons, List.length_cons]
    omega
theorem foldP_low {e : Effect} : ∀ (A : List Pair) (d : Bool) (out : List Pair), (∀ a ∈ A, slt a.key e.key = true) → A.foldl (stepP e) (d, out) = (d, out ++ A)
  | [], d, out, _ => by simp
  | a :: A, d, out, h => by
    have h1 := h a (by simp)
    have e1 : stepP e (d, out) a = (d, out ++ [a]) := by simp [stepP, h1, slt_ne h1]
    rw [List.foldl_cons, e1, foldP_low A d (out ++ [a]) fun b hb => h b (by simp [hb])]
    simp
theorem foldP_high {e : Effect} : ∀ (A : List Pair) (out : List Pair), (∀ a ∈ A, slt e.key a.key = true) → A.foldl (stepP e) (true, out) = (true, out ++ A)
  | [], out, _ => by simp
  | a :: A, out, h => by
    have h1 := h a (by simp)
    have hne : ¬ a.key = e.key := fun h => slt_ne h1 h.symm
    have e1 : stepP e (true, out) a = (true, out ++ [a]) := by simp [stepP, hne]
    rw [List.foldl_cons, e1, foldP_high A (out ++ [a]) fun b hb => h b (by simp [hb])]
    simp
theorem foldP_all {e : Effect} {l : List Pair} (h : SrtP l) : (bif (l.foldl (stepP e) (e.gone, [])).1 then (l.foldl (stepP e) (e.gone, [])).2 else (l.foldl (stepP e) (e.gone, [])).2 ++ [⟨e.key, e.item⟩]) = applyP l e := by
  obtain ⟨A, B, C, rfl, hA, hC, hB⟩ := shapeG (key := Pair.key) e.key l h
  rw [applyP_shape hA hC hB, List.foldl_append, List.foldl_append, foldP_low A _ _ hA]
  cases hg : e.gone
  · rcases hB with rfl | ⟨x, rfl, hx⟩
    · cases C with
      | nil => simp [newP, hg]
      | cons c C =>
        have h1 := hC c (by simp)
        have hne : ¬ c.key = e.key := fun h => slt_ne h1 h.symm
        have e1 : stepP e (false, [] ++ A) c = (true, A ++ [⟨e.key, e.item⟩, c]) := by simp [stepP, slt_asymm h1, hne]
        rw [List.foldl_nil, List.foldl_cons, e1, foldP_high C _ fun b hb => hC b (by simp [hb])]
        simp [newP, hg]
    · have e1 : stepP e (false, [] ++ A) x = (true, A ++ [⟨e.key, e.item⟩]) := by simp [stepP, hx, slt_irrefl]
      rw [List.foldl_cons, List.foldl_nil, e1, foldP_high C _ hC]
      simp [newP, hg]
  · rcases hB with rfl | ⟨x, rfl, hx⟩
    · rw [List.foldl_nil, foldP_high C _ hC]
      simp [newP, hg]
    · have e1 : stepP e (true, [] ++ A) x = (true, A) := by simp [stepP, hx]
      rw [List.foldl_cons, List.foldl_nil, e1, foldP_high C _ hC]
      simp [newP, hg]
theorem r_apply_ok (l : List Pair) (e : Effect) (h : SrtP l) (hl : l.length ≤ 100000000) : r5_apply_sh big l e = some (applyP l e) := by
  unfold r5_apply_sh
  refine bn_fold l (stepP e) (fun i a => (a.1, (i : Int), a.2)) (e.gone, []) (l.foldl (stepP e) (e.gone, [])) (by omega) rfl (fun i hi a ha => ?_) ?_ ?_
  · have hlen : a.2.length ≤ 2 * i := by
      have := foldP_len e (l.take i) (e.gone, [])
      rw [← ha] at this
      simp at this
      omega
    simp only [lt_eq, bn_some, ite_t, ite_f, sm_inl, sm_inr, lenI_eq, Option.some.injEq]
    rw [ltI_t (by omega)]
    simp only [lt_eq, bn_some, ite_t, ite_f, sm_inl, sm_inr, lenI_eq, Option.some.injEq, nth_some hi]
    have e2 : (ite' (ite' (notB a.1) (some (geS l[i].key e.key)) (some false)).get! (some (true, a.2 ++ [(⟨e.key, e.item⟩ : Pair)])) (some (a.1, a.2))) = some (if a.1 = false ∧ slt l[i].key e.key = false then (true, a.2 ++ [⟨e.key, e.item⟩]) else a) := by
      cases h1 : a.1 <;> cases h2 : slt l[i].key e.key <;> simp [notB, geS, h1, h2, ite'] <;> (rw [← h1])
    rw [chk_room (by omega) (by omega)]
    have e3 : ite' (notB a.1) (some (geS l[i].key e.key)) (some false) = some (ite' (notB a.1) (some (geS l[i].key e.key)) (some false)).get! := by
      cases a.1 <;> rfl
    rw [e3]
    simp only [lt_eq, bn_some, ite_t, ite_f, sm_inl, sm_inr, lenI_eq, Option.some.injEq]
    rw [e2]
    simp only [lt_eq, bn_some, ite_t, ite_f, sm_inl, sm_inr, lenI_eq, Option.some.injEq]
    rw [addI_64 (by omega) (by omega)]
    unfold stepP
    dsimp only
    generalize hq : (if a.1 = false ∧ slt l[i].key e.key = false then (true, a.2 ++ [(⟨e.key, e.item⟩ : Pair)]) else a) = q
    have hq2 : q.2.length ≤ 2 * i + 1 := by
      rw [← hq]
      split
      · simp only [List.length_append, List.length_cons, List.length_nil]; omega
      · omega
    by_cases hk : l[i].key = e.key
    · rw [hk, neS_self]
      simp [ite_f, bn_some]
    · rw [show neS l[i].key e.key = true by simp [neS, hk], if_neg hk, ite_t, chk_room (by omega) (by omega)]
      simp only [lt_eq, bn_some, ite_t, ite_f, sm_inl, sm_inr, lenI_eq, Option.some.injEq]
      simp
  · simp only [lt_eq, bn_some, ite_t, ite_f, sm_inl, sm_inr, lenI_eq, Option.some.injEq]
    rw [ltI_f (by omega)]
    rfl
  · have hlen : (l.foldl (stepP e) (e.gone, [])).2.length ≤ 2 * l.length := by
      have := foldP_len e l (e.gone, [])
      simp at this
      omega
    have hA := foldP_all (e := e) h
    have hn := applyP_len l e h
    simp only [lt_eq, bn_some, ite_t, ite_f, sm_inl, sm_inr, lenI_eq, Option.some.injEq]
    rw [chk_room (by omega) (by omega)]
    revert hA
    cases (l.foldl (stepP e) (e.gone, [])).1 <;> intro hA <;> simp at hA <;> rw [hA] <;> simp [notB, ite', bn_some] <;> rw [chk_room (by omega) (by omega)]
end Go.Proofs.Ytlkhfdccapkcdaa

/- Plain laws: the program's space. -/
namespace Go.Proofs.Ytlkhfdccapkcdaa
open Go Go.RowKit
set_option linter.unusedVariables false
set_option linter.unusedSimpArgs false
theorem shr1 {x : Int} (h : 0 ≤ x) : shrI .u64 x 1 = some (x / 2) := by
  simp [shrI, IntKind.bits, Int.fdiv_eq_ediv_of_nonneg]
theorem cvU_64 {a : Int} (h : 0 ≤ a) (h2 : a < 18446744073709551616) : cvI .u64 a = a := by
  simp only [cvI, wrap_u64]; omega
theorem find_ok (A B C : List Pair) (k : ByteArray) (hA : ∀ a ∈ A, slt a.key k = true) (hC : ∀ c ∈ C, slt k c.key = true) (hB : B = [] ∨ ∃ x, B = [x] ∧ x.key = k) (hl : (A ++ B ++ C).length ≤ 1000000000) :
    slices_BinarySearchFunc_string_sh big (A ++ B ++ C) k = some ((A.length : Int), !B.isEmpty) := by
  have hget : ∀ i x, (A ++ B ++ C)[i]? = some x → slt x.key k = decide (i < A.length) := fun i x hx => by
    rw [List.append_assoc] at hx
    by_cases h : i < A.length
    · rw [List.getElem?_append_left h] at hx
      simp only [h, decide_true]
      exact hA _ (List.mem_of_getElem? hx)
    · rw [List.getElem?_append_right (by omega)] at hx
      simp only [h, decide_false]
      rcases List.mem_append.1 (List.mem_of_getElem? hx) with hm | hm
      · rcases hB with rfl | ⟨y, rfl, hy⟩
        · simp at hm
        · simp at hm; rw [hm, hy]; exact slt_irrefl _
      · exact slt_asymm (hC _ hm)
  have hB2 : (A ++ B ++ C)[A.length]? = (B ++ C)[0]? := by rw [List.append_assoc, List.getElem?_append_right (Nat.le_refl _), Nat.sub_self]
  have hAL : A.length ≤ (A ++ B ++ C).length := by simp
  generalize A ++ B ++ C = L at hget hB2 hl hAL ⊢
  refine Rn.eq ?_
  unfold slices_BinarySearchFunc_string_sh
  refine Rn.lt (Rn.bn (P := fun i => i = (A.length : Int)) (Rn.iter _ (fun q a => ∃ lo hi : Nat, a = ((lo : Int), (hi : Int)) ∧ lo ≤ A.length ∧ A.length ≤ hi ∧ hi ≤ L.length ∧ hi - lo < 2 ^ (48 - q)) 48 (by unfold big; omega) ⟨0, L.length, rfl, by omega, hAL, Nat.le_refl _, by omega⟩ fun q a hq hI => ?_) fun i hi => ?_)
  · obtain ⟨lo, hi, rfl, h1, h2, h3, h4⟩ := hI
    refine Rn.lt (Rn.ite (fun hg => ?_) (fun hg => Rn.some ?_))
    · have hg := ltI_d hg
      simp only at hg
      have hq2 : q < 48 := by
        apply Nat.lt_of_not_le
        intro h
        have : 48 - q = 0 := by omega
        rw [this] at h4
        omega
      have e48 : 48 - q = (48 - (q + 1)) + 1 := by omega
      rw [e48, Nat.pow_succ] at h4
      refine Rn.lt (Rn.lt ?_)
      rw [addI_64 (by simp only; omega) (by simp only; omega), cvU_64 (by simp only; omega) (by simp only; omega)]
      refine Rn.bnE (shr1 (by simp only; omega)) (Rn.lt ?_)
      rw [cvI_64 (by simp only; omega) (by simp only; omega)]
      have em : ((lo : Int) + (hi : Int)) / 2 = (((lo + hi) / 2 : Nat) : Int) := by omega
      simp only
      rw [em]
      have hm : (lo + hi) / 2 < L.length := by omega
      have hge := hget _ _ (List.getElem?_eq_getElem hm)
      refine Rn.bnE (nth_some hm) (Rn.bnE (v := cmpB L[(lo + hi) / 2].key k) rfl (Rn.lt (Rn.ite (fun hc => Rn.lt (Rn.some ⟨hq2, (lo + hi) / 2 + 1, hi, ?_, ?_⟩)) (fun hc => Rn.some ⟨hq2, lo, (lo + hi) / 2, rfl, ?_⟩))))
      · rw [addI_64 (by omega) (by omega)]
        exact congrArg (·, (hi : Int)) (by omega)
      · rw [(cmpB_lt _ _).1 (ltI_d hc)] at hge
        have := of_decide_eq_true hge.symm
        refine ⟨?_, h2, h3, ?_⟩ <;> omega
      · have hc2 : slt L[(lo + hi) / 2].key k = false := by
          cases h : slt L[(lo + hi) / 2].key k
          · rfl
          · have := (cmpB_lt _ _).2 h
            have := ltI_n hc
            omega
        rw [hc2] at hge
        have := of_decide_eq_false hge.symm
        refine ⟨h1, ?_, ?_, ?_⟩ <;> omega
    · have hg := ltI_n hg
      simp only at hg ⊢
      omega
  · subst hi
    refine Rn.bn (P := fun b => b = !B.isEmpty) ?_ fun b hb => Rn.some (by rw [hb])
    refine Rn.lt (Rn.ite (fun hg => ?_) (fun hg => Rn.some ?_))
    · have hg := ltI_d hg
      simp only [lenI] at hg
      have hm : A.length < L.length := by omega
      refine Rn.bnE (nth_some hm) (Rn.bnE (v := cmpB L[A.length].key k) rfl (Rn.lt (Rn.some ?_)))
      rw [List.getElem?_eq_getElem hm] at hB2
      rcases hB with rfl | ⟨y, rfl, hy⟩
      · have hc := hC L[A.length] (List.mem_of_getElem? (by simpa using hB2.symm))
        have hne : ¬ cmpB L[A.length].key k = 0 := fun h => slt_ne hc ((cmpB_eq _ _).1 h).symm
        simp [eqI, hne]
      · simp at hB2
        rw [hB2, hy]
        simp [eqI, (cmpB_eq k k).2 rfl]
    · have hg := ltI_n hg
      simp only [lenI] at hg
      have e : L[A.length]? = none := List.getElem?_eq_none (by omega)
      rw [e] at hB2
      rcases hB with rfl | ⟨y, rfl, hy⟩
      · rfl
      · simp at hB2
theorem find_ok2 (A B C : List Pair) (k : ByteArray) (hA : ∀ a ∈ A, slt a.key k = true) (hC : ∀ c ∈ C, slt k c.key = true) (hB : B = [] ∨ ∃ x, B = [x] ∧ x.key = k) (hl : (A ++ B ++ C).length ≤ 1000000000) :
    space_find_tf_sh big (A ++ B ++ C) k = some ((A.length : Int), !B.isEmpty) := by
  have := find_ok A B C k hA hC hB hl
  unfold space_find_tf_sh
  rw [show slices_BinarySearchFunc_string_tfk121_sh big (A ++ B ++ C) k = slices_BinarySearchFunc_string_sh big (A ++ B ++ C) k from rfl, this]
  rfl
theorem find_ok1 (A B C : List Pair) (k : ByteArray) (hA : ∀ a ∈ A, slt a.key k = true) (hC : ∀ c ∈ C, slt k c.key = true) (hB : B = [] ∨ ∃ x, B = [x] ∧ x.key = k) (hl : (A ++ B ++ C).length ≤ 1000000000) :
    space_find_sh big (A ++ B ++ C) k = some ((A.length : Int), !B.isEmpty) := by
  unfold space_find_sh
  rw [find_ok A B C k hA hC hB hl]
  rfl
theorem foldA_inv : ∀ (es : List Effect) (l : List Pair), SrtP l → okP l → (∀ e ∈ es, okI e.item) → SrtP (es.foldl applyP l) ∧ okP (es.foldl applyP l) ∧ (es.foldl applyP l).length ≤ l.length + es.length
  | [], l, h1, h2, _ => ⟨h1, h2, by simp⟩
  | e :: es, l, h1, h2, h3 => by
    obtain ⟨g1, g2, g3⟩ := foldA_inv es (applyP l e) (applyP_srt h1 e) (applyP_ok h2 (h3 e (by simp))) fun x hx => h3 x (by simp [hx])
    have := applyP_len l e h1
    exact ⟨g1, g2, by simp only [List.foldl_cons, List.length_cons]; omega⟩
theorem space_Apply_ok (l : List Pair) (es : List Effect) (h : SrtP l) (h2 : okP l) (he : ∀ e ∈ es, okI e.item) (hl : l.length + es.length ≤ 100000000) : space_Apply_sh big l es = some (es.foldl applyP l) := by
  unfold space_Apply_sh
  rw [chk_small (by omega) (by omega)]
  simp only [lt_eq, bn_some, ite_t, ite_f, sm_inl, sm_inr, lenI_eq, Option.some.injEq]
  refine bn_run l (fun i => ((i : Int), l)) l.length (by unfold big; omega) rfl (fun i hi => ?_) ?_ ?_
  · simp only [lt_eq, bn_some, ite_t, ite_f, sm_inl, sm_inr, lenI_eq, Option.some.injEq]
    rw [ltI_t (by omega), nth_some hi]
    simp only [lt_eq, bn_some, ite_t, ite_f, sm_inl, sm_inr, lenI_eq, Option.some.injEq]
    rw [item_Copy_ok _ (h2 _ (List.getElem_mem hi))]
    simp only [lt_eq, bn_some, ite_t, ite_f, sm_inl, sm_inr, lenI_eq, Option.some.injEq]
    rw [addI_64 (by omega) (by omega)]
    have e : l.set i { key := l[i].key, item := l[i].item } = l := List.set_getElem_self hi
    simp [e]
  · simp only [lt_eq, bn_some, ite_t, ite_f, sm_inl, sm_inr, lenI_eq, Option.some.injEq]
    rw [ltI_f (by omega)]
    rfl
  refine bn_fold es applyP (fun i a => ((i : Int), a)) l (es.foldl applyP l) (by omega) rfl (fun i hi a ha => ?_) ?_ ?_
  · obtain ⟨g1, g2, g3⟩ := foldA_inv (es.take i) l h h2 fun x hx => he x (List.mem_of_mem_take hx)
    rw [← ha] at g1 g2 g3
    have hal : a.length ≤ 100000000 := by rw [List.length_take] at g3; omega
    have hok := he _ (List.getElem_mem hi)
    simp only [lt_eq, bn_some, ite_t, ite_f, sm_inl, sm_inr, lenI_eq, Option.some.injEq]
    rw [ltI_t (by omega), nth_some hi]
    simp only [lt_eq, bn_some, ite_t, ite_f, sm_inl, sm_inr, lenI_eq, Option.some.injEq]
    rw [chk_room (by omega) (by omega)]
    obtain ⟨A, B, C, e, hA, hC, hB⟩ := shapeG (key := Pair.key) es[i].key a g1
    have hap : applyP a es[i] = A ++ newP es[i] ++ C := by rw [e]; exact applyP_shape hA hC hB
    have hf : space_find_tf_sh big a es[i].key = some ((A.length : Int), !B.isEmpty) := by rw [e]; exact find_ok2 A B C _ hA hC hB (by rw [← e]; omega)
    rw [hf, hap]
    simp only [lt_eq, bn_some, ite_t, ite_f, sm_inl, sm_inr, lenI_eq, Option.some.injEq]
    rw [addI_64 (a := (i : Int)) (by omega) (by omega)]
    have hlen : A.length + B.length + C.length = a.length := by rw [e]; simp; omega
    rcases hB with rfl | ⟨x, rfl, hx⟩
    · simp only [List.isEmpty_nil, Bool.not_true, lt_eq, bn_some, ite_t, ite_f, sm_inl, sm_inr, lenI_eq, Option.some.injEq]
      cases hg : es[i].gone
      · simp only [notB_f, lt_eq, bn_some, ite_t, ite_f, sm_inl, sm_inr, lenI_eq, Option.some.injEq]
        rw [item_Copy_ok _ hok]
        simp only [lt_eq, bn_some, ite_t, ite_f, sm_inl, sm_inr, lenI_eq, Option.some.injEq]
        rw [chk_t (by simp [insB]; simp at hlen; omega)]
        have e1 : insL a A.length ⟨es[i].key, es[i].item⟩ = A ++ newP es[i] ++ C := by rw [e]; simp [insL, newP, hg]
        simp [e1, bn_some]
      · simp only [notB_t, lt_eq, bn_some, ite_t, ite_f, sm_inl, sm_inr, lenI_eq, Option.some.injEq]
        rw [e]
        simp [newP, hg]
    · simp only [List.isEmpty_cons, Bool.not_false, lt_eq, bn_some, ite_t, ite_f, sm_inl, sm_inr, lenI_eq, Option.some.injEq]
      have hn : (A ++ [x] ++ C)[A.length]? = some x := by simp
      cases hg : es[i].gone
      · simp only [lt_eq, bn_some, ite_t, ite_f, sm_inl, sm_inr, lenI_eq, Option.some.injEq]
        rw [item_Copy_ok _ hok]
        simp only [lt_eq, bn_some, ite_t, ite_f, sm_inl, sm_inr, lenI_eq, Option.some.injEq]
        rw [nth_nat, e, hn]
        have e1 : (A ++ [x] ++ C).set A.length ⟨x.key, es[i].item⟩ = A ++ newP es[i] ++ C := by simp [newP, hg, hx]
        simp [e1, bn_some, lt_eq]
        simp [newP, hg, hx]
      · simp only [lt_eq, bn_some, ite_t, ite_f, sm_inl, sm_inr, lenI_eq, Option.some.injEq]
        rw [addI_64 (by omega) (by omega), chk_t (by simp [delB]; simp at hlen; omega)]
        have e1 : delL a A.length = A ++ newP es[i] ++ C := by rw [e]; simp [delL, newP, hg]
        simp [e1, bn_some]
  · simp only [lt_eq, bn_some, ite_t, ite_f, sm_inl, sm_inr, lenI_eq, Option.some.injEq]
    rw [ltI_f (by omega)]
    rfl
  · obtain ⟨g1, g2, g3⟩ := foldA_inv es l h h2 he
    rw [chk_room (by omega) (by omega)]
theorem r_Apply_ok (l : List Pair) (es : List Effect) (h : SrtP l) (h2 : okP l) (he : ∀ e ∈ es, okI e.item) (hl : l.length + es.length ≤ 100000000) : r5_Apply_sh big l es = some (es.foldl applyP l) := by
  unfold r5_Apply_sh
  rw [chk_room (by omega) (by omega), chk_room (by omega) (by omega)]
  refine bn_fold es applyP (fun i a => (a, (i : Int))) l (es.foldl applyP l) (by omega) rfl (fun i hi a ha => ?_) ?_ rfl
  · obtain ⟨g1, g2, g3⟩ := foldA_inv (es.take i) l h h2 fun x hx => he x (List.mem_of_mem_take hx)
    rw [← ha] at g1 g2 g3
    rw [List.length_take] at g3
    simp only [lt_eq, bn_some, ite_t, ite_f, sm_inl, sm_inr, lenI_eq, Option.some.injEq]
    rw [ltI_t (by omega), nth_some hi]
    simp only [lt_eq, bn_some, ite_t, ite_f, sm_inl, sm_inr, lenI_eq, Option.some.injEq]
    rw [r_apply_ok _ _ g1 (by omega)]
    simp only [lt_eq, bn_some, ite_t, ite_f, sm_inl, sm_inr, lenI_eq, Option.some.injEq]
    rw [addI_64 (by omega) (by omega)]
    rfl
  · simp only [lt_eq, bn_some, ite_t, ite_f, sm_inl, sm_inr, lenI_eq, Option.some.injEq]
    rw [ltI_f (by omega)]
    rfl
end Go.Proofs.Ytlkhfdccapkcdaa

/- Walks, printed: l15_Make, r13_SameClaims, r1_Ints, r19_SameMsg, r13_SameFeed, r5_SameSpace -/
namespace Go.Proofs.Ytlkhfdccapkcdaa
open Go Go.RowKit
set_option linter.unusedVariables false
set_option linter.unusedSimpArgs false
end Go.Proofs.Ytlkhfdccapkcdaa

/- Plain laws: feeds, answers, what is got. -/
namespace Go.Proofs.Ytlkhfdccapkcdaa
open Go Go.RowKit
set_option linter.unusedVariables false
set_option linter.unusedSimpArgs false
theorem ite_and (b c : Bool) : ite' b (some c) (some false) = some (b && c) := by cases b <;> rfl
def addF (f : Feed) (l : List Effect) : Feed := { f with off := addI .i64 f.off l.length, back := lastN (f.back ++ l) }
def allP (l : List Pair) : List Effect := l.map fun p => ⟨p.key, false, p.item⟩
theorem allP_take (l : List Pair) (i : Nat) (hi : i < l.length) : allP (l.take i) ++ [⟨l[i].key, false, l[i].item⟩] = allP (l.take (i + 1)) := by
  rw [← List.take_append_getElem hi]
  simp only [allP, List.map_append]
  rfl
theorem space_All_ok (l : List Pair) (h : okP l) (hl : l.length ≤ 1000000000) : space_All_sh big l = some (allP l) := by
  unfold space_All_sh
  simp only [lt_eq, bn_some, ite_t, ite_f, sm_inl, sm_inr, lenI_eq, Option.some.injEq]
  refine bn_run (allP l) (fun i => ((i : Int), allP (l.take i))) l.length (by unfold big; omega) rfl (fun i hi => ?_) ?_ ?_
  · simp only [lt_eq, bn_some, ite_t, ite_f, sm_inl, sm_inr, lenI_eq, Option.some.injEq]
    rw [ltI_t (by omega), nth_some hi]
    simp only [lt_eq, bn_some, ite_t, ite_f, sm_inl, sm_inr, lenI_eq, Option.some.injEq]
    rw [item_Copy_ok _ (h _ (List.getElem_mem hi))]
    simp only [lt_eq, bn_some, ite_t, ite_f, sm_inl, sm_inr, lenI_eq, Option.some.injEq]
    rw [chk_room (by simp [allP]; omega) (by simp [allP]; omega), addI_64 (by omega) (by omega), allP_take l i hi]
    rfl
  · simp only [lt_eq, bn_some, ite_t, ite_f, sm_inl, sm_inr, lenI_eq, Option.some.injEq]
    rw [ltI_f (by omega), List.take_length]
    rfl
  · rw [chk_room (by simp [allP]; omega) (by simp [allP]; omega)]
def goesF (f : Feed) (rid : Rid) (off : Int) : Bool := (decide (rid = f.rid) || (decide (rid = f.prev) && decide (off ≤ f.upto))) && (decide (off ≤ f.off) && decide (f.off - f.back.length ≤ off))
def ansF (f : Feed) (db : List Pair) (rid : Rid) (off : Int) : Msg :=
  bif goesF f rid off then ⟨5, 0, 0, 0, [], [], 0, 0, 0, f.rid, rid, off, (f.back.drop (off - (f.off - f.back.length)).toNat).take 16⟩ else ⟨6, 0, 0, 0, [], [], 0, 0, 0, f.rid, ⟨0, 0⟩, f.off, allP db⟩
/-- A feed that may be. -/
def okF (f : Feed) : Prop := okE f.back ∧ f.back.length ≤ 64 ∧ (f.back.length : Int) ≤ f.off ∧ f.off ≤ 9223372036854775807
theorem okE.take {l : List Effect} (h : okE l) (k : Nat) : okE (l.take k) := ⟨by have := h.1; simp; omega, fun e he => h.2 e (List.mem_of_mem_take he)⟩
end Go.Proofs.Ytlkhfdccapkcdaa

/- Plain laws: what is got; feeds made by numbers. -/
namespace Go.Proofs.Ytlkhfdccapkcdaa
open Go Go.RowKit
set_option linter.unusedVariables false
set_option linter.unusedSimpArgs false
def newerF (f : Feed) (m : Msg) : Bool := !decide (m.rid.node = f.rid.node) || (decide (f.rid.epoch < m.rid.epoch) || (decide (m.rid = f.rid) && decide (f.off < m.off)))
def nextF (f : Feed) (m : Msg) : Bool := decide (m.kind = 5) && (decide (m.prev = f.rid) && decide (m.off = f.off))
def gotF (f : Feed) (db : List Pair) (m : Msg) : Feed × List Pair × Bool :=
  bif nextF f m then (addF (bif decide (m.rid = f.rid) then f else { f with rid := m.rid, prev := f.rid, upto := f.off }) m.effects, m.effects.foldl applyP db, true)
  else bif decide (m.kind = 6) && newerF f m then (⟨m.rid, m.off, [], ⟨0, 0⟩, 0⟩, m.effects.foldl applyP [], true) else (f, db, false)
theorem addF_nil (f : Feed) (h : f.back.length ≤ 64) (h2 : -9223372036854775808 ≤ f.off) (h3 : f.off ≤ 9223372036854775807) : addF f [] = f := by
  unfold addF lastN
  rw [addI_64 (by simp; omega) (by simp; omega), List.append_nil, show f.back.length - 64 = 0 by omega, List.drop_zero]
  simp
/-! ### What is alike -/
end Go.Proofs.Ytlkhfdccapkcdaa

/- Plain law: feeds made by numbers. -/
namespace Go.Proofs.Ytlkhfdccapkcdaa
open Go Go.RowKit
set_option linter.unusedVariables false
set_option linter.unusedSimpArgs false
end Go.Proofs.Ytlkhfdccapkcdaa

/- Plain laws: effects by numbers, one by one. -/
namespace Go.Proofs.Ytlkhfdccapkcdaa
open Go Go.RowKit
set_option linter.unusedVariables false
set_option linter.unusedSimpArgs false
/-- The effect that the numbers from 4 i on tell. -/
def effAt (l : List Int) (i : Nat) : Option Effect :=
  bn (nth l ((4 * i : Nat) : Int)) fun v11 => bn (l11_Key_sh big v11) fun v12 => bn (nth l ((4 * i + 1 : Nat) : Int)) fun v14 => bn (remI .u8 v14 4) fun v15 =>
  bn (ite' (notB (eqI v15 0)) (bn (seglh l ((4 * i + 1 : Nat) : Int) ((4 * i + 4 : Nat) : Int)) fun v20 => bn (nth l ((4 * i + 2 : Nat) : Int)) fun v23 => bn (l5_Make_sh big v20 v23) fun v24 => some ((v24.kind, v24.s, v24.f, v24.l, v24.exp))) (some ((0, ⟨#[]⟩, [], [], 0)))) fun (y17 : Int × ByteArray × List Field × List ByteArray × Int) =>
  some (⟨v12, eqI v15 0, (⟨y17.1, y17.2.1, y17.2.2.1, y17.2.2.2.1, y17.2.2.2.2⟩ : Item)⟩ : Effect)
theorem effAt_ok (l : List Int) (hl : u8s l) (i : Nat) (h : 4 * i + 3 < l.length) (hlen : l.length ≤ 1000000000) : Rn (effAt l i) fun e => okI e.item := by
  have hb0 := hl _ (List.getElem_mem (show 4 * i < l.length by omega))
  have hb1 := hl _ (List.getElem_mem (show 4 * i + 1 < l.length by omega))
  have hb2 := hl _ (List.getElem_mem (show 4 * i + 2 < l.length by omega))
  unfold effAt
  refine Rn.bnE (nth_some (show 4 * i < l.length by omega)) (Rn.bn (Key_ok _ hb0.1 hb0.2) fun key _ => Rn.bnE (nth_some (show 4 * i + 1 < l.length by omega)) (Rn.bnE (remI_pos hb1.1 (by omega)) (Rn.bn (P := fun b : Int × ByteArray × List Field × List ByteArray × Int => b.2.2.1.length ≤ 9 ∧ b.2.2.2.1.length ≤ 9) ?_ fun b hb => Rn.some ?_)))
  · refine Rn.ite (fun _ => ?_) (fun _ => Rn.some ⟨by simp, by simp⟩)
    exact Rn.bnE (seglh_nat (by omega) (by omega)) (Rn.bnE (nth_some (show 4 * i + 2 < l.length by omega)) (Rn.bn (Make_ok _ _ (hl.seg _ _) hb2.1 hb2.2) fun it hit => Rn.some hit))
  · exact ⟨by simp only; omega, by simp only; omega⟩
theorem Effects_told (l : List Int) (hl : u8s l) (h : l.length ≤ 1000000000) : Rn (l11_Effects_sh big l) fun m => m.length = min 40 (l.length / 4) ∧ (∀ i, i < m.length → effAt l i = m[i]?) ∧ ∀ e ∈ m, okI e.item := by
  unfold l11_Effects_sh
  refine Rn.bn (P := fun m : List Effect => m.length = min 40 (l.length / 4) ∧ (∀ i, i < m.length → effAt l i = m[i]?) ∧ ∀ e ∈ m, okI e.item)
    (Rn.iter _ (fun k a => a.1 = ((4 * k : Nat) : Int) ∧ a.2.length = k ∧ 4 * k ≤ l.length ∧ (∀ i, i < k → effAt l i = a.2[i]?) ∧ ∀ e ∈ a.2, okI e.item) 40 (by unfold big; omega) ⟨rfl, rfl, by omega, by simp, by simp⟩ fun k a hk hI => ?_) fun m hm => Rn.room (by omega) (by omega) (Rn.some hm)
  obtain ⟨i, m⟩ := a
  obtain ⟨rfl, i2, i5, i6, i3⟩ := hI
  simp only at i2 i3 i6
  refine Rn.bn (P := fun b : Bool => (b = true → k < 40 ∧ 4 * k + 3 < l.length) ∧ (b = false → k = min 40 (l.length / 4))) ?_ fun b hb => Rn.lt (Rn.ite (fun hd => ?_) (fun hd => Rn.some ⟨by simp only [i2]; exact hb.2 hd, by simp only [i2]; exact i6, i3⟩))
  · refine Rn.lt ?_
    rw [addI_64 (by simp only; omega) (by simp only; omega)]
    refine Rn.lt (Rn.lt (Rn.ite (fun hg => Rn.lt (Rn.lt (Rn.some ?_))) (fun hg => Rn.some ?_)))
    · have h1 := ltI_d hg
      simp only [lenI] at h1
      refine ⟨fun h2 => ?_, fun h2 => ?_⟩
      · have h2 := ltI_d h2
        simp only [lenI, i2] at h2
        omega
      · have h2 := ltI_n h2
        simp only [lenI, i2] at h2
        omega
    · have h1 := ltI_n hg
      simp only [lenI] at h1
      exact ⟨fun h => by simp at h, fun _ => by omega⟩
  · obtain ⟨h40, h4⟩ := hb.1 hd
    obtain ⟨e, he, hok⟩ := effAt_ok l hl k h4 h
    have he' := he
    unfold effAt at he
    rw [show addI .i64 ((4 * k : Nat) : Int) 1 = ((4 * k + 1 : Nat) : Int) by rw [addI_64 (by omega) (by omega)]; omega, show addI .i64 ((4 * k : Nat) : Int) 4 = ((4 * k + 4 : Nat) : Int) by rw [addI_64 (by omega) (by omega)]; omega, show addI .i64 ((4 * k : Nat) : Int) 2 = ((4 * k + 2 : Nat) : Int) by rw [addI_64 (by omega) (by omega)]; omega]
    obtain ⟨w1, e1, he⟩ := bnE he
    obtain ⟨w2, e2, he⟩ := bnE he
    obtain ⟨w3, e3, he⟩ := bnE he
    obtain ⟨w4, e4, he⟩ := bnE he
    obtain ⟨w5, e5, he⟩ := bnE he
    have heq := Option.some.inj he
    clear he
    subst heq
    refine Rn.bnE e1 (Rn.bnE e2 (Rn.lt (Rn.bnE e3 (Rn.bnE e4 (Rn.lt (Rn.bnE (v := w5) e5 (Rn.room ?_ ?_ (Rn.lt (Rn.lt (Rn.some ⟨h40, ?_, ?_, by omega, ?_, ?_⟩))))))))))
    · simp only; omega
    · simp only; omega
    · simp only; omega
    · simp [i2]
    · intro i hi
      show effAt l i = (m ++ [_])[i]?
      by_cases hik : i < k
      · rw [i6 i hik, List.getElem?_append_left (by omega)]
      · have : i = k := by omega
        subst this
        rw [he', List.getElem?_append_right (by omega), i2, Nat.sub_self]
        rfl
    · intro x hx
      rcases List.mem_append.1 hx with hx | hx
      · exact i3 x hx
      · simp only [List.mem_singleton] at hx
        rw [hx]
        exact hok
end Go.Proofs.Ytlkhfdccapkcdaa

/- Plain law: a replica comes to have all. -/
namespace Go.Proofs.Ytlkhfdccapkcdaa
open Go Go.RowKit
set_option linter.unusedVariables false
set_option linter.unusedSimpArgs false
def mkF (r : Int) (l : List Effect) : Feed := ⟨⟨r % 4, r / 64⟩, l.length, l, ⟨0, 0⟩, 0⟩
def dbOf (l : List Effect) : List Pair := l.foldl applyP []
theorem dbOf_ok {l : List Effect} (h : ∀ e ∈ l, okI e.item) : SrtP (dbOf l) ∧ okP (dbOf l) ∧ (dbOf l).length ≤ l.length := by
  obtain ⟨g1, g2, g3⟩ := foldA_inv l [] .nil (by simp [okP]) h
  exact ⟨g1, g2, by simp at g3; exact g3⟩
theorem applyP_end {A : List Pair} {p : Pair} (h : ∀ a ∈ A, slt a.key p.key = true) : applyP A ⟨p.key, false, p.item⟩ = A ++ [p] := by
  have := applyP_shape (A := A) (B := []) (C := []) (e := ⟨p.key, false, p.item⟩) h (by simp) (.inl rfl)
  simpa [newP] using this
theorem fold_allP : ∀ (B A : List Pair), SrtP (A ++ B) → (allP B).foldl applyP A = A ++ B
  | [], A, _ => by simp [allP]
  | p :: B, A, h => by
    have h1 : ∀ a ∈ A, slt a.key p.key = true := fun a ha => (List.pairwise_append.1 h).2.2 a ha p (by simp)
    have e : allP (p :: B) = ⟨p.key, false, p.item⟩ :: allP B := rfl
    rw [e, List.foldl_cons, applyP_end h1, fold_allP B (A ++ [p]) (by simpa using h)]
    simp
def harm (fr : Rid) (o : Nat) (m : Msg) : Prop := m.rid = fr ∧ okE m.effects ∧ m.effects.length ≤ 100 ∧ ((m.kind = 5 ∧ (m.prev ≠ fr ∨ m.off < o ∨ m.effects = [])) ∨ (m.kind = 6 ∧ m.off ≤ o))
theorem harm.mono {fr : Rid} {o o' : Nat} {m : Msg} (h : harm fr o m) (ho : o ≤ o') : harm fr o' m := by
  obtain ⟨h1, h2, h3, h4⟩ := h
  refine ⟨h1, h2, h3, ?_⟩
  rcases h4 with ⟨a, b | b | b⟩ | ⟨a, b⟩
  · exact .inl ⟨a, .inl b⟩
  · exact .inl ⟨a, .inr (.inl (by omega))⟩
  · exact .inl ⟨a, .inr (.inr b)⟩
  · exact .inr ⟨a, by omega⟩
theorem harm.got {g : Feed} {own : List Pair} {o : Nat} {m : Msg} (h : harm g.rid o m) (ho : g.off = o) (hb : g.back.length ≤ 64) (hs : o ≤ 1000000) : (gotF g own m).1 = g ∧ (gotF g own m).2.1 = own := by
  obtain ⟨h1, h2, h3, h4⟩ := h
  unfold gotF
  cases hn : nextF g m
  · have hw : (decide (m.kind = 6) && newerF g m) = false := by
      rcases h4 with ⟨a, b⟩ | ⟨a, b⟩
      · simp [a]
      · simp only [newerF, h1, ho]
        have : ¬ (o : Int) < m.off := by omega
        simp [this]
    rw [hw]
    exact ⟨rfl, rfl⟩
  · have he : m.effects = [] := by
      simp only [nextF, Bool.and_eq_true, decide_eq_true_eq] at hn
      obtain ⟨n1, n2, n3⟩ := hn
      rcases h4 with ⟨a, b | b | b⟩ | ⟨a, b⟩
      · exact absurd n2 b
      · omega
      · exact b
      · omega
    rw [he, show decide (m.rid = g.rid) = true by simp [h1]]
    exact ⟨addF_nil g hb (by omega) (by omega), rfl⟩
/-- Where a replica is ahead of round i. -/
def At (r other : Int) (l : List Effect) (k i : Nat) (g : Feed) (own : List Pair) (sent : List Msg) : Prop :=
  sent.length = i ∧ okE g.back ∧ g.back.length ≤ 64 ∧ ((i = 0 ∧ g.rid ≠ (mkF r l).rid ∧ g = mkF other (l.take k) ∧ own = dbOf (l.take k)) ∨
  ∃ o : Nat, g.rid = (mkF r l).rid ∧ g.off = o ∧ o ≤ l.length ∧ min l.length (16 * i) ≤ o ∧ own = dbOf (l.take o) ∧ ∀ m ∈ sent, harm (mkF r l).rid o m)
end Go.Proofs.Ytlkhfdccapkcdaa

/- Walks, printed: r5_bare, r5_MayItem, r5_MayEffect, r5_MayEffects, r13_MayFeed, r5_MaySpace -/
namespace Go.Proofs.Ytlkhfdccapkcdaa
open Go Go.RowKit
set_option linter.unusedVariables false
set_option linter.unusedSimpArgs false
end Go.Proofs.Ytlkhfdccapkcdaa

/- Walks, printed: l5_Great, l11_Heavy, l15_great, l11_Great -/
namespace Go.Proofs.Ytlkhfdccapkcdaa
open Go Go.RowKit
set_option linter.unusedVariables false
set_option linter.unusedSimpArgs false
end Go.Proofs.Ytlkhfdccapkcdaa

/- Plain laws: what may be, what is great. -/
namespace Go.Proofs.Ytlkhfdccapkcdaa
open Go Go.RowKit
set_option linter.unusedVariables false
set_option linter.unusedSimpArgs false
theorem gtI_n {a b : Int} (h : gtI a b = false) : a ≤ b := by simpa [gtI] using h
end Go.Proofs.Ytlkhfdccapkcdaa

/- Plain laws: whether two spaces are one, what is at a key. -/
namespace Go.Proofs.Ytlkhfdccapkcdaa
open Go Go.RowKit
set_option linter.unusedVariables false
set_option linter.unusedSimpArgs false
/-- Rounds that compare two lists. -/
theorem eqLoop {α : Type} [DecidableEq α] (a b : List α) (hab : a.length = b.length) (hl : a.length ≤ 140737488355328) (f : Int → Option (Int ⊕ (Unit ⊕ Bool)))
    (hf : ∀ i (hi : i < a.length) (hj : i < b.length), f (i : Int) = bif decide (a[i] = b[i]) then some (.inl (addI .i64 i 1)) else some (.inr (.inr false)))
    (he : f (a.length : Int) = some (.inr (.inl ()))) : bn (iter big f 0) (fun y => sm y (fun _ => some true) (fun y => some y)) = some (decide (a = b)) := by
  refine Rn.eq ?_
  refine Rn.bn (P := fun y => (y = .inl () ∧ a = b) ∨ (y = .inr false ∧ a ≠ b)) (Rn.iter _ (fun q x => x = (q : Int) ∧ ∀ i (h : i < q) (hi : i < a.length) (hj : i < b.length), a[i] = b[i]) a.length (by unfold big; omega) ⟨rfl, fun i h => by omega⟩ fun q x hq hI => ?_) fun y hy => ?_
  · obtain ⟨rfl, hI⟩ := hI
    by_cases hl : q < a.length
    · rw [hf q hl (by omega)]
      by_cases h : a[q] = b[q]
      · rw [decide_eq_true h]
        refine ⟨_, rfl, hl, by rw [addI_64 (by omega) (by omega)]; omega, fun i hi h1 h2 => ?_⟩
        by_cases hiq : i = q
        · subst hiq; exact h
        · exact hI i (by omega) h1 h2
      · rw [decide_eq_false h]
        exact ⟨_, rfl, .inr ⟨rfl, fun e => h (by subst e; rfl)⟩⟩
    · obtain rfl : q = a.length := by omega
      rw [he]
      exact ⟨_, rfl, .inl ⟨rfl, List.ext_getElem hab fun i h1 h2 => hI i (by omega) h1 h2⟩⟩
  · rcases hy with ⟨rfl, h⟩ | ⟨rfl, h⟩
    · exact ⟨_, rfl, by simp [h]⟩
    · exact ⟨_, rfl, by simp [h]⟩
theorem neLen {α : Type} {a b : List α} (h : a.length = b.length) : neI (lenI a) (lenI b) = false := by simp [neI, lenI, h]
theorem neLen2 {α : Type} {a b : List α} (h : ¬ a.length = b.length) : neI (lenI a) (lenI b) = true := by
  have : ¬ (a.length : Int) = b.length := by omega
  unfold neI lenI
  rw [decide_eq_false this]
  rfl
theorem fieldEq (x y : Field) : andB (eqS x.name y.name) (andB (eqS x.val y.val) true) = decide (x = y) := by
  rw [Bool.eq_iff_iff]
  simp only [andB, eqS, Bool.and_true, Bool.and_eq_true, decide_eq_true_eq]
  exact ⟨fun h => Field.ext h.1 h.2, fun h => by rw [h]; exact ⟨rfl, rfl⟩⟩
theorem itemEq (a b : Item) : (eqI a.kind b.kind && (eqS a.s b.s && (eqI a.exp b.exp && (decide (a.f = b.f) && decide (a.l = b.l))))) = decide (a = b) := by
  rw [Bool.eq_iff_iff]
  simp only [eqI, eqS, Bool.and_eq_true, decide_eq_true_eq]
  exact ⟨fun h => Item.ext h.1 h.2.1 h.2.2.2.1 h.2.2.2.2 h.2.2.1, fun h => by rw [h]; exact ⟨rfl, rfl, rfl, rfl, rfl⟩⟩
theorem pairEq (a b : Pair) : (eqS a.key b.key && decide (a.item = b.item)) = decide (a = b) := by
  rw [Bool.eq_iff_iff]
  simp only [eqS, Bool.and_eq_true, decide_eq_true_eq]
  exact ⟨fun h => Pair.ext h.1 h.2, fun h => by rw [h]; exact ⟨rfl, rfl⟩⟩
theorem eqF_dec (a b : List Field) (h : a.length ≤ 10000000000000) : slices_Equal_api_Field_sh big a b = some (decide (a = b)) := by
  unfold slices_Equal_api_Field_sh
  by_cases hab : a.length = b.length
  · simp only [lt_eq, neLen hab, ite_f]
    refine eqLoop a b hab (by omega) _ (fun i hi hj => ?_) ?_
    · rw [ltI_t (by simp only [lenI]; omega)]
      simp only [lt_eq, bn_some, ite_t, ite_f, sm_inl, sm_inr, lenI_eq, Option.some.injEq, nth_some hi, nth_some hj, fieldEq]
      cases decide (a[i] = b[i]) <;> rfl
    · rw [ltI_f (by simp only [lenI]; omega)]
      rfl
  · have : a ≠ b := fun h => hab (by rw [h])
    simp only [lt_eq, neLen2 hab, ite_t, decide_eq_false this]
theorem eqT_dec (a b : List ByteArray) (h : a.length ≤ 10000000000000) : slices_Equal_string_sh big a b = some (decide (a = b)) := by
  unfold slices_Equal_string_sh
  by_cases hab : a.length = b.length
  · simp only [lt_eq, neLen hab, ite_f]
    refine eqLoop a b hab (by omega) _ (fun i hi hj => ?_) ?_
    · rw [ltI_t (by simp only [lenI]; omega)]
      simp only [lt_eq, bn_some, ite_t, ite_f, sm_inl, sm_inr, lenI_eq, Option.some.injEq, nth_some hi, nth_some hj, neS]
      cases decide (a[i] = b[i]) <;> rfl
    · rw [ltI_f (by simp only [lenI]; omega)]
      rfl
  · have : a ≠ b := fun h => hab (by rw [h])
    simp only [lt_eq, neLen2 hab, ite_t, decide_eq_false this]
theorem item_Same_dec (a b : Item) (h : okI a) : item_Same_sh big a b = some (decide (a = b)) := by
  unfold item_Same_sh
  rw [eqF_dec _ _ (by have := h.1; omega), eqT_dec _ _ (by have := h.2; omega)]
  simp only [lt_eq, bn_some, ite_and, itemEq]
theorem space_Same1_dec (a b : Pair) (h : okI a.item) : space_Same_1_sh big a b = some (decide (a = b)) := by
  unfold space_Same_1_sh
  rw [item_Same_dec _ _ h]
  simp only [lt_eq, bn_some, ite_and, pairEq]
theorem eqP_dec (a b : List Pair) (h : a.length ≤ 10000000000000) (ho : okP a) : slices_EqualFunc_api_Pair_sh big a b = some (decide (a = b)) := by
  unfold slices_EqualFunc_api_Pair_sh
  by_cases hab : a.length = b.length
  · simp only [lt_eq, neLen hab, ite_f]
    refine eqLoop a b hab (by omega) _ (fun i hi hj => ?_) ?_
    · rw [ltI_t (by simp only [lenI]; omega)]
      simp only [lt_eq, bn_some, ite_t, ite_f, sm_inl, sm_inr, lenI_eq, Option.some.injEq, nth_some hi, nth_some hj, space_Same1_dec _ _ (ho _ (List.getElem_mem hi))]
      cases decide (a[i] = b[i]) <;> rfl
    · rw [ltI_f (by simp only [lenI]; omega)]
      rfl
  · have : a ≠ b := fun h => hab (by rw [h])
    simp only [lt_eq, neLen2 hab, ite_t, decide_eq_false this]
theorem space_Same_dec (a b : List Pair) (h : a.length ≤ 10000000000000) (ho : okP a) : space_Same_sh big a b = some (decide (a = b)) := by
  unfold space_Same_sh
  rw [eqP_dec a b h ho]
  rfl
/-- What is at a key. -/
def rawP (l : List Pair) (k : ByteArray) : Option Item := (l.find? fun p => decide (p.key = k)).map fun p => p.item
def noI : Item := ⟨0, ⟨#[]⟩, [], [], 0⟩
theorem rawP_shape {A B C : List Pair} {k : ByteArray} (hA : ∀ a ∈ A, slt a.key k = true) (hC : ∀ c ∈ C, slt k c.key = true) (hB : B = [] ∨ ∃ x, B = [x] ∧ x.key = k) : rawP (A ++ B ++ C) k = (B.head?).map fun p => p.item := by
  have h1 : A.find? (fun p => decide (p.key = k)) = none := List.find?_eq_none.2 fun p hp => by simpa using slt_ne (hA p hp)
  have h2 : C.find? (fun p => decide (p.key = k)) = none := List.find?_eq_none.2 fun p hp => by simpa using fun e => slt_ne (hC p hp) e.symm
  unfold rawP
  rw [List.find?_append, List.find?_append, h1, h2]
  rcases hB with rfl | ⟨x, rfl, hx⟩
  · rfl
  · simp [hx]
theorem rawP_ok {l : List Pair} {k : ByteArray} {it : Item} (ho : okP l) (h : rawP l k = some it) : okI it := by
  unfold rawP at h
  obtain ⟨p, hp, rfl⟩ := Option.map_eq_some_iff.1 h
  exact ho p (List.mem_of_find?_eq_some hp)
theorem space_Raw_ok (l : List Pair) (k : ByteArray) (h : SrtP l) (ho : okP l) (hl : l.length ≤ 1000000000) : space_Raw_sh big l k = some ((rawP l k).getD noI, (rawP l k).isSome) := by
  obtain ⟨A, B, C, rfl, hA, hC, hB⟩ := shapeG (key := Pair.key) k l h
  unfold space_Raw_sh
  rw [find_ok1 A B C k hA hC hB hl, rawP_shape hA hC hB]
  rcases hB with rfl | ⟨x, rfl, hx⟩
  · rfl
  · have hn : (A ++ [x] ++ C)[A.length]? = some x := by simp
    simp only [lt_eq, bn_some, ite_t, ite_f, sm_inl, sm_inr, lenI_eq, Option.some.injEq, List.isEmpty_cons, Bool.not_false, notB_t, nth_nat, hn]
    rw [item_Copy_ok _ (ho x (by simp))]
    rfl
def alive (i : Item) (now : Int) : Bool := decide (i.exp = 0) || decide (now < i.exp)
def getP (l : List Pair) (k : ByteArray) (now : Int) : Option Item := bif alive ((rawP l k).getD noI) now then rawP l k else none
theorem okI_no : okI noI := ⟨by simp [noI], by simp [noI]⟩
theorem okI_getD {o : Option Item} (h : ∀ it, o = some it → okI it) : okI (o.getD noI) := by
  cases o with
  | none => exact okI_no
  | some v => exact h v rfl
end Go.Proofs.Ytlkhfdccapkcdaa

/- Plain laws: the program's slot is the document's. -/
namespace Go.Proofs.Ytlkhfdccapkcdaa
open Go Go.RowKit
set_option linter.unusedVariables false
set_option linter.unusedSimpArgs false
/-! ### The first of a byte -/
/-! ### The tag -/
/-! ### The check sum -/
/-- One bit. -/
def bit1 (c : Nat) : Nat := if 32768 ≤ c then (2 * c ^^^ 4129) % 65536 else 2 * c
def bits : Nat → Nat → Nat
  | 0, c => c
  | k + 1, c => bit1 (bits k c)
def byteN (s : ByteArray) (i : Nat) : Nat := (bAt s i).toNat
def crcN (s : ByteArray) : Nat → Nat
  | 0 => 0
  | i + 1 => bits 8 (crcN s i ^^^ byteN s i * 256)
/-- A key's slot. -/
def slotOf (k : ByteArray) : Int := (r1_Slot_sh big k).getD 0
/-- The keys of a slot. -/
def inP (l : List Pair) (s : Int) : List ByteArray := (l.filter fun p => decide (slotOf p.key = s)).map fun p => p.key
end Go.Proofs.Ytlkhfdccapkcdaa

/- Walks, printed: l11_Make, l11_awake, l11_SpaceSlots -/
namespace Go.Proofs.Ytlkhfdccapkcdaa
open Go Go.RowKit
set_option linter.unusedVariables false
set_option linter.unusedSimpArgs false
def l11_Make_sh (n : Nat) (a0 : List Int) : Option (List Pair) :=
bn (l11_Effects_sh n a0) fun v1 =>
bn (r5_Apply_sh n [] v1) fun v2 =>
some v2
set_option maxRecDepth 8000 in
set_option maxHeartbeats 8000000 in
theorem s_l11_Make {n : Nat} {a0 : List Int} {r : List Pair} (h : l11_Make_sh n a0 = some r) : Sound Try.prog 51 [.l (.d false 1 (encU a0))] [] (.l (.d false 6 (encPair r))) [] := by
  unfold l11_Make_sh at h
  refine Sound.of_aw (fn := Try.f51) (c := _) Try.func51 rfl (by simp [Try.f51]) fun cx hG hnb => ?_
  rw [show Try.f51.ntmps = 6 from rfl]
  have hn0 : cx.nb = 0 := hnb
  simp only [st0_mk, initTm, List.map_cons, List.map_nil]
  apply AW.step
  · simp
    intros; rfl
  replace h := bnE h; obtain ⟨v1, e1, h⟩ := h
  replace h := bnE h; obtain ⟨v2, e2, h⟩ := h
  apply AW.step
  · simp
    intros
    refine xcall_plain en_l11_Effects (s_l11_Effects e1) rfl ⟨.same rfl, trivial⟩ ?_
    try simp
    intros
    refine xcall_plain en_r5_Apply (s_r5_Apply e2) rfl ⟨.nil _ _, .same rfl, trivial⟩ ?_
    try simp
    intros; rfl
  obtain rfl := Option.some.inj h
  refine AW.ret ?_
  refine Left.plain hnb (by simp [Try.f51, resV, resC, comp]; rfl) rfl rfl ?_
  simp
theorem en_l11_Make : Enters Try.prog 51 := enters Try.func51 (by kernel_rfl) rfl
def l11_awake_sh (n : Nat)  : Option Bool :=
bn (space_Apply_sh n [] [(⟨⟨#[97]⟩, false, (⟨1, ⟨#[]⟩, [], [], 0⟩ : Item)⟩ : Effect)]) fun v1 =>
bn (bn (space_In_sh n [] 0) fun v3 =>
lt (lenI v3) fun v4 =>
lt (eqI v4 0) fun v5 =>
ite' v5 (lt (lenI v1) fun v6 =>
lt (eqI v6 1) fun v7 =>
ite' v7 (bn (r1_Slot_sh n ⟨#[97]⟩) fun v8 =>
bn (space_In_sh n v1 v8) fun v9 =>
lt (lenI v9) fun v10 =>
lt (eqI v10 1) fun v11 =>
some (v11)) (some (false))) (some (false))) fun (y2 : Bool) =>
some y2
set_option maxRecDepth 8000 in
set_option maxHeartbeats 8000000 in
theorem s_l11_awake {n : Nat}  {r : Bool} (h : l11_awake_sh n  = some r) : Sound Try.prog 50 [] [] (.l (.s (.bool r))) [] := by
  unfold l11_awake_sh at h
  refine Sound.of_aw (fn := Try.f50) (c := _) Try.func50 rfl (by simp [Try.f50]) fun cx hG hnb => ?_
  rw [show Try.f50.ntmps = 21 from rfl]
  have hn0 : cx.nb = 0 := hnb
  simp only [st0_mk, initTm, List.map_cons, List.map_nil]
  apply AW.step
  · simp
    intros; rfl
  replace h := bnE h; obtain ⟨v1, e1, h⟩ := h
  apply AW.step
  · simp
    intros
    refine xrow_data (es := encEffect [(⟨⟨#[97]⟩, false, (⟨1, ⟨#[]⟩, [], [], 0⟩ : Item)⟩ : Effect)]) (by simp [encEffect, lvs, All2]) (encEffect_sz _) (by omega) (by simp) ?_
    try simp
    intros
    refine xcall_plain en_space_Apply (s_space_Apply e1) rfl ⟨.nil _ _, .same rfl, trivial⟩ ?_
    try simp
    intros; rfl
  replace h := bnE h; obtain ⟨y2, g2, h⟩ := h
  refine AW.flow (p := fun gh ls => (nP (cx := cx) (fun q => (⟨[(0, .l (.s (.bool q)))], [], 21, gh, ls⟩ : St))) y2) ?_ ?_
  · replace h := g2; clear g2
    replace h := bnE h; obtain ⟨v3, e3, h⟩ := h
    replace h := ltE h; obtain ⟨v4, e4, h⟩ := h
    replace h := ltE h; obtain ⟨v5, e5, h⟩ := h
    cases v5 with
    | true =>
      replace h := iteT rfl h
      replace h := ltE h; obtain ⟨v6, e6, h⟩ := h
      replace h := ltE h; obtain ⟨v7, e7, h⟩ := h
      cases v7 with
      | true =>
        replace h := iteT rfl h
        replace h := bnE h; obtain ⟨v8, e8, h⟩ := h
        replace h := bnE h; obtain ⟨v9, e9, h⟩ := h
        replace h := ltE h; obtain ⟨v10, e10, h⟩ := h
        replace h := ltE h; obtain ⟨v11, e11, h⟩ := h
        apply AW.last
        · simp [lenI_cast e4, ← e5, lenI_cast e6, ← e7, lenI_cast e10, ← e11]
          intros
          refine xcall_plain en_space_In (s_space_In e3) rfl ⟨.nil _ _, .same rfl, trivial⟩ ?_
          try simp [lenI_cast e4, ← e5, lenI_cast e6, ← e7, lenI_cast e10, ← e11]
          intros
          refine xcall_plain en_r1_Slot (s_r1_Slot e8) rfl ⟨.same rfl, trivial⟩ ?_
          try simp [lenI_cast e4, ← e5, lenI_cast e6, ← e7, lenI_cast e10, ← e11]
          intros
          refine xcall_plain en_space_In (s_space_In e9) rfl ⟨.same rfl, .same rfl, trivial⟩ ?_
          try simp [lenI_cast e4, ← e5, lenI_cast e6, ← e7, lenI_cast e10, ← e11]
          intros; rfl
        obtain rfl := Option.some.inj h
        refine nP_i ?_
        refine Weak.mixN [] hn0 (by decide) ?_ ?_ rfl
        all_goals first | (simp [inv_cons, inv_nil, pickOb]; done) | rfl
      | false =>
        replace h := iteF rfl h
        apply AW.last
        · simp [lenI_cast e4, ← e5, lenI_cast e6, ← e7]
          intros
          refine xcall_plain en_space_In (s_space_In e3) rfl ⟨.nil _ _, .same rfl, trivial⟩ ?_
          try simp [lenI_cast e4, ← e5, lenI_cast e6, ← e7]
          intros; rfl
        obtain rfl := Option.some.inj h
        refine nP_i ?_
        refine Weak.mixN [] hn0 (by decide) ?_ ?_ rfl
        all_goals first | (simp [inv_cons, inv_nil, pickOb]; done) | rfl
    | false =>
      replace h := iteF rfl h
      apply AW.last
      · simp [lenI_cast e4, ← e5]
        intros
        refine xcall_plain en_space_In (s_space_In e3) rfl ⟨.nil _ _, .same rfl, trivial⟩ ?_
        try simp [lenI_cast e4, ← e5]
        intros; rfl
      obtain rfl := Option.some.inj h
      refine nP_i ?_
      refine Weak.mixN [] hn0 (by decide) ?_ ?_ rfl
      all_goals first | (simp [inv_cons, inv_nil, pickOb]; done) | rfl
  · rintro e s hp
    obtain ⟨rfl, hw⟩ := hp
    refine ⟨_, hw, ?_⟩
    try simp only [sp_l, sp_r, Post.seq, Post.block, Nat.reduceEqDiff, reduceIte, Nat.zero_ne_one, Nat.one_ne_zero]
    obtain rfl := Option.some.inj h
    refine AW.ret ?_
    refine Left.plain hnb (by simp [Try.f50, resV, resC, comp]; rfl) rfl rfl ?_
    simp
theorem en_l11_awake : Enters Try.prog 50 := enters Try.func50 (by kernel_rfl) rfl
end Go.Proofs.Ytlkhfdccapkcdaa

/- Walks, printed: l11_SpaceDead -/
namespace Go.Proofs.Ytlkhfdccapkcdaa
open Go Go.RowKit
set_option linter.unusedVariables false
set_option linter.unusedSimpArgs false
end Go.Proofs.Ytlkhfdccapkcdaa

/- Walks, printed: l11_SpaceWhole -/
namespace Go.Proofs.Ytlkhfdccapkcdaa
open Go Go.RowKit
set_option linter.unusedVariables false
set_option linter.unusedSimpArgs false
def l11_SpaceWhole_sh (n : Nat) (a0 : List Int) (a1 : List Int) : Option Bool :=
bn (lt (lenI a0) fun v2 =>
lt (gtI v2 160) fun v3 =>
ite' v3 (some (true)) (lt (lenI a1) fun v4 =>
lt (gtI v4 80) fun v5 =>
some (v5))) fun (y1 : Bool) =>
lt (y1) fun v6 =>
ite' v6 (bn (l11_awake_sh n) fun v7 =>
some v7) (bn (l11_Make_sh n a0) fun v8 =>
bn (l11_Effects_sh n a1) fun v9 =>
bn (space_All_sh n v8) fun v10 =>
bn (space_Apply_sh n [] v10) fun v11 =>
bn (space_Same_sh n v11 v8) fun v12 =>
lt (notB v12) fun v13 =>
ite' v13 (some false) (bn (space_Apply_sh n v8 v9) fun v14 =>
bn (iter n (fun (y15 : Int) =>
lt (ltI y15 20) fun v18 =>
ite' v18 (lt (cvI .u8 y15) fun v19 =>
bn (l11_Key_sh n v19) fun v20 =>
bn (space_Raw_sh n v8 v20) fun v21 =>
bn (iter n (fun (y22 : Bool × Int × Int × ByteArray × List Field × List ByteArray × Int) =>
lt (lenI v9) fun v25 =>
lt (ltI y22.2.1 v25) fun v26 =>
ite' v26 (bn (bn (nth v9 y22.2.1) fun v28 =>
lt (eqS v28.key v20) fun v29 =>
ite' v29 (lt (notB v28.gone) fun v30 =>
some ((v30, v28.item.kind, v28.item.s, v28.item.f, v28.item.l, v28.item.exp))) (some ((y22.1, y22.2.2.1, y22.2.2.2.1, y22.2.2.2.2.1, y22.2.2.2.2.2.1, y22.2.2.2.2.2.2)))) fun (y27 : Bool × Int × ByteArray × List Field × List ByteArray × Int) =>
lt (addI .i64 y22.2.1 1) fun v31 =>
some (.inl (y27.1, v31, y27.2.1, y27.2.2.1, y27.2.2.2.1, y27.2.2.2.2.1, y27.2.2.2.2.2))) (some (.inr (y22.1, y22.2.2.1, y22.2.2.2.1, y22.2.2.2.2.1, y22.2.2.2.2.2.1, y22.2.2.2.2.2.2)))) (v21.2, 0, v21.1.kind, v21.1.s, v21.1.f, v21.1.l, v21.1.exp)) fun (y23 : Bool × Int × ByteArray × List Field × List ByteArray × Int) =>
bn (space_Raw_sh n v14 v20) fun v32 =>
bn (lt (neB v32.2 y23.1) fun v34 =>
ite' v34 (some (true)) (bn (r5_SameItem_sh n v32.1 (⟨y23.2.1, y23.2.2.1, y23.2.2.2.1, y23.2.2.2.2.1, y23.2.2.2.2.2⟩ : Item)) fun v35 =>
lt (notB v35) fun v36 =>
some (v36))) fun (y33 : Bool) =>
lt (y33) fun v37 =>
ite' v37 (some (.inr (.inr false))) (lt (addI .i64 y15 1) fun v38 =>
some (.inl v38))) (some (.inr (.inl ())))) 0) fun (y16 : Unit ⊕ Bool) =>
sm y16 (fun y39 => bn (l11_awake_sh n) fun v41 =>
some v41) (fun y40 => some y40)))
set_option maxRecDepth 8000 in
set_option maxHeartbeats 8000000 in
theorem s_l11_SpaceWhole {n : Nat} {a0 : List Int} {a1 : List Int} {r : Bool} (h : l11_SpaceWhole_sh n a0 a1 = some r) : Sound Try.prog 12 [.l (.d false 1 (encU a0)), .l (.d false 1 (encU a1))] [] (.l (.s (.bool r))) [] := by
  unfold l11_SpaceWhole_sh at h
  refine Sound.of_aw (fn := Try.f12) (c := _) Try.func12 rfl (by simp [Try.f12]) fun cx hG hnb => ?_
  rw [show Try.f12.ntmps = 90 from rfl]
  have hn0 : cx.nb = 0 := hnb
  simp only [st0_mk, initTm, List.map_cons, List.map_nil]
  apply AW.step
  · simp
    intros; rfl
  refine AW.seq ?_
  replace h := bnE h; obtain ⟨y1, g1, h⟩ := h
  refine AW.flow (p := fun gh ls => (nP (cx := cx) (fun q => (⟨[(0, .l (.d false 1 (encU a0))), (1, .l (.d false 1 (encU a1))), (22, .l (.s (.bool q)))], [], 90, gh, ls⟩ : St))) y1) ?_ ?_
  · replace h := g1; clear g1
    replace h := ltE h; obtain ⟨v2, e2, h⟩ := h
    replace h := ltE h; obtain ⟨v3, e3, h⟩ := h
    cases v3 with
    | true =>
      replace h := iteT rfl h
      apply AW.last
      · simp [lenI_cast e2, ← e3]
        intros; rfl
      obtain rfl := Option.some.inj h
      refine nP_i ?_
      refine Weak.mixN [] hn0 (by decide) ?_ ?_ rfl
      all_goals first | (simp [inv_cons, inv_nil, pickOb]; done) | rfl
    | false =>
      replace h := iteF rfl h
      replace h := ltE h; obtain ⟨v4, e4, h⟩ := h
      replace h := ltE h; obtain ⟨v5, e5, h⟩ := h
      apply AW.last
      · simp [lenI_cast e2, ← e3, lenI_cast e4, ← e5]
        intros; rfl
      obtain rfl := Option.some.inj h
      refine nP_i ?_
      refine Weak.mixN [] hn0 (by decide) ?_ ?_ rfl
      all_goals first | (simp [inv_cons, inv_nil, pickOb]; done) | rfl
  · rintro e s hp
    obtain ⟨rfl, hw⟩ := hp
    refine ⟨_, hw, ?_⟩
    try simp only [sp_l, sp_r, Post.seq, Post.block, Nat.reduceEqDiff, reduceIte, Nat.zero_ne_one, Nat.one_ne_zero]
    replace h := ltE h; obtain ⟨v6, e6, h⟩ := h
    rw [← e6]
    cases v6 with
    | true =>
      replace h := iteT rfl h
      refine AW.cond_true (by simp) ?_
      replace h := bnE h; obtain ⟨v7, e7, h⟩ := h
      apply AW.step
      · simp
        intros
        refine xcall_plain en_l11_awake (s_l11_awake e7) rfl trivial ?_
        try simp
        intros; rfl
      obtain rfl := Option.some.inj h
      refine AW.ret ?_
      refine Left.plain hnb (by simp [Try.f12, resV, resC, comp]; rfl) rfl rfl ?_
      simp
    | false =>
      replace h := iteF rfl h
      refine AW.cond_false (by simp) ?_
      refine AW.skip ?_
      try simp only [sp_l, sp_r, Post.seq, Post.block, Nat.reduceEqDiff, reduceIte, Nat.zero_ne_one, Nat.one_ne_zero]
      try simp only [sp_l, sp_r, Post.seq, Post.block, Nat.reduceEqDiff, reduceIte, Nat.zero_ne_one, Nat.one_ne_zero]
      replace h := bnE h; obtain ⟨v8, e8, h⟩ := h
      replace h := bnE h; obtain ⟨v9, e9, h⟩ := h
      apply AW.step
      · simp
        intros
        refine xcall_plain en_l11_Make (s_l11_Make e8) rfl ⟨.same rfl, trivial⟩ ?_
        try simp
        intros
        refine xcall_plain en_l11_Effects (s_l11_Effects e9) rfl ⟨.same rfl, trivial⟩ ?_
        try simp
        intros; rfl
      refine AW.seq ?_
      replace h := bnE h; obtain ⟨v10, e10, h⟩ := h
      replace h := bnE h; obtain ⟨v11, e11, h⟩ := h
      replace h := bnE h; obtain ⟨v12, e12, h⟩ := h
      replace h := ltE h; obtain ⟨v13, e13, h⟩ := h
      apply AW.step
      · simp [← e13]
        intros
        refine xcall_plain en_space_All (s_space_All e10) rfl ⟨.same rfl, trivial⟩ ?_
        try simp [← e13]
        intros
        refine xcall_plain en_space_Apply (s_space_Apply e11) rfl ⟨.nil _ _, .same rfl, trivial⟩ ?_
        try simp [← e13]
        intros
        refine xcall_plain en_space_Same (s_space_Same e12) rfl ⟨.same rfl, .same rfl, trivial⟩ ?_
        try simp [← e13]
        intros; rfl
      cases v13 with
      | true =>
        replace h := iteT rfl h
        refine AW.cond_true (by simp) ?_
        apply AW.step
        · simp
          intros; rfl
        obtain rfl := Option.some.inj h
        refine AW.ret ?_
        refine Left.plain hnb (by simp [Try.f12, resV, resC, comp]; rfl) rfl rfl ?_
        simp
      | false =>
        replace h := iteF rfl h
        refine AW.cond_false (by simp) ?_
        refine AW.skip ?_
        try simp only [sp_l, sp_r, Post.seq, Post.block, Nat.reduceEqDiff, reduceIte, Nat.zero_ne_one, Nat.one_ne_zero]
        try simp only [sp_l, sp_r, Post.seq, Post.block, Nat.reduceEqDiff, reduceIte, Nat.zero_ne_one, Nat.one_ne_zero]
        replace h := bnE h; obtain ⟨v14, e14, h⟩ := h
        apply AW.step
        · simp
          intros
          refine xcall_plain en_space_Apply (s_space_Apply e14) rfl ⟨.same rfl, .same rfl, trivial⟩ ?_
          try simp
          intros; rfl
        refine AW.seq ?_
        apply AW.step
        · simp
          intros; rfl
        refine AW.block ?_
        replace h := bnE h; obtain ⟨y16, g16, h⟩ := h
        refine AW.iterP g16 (mk := fun gh ls q => (⟨[(5, .l (.d false 6 (encPair v8))), (6, .l (.d false 7 (encEffect v9))), (7, .l (.d false 6 (encPair v14))), (8, .l (.s (.int .i64 q)))], [], 90, gh, ls⟩ : St)) (N := fun gh ls => (sp (xP 0 (cx := cx) (fun _ => (⟨[], [], 90, gh, ls⟩ : St))) (rP (cx := cx) (P := Try.prog) Try.f12 (fun q => .l (.s (.bool q))) (fun q => [])))) ?_ (noS noX noR) ?_ ?_
        · refine Weak.mixN [] hn0 (by decide) ?_ ?_ rfl
          all_goals first | (simp [inv_cons, inv_nil, pickOb]; done) | rfl
        · clear h; intro y15 y17 h
          refine AW.seq ?_
          replace h := ltE h; obtain ⟨v18, e18, h⟩ := h
          apply AW.step
          · simp [← e18]
            intros; rfl
          cases v18 with
          | true =>
            replace h := iteT rfl h
            refine AW.cond_true (by simp) ?_
            refine AW.skip ?_
            try simp only [sp_l, sp_r, Post.seq, Post.block, Nat.reduceEqDiff, reduceIte, Nat.zero_ne_one, Nat.one_ne_zero]
            try simp only [sp_l, sp_r, Post.seq, Post.block, Nat.reduceEqDiff, reduceIte, Nat.zero_ne_one, Nat.one_ne_zero]
            refine AW.seq ?_
            refine AW.block ?_
            replace h := ltE h; obtain ⟨v19, e19, h⟩ := h
            replace h := bnE h; obtain ⟨v20, e20, h⟩ := h
            apply AW.step
            · simp [← e19]
              intros
              refine xcall_plain en_l11_Key (s_l11_Key e20) rfl ⟨.same rfl, trivial⟩ ?_
              try simp [← e19]
              intros; rfl
            replace h := bnE h; obtain ⟨v21, e21, h⟩ := h
            apply AW.step
            · simp
              intros
              refine xcall_plain en_space_Raw (s_space_Raw e21) rfl ⟨.same rfl, .same rfl, trivial⟩ ?_
              try simp
              intros; rfl
            refine AW.seq ?_
            apply AW.step
            · simp
              intros; rfl
            refine AW.block ?_
            replace h := bnE h; obtain ⟨y23, g23, h⟩ := h
            refine AW.iterP g23 (mk := fun gh ls q => (⟨[(5, .l (.d false 6 (encPair v8))), (6, .l (.d false 7 (encEffect v9))), (7, .l (.d false 6 (encPair v14))), (8, .l (.s (.int .i64 y15))), (9, .l (.s (.string v20))), (10, .l (.p 0 0)), (11, .l (.s (.bool q.1))), (12, .l (.s (.int .i64 q.2.1)))], [some ⟨34, 5, false, none, [.s (.int .i64 q.2.2.1), .s (.string q.2.2.2.1), .d false 2 (encField q.2.2.2.2.1), .d false 1 (encS q.2.2.2.2.2.1), .s (.int .i64 q.2.2.2.2.2.2)]⟩], 90, gh, ls⟩ : St)) (N := fun gh ls => (xP 2 (cx := cx) (fun q => (⟨[(5, .l (.d false 6 (encPair v8))), (6, .l (.d false 7 (encEffect v9))), (7, .l (.d false 6 (encPair v14))), (8, .l (.s (.int .i64 y15))), (9, .l (.s (.string v20))), (10, .l (.p 0 0)), (11, .l (.s (.bool q.1)))], [some ⟨34, 5, false, none, [.s (.int .i64 q.2.1), .s (.string q.2.2.1), .d false 2 (encField q.2.2.2.1), .d false 1 (encS q.2.2.2.2.1), .s (.int .i64 q.2.2.2.2.2)]⟩], 90, gh, ls⟩ : St)))) ?_ noX ?_ ?_
            · refine Weak.mixN [some 0] hn0 (by decide) ?_ ?_ rfl
              all_goals first | (simp [inv_cons, inv_nil, pickOb]; done) | rfl
            · clear h; intro y22 y24 h
              refine AW.seq ?_
              replace h := ltE h; obtain ⟨v25, e25, h⟩ := h
              replace h := ltE h; obtain ⟨v26, e26, h⟩ := h
              apply AW.step
              · simp [lenI_cast e25, ← e26]
                intros; rfl
              cases v26 with
              | true =>
                replace h := iteT rfl h
                refine AW.cond_true (by simp) ?_
                refine AW.skip ?_
                try simp only [sp_l, sp_r, Post.seq, Post.block, Nat.reduceEqDiff, reduceIte, Nat.zero_ne_one, Nat.one_ne_zero]
                try simp only [sp_l, sp_r, Post.seq, Post.block, Nat.reduceEqDiff, reduceIte, Nat.zero_ne_one, Nat.one_ne_zero]
                replace h := bnE h; obtain ⟨y27, g27, h⟩ := h
                refine AW.flow (p := fun gh ls => (nP (cx := cx) (fun q => (⟨[(5, .l (.d false 6 (encPair v8))), (6, .l (.d false 7 (encEffect v9))), (7, .l (.d false 6 (encPair v14))), (8, .l (.s (.int .i64 y15))), (9, .l (.s (.string v20))), (10, .l (.p 0 0)), (11, .l (.s (.bool q.1))), (12, .l (.s (.int .i64 y22.2.1)))], [some ⟨34, 5, false, none, [.s (.int .i64 q.2.1), .s (.string q.2.2.1), .d false 2 (encField q.2.2.2.1), .d false 1 (encS q.2.2.2.2.1), .s (.int .i64 q.2.2.2.2.2)]⟩], 90, gh, ls⟩ : St))) y27) ?_ ?_
                · replace h := g27; clear g27
                  refine AW.block ?_
                  replace h := bnE h; obtain ⟨v28, e28, h⟩ := h
                  replace h := ltE h; obtain ⟨v29, e29, h⟩ := h
                  apply AW.step
                  · simp [nth_d e28, ← e29]
                    intros; rfl
                  cases v29 with
                  | true =>
                    replace h := iteT rfl h
                    refine AW.cond_true (by simp) ?_
                    apply AW.step
                    · simp [nth_d e28]
                      intros; rfl
                    replace h := ltE h; obtain ⟨v30, e30, h⟩ := h
                    apply AW.last
                    · simp [nth_d e28, ← e30]
                      intros; rfl
                    obtain rfl := Option.some.inj h
                    refine nP_i ?_
                    refine Weak.mixN [some 0] hn0 (by decide) ?_ ?_ rfl
                    all_goals first | (simp [inv_cons, inv_nil, pickOb]; done) | rfl
                  | false =>
                    replace h := iteF rfl h
                    refine AW.cond_false (by simp) ?_
                    refine AW.skip ?_
                    try simp only [sp_l, sp_r, Post.seq, Post.block, Nat.reduceEqDiff, reduceIte, Nat.zero_ne_one, Nat.one_ne_zero]
                    obtain rfl := Option.some.inj h
                    refine nP_i ?_
                    refine Weak.mixN [some 0] hn0 (by decide) ?_ ?_ rfl
                    all_goals first | (simp [inv_cons, inv_nil, pickOb]; done) | rfl
                · rintro e s hp
                  obtain ⟨rfl, hw⟩ := hp
                  refine ⟨_, hw, ?_⟩
                  try simp only [sp_l, sp_r, Post.seq, Post.block, Nat.reduceEqDiff, reduceIte, Nat.zero_ne_one, Nat.one_ne_zero]
                  replace h := ltE h; obtain ⟨v31, e31, h⟩ := h
                  apply AW.last
                  · simp [← e31]
                    intros; rfl
                  obtain rfl := Option.some.inj h
                  refine nP_i ?_
                  refine Weak.mixN [some 0] hn0 (by decide) ?_ ?_ rfl
                  all_goals first | (simp [inv_cons, inv_nil, pickOb]; done) | rfl
              | false =>
                replace h := iteF rfl h
                refine AW.cond_false (by simp) ?_
                refine AW.exit ?_
                try simp only [sp_l, sp_r, Post.seq, Post.block, Nat.reduceEqDiff, reduceIte, Nat.zero_ne_one, Nat.one_ne_zero]
                obtain rfl := Option.some.inj h
                refine xP_i ?_
                refine Weak.mixN [some 0] hn0 (by decide) ?_ ?_ rfl
                all_goals first | (simp [inv_cons, inv_nil, pickOb]; done) | rfl
            · rintro e s hp
              obtain ⟨rfl, hw⟩ := hp
              refine ⟨_, hw, ?_⟩
              try simp only [sp_l, sp_r, Post.seq, Post.block, Nat.reduceEqDiff, reduceIte, Nat.zero_ne_one, Nat.one_ne_zero]
              replace h := bnE h; obtain ⟨v32, e32, h⟩ := h
              apply AW.step
              · simp
                intros
                refine xcall_plain en_space_Raw (s_space_Raw e32) rfl ⟨.same rfl, .same rfl, trivial⟩ ?_
                try simp
                intros; rfl
              replace h := bnE h; obtain ⟨y33, g33, h⟩ := h
              refine AW.flow (p := fun gh ls => (nP (cx := cx) (fun q => (⟨[(5, .l (.d false 6 (encPair v8))), (6, .l (.d false 7 (encEffect v9))), (7, .l (.d false 6 (encPair v14))), (8, .l (.s (.int .i64 y15))), (88, .l (.s (.bool q)))], [], 90, gh, ls⟩ : St))) y33) ?_ ?_
              · replace h := g33; clear g33
                replace h := ltE h; obtain ⟨v34, e34, h⟩ := h
                cases v34 with
                | true =>
                  replace h := iteT rfl h
                  apply AW.last
                  · simp [← e34]
                    intros; rfl
                  obtain rfl := Option.some.inj h
                  refine nP_i ?_
                  refine Weak.mixN [] hn0 (by decide) ?_ ?_ rfl
                  all_goals first | (simp [inv_cons, inv_nil, pickOb]; done) | rfl
                | false =>
                  replace h := iteF rfl h
                  replace h := bnE h; obtain ⟨v35, e35, h⟩ := h
                  replace h := ltE h; obtain ⟨v36, e36, h⟩ := h
                  apply AW.last
                  · simp [← e34, ← e36]
                    intros
                    refine xcall_plain en_r5_SameItem (s_r5_SameItem e35) rfl ⟨.same rfl, .same rfl, trivial⟩ ?_
                    try simp [← e34, ← e36]
                    intros; rfl
                  obtain rfl := Option.some.inj h
                  refine nP_i ?_
                  refine Weak.mixN [] hn0 (by decide) ?_ ?_ rfl
                  all_goals first | (simp [inv_cons, inv_nil, pickOb]; done) | rfl
              · rintro e s hp
                obtain ⟨rfl, hw⟩ := hp
                refine ⟨_, hw, ?_⟩
                try simp only [sp_l, sp_r, Post.seq, Post.block, Nat.reduceEqDiff, reduceIte, Nat.zero_ne_one, Nat.one_ne_zero]
                replace h := ltE h; obtain ⟨v37, e37, h⟩ := h
                rw [← e37]
                cases v37 with
                | true =>
                  replace h := iteT rfl h
                  refine AW.cond_true (by simp) ?_
                  apply AW.step
                  · simp
                    intros; rfl
                  obtain rfl := Option.some.inj h
                  refine AW.ret ?_
                  try simp only [sp_l, sp_r, Post.seq, Post.block, Nat.reduceEqDiff, reduceIte, Nat.zero_ne_one, Nat.one_ne_zero]
                  refine rP_i ?_
                  refine Left.plain hnb (by simp [Try.f12, resV, resC, comp]; rfl) rfl rfl ?_
                  simp
                | false =>
                  replace h := iteF rfl h
                  refine AW.cond_false (by simp) ?_
                  refine AW.skip ?_
                  try simp only [sp_l, sp_r, Post.seq, Post.block, Nat.reduceEqDiff, reduceIte, Nat.zero_ne_one, Nat.one_ne_zero]
                  try simp only [sp_l, sp_r, Post.seq, Post.block, Nat.reduceEqDiff, reduceIte, Nat.zero_ne_one, Nat.one_ne_zero]
                  replace h := ltE h; obtain ⟨v38, e38, h⟩ := h
                  apply AW.last
                  · simp [← e38]
                    intros; rfl
                  obtain rfl := Option.some.inj h
                  refine nP_i ?_
                  refine Weak.mixN [] hn0 (by decide) ?_ ?_ rfl
                  all_goals first | (simp [inv_cons, inv_nil, pickOb]; done) | rfl
          | false =>
            replace h := iteF rfl h
            refine AW.cond_false (by simp) ?_
            refine AW.exit ?_
            try simp only [sp_l, sp_r, Post.seq, Post.block, Nat.reduceEqDiff, reduceIte, Nat.zero_ne_one, Nat.one_ne_zero]
            obtain rfl := Option.some.inj h
            try simp only [sp_l, sp_r]
            refine xP_i ?_
            refine Weak.mixN [] hn0 (by decide) ?_ ?_ rfl
            all_goals first | (simp [inv_cons, inv_nil, pickOb]; done) | rfl
        · rintro e s hp
          rcases y16 with y39 | y40
          · replace h := smL h
            obtain ⟨rfl, hw⟩ := hp
            refine ⟨_, hw, ?_⟩
            try simp only [sp_l, sp_r, Post.seq, Post.block, Nat.reduceEqDiff, reduceIte, Nat.zero_ne_one, Nat.one_ne_zero]
            replace h := bnE h; obtain ⟨v41, e41, h⟩ := h
            apply AW.step
            · simp
              intros
              refine xcall_plain en_l11_awake (s_l11_awake e41) rfl trivial ?_
              try simp
              intros; rfl
            obtain rfl := Option.some.inj h
            refine AW.ret ?_
            refine Left.plain hnb (by simp [Try.f12, resV, resC, comp]; rfl) rfl rfl ?_
            simp
          · replace h := smR h
            obtain ⟨rfl, hl⟩ := hp
            refine ⟨_, Weak.refl _, ?_⟩
            obtain rfl := Option.some.inj h
            exact hl
end Go.Proofs.Ytlkhfdccapkcdaa

/- Plain laws: spaces by numbers, their keys and slots. -/
namespace Go.Proofs.Ytlkhfdccapkcdaa
open Go Go.RowKit
set_option linter.unusedVariables false
set_option linter.unusedSimpArgs false
theorem awake11_ok : l11_awake_sh big = some true := by kernel_rfl
/-! ### Keys by numbers -/
def keyT (j : Nat) : ByteArray := (l11_Key_sh big (j : Int)).getD ⟨#[]⟩
theorem Key_mod (n : Int) (h : 0 ≤ n) (h2 : n ≤ 255) : l11_Key_sh big n = l11_Key_sh big (n % 20) := by
  unfold l11_Key_sh
  rw [remI_pos h (by omega), remI_pos (show 0 ≤ n % 20 by omega) (by omega), cvI_64 (by omega) (by omega), cvI_64 (show -9223372036854775808 ≤ n % 20 by omega) (by omega)]
  simp only [bn_some, lt_eq]
  rw [quoI_64 h (by omega) (by omega), quoI_64 (show 0 ≤ n % 20 by omega) (by omega) (by omega)]
  simp only [bn_some]
  rw [remI_pos (by omega) (by omega), remI_pos (show 0 ≤ n % 20 / 4 by omega) (by omega), show n % 20 % 4 = n % 4 by omega, show n % 20 / 4 % 5 = n / 4 % 5 by omega]
def keysB : Bool := (List.range 20).all fun j => (l11_Key_sh big (j : Int)).isSome && decide ((keyT j).size = 4) && decide (slotOf (keyT j) = slotOf (keyT (j % 4)))
theorem keysB_ok : keysB = true := by kernel_rfl
def slotsB : Bool := (List.range 4).all fun a => (List.range 4).all fun b => decide (a = b) || !decide (slotOf (keyT a) = slotOf (keyT b))
theorem keyT_ok {j : Nat} (h : j < 20) : l11_Key_sh big (j : Int) = some (keyT j) ∧ (keyT j).size = 4 ∧ slotOf (keyT j) = slotOf (keyT (j % 4)) := by
  have h1 := List.all_eq_true.1 keysB_ok j (List.mem_range.2 h)
  simp only [Bool.and_eq_true, decide_eq_true_eq] at h1
  refine ⟨?_, h1.1.2, h1.2⟩
  unfold keyT
  cases h2 : l11_Key_sh big (j : Int) with
  | none => rw [h2] at h1; simp at h1
  | some v => rfl
theorem Key_told (n : Int) (h : 0 ≤ n) (h2 : n ≤ 255) : ∃ j : Nat, j < 20 ∧ (j : Int) = n % 20 ∧ l11_Key_sh big n = some (keyT j) := by
  refine ⟨(n % 20).toNat, by omega, by omega, ?_⟩
  rw [Key_mod n h h2, ← (keyT_ok (show (n % 20).toNat < 20 by omega)).1]
  congr 1
  omega
def keyed (k : ByteArray) : Prop := ∃ j, j < 20 ∧ k = keyT j
theorem effAt_key (l : List Int) (hl : u8s l) (i : Nat) (h : 4 * i + 3 < l.length) (e : Effect) (he : effAt l i = some e) : keyed e.key ∧ (e.gone = true → e.item = noI) := by
  have hb0 := hl _ (List.getElem_mem (show 4 * i < l.length by omega))
  have hb1 := hl _ (List.getElem_mem (show 4 * i + 1 < l.length by omega))
  unfold effAt at he
  rw [nth_some (show 4 * i < l.length by omega), nth_some (show 4 * i + 1 < l.length by omega)] at he
  simp only [bn_some] at he
  obtain ⟨j, hj, -, hk⟩ := Key_told _ hb0.1 hb0.2
  rw [hk, remI_pos hb1.1 (by omega)] at he
  simp only [bn_some] at he
  cases hg : eqI (l[4 * i + 1] % 4) 0
  · rw [hg] at he
    obtain ⟨y, hy, he⟩ := bnE he
    have he := Option.some.inj he
    subst he
    exact ⟨⟨j, hj, rfl⟩, fun h => by simp at h⟩
  · rw [hg] at he
    simp only [notB_t, ite_f, bn_some, Option.some.injEq] at he
    subst he
    exact ⟨⟨j, hj, rfl⟩, fun _ => rfl⟩
/-- Effects by numbers. -/
def okM (m : List Effect) : Prop := m.length ≤ 40 ∧ ∀ e ∈ m, okI e.item ∧ keyed e.key ∧ (e.gone = true → e.item = noI)
theorem Effects_made (l : List Int) (hl : u8s l) (h : l.length ≤ 1000000000) : Rn (l11_Effects_sh big l) okM := by
  refine (Effects_told l hl h).mono fun m hm => ?_
  obtain ⟨h1, h2, h3⟩ := hm
  refine ⟨by omega, fun e he => ⟨h3 e he, ?_⟩⟩
  obtain ⟨i, hi, rfl⟩ := List.getElem_of_mem he
  exact effAt_key l hl i (by omega) _ (by rw [h2 i hi, List.getElem?_eq_getElem hi])
/-! ### What effects make of keys -/
theorem foldA_keys (Q : ByteArray → Prop) : ∀ (es : List Effect) (l : List Pair), (∀ p ∈ l, Q p.key) → (∀ e ∈ es, Q e.key) → ∀ p ∈ es.foldl applyP l, Q p.key
  | [], l, h1, _ => h1
  | e :: es, l, h1, h2 => by
    refine foldA_keys Q es (applyP l e) (fun p hp => ?_) fun x hx => h2 x (by simp [hx])
    unfold applyP newP at hp
    rcases List.mem_append.1 hp with hp | hp
    · rcases List.mem_append.1 hp with hp | hp
      · exact h1 p (List.mem_filter.1 hp).1
      · split at hp
        · simp at hp
        · simp at hp; subst hp; exact h2 e (by simp)
    · exact h1 p (List.mem_filter.1 hp).1
def setO (k : ByteArray) (o : Option Item) (e : Effect) : Option Item := if e.key = k then (if e.gone then none else some e.item) else o
theorem rawP_apply {l : List Pair} (h : SrtP l) (e : Effect) (k : ByteArray) : rawP (applyP l e) k = setO k (rawP l k) e := by
  obtain ⟨A, B, C, rfl, hA, hC, hB⟩ := shapeG (key := Pair.key) e.key l h
  rw [applyP_shape hA hC hB]
  unfold setO
  by_cases hk : e.key = k
  · subst hk
    have hn : newP e = [] ∨ ∃ x, newP e = [x] ∧ x.key = e.key := by
      unfold newP
      split
      · exact .inl rfl
      · exact .inr ⟨_, rfl, rfl⟩
    rw [rawP_shape hA hC hn, if_pos rfl]
    unfold newP
    split <;> rfl
  · rw [if_neg hk]
    have h1 : (newP e).find? (fun p => decide (p.key = k)) = none := List.find?_eq_none.2 fun p hp => by
      unfold newP at hp
      split at hp
      · simp at hp
      · simp at hp; subst hp; simpa using hk
    have h2 : B.find? (fun p => decide (p.key = k)) = none := List.find?_eq_none.2 fun p hp => by
      rcases hB with rfl | ⟨x, rfl, hx⟩
      · simp at hp
      · simp at hp; subst hp; simpa [hx] using hk
    unfold rawP
    simp only [List.find?_append, h1, h2]
theorem rawP_fold (k : ByteArray) : ∀ (es : List Effect) (l : List Pair), SrtP l → rawP (es.foldl applyP l) k = es.foldl (setO k) (rawP l k)
  | [], l, _ => rfl
  | e :: es, l, h => by rw [List.foldl_cons, rawP_fold k es _ (applyP_srt h e), rawP_apply h, List.foldl_cons]
/-- A space by numbers. -/
def okDB (db : List Pair) : Prop := SrtP db ∧ okP db ∧ db.length ≤ 40 ∧ ∀ p ∈ db, keyed p.key
theorem Make_told (ns : List Int) (hu : u8s ns) (h : ns.length ≤ 1000000000) : Rn (l11_Make_sh big ns) okDB := by
  unfold l11_Make_sh
  refine Rn.bn (Effects_made ns hu h) fun m hm => ?_
  obtain ⟨h1, h2⟩ := hm
  have ho : ∀ e ∈ m, okI e.item := fun e he => (h2 e he).1
  refine Rn.bnE (r_Apply_ok [] m .nil (by simp [okP]) ho (by simp; omega)) (Rn.some ?_)
  obtain ⟨g1, g2, g3⟩ := dbOf_ok ho
  exact ⟨g1, g2, by have := g3; unfold dbOf at this; omega, foldA_keys keyed m [] (by simp) fun e he => (h2 e he).2.1⟩
/-! ### SpaceSlots -/
def cntS (f : Nat → Nat) : Nat → Nat
  | 0 => 0
  | k + 1 => cntS f k + f k
/-! ### SpaceDead -/
def hasS (l : List ByteArray) (x : ByteArray) : Bool := l.any fun y => decide (y = x)
/-! ### SpaceWhole -/
theorem SpaceWhole_ok (ns es : List Int) (hu : u8s ns) (hv : u8s es) : l11_SpaceWhole_sh big ns es = some true := by
  refine Rn.eq ?_
  unfold l11_SpaceWhole_sh
  refine Rn.bn (P := fun b => b = false → ns.length ≤ 160 ∧ es.length ≤ 80) ?_ fun b hb => Rn.lt (Rn.ite (fun _ => Rn.bnE awake11_ok (Rn.some rfl)) (fun hg => ?_))
  · refine Rn.lt (Rn.lt (Rn.ite (fun _ => Rn.some (by simp)) (fun g1 => Rn.lt (Rn.lt (Rn.some fun g2 => ?_)))))
    have g1 := gtI_n g1
    have g2 := gtI_n g2
    simp only [lenI] at g1 g2
    omega
  obtain ⟨hn, hk⟩ := hb hg
  clear hb hg
  refine Rn.bn (Make_told ns hu (by omega)) fun db hdb => ?_
  obtain ⟨d1, d2, d3, d4⟩ := hdb
  refine Rn.bn (Effects_made es hv (by omega)) fun m hm => ?_
  obtain ⟨m1, m2⟩ := hm
  have hmo : ∀ e ∈ m, okI e.item := fun e he => (m2 e he).1
  refine Rn.bnE (space_All_ok db d2 (by omega)) ?_
  have hall : (allP db).foldl applyP [] = db := by simpa using fold_allP db [] (by simpa using d1)
  have hao : ∀ e ∈ allP db, okI e.item := fun e he => by
    simp only [allP, List.mem_map] at he
    obtain ⟨p, hp, rfl⟩ := he
    exact d2 p hp
  refine Rn.bnE ((space_Apply_ok [] (allP db) .nil (by simp [okP]) hao (by simp [allP]; omega)).trans (by rw [hall])) ?_
  refine Rn.bnE (space_Same_dec db db (by omega) d2) (Rn.lt ?_)
  rw [decide_eq_true rfl, notB_t, ite_f]
  refine Rn.bnE (space_Apply_ok db m d1 d2 hmo (by omega)) ?_
  obtain ⟨f1, f2, f3⟩ := foldA_inv m db d1 d2 hmo
  refine Rn.bnE (v := .inl ()) ?_ ?_
  · refine iter_run (fun i => (i : Int)) 20 (by unfold big; omega) rfl (fun i hi => ?_) ?_
    · simp only [lt_eq]
      rw [ltI_t (by omega), ite_t, show cvI .u8 (i : Int) = (i : Int) by unfold cvI; simp [IntKind.wrap, IntKind.bits, IntKind.signed]; omega, (keyT_ok hi).1]
      simp only [bn_some]
      rw [space_Raw_ok db _ d1 d2 (by omega), space_Raw_ok _ _ f1 f2 (by omega), rawP_fold _ m db d1]
      simp only [bn_some]
      have hr := rawP_fold (keyT i) m db d1
      have hro : okI ((m.foldl (setO (keyT i)) (rawP db (keyT i))).getD noI) := okI_getD fun it h => rawP_ok f2 (hr.trans h)
      refine bn_fold m (setO (keyT i)) (fun q o => (o.isSome, (q : Int), (o.getD noI).kind, (o.getD noI).s, (o.getD noI).f, (o.getD noI).l, (o.getD noI).exp)) (rawP db (keyT i)) ((m.foldl (setO (keyT i)) (rawP db (keyT i))).isSome, ((m.foldl (setO (keyT i)) (rawP db (keyT i))).getD noI).kind, ((m.foldl (setO (keyT i)) (rawP db (keyT i))).getD noI).s, ((m.foldl (setO (keyT i)) (rawP db (keyT i))).getD noI).f, ((m.foldl (setO (keyT i)) (rawP db (keyT i))).getD noI).l, ((m.foldl (setO (keyT i)) (rawP db (keyT i))).getD noI).exp) (by omega) rfl (fun q hq o ho => ?_) ?_ ?_
      · simp only [lt_eq, bn_some, ite_t, ite_f, sm_inl, sm_inr, lenI_eq, Option.some.injEq]
        rw [ltI_t (by omega), nth_some hq]
        simp only [lt_eq, bn_some, ite_t, ite_f, sm_inl, sm_inr, lenI_eq, Option.some.injEq]
        obtain ⟨q1, q2, q3⟩ := m2 _ (List.getElem_mem hq)
        rw [addI_64 (by omega) (by omega)]
        unfold setO eqS
        by_cases hkey : m[q].key = keyT i
        · rw [if_pos hkey, decide_eq_true hkey, ite_t]
          cases hgone : m[q].gone
          · rfl
          · rw [q3 hgone]
            rfl
        · rw [if_neg hkey, decide_eq_false hkey, ite_f]
          rfl
      · simp only [lt_eq, bn_some, ite_t, ite_f, sm_inl, sm_inr, lenI_eq, Option.some.injEq]
        rw [ltI_f (by omega)]
        rfl
      · simp only [lt_eq, bn_some, ite_t, ite_f, sm_inl, sm_inr, lenI_eq, Option.some.injEq]
        rw [show neB (m.foldl (setO (keyT i)) (rawP db (keyT i))).isSome (m.foldl (setO (keyT i)) (rawP db (keyT i))).isSome = false by simp, ite_f]
        generalize (m.foldl (setO (keyT i)) (rawP db (keyT i))).getD noI = it at hro ⊢
        rw [r_SameItem_refl it hro]
        simp only [lt_eq, bn_some, ite_t, ite_f, sm_inl, sm_inr, lenI_eq, Option.some.injEq, notB_t]
        rw [addI_64 (by omega) (by omega)]
        rfl
    · simp only [lt_eq]
      rw [ltI_f (by omega)]
      rfl
  · rw [sm_inl]
    exact Rn.bnE awake11_ok (Rn.some rfl)
end Go.Proofs.Ytlkhfdccapkcdaa

/- What is read as data of the program's structs. -/
namespace Go.Proofs.Ytlkhfdccapkcdaa
open Go Go.RowKit
set_option linter.unusedVariables false
set_option linter.unusedSimpArgs false
set_option linter.constructorNameAsVariable false
set_option maxRecDepth 100000
section
variable {P : Program} {n t : Nat} {ts : List T}
theorem WfT.bool (hu : P.underlying t = some .bool) (h : WfT P (n + 1) t ts) : ∃ b, ts = [.v (.bool b)] := by rw [WfT, hu] at h; exact h
theorem WfT.int {k : IntKind} (hu : P.underlying t = some (.int k)) (h : WfT P (n + 1) t ts) : ∃ i, ts = [.v (.int k i)] ∧ (Lit.int k i).wf = true := by rw [WfT, hu] at h; exact h
theorem WfT.slice {e : Nat} (hu : P.underlying t = some (.slice e)) (h : WfT P (n + 1) t ts) : ∃ es, ts = [.sl (P.cellsOf e) es] ∧ es.length * P.bytesOf e ≤ reachBytes ∧ ∀ x ∈ es, WfT P n e x := by rw [WfT, hu] at h; exact h
theorem WfT.struct {fs : Array Go.Field} (hu : P.underlying t = some (.struct fs)) (h : WfT P (n + 1) t ts) : ∃ ps : List (List T), ts = ps.flatten ∧ All2 (fun p f => WfT P n f p) ps (fs.toList.map (·.type)) := by rw [WfT, hu] at h; exact h
end
theorem All2.cons_r {α β : Type} {R : α → β → Prop} {l : List α} {b : β} {bs : List β} (h : All2 R l (b :: bs)) : ∃ x xs, l = x :: xs ∧ R x b ∧ All2 R xs bs := by
  cases l with
  | nil => exact h.elim
  | cons x xs => exact ⟨x, xs, rfl, h⟩
theorem All2.nil_r {α β : Type} {R : α → β → Prop} {l : List α} (h : All2 R l ([] : List β)) : l = [] := by
  cases l with
  | nil => rfl
  | cons x xs => exact h.elim
def rngI (i : Int) : Prop := -9223372036854775808 ≤ i ∧ i ≤ 9223372036854775807
theorem wf_list {α : Type} {enc : List α → List (List T)} {R : List T → Prop} {rng : α → Prop} (hn : enc [] = []) (hc : ∀ x l, enc (x :: l) = enc [x] ++ enc l) (h1 : ∀ e, R e → ∃ x, enc [x] = [e] ∧ rng x) :
    ∀ es, (∀ x ∈ es, R x) → ∃ l, es = enc l ∧ ∀ x ∈ l, rng x
  | [], _ => ⟨[], hn.symm, fun x h => by cases h⟩
  | e :: es, h => by
    obtain ⟨x, hx, rx⟩ := h1 e (h e (by simp))
    obtain ⟨l, rfl, rl⟩ := wf_list hn hc h1 es fun y hy => h y (by simp [hy])
    refine ⟨x :: l, by rw [hc, hx]; rfl, ?_⟩
    intro y hy
    rcases List.mem_cons.1 hy with rfl | hy
    · exact rx
    · exact rl y hy
/-- Bytes. -/
def rngU (i : Int) : Prop := 0 ≤ i ∧ i ≤ 255
theorem wf_U (n : Nat) (e : List T) (h : WfT Try.prog (n + 1) 5 e) : ∃ x : Int, encU [x] = [e] ∧ rngU x := by
  obtain ⟨f, rfl, h2⟩ := WfT.int (t := 5) Try.underlying5 h
  have h' := (Bool.and_eq_true _ _ ▸ h2 : _ ∧ _)
  have h1 := of_decide_eq_true h'.1
  have h2 := of_decide_eq_true h'.2
  exact ⟨f, rfl, h1, h2⟩
theorem wf_Us {n : Nat} {es : List (List T)} (h : ∀ x ∈ es, WfT Try.prog (n + 1) 5 x) : ∃ l : List Int, es = encU l ∧ ∀ x ∈ l, rngU x :=
  wf_list (enc := encU) (R := fun e => WfT Try.prog (n + 1) 5 e) (rng := rngU) rfl (fun _ _ => rfl) (@wf_U n) es h
def rngField (x : Field) : Prop := True
def rngItem (x : Item) : Prop := (rngI x.kind) ∧ (x.f.length ≤ 4398046510976 ∧ ∀ y ∈ x.f, rngField y) ∧ (x.l.length ≤ 8796093021952) ∧ (rngI x.exp)
def rngPair (x : Pair) : Prop := (rngItem x.item)
def rngEffect (x : Effect) : Prop := (rngItem x.item)
def rngRid (x : Rid) : Prop := (rngI x.node) ∧ (rngI x.epoch)
def rngFeed (x : Feed) : Prop := (rngRid x.rid) ∧ (rngI x.off) ∧ (x.back.length ≤ 1353245080300 ∧ ∀ y ∈ x.back, rngEffect y) ∧ (rngRid x.prev) ∧ (rngI x.upto)
def rngClaim (x : Claim) : Prop := (rngI x.frm) ∧ (rngI x.to) ∧ (rngI x.node) ∧ (rngI x.epoch)
def rngMsg (x : Msg) : Prop := (rngI x.kind) ∧ (rngI x.frm) ∧ (rngI x.to) ∧ (rngI x.epoch) ∧ (x.claims.length ≤ 4398046510976 ∧ ∀ y ∈ x.claims, rngClaim y) ∧ (x.nodes.length ≤ 17592186043904 ∧ ∀ y ∈ x.nodes, rngI y) ∧ (rngI x.node) ∧ (rngI x.slot) ∧ (rngI x.num) ∧ (rngRid x.rid) ∧ (rngRid x.prev) ∧ (rngI x.off) ∧ (x.effects.length ≤ 1353245080300 ∧ ∀ y ∈ x.effects, rngEffect y)
end Go.Proofs.Ytlkhfdccapkcdaa

/- What all rows need. -/
namespace Go.Proofs.Ytlkhfdccapkcdaa
open Go Go.RowKit
open Go.ChangeShapes Go.WideShapes Go.ChangeAt Go.RowKit
theorem Try.own : ownKnob Try.prog.godebug = none := by kernel_rfl
theorem Try.laidOut : laidOutB Try.prog = true := by kernel_rfl
end Go.Proofs.Ytlkhfdccapkcdaa

