/- Part 4 of the proof. -/
import Derived.Test.YthjenkmbbnjcnaaPc3
/- Marks, and what the document's functions find in lists of claims and of spans. -/
namespace Go.Proofs.Ythjenkmbbnjcnaa
open Go Go.RowKit
set_option linter.unusedVariables false
set_option linter.unusedSimpArgs false
theorem Rn.eqv {α : Type} {m : Option α} {v : α} (h : Rn m (· = v)) : m = Option.some v := by
  obtain ⟨w, h1, rfl⟩ := h
  exact h1
theorem lt_t {a b : Int} (h : a < b) : ltI a b = true := decide_eq_true h
theorem lt_f {a b : Int} (h : b ≤ a) : ltI a b = false := decide_eq_false (by omega)
theorem le_t {a b : Int} (h : a ≤ b) : leI a b = true := decide_eq_true h
theorem le_f {a b : Int} (h : b < a) : leI a b = false := decide_eq_false (by omega)
theorem gt_t {a b : Int} (h : b < a) : gtI a b = true := decide_eq_true h
theorem gt_f {a b : Int} (h : a ≤ b) : gtI a b = false := decide_eq_false (by omega)
theorem ge_t {a b : Int} (h : b ≤ a) : geI a b = true := decide_eq_true h
theorem ge_f {a b : Int} (h : a < b) : geI a b = false := decide_eq_false (by omega)
theorem eq_t {a b : Int} (h : a = b) : eqI a b = true := decide_eq_true h
theorem eq_f {a b : Int} (h : a ≠ b) : eqI a b = false := decide_eq_false h
/-- Marks: numbers that rise, from 0 to 16384. -/
def SM (m : List Int) : Prop := m.Pairwise (· < ·) ∧ ∀ x ∈ m, 0 ≤ x ∧ x ≤ 16384
theorem SM.nil : SM [] := ⟨List.Pairwise.nil, fun x hx => by simp at hx⟩
theorem Mark_ok {m : List Int} {x : Int} (hm : SM m) (hl : m.length ≤ 1000000) : Rn (r1_Mark_sh big m x) fun m' => SM m' ∧ (∀ y, y ∈ m' ↔ y ∈ m ∨ (y = x ∧ 0 ≤ x ∧ x ≤ 16384)) ∧ m'.length ≤ m.length + 1 := by
  unfold r1_Mark_sh
  refine Rn.lt ?_
  refine Rn.bn (P := fun a => ∃ k : Nat, a = (k : Int) ∧ k ≤ m.length ∧ (∀ y ∈ m.take k, y < x) ∧ (∀ y ∈ m.drop k, x ≤ y)) (Rn.iter _ (fun j a => ∃ k : Nat, a = (k : Int) ∧ k + j = m.length ∧ ∀ y ∈ m.drop k, x ≤ y) m.length (by unfold big; omega) ⟨m.length, rfl, rfl, by simp⟩ fun j a hj hI => ?_) fun a ha => ?_
  · obtain ⟨k, rfl, hk, hd⟩ := hI
    cases k with
    | zero => exact Rn.bnE (v := false) rfl (Rn.lt (Rn.ite (fun h => absurd h (by decide)) fun _ => Rn.some ⟨0, rfl, by omega, by simp, by simpa using hd⟩))
    | succ k =>
      have hkl : k < m.length := by omega
      have e1 : subI .i64 ((k + 1 : Nat) : Int) 1 = (k : Int) := by rw [subI_64 (by omega) (by omega)]; omega
      refine Rn.bnE (v := geI m[k] x) ?_ (Rn.lt (Rn.ite (fun h => ?_) fun h => ?_))
      · rw [gt_t (show (0 : Int) < ((k + 1 : Nat) : Int) by omega)]
        simp only [lt_eq, ite_t]
        rw [e1, nth_some hkl]
        rfl
      · refine Rn.lt (Rn.some ⟨by omega, k, e1, by omega, fun y hy => ?_⟩)
        rw [List.drop_eq_getElem_cons hkl] at hy
        rcases List.mem_cons.1 hy with rfl | hy
        · exact of_decide_eq_true h
        · exact hd y hy
      · refine Rn.some ⟨k + 1, rfl, by omega, fun y hy => ?_, hd⟩
        have h1 : m[k] < x := by
          have := of_decide_eq_false (p := x ≤ m[k]) h
          omega
        obtain ⟨i, hi, rfl⟩ := List.mem_take_iff_getElem.1 hy
        rcases Decidable.em (i = k) with rfl | hne
        · exact h1
        · have := List.pairwise_iff_getElem.1 hm.1 i k (by omega) hkl (by omega)
          omega
  obtain ⟨k, rfl, hk, ht, hd⟩ := ha
  have hsame : ∀ (h : x < 0 ∨ 16384 < x ∨ x ∈ m), SM m ∧ (∀ y, y ∈ m ↔ y ∈ m ∨ (y = x ∧ 0 ≤ x ∧ x ≤ 16384)) ∧ m.length ≤ m.length + 1 := by
    intro h
    refine ⟨hm, fun y => ⟨.inl, fun h2 => ?_⟩, by omega⟩
    rcases h2 with h2 | ⟨rfl, h2, h3⟩
    · exact h2
    · rcases h with h | h | h
      · omega
      · omega
      · exact h
  refine Rn.bn (P := fun b => (b = true → x < 0 ∨ 16384 < x ∨ x ∈ m) ∧ (b = false → (0 ≤ x ∧ x ≤ 16384) ∧ x ∉ m)) ?_ fun b hb => Rn.lt (Rn.ite (fun h => Rn.some (hsame (hb.1 h))) fun h => ?_)
  · refine Rn.lt (Rn.ite (fun h => Rn.some ⟨fun _ => .inl (of_decide_eq_true h), by simp⟩) fun h => Rn.lt (Rn.ite (fun h2 => Rn.some ⟨fun _ => .inr (.inl (of_decide_eq_true h2)), by simp⟩) fun h2 => Rn.lt (Rn.lt ?_)))
    have x1 : 0 ≤ x := by
      have := of_decide_eq_false (p := x < 0) h
      omega
    have x2 : x ≤ 16384 := by
      have := of_decide_eq_false (p := 16384 < x) h2
      omega
    rcases Decidable.em (k < m.length) with hkl | hkl
    · rw [lenI_eq, lt_t (by omega)]
      refine Rn.ite (fun _ => Rn.bnE (nth_some hkl) (Rn.lt (Rn.some ⟨fun h3 => .inr (.inr ?_), fun h3 => ⟨⟨x1, x2⟩, fun hmem => ?_⟩⟩))) (fun h => by simp at h)
      · have : m[k] = x := of_decide_eq_true h3
        rw [← this]
        exact List.getElem_mem hkl
      · have hne : m[k] ≠ x := of_decide_eq_false h3
        rw [← List.take_append_drop k m] at hmem
        rcases List.mem_append.1 hmem with h4 | h4
        · have := ht x h4
          omega
        · rw [List.drop_eq_getElem_cons hkl] at h4
          rcases List.mem_cons.1 h4 with h5 | h5
          · exact hne h5.symm
          · have h6 := hd m[k] (by rw [List.drop_eq_getElem_cons hkl]; exact List.mem_cons_self)
            have h7 : (m.drop k).Pairwise (· < ·) := hm.1.sublist (List.drop_sublist _ _)
            rw [List.drop_eq_getElem_cons hkl] at h7
            have h8 := List.rel_of_pairwise_cons h7 h5
            have h9 : x ≤ m[k] := h6
            have h10 : m[k] < x := h8
            omega
    · rw [lenI_eq, lt_f (by omega)]
      refine Rn.ite (fun h => by simp at h) fun _ => Rn.some ⟨by simp, fun _ => ⟨⟨x1, x2⟩, fun hmem => ?_⟩⟩
      rw [List.take_of_length_le (by omega)] at ht
      have := ht x hmem
      omega
  · obtain ⟨⟨x1, x2⟩, hn⟩ := hb.2 h
    rw [segh_nat hk]
    refine Rn.bnE rfl ?_
    have lt1 : (m.take k).length ≤ 1000000 := by rw [List.length_take]; omega
    refine Rn.chk (by simp [room]; omega) (Rn.chk (by simp [room]; omega) (Rn.lt ?_))
    rw [segl_nat hk]
    refine Rn.bnE rfl (Rn.chk (by simp [room]; omega) (Rn.lt (Rn.chk (by simp [room]; omega) (Rn.some ⟨⟨?_, ?_⟩, ?_, ?_⟩))))
    · rw [List.append_assoc, List.pairwise_append]
      refine ⟨hm.1.sublist (List.take_sublist _ _), ?_, ?_⟩
      · rw [List.singleton_append, List.pairwise_cons]
        refine ⟨fun y hy => ?_, hm.1.sublist (List.drop_sublist _ _)⟩
        have h1 := hd y hy
        have h2 : y ≠ x := fun e => hn (e ▸ List.mem_of_mem_drop hy)
        omega
      · intro a ha b hb
        have h1 := ht a ha
        rcases List.mem_append.1 hb with hb | hb
        · simp at hb
          omega
        · have := hd b hb
          omega
    · intro y hy
      rcases List.mem_append.1 hy with hy | hy
      · rcases List.mem_append.1 hy with hy | hy
        · exact hm.2 y (List.mem_of_mem_take hy)
        · simp at hy
          omega
      · exact hm.2 y (List.mem_of_mem_drop hy)
    · intro y
      rw [List.append_assoc, List.mem_append, List.mem_append, List.mem_singleton]
      constructor
      · rintro (hy | hy | hy)
        · exact .inl (List.mem_of_mem_take hy)
        · exact .inr ⟨hy, x1, x2⟩
        · exact .inl (List.mem_of_mem_drop hy)
      · rintro (hy | ⟨hy, _⟩)
        · rw [← List.take_append_drop k m] at hy
          rcases List.mem_append.1 hy with hy | hy
          · exact .inl hy
          · exact .inr (.inr hy)
        · exact .inr (.inl hy)
    · simp
      omega
/-! ### Claims as pieces -/
def cP (c : Claim) : Int × Int × (Int × Int) := (c.frm, c.to, (c.node, c.epoch))
def fC (l : List Claim) (s : Int) : Option (Int × Int) := fnP (l.map cP) s
def inB (x : Int) : Prop := -1000000 ≤ x ∧ x ≤ 1000000
/-- Marks of claims. -/
theorem marks_ok {m : List Int} {l : List Claim} (hm : SM m) (hl : m.length + 2 * l.length ≤ 1000000) (hb : ∀ c ∈ l, inB c.frm ∧ inB c.to) :
    Rn (r13_marks_sh big m l) fun m' => SM m' ∧ (∀ y, y ∈ m' ↔ y ∈ m ∨ ((∃ c ∈ l, y = c.frm ∨ y = c.to + 1) ∧ 0 ≤ y ∧ y ≤ 16384)) ∧ m'.length ≤ m.length + 2 * l.length := by
  unfold r13_marks_sh
  refine Rn.bn (P := fun m' => SM m' ∧ (∀ y, y ∈ m' ↔ y ∈ m ∨ ((∃ c ∈ l, y = c.frm ∨ y = c.to + 1) ∧ 0 ≤ y ∧ y ≤ 16384)) ∧ m'.length ≤ m.length + 2 * l.length) (Rn.iter _ (fun j a => ∃ m', a = (m', (j : Int)) ∧ SM m' ∧ (∀ y, y ∈ m' ↔ y ∈ m ∨ ((∃ c ∈ l.take j, y = c.frm ∨ y = c.to + 1) ∧ 0 ≤ y ∧ y ≤ 16384)) ∧ m'.length ≤ m.length + 2 * j) l.length (by unfold big; omega) ⟨m, rfl, hm, by simp, by omega⟩ fun j a hj hI => ?_) fun m' h => Rn.some h
  obtain ⟨m1, rfl, s1, s2, s3⟩ := hI
  refine Rn.lt (Rn.lt (Rn.ite (fun hd => ?_) fun hd => ?_))
  · have hjl : j < l.length := by
      have := of_decide_eq_true (p := ((j : Int) < (l.length : Int))) hd
      omega
    refine Rn.bnE (nth_some hjl) ?_
    obtain ⟨b1, b2⟩ := hb _ (List.getElem_mem hjl)
    unfold inB at b1 b2
    refine Rn.bn (Mark_ok s1 (by simp only; omega)) fun m2 h2 => ?_
    obtain ⟨t1, t2, t3⟩ := h2
    refine Rn.lt ?_
    rw [addI_64 (by omega) (by omega)]
    refine Rn.bn (Mark_ok t1 (by simp only at t3; omega)) fun m3 h3 => ?_
    obtain ⟨u1, u2, u3⟩ := h3
    refine Rn.lt (Rn.some ⟨hjl, m3, ?_, u1, fun y => ?_, ?_⟩)
    · simp only []
      rw [addI_64 (by omega) (by omega)]
      rfl
    · rw [u2, t2, s2, ← List.take_append_getElem hjl]
      simp only [List.mem_append, List.mem_singleton]
      constructor
      · rintro ((( h | ⟨⟨c, hc, h⟩, h'⟩) | ⟨rfl, h, h'⟩) | ⟨rfl, h, h'⟩)
        · exact .inl h
        · exact .inr ⟨⟨c, .inl hc, h⟩, h'⟩
        · exact .inr ⟨⟨_, .inr rfl, .inl rfl⟩, h, h'⟩
        · exact .inr ⟨⟨_, .inr rfl, .inr rfl⟩, h, h'⟩
      · rintro (h | ⟨⟨c, hc | rfl, h⟩, h'⟩)
        · exact .inl (.inl (.inl h))
        · exact .inl (.inl (.inr ⟨⟨c, hc, h⟩, h'⟩))
        · rcases h with rfl | rfl
          · exact .inl (.inr ⟨rfl, h'⟩)
          · exact .inr ⟨rfl, h'⟩
    · simp only at t3 u3
      omega
  · have hjl : j = l.length := by
      have := of_decide_eq_false (p := ((j : Int) < (l.length : Int))) hd
      omega
    subst hjl
    rw [List.take_length] at s2
    exact Rn.some ⟨s1, s2, s3⟩
theorem Of_ok (l : List Claim) (s : Int) (hl : l.length ≤ 1000000) : r13_Of_sh big l s = some ((fC l s).getD (-1, 0)) := by
  refine Rn.eqv ?_
  unfold r13_Of_sh
  refine Rn.bn (P := fun y => y = match fC l s with | some v => .inr v | none => .inl ()) (Rn.iter _ (fun j a => a = (j : Int) ∧ fC l s = fC (l.drop j) s) l.length (by unfold big; omega) ⟨rfl, by simp⟩ fun j a hj hI => ?_) fun y hy => ?_
  · obtain ⟨rfl, hI⟩ := hI
    refine Rn.lt (Rn.lt (Rn.ite (fun hd => ?_) fun hd => ?_))
    · have hjl : j < l.length := by
        have := of_decide_eq_true (p := ((j : Int) < (l.length : Int))) hd
        omega
      have hnth := nth_some hjl
      rw [List.drop_eq_getElem_cons hjl] at hI
      generalize l[j] = c at hI hnth
      rcases Decidable.em (c.frm ≤ s ∧ s ≤ c.to) with hc | hc
      · refine Rn.bnE (v := true) ?_ (Rn.lt (Rn.ite (fun _ => Rn.bnE hnth (Rn.some ?_)) (fun h => by simp at h)))
        · rw [hnth]
          simp only [bn_some, lt_eq]
          rw [le_t hc.1, ite_t, le_t hc.2]
        · rw [hI, show fC (c :: List.drop (j + 1) l) s = some (c.node, c.epoch) from fnP_head (p := cP c) hc.1 hc.2]
      · refine Rn.bnE (v := false) ?_ (Rn.lt (Rn.ite (fun h => by simp at h) fun _ => Rn.lt (Rn.some ⟨hjl, ?_, ?_⟩)))
        · rw [hnth]
          simp only [bn_some, lt_eq]
          rcases Decidable.em (c.frm ≤ s) with h1 | h1
          · rw [le_t h1, ite_t, le_f (by omega)]
          · rw [le_f (by omega), ite_f]
        · rw [addI_64 (by omega) (by omega)]
          rfl
        · rw [hI]
          exact fnP_out (p := cP c) hc
    · have hjl : j = l.length := by
        have := of_decide_eq_false (p := ((j : Int) < (l.length : Int))) hd
        omega
      subst hjl
      rw [List.drop_length] at hI
      refine Rn.some ?_
      rw [hI]
      rfl
  · subst hy
    cases fC l s with
    | some v => exact Rn.some rfl
    | none => exact Rn.some rfl
/-- One more claim behind others, as the document tells it. -/
theorem more_ok {l : List Claim} {c : Claim} (hl : l.length ≤ 1000000) (hb : ∀ x ∈ l, inB x.to) (hc : inB c.frm) : Rn (r13_more_xf_sh big l c) fun m => m.map cP = putP (l.map cP) (cP c) ∧ m.length ≤ l.length + 1 := by
  unfold r13_more_xf_sh
  refine Rn.lt (Rn.lt ?_)
  rw [lenI_eq, subI_64 (by omega) (by omega)]
  unfold inB at hc
  rcases Decidable.em (l = []) with rfl | hne
  · refine Rn.bnE (v := false) rfl (Rn.lt (Rn.ite (fun h => by simp at h) fun _ => Rn.chk rfl (Rn.lt (Rn.some ⟨rfl, by simp⟩))))
  · obtain ⟨k, x, rfl⟩ : ∃ k x, l = k ++ [x] := ⟨l.dropLast, l.getLast hne, (List.dropLast_concat_getLast hne).symm⟩
    have hx := hb x (by simp)
    unfold inB at hx
    have e1 : (((k ++ [x]).length : Nat) : Int) - 1 = ((k.length : Nat) : Int) := by simp
    have hk : k.length < (k ++ [x]).length := by simp
    have hn : nth (k ++ [x]) ((k.length : Nat) : Int) = some x := by rw [nth_some hk]; simp
    rw [e1]
    have hm : putP ((k ++ [x]).map cP) (cP c) = if x.to + 1 = c.frm ∧ (x.node, x.epoch) = (c.node, c.epoch) then k.map cP ++ [(x.frm, c.to, (x.node, x.epoch))] else (k ++ [x]).map cP ++ [cP c] := by
      unfold putP
      rw [List.map_append, show [x].map cP = [cP x] from rfl, List.getLast?_concat]
      simp only [List.dropLast_concat]
      rfl
    rw [hm]
    rcases Decidable.em (x.to + 1 = c.frm ∧ (x.node, x.epoch) = (c.node, c.epoch)) with hq | hq
    · rw [if_pos hq]
      obtain ⟨q1, q2⟩ := hq
      have q3 : x.node = c.node := congrArg Prod.fst q2
      have q4 : x.epoch = c.epoch := congrArg Prod.snd q2
      refine Rn.bnE (v := true) ?_ (Rn.lt (Rn.ite (fun _ => Rn.bnE hn (Rn.lt (Rn.some ⟨?_, ?_⟩))) (fun h => by simp at h)))
      · rw [ge_t (by omega)]
        simp only [lt_eq, ite_t]
        rw [hn]
        simp only [bn_some]
        rw [subI_64 (by omega) (by omega), eq_t (by omega), ite_t, eq_t q3, ite_t, eq_t q4]
      · rw [Int.toNat_natCast, List.set_append_right _ _ (by omega), Nat.sub_self]
        simp [cP]
      · simp
    · rw [if_neg hq]
      refine Rn.bnE (v := false) ?_ (Rn.lt (Rn.ite (fun h => by simp at h) fun _ => Rn.chk (by simp [room]; simp at hl; omega) (Rn.lt (Rn.some ⟨by simp, by simp⟩))))
      rw [ge_t (by omega)]
      simp only [lt_eq, ite_t]
      rw [hn]
      simp only [bn_some]
      rw [subI_64 (by omega) (by omega)]
      rcases Decidable.em (x.to = c.frm - 1) with h1 | h1
      · rw [eq_t h1, ite_t]
        rcases Decidable.em (x.node = c.node) with h2 | h2
        · rw [eq_t h2, ite_t]
          have h3 : x.epoch ≠ c.epoch := fun e => hq ⟨by omega, by rw [h2, e]⟩
          rw [eq_f h3]
        · rw [eq_f h2, ite_f]
      · rw [eq_f h1, ite_f]
end Go.Proofs.Ythjenkmbbnjcnaa

/- What the document's functions make: lists that stand as they should and tell so of each slot. -/
namespace Go.Proofs.Ythjenkmbbnjcnaa
open Go Go.RowKit
set_option linter.unusedVariables false
set_option linter.unusedSimpArgs false
section
variable {β : Type}
/-- A list that stands as it should and tells f. -/
def FinP (out : List (Int × Int × β)) (f : Int → Option β) : Prop := canP out ∧ ∀ s, fnP out s = f s
theorem FinP.ext {l m : List (Int × Int × β)} {f g : Int → Option β} (hl : FinP l f) (hm : FinP m g) (h : ∀ s, f s = g s) : l = m := canP_ext hl.1 hm.1 fun s => by rw [hl.2, hm.2, h]
/-- f tells of slots alone, and turns at marks alone. -/
def Stp (m : List Int) (f : Int → Option β) : Prop := (∀ s, s + 1 ∉ m → f (s + 1) = f s) ∧ ∀ s, s < 0 ∨ 16384 ≤ s → f s = none
theorem Stp.const {m : List Int} {f : Int → Option β} (h : Stp m f) {a s : Int} (h1 : a ≤ s) (h2 : ∀ x ∈ m, ¬ (a < x ∧ x ≤ s)) : f s = f a := by
  obtain ⟨n, hn⟩ := Int.eq_ofNat_of_zero_le (show 0 ≤ s - a by omega)
  have key : ∀ k : Nat, k ≤ n → f (a + k) = f a := by
    intro k
    induction k with
    | zero => intro _; simp
    | succ k ih =>
      intro hk
      have e : a + ((k + 1 : Nat) : Int) = (a + k) + 1 := by omega
      rw [e, h.1 (a + k) (fun hmem => h2 _ hmem (by omega)), ih (by omega)]
  have := key n (Nat.le_refl _)
  rwa [← hn, show a + (s - a) = s by omega] at this
theorem Stp.first {m : List Int} {f : Int → Option β} (h : Stp m f) (hm : SM m) (hl : 0 < m.length) : BdP m[0] [] f := by
  refine BdP.nil fun s hs => ?_
  rcases Decidable.em (s < 0) with h0 | h0
  · exact h.2 s (.inl h0)
  · rw [h.const (a := -1) (by omega) fun x hx hc => ?_]
    · exact h.2 _ (.inl (by omega))
    · obtain ⟨i, hi, rfl⟩ := List.mem_iff_getElem.1 hx
      rcases Nat.eq_zero_or_pos i with rfl | hp
      · omega
      · have := List.pairwise_iff_getElem.1 hm.1 0 i hl hi hp
        omega
theorem Stp.next [DecidableEq β] {m : List Int} {f : Int → Option β} (h : Stp m f) (hm : SM m) {j : Nat} (hj : j + 1 < m.length) {out : List (Int × Int × β)} (hb : BdP m[j] out f) :
    (f m[j] = none → BdP m[j + 1] out f) ∧ ∀ v, f m[j] = some v → BdP m[j + 1] (putP out (m[j], m[j + 1] - 1, v)) f := by
  have hlt := List.pairwise_iff_getElem.1 hm.1 j (j + 1) (by omega) hj (by omega)
  have hc : ∀ s, m[j] ≤ s → s < m[j + 1] → f s = f m[j] := by
    intro s h1 h2
    refine h.const h1 fun x hx hc => ?_
    obtain ⟨i, hi, rfl⟩ := List.mem_iff_getElem.1 hx
    rcases Nat.lt_trichotomy i j with h3 | rfl | h3
    · have := List.pairwise_iff_getElem.1 hm.1 i j hi (by omega) h3
      omega
    · omega
    · rcases Nat.eq_or_lt_of_le h3 with h4 | h4
      · subst h4
        have h5 : m[j.succ] = m[j + 1] := rfl
        omega
      · have := List.pairwise_iff_getElem.1 hm.1 (j + 1) i hj hi h4
        omega
  refine ⟨fun hn => hb.skip (by omega) fun s h1 h2 => by rw [hc s h1 h2, hn], fun v hv => ?_⟩
  have := hb.put (b := m[j + 1] - 1) (v := v) (by omega) fun s h1 h2 => by rw [hc s h1 (by omega), hv]
  rwa [show m[j + 1] - 1 + 1 = m[j + 1] by omega] at this
theorem Stp.last {m : List Int} {f : Int → Option β} (h : Stp m f) (hm : SM m) {j : Nat} (hj : j < m.length) (hl : m.length ≤ j + 1) {out : List (Int × Int × β)} (hb : BdP m[j] out f) : FinP out f := by
  refine ⟨hb.can, fun s => ?_⟩
  rcases Decidable.em (s < m[j]) with h1 | h1
  · exact hb.fn s h1
  · have e : f s = none := by
      rcases Decidable.em (16384 ≤ s) with h2 | h2
      · exact h.2 s (.inr h2)
      · have := h.const (a := s) (s := 16384) (by omega) fun x hx hc => by
          obtain ⟨i, hi, rfl⟩ := List.mem_iff_getElem.1 hx
          rcases Nat.eq_or_lt_of_le (show i ≤ j by omega) with h3 | h3
          · subst h3
            omega
          · have := List.pairwise_iff_getElem.1 hm.1 i j hi hj h3
            omega
        rw [← this]
        exact h.2 _ (.inr (Int.le_refl _))
    rw [e]
    exact fnP_none fun p hp hc => by have := hb.pos p hp; omega
theorem Stp.none {f : Int → Option β} (h : Stp [] f) : FinP ([] : List (Int × Int × β)) f := by
  refine ⟨trivial, fun s => ?_⟩
  rcases Decidable.em (s < 0) with h0 | h0
  · rw [h.2 s (.inl h0)]; rfl
  · rw [h.const (a := -1) (by omega) (fun x hx => by simp at hx), h.2 _ (.inl (by omega))]; rfl
end
/-! ### Spans -/
def sP (x : Span) : Int × Int × Unit := (x.frm, x.to, ())
/-- Does a list say a slot? -/
def inS (l : List Span) (s : Int) : Prop := (0 ≤ s ∧ s < 16384) ∧ ∃ x ∈ l, x.frm ≤ s ∧ s ≤ x.to
instance (l : List Span) (s : Int) : Decidable (inS l s) := by unfold inS; infer_instance
def fS (p : Int → Prop) [DecidablePred p] (s : Int) : Option Unit := if p s then some () else none
theorem Has_ok (l : List Span) (s : Int) (hl : l.length ≤ 1000000) : r1_Has_sh big l s = some (decide (inS l s)) := by
  refine Rn.eqv ?_
  unfold r1_Has_sh
  refine Rn.bn (P := fun y => y = if inS l s then .inr true else .inl ()) (Rn.iter _ (fun j a => a = (j : Int) ∧ (inS l s ↔ inS (l.drop j) s)) l.length (by unfold big; omega) ⟨rfl, by simp⟩ fun j a hj hI => ?_) fun y hy => ?_
  · obtain ⟨rfl, hI⟩ := hI
    refine Rn.lt (Rn.lt (Rn.ite (fun hd => ?_) fun hd => ?_))
    · have hjl : j < l.length := by
        have := of_decide_eq_true (p := ((j : Int) < (l.length : Int))) hd
        omega
      have hnth := nth_some hjl
      rw [List.drop_eq_getElem_cons hjl] at hI
      generalize l[j] = c at hI hnth
      rcases Decidable.em ((0 ≤ s ∧ s < 16384) ∧ c.frm ≤ s ∧ s ≤ c.to) with hc | hc
      · obtain ⟨⟨h1, h2⟩, h3, h4⟩ := hc
        refine Rn.bnE (v := true) ?_ (Rn.lt (Rn.ite (fun _ => Rn.some ?_) (fun h => by simp at h)))
        · rw [ge_t h1]
          simp only [lt_eq, ite_t]
          rw [lt_t h2, ite_t, hnth]
          simp only [bn_some]
          rw [le_t h3, ite_t, le_t h4]
        · rw [if_pos (hI.2 ⟨⟨h1, h2⟩, c, by simp, h3, h4⟩)]
      · refine Rn.bnE (v := false) ?_ (Rn.lt (Rn.ite (fun h => by simp at h) fun _ => Rn.lt (Rn.some ⟨hjl, ?_, ?_⟩)))
        · rcases Decidable.em (0 ≤ s) with h1 | h1
          · rw [ge_t h1]
            simp only [lt_eq, ite_t]
            rcases Decidable.em (s < 16384) with h2 | h2
            · rw [lt_t h2, ite_t, hnth]
              simp only [bn_some]
              rcases Decidable.em (c.frm ≤ s) with h3 | h3
              · rw [le_t h3, ite_t, le_f (by omega)]
              · rw [le_f (by omega), ite_f]
            · rw [lt_f (by omega), ite_f]
          · rw [ge_f (by omega)]
            simp only [lt_eq, ite_f]
        · rw [addI_64 (by omega) (by omega)]
          rfl
        · rw [hI]
          unfold inS
          constructor
          · rintro ⟨h1, x, hx, h2⟩
            rcases List.mem_cons.1 hx with rfl | hx
            · exact absurd ⟨h1, h2⟩ hc
            · exact ⟨h1, x, hx, h2⟩
          · rintro ⟨h1, x, hx, h2⟩
            exact ⟨h1, x, by simp [hx], h2⟩
    · have hjl : j = l.length := by
        have := of_decide_eq_false (p := ((j : Int) < (l.length : Int))) hd
        omega
      subst hjl
      rw [List.drop_length] at hI
      refine Rn.some ?_
      rw [if_neg (by rw [hI]; unfold inS; simp)]
  · subst hy
    split
    · rename_i h
      exact Rn.some (by simp [h])
    · rename_i h
      exact Rn.some (by simp [h])
theorem Stp.inS {m : List Int} {l : List Span} (h0 : (0 : Int) ∈ m) (h1 : (16384 : Int) ∈ m) (h : ∀ x ∈ l, x.frm ≤ x.to → (0 ≤ x.frm ∧ x.frm ≤ 16384 → x.frm ∈ m) ∧ (x.to < 16384 → 0 ≤ x.to + 1 → x.to + 1 ∈ m)) : ∀ s, s + 1 ∉ m → (Go.Proofs.Ythjenkmbbnjcnaa.inS l (s + 1) ↔ Go.Proofs.Ythjenkmbbnjcnaa.inS l s) := by
  intro s hs
  have n0 : s + 1 ≠ 0 := fun e => hs (e ▸ h0)
  have n1 : s + 1 ≠ 16384 := fun e => hs (e ▸ h1)
  unfold Go.Proofs.Ythjenkmbbnjcnaa.inS
  constructor
  · rintro ⟨a, x, hx, b, c⟩
    refine ⟨by omega, x, hx, ?_, by omega⟩
    rcases Decidable.em (x.frm ≤ s) with h2 | h2
    · exact h2
    · exfalso
      have e : x.frm = s + 1 := by omega
      have := (h x hx (by omega)).1 (by omega)
      rw [e] at this
      exact hs this
  · rintro ⟨a, x, hx, b, c⟩
    refine ⟨by omega, x, hx, by omega, ?_⟩
    rcases Decidable.em (s + 1 ≤ x.to) with h2 | h2
    · exact h2
    · exfalso
      have e : x.to = s := by omega
      have := (h x hx (by omega)).2 (by omega) (by omega)
      rw [e] at this
      exact hs this
end Go.Proofs.Ythjenkmbbnjcnaa

/- What the document's Norm and Give make. -/
namespace Go.Proofs.Ythjenkmbbnjcnaa
open Go Go.RowKit
set_option linter.unusedVariables false
set_option linter.unusedSimpArgs false
/-- Marks of two lists of spans. -/
theorem marks2_ok {a b : List Span} (hl : a.length + b.length ≤ 100000) : Rn (r1_marks_sh big a b) fun m => SM m ∧ (0 : Int) ∈ m ∧ (16384 : Int) ∈ m ∧
    (∀ x ∈ a ++ b, x.frm ≤ x.to → (0 ≤ x.frm ∧ x.frm ≤ 16384 → x.frm ∈ m) ∧ (x.to < 16384 → 0 ≤ x.to + 1 → x.to + 1 ∈ m)) ∧ m.length ≤ 2 + 2 * (a.length + b.length) := by
  unfold r1_marks_sh
  refine Rn.chk rfl (Rn.bn (P := fun m => SM m ∧ (0 : Int) ∈ m ∧ (16384 : Int) ∈ m ∧
    (∀ x ∈ a ++ b, x.frm ≤ x.to → (0 ≤ x.frm ∧ x.frm ≤ 16384 → x.frm ∈ m) ∧ (x.to < 16384 → 0 ≤ x.to + 1 → x.to + 1 ∈ m)) ∧ m.length ≤ 2 + 2 * (a.length + b.length))
    (Rn.iter _ (fun j y => ∃ m, y = (m, (j : Int)) ∧ SM m ∧ (0 : Int) ∈ m ∧ (16384 : Int) ∈ m ∧
    (∀ x ∈ (a ++ b).take j, x.frm ≤ x.to → (0 ≤ x.frm ∧ x.frm ≤ 16384 → x.frm ∈ m) ∧ (x.to < 16384 → 0 ≤ x.to + 1 → x.to + 1 ∈ m)) ∧ m.length ≤ 2 + 2 * j) (a.length + b.length) (by unfold big; omega)
    ⟨[0, 16384], rfl, ⟨by simp, by simp⟩, by simp, by simp, by simp, by simp⟩ fun j y hj hI => ?_) fun m h => Rn.some h)
  obtain ⟨m, rfl, s1, s2, s3, s4, s5⟩ := hI
  refine Rn.lt (Rn.lt (Rn.lt ?_))
  rw [lenI_eq, lenI_eq, addI_64 (by omega) (by omega)]
  refine Rn.lt (Rn.ite (fun hd => ?_) fun hd => ?_)
  · have hjl : j < (a ++ b).length := by
      have := of_decide_eq_true (p := ((j : Int) < (a.length : Int) + (b.length : Int))) hd
      simp
      omega
    have hjl' : j < a.length + b.length := by simpa using hjl
    refine Rn.bn (P := fun m2 => SM m2 ∧ (∀ y ∈ m, y ∈ m2) ∧ ((a ++ b)[j].frm ≤ (a ++ b)[j].to → (0 ≤ (a ++ b)[j].frm ∧ (a ++ b)[j].frm ≤ 16384 → (a ++ b)[j].frm ∈ m2) ∧ ((a ++ b)[j].to < 16384 → 0 ≤ (a ++ b)[j].to + 1 → (a ++ b)[j].to + 1 ∈ m2)) ∧ m2.length ≤ m.length + 2) ?_ fun m2 h2 => ?_
    · refine Rn.bnE (v := (a ++ b)[j]) ?_ ?_
      · simp only [lt_eq]
        rcases Decidable.em (j < a.length) with h1 | h1
        · rw [lt_t (by omega), ite_t, nth_some h1]
          simp only [bn_some]
          rw [List.getElem_append_left h1]
        · rw [lt_f (by omega), ite_f, subI_64 (by omega) (by omega), show (j : Int) - (a.length : Int) = ((j - a.length : Nat) : Int) by omega, nth_some (show j - a.length < b.length by omega)]
          simp only [bn_some]
          rw [List.getElem_append_right (by omega)]
      · generalize (a ++ b)[j] = x
        rcases Decidable.em (x.frm ≤ x.to) with hx | hx
        · refine Rn.bn (P := fun m' => SM m' ∧ (∀ y, y ∈ m' ↔ y ∈ m ∨ (y = x.frm ∧ 0 ≤ x.frm ∧ x.frm ≤ 16384)) ∧ m'.length ≤ m.length + 1) ?_ fun m1 h1 => ?_
          · simp only [lt_eq]
            rw [le_t hx, ite_t]
            refine Rn.bn (Mark_ok s1 (by omega)) fun v hv => Rn.some hv
          · obtain ⟨t1, t2, t3⟩ := h1
            rcases Decidable.em (x.to < 16384) with hz | hz
            · refine Rn.bnE (v := true) ?_ (Rn.lt (Rn.ite (fun _ => Rn.lt ?_) fun h => by simp at h))
              · simp only [lt_eq]
                rw [le_t hx, ite_t, lt_t hz]
              · refine Rn.bn (P := fun m' => SM m' ∧ (∀ y, y ∈ m' ↔ y ∈ m1 ∨ (y = addI .i64 x.to 1 ∧ 0 ≤ addI .i64 x.to 1 ∧ addI .i64 x.to 1 ≤ 16384)) ∧ m'.length ≤ m1.length + 1) (Mark_ok t1 (by omega)) fun m3 h3 => Rn.some ?_
                obtain ⟨u1, u2, u3⟩ := h3
                refine ⟨u1, fun y hy => (u2 y).2 (.inl ((t2 y).2 (.inl hy))), fun _ => ⟨fun hr => (u2 _).2 (.inl ((t2 _).2 (.inr ⟨rfl, hr⟩))), fun _ h0 => ?_⟩, by omega⟩
                have e : addI .i64 x.to 1 = x.to + 1 := addI_64 (by omega) (by omega)
                rw [e] at u2
                exact (u2 _).2 (.inr ⟨rfl, h0, by omega⟩)
            · refine Rn.bnE (v := false) ?_ (Rn.lt (Rn.ite (fun h => by simp at h) fun _ => Rn.some ?_))
              · simp only [lt_eq]
                rw [le_t hx, ite_t, lt_f (by omega)]
              · exact ⟨t1, fun y hy => (t2 y).2 (.inl hy), fun _ => ⟨fun hr => (t2 _).2 (.inr ⟨rfl, hr⟩), fun h => absurd h hz⟩, by omega⟩
        · refine Rn.bnE (v := m) ?_ (Rn.bnE (v := false) ?_ (Rn.lt (Rn.ite (fun h => by simp at h) fun _ => Rn.some ⟨s1, fun y hy => hy, fun h => absurd h hx, by omega⟩)))
          · simp only [lt_eq]
            rw [le_f (by omega), ite_f]
          · simp only [lt_eq]
            rw [le_f (by omega), ite_f]
    · obtain ⟨t1, t2, t3, t4⟩ := h2
      refine Rn.lt (Rn.some ⟨hjl', m2, ?_, t1, t2 _ s2, t2 _ s3, ?_, ?_⟩)
      · rw [addI_64 (by first | omega | (simp only; omega)) (by first | omega | (simp only; omega))]
        rfl
      · intro x hx hle
        rw [← List.take_append_getElem hjl] at hx
        rcases List.mem_append.1 hx with hx | hx
        · obtain ⟨p, q⟩ := s4 x hx hle
          exact ⟨fun h => t2 _ (p h), fun h h' => t2 _ (q h h')⟩
        · simp at hx
          subst hx
          exact t3 hle
      · omega
  · have hjl : j = a.length + b.length := by
      have := of_decide_eq_false (p := ((j : Int) < (a.length : Int) + (b.length : Int))) hd
      omega
    subst hjl
    rw [List.take_of_length_le (by simp)] at s4
    exact Rn.some ⟨s1, s2, s3, s4, s5⟩
theorem fS_none {p : Int → Prop} [DecidablePred p] {s : Int} (h : ¬ p s) : fS p s = none := if_neg h
theorem fS_some {p : Int → Prop} [DecidablePred p] {s : Int} (h : p s) : fS p s = some () := if_pos h
theorem putP_unit {l : List Span} {k : List Span} {x : Span} {a b : Int} (hl : l = k ++ [x]) : putP (l.map sP) (a, b, ()) = if x.to + 1 = a then (k ++ [(⟨x.frm, b⟩ : Span)]).map sP else (l ++ [(⟨a, b⟩ : Span)]).map sP := by
  subst hl
  unfold putP
  rw [List.map_append, show [x].map sP = [sP x] from rfl, List.getLast?_concat]
  simp only [List.dropLast_concat, and_true, sP]
  split <;> simp [sP]
/-- Norm: what a list says, as it should stand. -/
theorem Norm_ok {l : List Span} (hl : l.length ≤ 10000) : Rn (r1_Norm_sh big l) fun r => FinP (r.map sP) (fS (inS l)) ∧ r.length ≤ 2 + 2 * l.length := by
  unfold r1_Norm_sh r1_Mix_sh
  refine Rn.bn (P := fun r => FinP (r.map sP) (fS (inS l)) ∧ r.length ≤ 2 + 2 * l.length) (Rn.bn (marks2_ok (b := []) (by simp; omega)) fun m hm => ?_) fun r h => Rn.some h
  obtain ⟨s1, s2, s3, s4, s5⟩ := hm
  simp only [List.append_nil, List.length_nil, Nat.add_zero] at s4 s5
  have hst : Stp m (fS (inS l)) := by
    refine ⟨fun s hs => ?_, fun s hs => fS_none fun h => ?_⟩
    · have := Stp.inS s2 s3 s4 s hs
      unfold fS
      simp only [this]
    · obtain ⟨h1, _⟩ := h
      omega
  have hpos : 0 < m.length := List.length_pos_of_mem s2
  refine Rn.bn (P := fun r => FinP (r.map sP) (fS (inS l)) ∧ r.length ≤ 2 + 2 * l.length) (Rn.iter _ (fun j y => ∃ out : List Span, y = ((j : Int), out) ∧ out.length ≤ j ∧ (∀ x ∈ out, inB x.to) ∧ ∃ h : j < m.length, BdP m[j] (out.map sP) (fS (inS l))) m.length (by unfold big; omega) ⟨[], rfl, by simp, by simp, hpos, hst.first s1 hpos⟩ fun j y hj hI => ?_) fun r h => Rn.chk (by simp [room]; omega) (Rn.some h)
  obtain ⟨out, rfl, t1, t2, hjm, t3⟩ := hI
  refine Rn.lt (Rn.lt (Rn.lt ?_))
  rw [addI_64 (by omega) (by omega), lenI_eq]
  refine Rn.ite (fun hd => ?_) fun hd => ?_
  · have hj1 : j + 1 < m.length := by
      have := of_decide_eq_true (p := ((j : Int) + 1 < (m.length : Int))) hd
      omega
    have hn0 : nth m (j : Int) = some m[j] := nth_some hjm
    have hn1 : nth m ((j : Int) + 1) = some m[j + 1] := nth_some (i := j + 1) hj1
    have hm0 := s1.2 _ (List.getElem_mem hjm)
    have hm1 := s1.2 _ (List.getElem_mem hj1)
    obtain ⟨g1, g2⟩ := hst.next s1 hj1 t3
    refine Rn.bn (P := fun o => o.length ≤ j + 1 ∧ (∀ x ∈ o, inB x.to) ∧ BdP m[j + 1] (o.map sP) (fS (inS l))) ?_ fun o ho => Rn.lt (Rn.some ⟨by omega, o, ?_, ho.1, ho.2.1, hj1, ho.2.2⟩)
    · refine Rn.bnE hn0 (Rn.bnE (Has_ok l _ (by omega)) (Rn.bnE (Has_ok [] _ (by simp)) ?_))
      rw [show decide (inS [] m[j]) = false from decide_eq_false (by unfold inS; simp)]
      rcases Decidable.em (inS l m[j]) with hin | hin
      · rw [decide_eq_true hin]
        refine Rn.bnE (v := (true, true)) rfl (Rn.bnE (v := true) rfl (Rn.lt (Rn.ite (fun h => by simp [notB] at h) fun _ => ?_)))
        have g3 := g2 () (fS_some hin)
        rcases Decidable.em (out = []) with he | he
        · subst he
          refine Rn.bnE (v := false) rfl (Rn.lt (Rn.ite (fun h => by simp at h) fun _ => Rn.bnE hn0 (Rn.lt ?_)))
          refine Rn.bnE hn1 (Rn.lt (Rn.chk rfl (Rn.lt (Rn.some ⟨by simp, ?_, ?_⟩))))
          · intro x hx
            simp at hx
            subst hx
            simp only [inB]
            rw [subI_64 (by omega) (by omega)]
            omega
          · rw [subI_64 (by omega) (by omega)]
            exact g3
        · obtain ⟨k, x, rfl⟩ : ∃ k x, out = k ++ [x] := ⟨out.dropLast, out.getLast he, (List.dropLast_concat_getLast he).symm⟩
          have hxt := t2 x (by simp)
          unfold inB at hxt
          have el : subI .i64 (lenI (k ++ [x])) 1 = ((k.length : Nat) : Int) := by
            rw [lenI_eq, subI_64 (by omega) (by omega)]
            simp
          have hk : k.length < (k ++ [x]).length := by simp
          have hn : nth (k ++ [x]) ((k.length : Nat) : Int) = some x := by rw [nth_some hk]; simp
          rw [putP_unit rfl] at g3
          refine Rn.bnE (v := eqI x.to (m[j] - 1)) ?_ (Rn.lt (Rn.ite (fun h => ?_) fun h => ?_))
          · simp only [lt_eq]
            rw [gt_t (by rw [lenI_eq]; simp), ite_t, el, hn]
            simp only [bn_some]
            rw [hn0]
            simp only [bn_some]
            rw [subI_64 (by omega) (by omega)]
          · have hx : x.to = m[j] - 1 := of_decide_eq_true h
            rw [if_pos (by omega)] at g3
            refine Rn.lt (Rn.lt (Rn.lt ?_))
            rw [el]
            refine Rn.bnE hn1 (Rn.lt (Rn.bnE hn (Rn.lt (Rn.some ?_))))
            rw [subI_64 (by omega) (by omega), Int.toNat_natCast, List.set_append_right _ _ (by omega), Nat.sub_self]
            refine ⟨by simp at t1 ⊢; omega, ?_, g3⟩
            intro z hz
            rcases List.mem_append.1 hz with hz | hz
            · exact t2 z (by simp [hz])
            · simp at hz
              subst hz
              simp only [inB]
              omega
          · have hx : x.to ≠ m[j] - 1 := of_decide_eq_false h
            rw [if_neg (by omega)] at g3
            refine Rn.bnE hn0 (Rn.lt ?_)
            refine Rn.bnE hn1 (Rn.lt (Rn.chk (by simp [room]; simp at t1; omega) (Rn.lt (Rn.some ?_))))
            rw [subI_64 (by omega) (by omega)]
            refine ⟨by simp at t1 ⊢; omega, ?_, g3⟩
            intro z hz
            rcases List.mem_append.1 hz with hz | hz
            · exact t2 z hz
            · simp at hz
              subst hz
              simp only [inB]
              omega
      · rw [decide_eq_false hin]
        refine Rn.bnE (v := (false, false)) rfl (Rn.bnE (v := false) rfl (Rn.lt (Rn.ite (fun _ => Rn.some ⟨Nat.le_succ_of_le t1, t2, g1 (fS_none hin)⟩) fun h => by simp [notB] at h)))
    · rfl
  · have hj1 : m.length ≤ j + 1 := by
      have := of_decide_eq_false (p := ((j : Int) + 1 < (m.length : Int))) hd
      omega
    exact Rn.some ⟨hst.last s1 hjm hj1 t3, show out.length ≤ 2 + 2 * l.length by omega⟩
end Go.Proofs.Ythjenkmbbnjcnaa

/- What the document's Give makes. -/
namespace Go.Proofs.Ythjenkmbbnjcnaa
open Go Go.RowKit
set_option linter.unusedVariables false
set_option linter.unusedSimpArgs false
section
variable {β : Type}
theorem canP_mem : ∀ {l : List (Int × Int × β)} {p : Int × Int × β}, canP l → p ∈ l → (p.1 ≤ p.2.1 ∧ ∀ s, p.1 ≤ s → s ≤ p.2.1 → fnP l s = some p.2.2)
  | [], p, _, hp => by simp at hp
  | q :: l, p, h, hp => by
    rcases List.mem_cons.1 hp with rfl | hp
    · exact ⟨h.head, fun s h1 h2 => fnP_head h1 h2⟩
    · obtain ⟨h1, h2⟩ := canP_mem h.tail hp
      have h3 := h.lt p hp
      exact ⟨h1, fun s g1 g2 => by rw [fnP_out (by omega), h2 s g1 g2]⟩
theorem canP_len : ∀ {l : List (Int × Int × β)} {a b : Int}, canP l → (∀ p ∈ l, a ≤ p.1 ∧ p.2.1 ≤ b) → a ≤ b + 1 → (l.length : Int) ≤ b + 1 - a
  | [], a, b, _, _, h => by simp; omega
  | p :: l, a, b, hc, hp, h => by
    have h1 := hp p (by simp)
    have h2 := hc.head
    have := canP_len (a := p.2.1 + 1) (b := b) hc.tail (fun q hq => ⟨by have := hc.lt q hq; omega, (hp q (by simp [hq])).2⟩) (by omega)
    simp
    omega
end
/-- Claims in their bounds. -/
def RngC (l : List Claim) : Prop := ∀ c ∈ l, 0 ≤ c.frm ∧ c.frm ≤ c.to ∧ c.to ≤ 16383 ∧ 0 ≤ c.node ∧ 1 ≤ c.epoch
/-- Claims as they should stand. -/
def GoodC (l : List Claim) : Prop := canP (l.map cP) ∧ RngC l
/-- f tells whose slots are, and since when. -/
def Tells (f : Int → Option (Int × Int)) : Prop := ∀ s v, f s = some v → (0 ≤ s ∧ s ≤ 16383) ∧ 0 ≤ v.1 ∧ 1 ≤ v.2
theorem cP_inj : ∀ {a b : Claim}, cP a = cP b → a = b := by
  intro a b h
  obtain ⟨a1, a2, a3, a4⟩ := a
  obtain ⟨b1, b2, b3, b4⟩ := b
  simp [cP] at h
  obtain ⟨h1, h2, h3, h4⟩ := h
  subst h1 h2 h3 h4
  rfl
theorem map_inj {α γ : Type} {f : α → γ} (hf : ∀ {a b}, f a = f b → a = b) : ∀ {l m : List α}, l.map f = m.map f → l = m
  | [], [], _ => rfl
  | [], b :: m, h => by simp at h
  | a :: l, [], h => by simp at h
  | a :: l, b :: m, h => by
    rw [List.map_cons, List.map_cons, List.cons.injEq] at h
    have e1 : a = b := hf h.1
    have e2 : l = m := map_inj (f := f) hf h.2
    rw [e1, e2]
theorem FinP.good {l : List Claim} {f : Int → Option (Int × Int)} (h : FinP (l.map cP) f) (ht : Tells f) : GoodC l := by
  refine ⟨h.1, fun c hc => ?_⟩
  obtain ⟨h1, h2⟩ := canP_mem h.1 (List.mem_map_of_mem hc)
  have a := ht c.frm _ ((h.2 _).symm.trans (h2 c.frm (Int.le_refl _) h1))
  have b := ht c.to _ ((h.2 _).symm.trans (h2 c.to h1 (Int.le_refl _)))
  have h1' : c.frm ≤ c.to := h1
  have e1 : (cP c).2.2.1 = c.node := rfl
  have e2 : (cP c).2.2.2 = c.epoch := rfl
  rw [e1, e2] at a
  exact ⟨a.1.1, h1', b.1.2, a.2.1, a.2.2⟩
theorem GoodC.tells {l : List Claim} (h : GoodC l) : Tells (fC l) := by
  intro s v hv
  have key : ∀ l : List Claim, RngC l → fC l s = some v → (0 ≤ s ∧ s ≤ 16383) ∧ 0 ≤ v.1 ∧ 1 ≤ v.2 := by
    intro l
    induction l with
    | nil => intro _ h; simp [fC, fnP] at h
    | cons c l ih =>
      intro hr hf
      have hc := hr c (by simp)
      rcases Decidable.em (c.frm ≤ s ∧ s ≤ c.to) with h1 | h1
      · have : fC (c :: l) s = some (c.node, c.epoch) := fnP_head (p := cP c) h1.1 h1.2
        rw [this] at hf
        have := Option.some.inj hf
        subst this
        exact ⟨by omega, hc.2.2.2.1, hc.2.2.2.2⟩
      · have : fC (c :: l) s = fC l s := fnP_out (p := cP c) h1
        rw [this] at hf
        exact ih (fun x hx => hr x (by simp [hx])) hf
  exact key l h.2 hv
theorem GoodC.len {l : List Claim} (h : GoodC l) : l.length ≤ 16384 := by
  have := canP_len (a := 0) (b := 16383) h.1 (fun p hp => by
    obtain ⟨c, hc, rfl⟩ := List.mem_map.1 hp
    have := h.2 c hc
    exact ⟨this.1, this.2.2.1⟩) (by omega)
  simp at this
  omega
theorem GoodC.fin {l : List Claim} (h : GoodC l) : FinP (l.map cP) (fC l) := ⟨h.1, fun _ => rfl⟩
/-- f turns where claims begin, or have ended. -/
theorem GoodC.step {l : List Claim} (h : GoodC l) {m : List Int} (hm : ∀ c ∈ l, c.frm ∈ m ∧ c.to + 1 ∈ m) : ∀ s, s + 1 ∉ m → fC l (s + 1) = fC l s := by
  intro s hs
  refine fnP_step fun p hp => ?_
  obtain ⟨c, hc, rfl⟩ := List.mem_map.1 hp
  obtain ⟨h1, h2⟩ := hm c hc
  exact ⟨fun e => hs (by rw [e]; exact h1), fun e => hs (by rw [e]; exact h2)⟩
def giveF (f : Int → Option (Int × Int)) (p : Int → Prop) [DecidablePred p] (v : Int × Int) (s : Int) : Option (Int × Int) := if p s then some v else f s
theorem fn_sP {l : List Span} {s : Int} : fnP (l.map sP) s = fS (fun s => ∃ x ∈ l, x.frm ≤ s ∧ s ≤ x.to) s := by
  induction l with
  | nil => rw [fS_none (by simp)]; rfl
  | cons x l ih =>
    rcases Decidable.em (x.frm ≤ s ∧ s ≤ x.to) with h | h
    · rw [fS_some ⟨x, by simp, h⟩]
      exact fnP_head (p := sP x) h.1 h.2
    · have : fnP ((x :: l).map sP) s = fnP (l.map sP) s := fnP_out (p := sP x) h
      rw [this, ih]
      unfold fS
      have : (∃ y ∈ x :: l, y.frm ≤ s ∧ s ≤ y.to) ↔ (∃ y ∈ l, y.frm ≤ s ∧ s ≤ y.to) := by
        constructor
        · rintro ⟨y, hy, h2⟩
          rcases List.mem_cons.1 hy with rfl | hy
          · exact absurd h2 h
          · exact ⟨y, hy, h2⟩
        · rintro ⟨y, hy, h2⟩
          exact ⟨y, by simp [hy], h2⟩
      simp only [this]
/-- Spans that stand as they should and say what p does. -/
def SaysS (l : List Span) (p : Int → Prop) [DecidablePred p] : Prop := FinP (l.map sP) (fS p)
theorem SaysS.iff {l : List Span} {p : Int → Prop} [DecidablePred p] (h : SaysS l p) (s : Int) : (∃ x ∈ l, x.frm ≤ s ∧ s ≤ x.to) ↔ p s := by
  have := h.2 s
  rw [fn_sP] at this
  unfold fS at this
  constructor
  · intro h1
    rw [if_pos h1] at this
    rcases Decidable.em (p s) with h2 | h2
    · exact h2
    · rw [if_neg h2] at this
      simp at this
  · intro h1
    rw [if_pos h1] at this
    rcases Decidable.em (∃ x ∈ l, x.frm ≤ s ∧ s ≤ x.to) with h2 | h2
    · exact h2
    · rw [if_neg h2] at this
      simp at this
theorem SaysS.rng {l : List Span} {p : Int → Prop} [DecidablePred p] (h : SaysS l p) (hp : ∀ s, p s → 0 ≤ s ∧ s ≤ 16383) : ∀ x ∈ l, 0 ≤ x.frm ∧ x.frm ≤ x.to ∧ x.to ≤ 16383 := by
  intro x hx
  obtain ⟨h1, -⟩ := canP_mem h.1 (List.mem_map_of_mem hx)
  have h1' : x.frm ≤ x.to := h1
  have a := hp x.frm ((h.iff _).1 ⟨x, hx, Int.le_refl _, h1'⟩)
  have b := hp x.to ((h.iff _).1 ⟨x, hx, h1', Int.le_refl _⟩)
  omega
theorem SaysS.len {l : List Span} {p : Int → Prop} [DecidablePred p] (h : SaysS l p) (hp : ∀ s, p s → 0 ≤ s ∧ s ≤ 16383) : l.length ≤ 16384 := by
  have := canP_len (a := 0) (b := 16383) h.1 (fun q hq => by
    obtain ⟨c, hc, rfl⟩ := List.mem_map.1 hq
    have := h.rng hp c hc
    exact ⟨this.1, this.2.2⟩) (by omega)
  simp at this
  omega
theorem inS_rng {l : List Span} : ∀ s, inS l s → 0 ≤ s ∧ s ≤ 16383 := fun s h => by have := h.1; omega
theorem SaysS.inS {l : List Span} {p : Int → Prop} [DecidablePred p] (h : SaysS l p) (hp : ∀ s, p s → 0 ≤ s ∧ s ≤ 16383) (s : Int) : Go.Proofs.Ythjenkmbbnjcnaa.inS l s ↔ p s := by
  unfold Go.Proofs.Ythjenkmbbnjcnaa.inS
  rw [h.iff]
  constructor
  · exact fun h => h.2
  · intro h1
    have := hp s h1
    exact ⟨by omega, h1⟩
theorem SaysS.step {l : List Span} {p : Int → Prop} [DecidablePred p] (h : SaysS l p) {m : List Int} (hm : ∀ x ∈ l, x.frm ∈ m ∧ x.to + 1 ∈ m) : ∀ s, s + 1 ∉ m → (p (s + 1) ↔ p s) := by
  intro s hs
  have : fnP (l.map sP) (s + 1) = fnP (l.map sP) s := fnP_step fun q hq => by
    obtain ⟨c, hc, rfl⟩ := List.mem_map.1 hq
    obtain ⟨h1, h2⟩ := hm c hc
    exact ⟨fun e => hs (by rw [e]; exact h1), fun e => hs (by rw [e]; exact h2)⟩
  rw [h.2, h.2] at this
  unfold fS at this
  constructor
  · intro h1
    rw [if_pos h1] at this
    rcases Decidable.em (p s) with h2 | h2
    · exact h2
    · rw [if_neg h2] at this
      simp at this
  · intro h1
    rw [if_pos h1] at this
    rcases Decidable.em (p (s + 1)) with h2 | h2
    · exact h2
    · rw [if_neg h2] at this
      simp at this
theorem Give13_ok {a : List Claim} {l : List Span} {nd ep : Int} (ha : GoodC a) (hl : l.length ≤ 1000) (h1 : 0 ≤ nd) (h2 : 1 ≤ ep) :
    Rn (r13_Give_sh big a l nd ep) fun r => FinP (r.map cP) (giveF (fC a) (inS l) (nd, ep)) := by
  unfold r13_Give_sh
  have hal := ha.len
  refine Rn.bn (Norm_ok (by omega)) fun v hv => ?_
  obtain ⟨v1, v2⟩ := hv
  have hv1 : SaysS v (inS l) := v1
  have hvr := hv1.rng inS_rng
  refine Rn.bn (marks_ok SM.nil (by simp; omega) fun c hc => by have := ha.2 c hc; unfold inB; omega) fun m0 hm0 => ?_
  obtain ⟨s1, s2, s3⟩ := hm0
  refine Rn.bn (P := fun m => SM m ∧ (∀ y, y ∈ m ↔ y ∈ m0 ∨ ((∃ c ∈ v, y = c.frm ∨ y = c.to + 1) ∧ 0 ≤ y ∧ y ≤ 16384)) ∧ m.length ≤ m0.length + 2 * v.length) (Rn.iter _ (fun j y => ∃ m, y = (m, (j : Int)) ∧ SM m ∧ (∀ y, y ∈ m ↔ y ∈ m0 ∨ ((∃ c ∈ v.take j, y = c.frm ∨ y = c.to + 1) ∧ 0 ≤ y ∧ y ≤ 16384)) ∧ m.length ≤ m0.length + 2 * j) v.length (by unfold big; omega) ⟨m0, rfl, s1, by simp, by omega⟩ fun j y hj hI => ?_) fun m hm => ?_
  · obtain ⟨m1, rfl, t1, t2, t3⟩ := hI
    simp only [List.length_nil, Nat.zero_add] at s3
    refine Rn.lt (Rn.lt (Rn.ite (fun hd => ?_) fun hd => ?_))
    · have hjl : j < v.length := by
        have := of_decide_eq_true (p := ((j : Int) < (v.length : Int))) hd
        omega
      refine Rn.bnE (nth_some hjl) ?_
      have hb := hvr _ (List.getElem_mem hjl)
      refine Rn.bn (Mark_ok (m := m1) t1 (by omega)) fun m2 h2 => ?_
      obtain ⟨u1, u2, u3⟩ := h2
      refine Rn.lt ?_
      rw [addI_64 (by omega) (by omega)]
      refine Rn.bn (Mark_ok u1 (by omega)) fun m3 h3 => ?_
      obtain ⟨w1, w2, w3⟩ := h3
      refine Rn.lt (Rn.some ⟨hjl, m3, ?_, w1, fun y => ?_, by omega⟩)
      · simp only []
        rw [addI_64 (by omega) (by omega)]
        rfl
      · rw [w2, u2, t2, ← List.take_append_getElem hjl]
        simp only [List.mem_append, List.mem_singleton]
        constructor
        · rintro ((( h | ⟨⟨c, hc, h⟩, h'⟩) | ⟨rfl, h, h'⟩) | ⟨rfl, h, h'⟩)
          · exact .inl h
          · exact .inr ⟨⟨c, .inl hc, h⟩, h'⟩
          · exact .inr ⟨⟨_, .inr rfl, .inl rfl⟩, h, h'⟩
          · exact .inr ⟨⟨_, .inr rfl, .inr rfl⟩, h, h'⟩
        · rintro (h | ⟨⟨c, hc | rfl, h⟩, h'⟩)
          · exact .inl (.inl (.inl h))
          · exact .inl (.inl (.inr ⟨⟨c, hc, h⟩, h'⟩))
          · rcases h with rfl | rfl
            · exact .inl (.inr ⟨rfl, h'⟩)
            · exact .inr ⟨rfl, h'⟩
    · have hjl : j = v.length := by
        have := of_decide_eq_false (p := ((j : Int) < (v.length : Int))) hd
        omega
      subst hjl
      rw [List.take_length] at t2
      exact Rn.some ⟨t1, t2, t3⟩
  obtain ⟨t1, t2, t3⟩ := hm
  simp only [List.length_nil, Nat.zero_add] at s3
  have hma : ∀ c ∈ a, c.frm ∈ m ∧ c.to + 1 ∈ m := by
    intro c hc
    have hr := ha.2 c hc
    exact ⟨(t2 _).2 (.inl ((s2 _).2 (.inr ⟨⟨c, hc, .inl rfl⟩, by omega⟩))), (t2 _).2 (.inl ((s2 _).2 (.inr ⟨⟨c, hc, .inr rfl⟩, by omega⟩)))⟩
  have hmv : ∀ x ∈ v, x.frm ∈ m ∧ x.to + 1 ∈ m := by
    intro x hx
    have hr := hvr x hx
    exact ⟨(t2 _).2 (.inr ⟨⟨x, hx, .inl rfl⟩, by omega⟩), (t2 _).2 (.inr ⟨⟨x, hx, .inr rfl⟩, by omega⟩)⟩
  have hst : Stp m (giveF (fC a) (inS l) (nd, ep)) := by
    refine ⟨fun s hs => ?_, fun s hs => ?_⟩
    · unfold giveF
      rw [ha.step hma s hs]
      simp only [hv1.step hmv s hs]
    · unfold giveF
      rw [if_neg fun h => by have := inS_rng s h; omega]
      cases hf : fC a s with
      | none => rfl
      | some w => exact absurd (ha.tells s w hf).1 (by omega)
  rcases Nat.eq_zero_or_pos m.length with hm0 | hpos
  · have hm0' : m = [] := List.length_eq_zero_iff.1 hm0
    subst hm0'
    refine Rn.bn (P := fun r => r = []) (Rn.iter _ (fun j y => y = ((0 : Int), ([] : List Claim)) ∧ j = 0) 0 (by unfold big; omega) ⟨rfl, rfl⟩ fun j y hj hI => ?_) fun r h => ?_
    · obtain ⟨rfl, rfl⟩ := hI
      exact Rn.lt (Rn.lt (Rn.lt (Rn.ite (fun h => absurd h (by decide)) fun _ => Rn.some rfl)))
    · subst h
      exact Rn.chk rfl (Rn.some hst.none)
  refine Rn.bn (P := fun r => FinP (r.map cP) (giveF (fC a) (inS l) (nd, ep)) ∧ r.length ≤ m.length) (Rn.iter _ (fun j y => ∃ out : List Claim, y = ((j : Int), out) ∧ out.length ≤ j ∧ (∀ x ∈ out, inB x.to) ∧ ∃ h : j < m.length, BdP m[j] (out.map cP) (giveF (fC a) (inS l) (nd, ep))) m.length (by unfold big; omega) ⟨[], rfl, by simp, by simp, hpos, hst.first t1 hpos⟩ fun j y hj hI => ?_) fun r h => Rn.chk (by have := h.2; simp [room]; omega) (Rn.some h.1)
  obtain ⟨out, rfl, o1, o2, hjm, o3⟩ := hI
  refine Rn.lt (Rn.lt (Rn.lt ?_))
  rw [addI_64 (by omega) (by omega), lenI_eq]
  refine Rn.ite (fun hd => ?_) fun hd => ?_
  · have hj1 : j + 1 < m.length := by
      have := of_decide_eq_true (p := ((j : Int) + 1 < (m.length : Int))) hd
      omega
    have hn0 : nth m (j : Int) = some m[j] := nth_some hjm
    have hn1 : nth m ((j : Int) + 1) = some m[j + 1] := nth_some (i := j + 1) hj1
    have hm0 := t1.2 _ (List.getElem_mem hjm)
    have hm1 := t1.2 _ (List.getElem_mem hj1)
    obtain ⟨g1, g2⟩ := hst.next t1 hj1 o3
    refine Rn.bn (P := fun o => o.length ≤ j + 1 ∧ (∀ x ∈ o, inB x.to) ∧ BdP m[j + 1] (o.map cP) (giveF (fC a) (inS l) (nd, ep))) ?_ fun o ho => Rn.lt (Rn.some ⟨by omega, o, ?_, ho.1, ho.2.1, hj1, ho.2.2⟩)
    · refine Rn.bnE hn0 (Rn.bnE (Of_ok a _ (by omega)) ?_)
      have hH := Has_ok v m[j] (by have := hv1.len inS_rng; omega)
      rw [show decide (inS v m[j]) = decide (inS l m[j]) from decide_eq_decide.2 (hv1.inS inS_rng _)] at hH
      have step : ∀ w : Int × Int, giveF (fC a) (inS l) (nd, ep) m[j] = some w → 0 ≤ w.1 → Rn (lt (geI w.1 0) fun v24 =>
          ite' v24 (bn (nth m (j : Int)) fun v25 =>
          lt ((j : Int) + 1) fun v26 =>
          bn (nth m v26) fun v27 =>
          lt (subI .i64 v27 1) fun v28 =>
          bn (r13_more_xf_sh big out (⟨v25, v28, w.1, w.2⟩ : Claim)) fun v29 =>
          some (v29)) (some out)) fun o => o.length ≤ j + 1 ∧ (∀ x ∈ o, inB x.to) ∧ BdP m[j + 1] (o.map cP) (giveF (fC a) (inS l) (nd, ep)) := by
        intro w hw hw0
        have g3 := g2 w hw
        refine Rn.lt ?_
        rw [ge_t hw0]
        refine Rn.ite (fun _ => Rn.bnE hn0 (Rn.lt (Rn.bnE hn1 (Rn.lt ?_)))) fun h => by simp at h
        rw [subI_64 (by omega) (by omega)]
        refine Rn.bn (more_ok (by omega) o2 (by unfold inB; show _ ∧ _; simp only; omega)) fun o ho => Rn.some ?_
        obtain ⟨p1, p2⟩ := ho
        have p3 : BdP m[j + 1] (o.map cP) (giveF (fC a) (inS l) (nd, ep)) := by rw [p1]; exact g3
        refine ⟨by omega, fun x hx => ?_, p3⟩
        have a1 := p3.pos _ (List.mem_map_of_mem hx)
        obtain ⟨a2, a3⟩ := canP_mem p3.can (List.mem_map_of_mem hx)
        have a4 : x.to < m[j + 1] := a1
        have a5 : x.frm ≤ x.to := a2
        have a6 := p3.fn x.frm (by omega)
        rw [a3 x.frm (Int.le_refl _) a5] at a6
        have a7 : 0 ≤ x.frm := by
          rcases Decidable.em (x.frm < 0) with h | h
          · rw [hst.2 x.frm (.inl h)] at a6
            simp at a6
          · omega
        unfold inB
        omega
      rcases Decidable.em (inS l m[j]) with hin | hin
      · have hg : giveF (fC a) (inS l) (nd, ep) m[j] = some (nd, ep) := if_pos hin
        refine Rn.bnE (v := (nd, ep)) ?_ (step _ hg h1)
        rw [hH, decide_eq_true hin]
        rfl
      · have hg : giveF (fC a) (inS l) (nd, ep) m[j] = fC a m[j] := if_neg hin
        refine Rn.bnE (v := (fC a m[j]).getD (-1, 0)) ?_ ?_
        · rw [hH, decide_eq_false hin]
          rfl
        · cases hf : fC a m[j] with
          | none =>
            refine Rn.lt (Rn.ite (fun h => absurd h (by decide)) fun _ => Rn.some ⟨Nat.le_succ_of_le o1, o2, g1 (by rw [hg, hf])⟩)
          | some w => exact step w (by rw [hg, hf]) (ha.tells _ _ hf).2.1
    · rfl
  · have hj1 : m.length ≤ j + 1 := by
      have := of_decide_eq_false (p := ((j : Int) + 1 < (m.length : Int))) hd
      omega
    exact Rn.some ⟨hst.last t1 hjm hj1 o3, show out.length ≤ m.length by omega⟩
end Go.Proofs.Ythjenkmbbnjcnaa

