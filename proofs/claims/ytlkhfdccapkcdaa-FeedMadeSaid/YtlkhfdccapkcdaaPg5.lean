/- Part 5 of the proof. -/
import Derived.Test.YtlkhfdccapkcdaaPg4
import Derived.Test.YtlkhfdccapkcdaaRows
import Derived.ProofKit
/- Plain laws: comparisons of what is alike, feeds. -/
namespace Go.Proofs.Ytlkhfdccapkcdaa
open Go Go.RowKit
set_option linter.unusedVariables false
set_option linter.unusedSimpArgs false
@[simp] theorem eqS_self (a : ByteArray) : eqS a a = true := by simp [eqS]
@[simp] theorem neS_self (a : ByteArray) : neS a a = false := by simp [neS]
@[simp] theorem eqI_self (a : Int) : eqI a a = true := by simp [eqI]
@[simp] theorem neI_self (a : Int) : neI a a = false := by simp [neI]
@[simp] theorem eqB_self (a : Bool) : eqB a a = true := by simp [eqB]
@[simp] theorem neB_self (a : Bool) : neB a a = false := by simp [neB]
@[simp] theorem andB_tt : andB true true = true := rfl
theorem ltI_t {a b : Int} (h : a < b) : ltI a b = true := by simp [ltI, h]
theorem ltI_f {a b : Int} (h : ¬ a < b) : ltI a b = false := by simp [ltI]; omega
/-- An item of a size that goes through. -/
def okI (i : Item) : Prop := i.f.length ≤ 1000000000 ∧ i.l.length ≤ 1000000000
theorem item_Copy_ok (i : Item) (h : okI i) : item_Copy_sh big i = some i := by
  unfold item_Copy_sh
  have h1 := h.1
  have h2 := h.2
  rw [chk_small h1, chk_small h2, chk_room (by omega) (by omega), chk_room (by omega) (by omega)]
theorem r_eqF_refl (l : List Field) (h : l.length ≤ 100000000000) : r5_SameFields_sh big l l = some true := by
  unfold r5_SameFields_sh
  simp only [lt_eq, bn_some, ite_t, ite_f, sm_inl, sm_inr, lenI_eq, Option.some.injEq, neI_self]
  refine bn_run (.inl ()) (fun i => (i : Int)) l.length (by unfold big; omega) rfl (fun i hi => ?_) ?_ ?_
  rotate_left 2
  · rfl
  · rw [ltI_t (by omega)]
    simp only [lt_eq, bn_some, ite_t, ite_f, sm_inl, sm_inr, lenI_eq, Option.some.injEq, nth_some hi, eqS_self, andB_tt, notB_t]
    rw [addI_64 (by omega) (by omega)]
    rfl
  · rw [ltI_f (by omega)]; rfl
theorem r_eqT_refl (l : List ByteArray) (h : l.length ≤ 100000000000) : r1_Texts_sh big l l = some true := by
  unfold r1_Texts_sh
  simp only [lt_eq, bn_some, ite_t, ite_f, sm_inl, sm_inr, lenI_eq, Option.some.injEq, neI_self]
  refine bn_run (.inl ()) (fun i => (i : Int)) l.length (by unfold big; omega) rfl (fun i hi => ?_) ?_ ?_
  rotate_left 2
  · rfl
  · rw [ltI_t (by omega)]
    simp only [lt_eq, bn_some, ite_t, ite_f, sm_inl, sm_inr, lenI_eq, Option.some.injEq, nth_some hi, neS_self]
    rw [addI_64 (by omega) (by omega)]
    rfl
  · rw [ltI_f (by omega)]; rfl
theorem r_SameItem_refl (i : Item) (h : okI i) : r5_SameItem_sh big i i = some true := by
  unfold r5_SameItem_sh
  simp only [lt_eq, bn_some, ite_t, ite_f, sm_inl, sm_inr, lenI_eq, Option.some.injEq, eqI_self, eqS_self, r_eqF_refl i.f (by have := h.1; omega), r_eqT_refl i.l (by have := h.2; omega)]
def okE (l : List Effect) : Prop := l.length ≤ 1000000000 ∧ ∀ e ∈ l, okI e.item
theorem r_SameEffects_refl (l : List Effect) (h : okE l) : r5_SameEffects_sh big l l = some true := by
  have hl := h.1
  unfold r5_SameEffects_sh
  simp only [lt_eq, bn_some, ite_t, ite_f, sm_inl, sm_inr, lenI_eq, Option.some.injEq, neI_self]
  refine bn_run (.inl ()) (fun i => (i : Int)) l.length (by unfold big; omega) rfl (fun i hi => ?_) ?_ ?_
  rotate_left 2
  · rfl
  · rw [ltI_t (by omega)]
    simp only [lt_eq, bn_some, ite_t, ite_f, sm_inl, sm_inr, lenI_eq, Option.some.injEq, nth_some hi, neS_self, neB_self, r_SameItem_refl _ (h.2 _ (List.getElem_mem hi)), notB_t]
    rw [addI_64 (by omega) (by omega)]
    rfl
  · rw [ltI_f (by omega)]; rfl
theorem copied_ok (l : List Effect) (h : okE l) : feed_copied_sh big l = some l := by
  have hl := h.1
  unfold feed_copied_sh
  rw [chk_small hl]
  simp only [lt_eq, bn_some, ite_t, ite_f, sm_inl, sm_inr, lenI_eq, Option.some.injEq]
  refine bn_run (l) (fun i => ((i : Int), l)) l.length (by unfold big; omega) rfl (fun i hi => ?_) ?_ ?_
  rotate_left 2
  · rw [chk_room (by omega) (by omega)]
  · rw [ltI_t (by simp; omega)]
    simp only [lt_eq, bn_some, ite_t, ite_f, sm_inl, sm_inr, lenI_eq, Option.some.injEq, nth_some hi, item_Copy_ok _ (h.2 _ (List.getElem_mem hi))]
    rw [addI_64 (by omega) (by omega)]
    have e : l.set i { key := l[i].key, gone := l[i].gone, item := l[i].item } = l := List.set_getElem_self hi
    simp [e]
  · rw [ltI_f (by simp)]; rfl
def lastN (l : List Effect) : List Effect := l.drop (l.length - 64)
theorem okE.drop {l : List Effect} (h : okE l) (k : Nat) : okE (l.drop k) := ⟨by have := h.1; simp; omega, fun e he => h.2 e (List.mem_of_mem_drop he)⟩
theorem okE.app {l m : List Effect} (h : okE l) (h2 : okE m) (h3 : l.length + m.length ≤ 1000000000) : okE (l ++ m) := ⟨by simp; exact h3, fun e he => by
  rcases List.mem_append.1 he with he | he
  · exact h.2 e he
  · exact h2.2 e he⟩
theorem feed_last_ok (l : List Effect) (h : okE l) : feed_last_sh big l 64 = some (lastN l) := by
  have hl := h.1
  unfold feed_last_sh
  simp only [lt_eq, bn_some, ite_t, ite_f, sm_inl, sm_inr, lenI_eq, Option.some.injEq]
  rw [subI_64 (by omega) (by omega)]
  have e : maxI 0 ((l.length : Int) - 64) = ((l.length - 64 : Nat) : Int) := by simp only [maxI]; omega
  rw [e, segl_nat (by omega)]
  simp only [lt_eq, bn_some, ite_t, ite_f, sm_inl, sm_inr, lenI_eq, Option.some.injEq]
  rw [copied_ok _ (h.drop _)]
  rfl
end Go.Proofs.Ytlkhfdccapkcdaa

/- Plain laws: the effects that numbers tell. -/
namespace Go.Proofs.Ytlkhfdccapkcdaa
open Go Go.RowKit
set_option linter.unusedVariables false
set_option linter.unusedSimpArgs false
theorem remI_pos {k : IntKind} {a b : Int} (h : 0 ≤ a) (hb : 0 < b) : remI k a b = some (a % b) := by
  have : ¬ b = 0 := by omega
  simp only [remI, ne_eq, this, not_false_eq_true, if_true, Int.tmod_eq_emod_of_nonneg h]
theorem quoI_u64 {a b : Int} (h : 0 ≤ a) (h2 : a < 18446744073709551616) (hb : 0 < b) : quoI .u64 a b = some (a / b) := by
  have hne : ¬ b = 0 := by omega
  have h3 : a / b ≤ a := Int.ediv_le_self b h
  have h4 : 0 ≤ a / b := Int.ediv_nonneg h (by omega)
  simp only [quoI, ne_eq, hne, not_false_eq_true, if_true, Int.tdiv_eq_ediv_of_nonneg h, wrap_u64]
  rw [Int.emod_eq_of_lt h4 (by omega)]
theorem quoI_64 {a b : Int} (h : 0 ≤ a) (h2 : a < 9223372036854775808) (hb : 0 < b) : quoI .i64 a b = some (a / b) := by
  have hne : ¬ b = 0 := by omega
  have h3 : a / b ≤ a := Int.ediv_le_self b h
  have h4 : 0 ≤ a / b := Int.ediv_nonneg h (by omega)
  simp only [quoI, ne_eq, hne, not_false_eq_true, if_true, Int.tdiv_eq_ediv_of_nonneg h]
  rw [wrap64 (by omega) (by omega)]
theorem catS_ok {a b : ByteArray} (h : a.size + b.size ≤ 9223372036854775807) : catS a b = some (a ++ b) := by simp [catS, h]
theorem strL1 (x : Int) : (strL [x]).size = 1 := rfl
theorem Rn.cat {β : Type} {a b : ByteArray} {k : ByteArray → Option β} {Q : β → Prop} (h : a.size + b.size ≤ 9223372036854775807) (hk : Rn (k (a ++ b)) Q) : Rn (Go.Proofs.Ytlkhfdccapkcdaa.bn (catS a b) k) Q := Rn.bnE (catS_ok h) hk
theorem Digits_ok (a : Int) (h : -9223372036854775808 ≤ a) (h2 : a ≤ 9223372036854775807) : Rn (r1_Digits_sh big a) fun s => s.size ≤ 30 := by
  unfold r1_Digits_sh
  refine Rn.lt (Rn.bn (P := fun v : Int => 0 ≤ v ∧ v < 18446744073709551616) ?_ fun v hv => ?_)
  · refine Rn.lt (Rn.ite (fun _ => Rn.lt (Rn.some ?_)) (fun _ => Rn.some ?_)) <;> simp only [negI, cvI, wrap_u64] <;> omega
  refine Rn.bn (P := fun b : Int × ByteArray => 0 ≤ b.1 ∧ b.2.size ≤ 20) (Rn.iter _ (fun k a => 0 ≤ a.1 ∧ a.1 < 18446744073709551616 ∧ a.1 < 10 ^ (20 - k) ∧ a.2.size = k) 20 (by unfold big; omega) ⟨hv.1, hv.2, by simp only; omega, rfl⟩ fun k a hk hI => ?_) fun b hb => ?_
  · obtain ⟨i1, i2, i3, i4⟩ := hI
    refine Rn.lt (Rn.ite (fun hg => ?_) (fun hg => Rn.some ⟨i1, by simp only; omega⟩))
    have hg : 10 ≤ a.1 := by simpa [geI] using hg
    have hk2 : k < 20 := by
      apply Nat.lt_of_not_le
      intro hk3
      have : 20 - k = 0 := by omega
      rw [this] at i3
      simp at i3
      omega
    refine Rn.bnE (remI_pos i1 (by omega)) (Rn.lt (Rn.lt (Rn.lt (Rn.cat ?_ (Rn.bnE (quoI_u64 i1 i2 (by omega)) (Rn.some ⟨hk2, ?_, ?_, ?_, ?_⟩))))))
    · rw [strL1]; omega
    · simp only; omega
    · simp only; omega
    · have e : 20 - k = (20 - (k + 1)) + 1 := by omega
      rw [e, Int.pow_succ] at i3
      simp only
      omega
    · simp [strL1, i4]; omega
  · refine Rn.lt (Rn.lt (Rn.lt (Rn.cat ?_ (Rn.lt (Rn.ite (fun _ => Rn.cat ?_ (Rn.some ?_)) (fun _ => Rn.some ?_))))))
    · rw [strL1]; omega
    · have e1 : (⟨#[45]⟩ : ByteArray).size = 1 := rfl
      simp only [ByteArray.size_append, strL1, e1]; omega
    · have e1 : (⟨#[45]⟩ : ByteArray).size = 1 := rfl
      simp only [ByteArray.size_append, strL1, e1]; omega
    · simp [strL1]; omega
theorem Key_ok (a : Int) (h : 0 ≤ a) (h2 : a ≤ 255) : Rn (l11_Key_sh big a) fun _ => True := by
  unfold l11_Key_sh
  refine Rn.bnE (remI_pos h (by omega)) (Rn.lt (Rn.lt (Rn.cat ?_ (Rn.cat ?_ (Rn.lt ?_)))))
  · rw [strL1]; decide
  · rw [ByteArray.size_append, strL1]; decide
  rw [cvI_64 (by omega) (by omega)]
  refine Rn.bnE (quoI_64 h (by omega) (by omega)) (Rn.bnE (remI_pos (by omega) (by omega)) (Rn.bn (Digits_ok _ (by omega) (by omega)) fun s hs => Rn.cat ?_ (Rn.some trivial)))
  have e1 : (⟨#[123]⟩ : ByteArray).size = 1 := rfl
  have e2 : (⟨#[125]⟩ : ByteArray).size = 1 := rfl
  simp only [ByteArray.size_append, strL1, e1, e2]
  omega
theorem HSet_ok (l : List Field) (x y : ByteArray) (h : l.length ≤ 100) : Rn (r5_HSet_sh big l x y) fun m => m.length ≤ l.length + 1 := by
  unfold r5_HSet_sh
  refine Rn.bn (P := fun b : Bool × List Field => b.2.length + (if b.1 then 0 else 1) ≤ l.length + 1)
    (Rn.iter _ (fun k a => a.2.1 = (k : Int) ∧ a.2.2.length + (if a.1 then 0 else 1) ≤ k + 1) l.length (by unfold big; omega) ⟨rfl, by simp⟩ fun k a hk hI => ?_) fun b hb => ?_
  · obtain ⟨d, i, m⟩ := a
    obtain ⟨rfl, i2⟩ := hI
    simp only at i2
    refine Rn.lt (Rn.lt (Rn.ite (fun hg => ?_) (fun hg => Rn.some ?_)))
    · have hk2 : k < l.length := by
        have : ((k : Int) < (l.length : Int)) := by simpa [ltI, lenI] using hg
        omega
      refine Rn.bn (P := fun b : Bool × List Field => b.2.length + (if b.1 then 0 else 1) ≤ k + 2) ?_ fun b hb => ?_
      · refine Rn.bn (P := fun b : Bool × List Field => b.2.length + (if b.1 then 0 else 1) ≤ k + 1) ?_ fun b hb => ?_
        · refine Rn.bn (P := fun b : Bool => b = true → d = false) ?_ fun b hb => ?_
          · refine Rn.lt (Rn.ite (fun hd => Rn.bnE (nth_some hk2) (Rn.lt (Rn.some fun _ => ?_))) (fun hd => Rn.some (by simp)))
            simpa [notB] using hd
          · refine Rn.lt (Rn.ite (fun hd => Rn.room ?_ ?_ (Rn.lt (Rn.some ?_))) (fun hd => Rn.some i2))
            · simp only; split at i2 <;> omega
            · simp only; split at i2 <;> omega
            · rw [hb hd] at i2
              simpa using i2
        · refine Rn.bnE (nth_some hk2) (Rn.lt (Rn.ite (fun hd => Rn.room ?_ ?_ (Rn.lt (Rn.some ?_))) (fun hd => Rn.some ?_)))
          · split at hb <;> omega
          · split at hb <;> omega
          · simp only [List.length_append, List.length_cons, List.length_nil]
            omega
          · simp only; omega
      · refine Rn.lt (Rn.some ⟨hk2, ?_, ?_⟩)
        · simp only; rw [addI_64 (by omega) (by omega)]; omega
        · simpa using hb
    · simp only
      split at i2 <;> simp_all <;> omega
  · refine Rn.bn (P := fun m : List Field => m.length ≤ l.length + 1) ?_ fun m hm => Rn.room (by omega) (by omega) (Rn.some hm)
    refine Rn.lt (Rn.ite (fun hd => Rn.room ?_ ?_ (Rn.lt (Rn.some ?_))) (fun hd => Rn.some ?_))
    · split at hb <;> omega
    · split at hb <;> omega
    · have : b.1 = false := by simpa [notB] using hd
      rw [this] at hb
      simpa using hb
    · split at hb <;> omega
theorem SHas_ok (l : List ByteArray) (x : ByteArray) (h : l.length ≤ 1000000000) : Rn (r5_SHas_tf_sh big l x) fun _ => True := by
  unfold r5_SHas_tf_sh
  refine Rn.bn (P := fun _ => True) (Rn.iter _ (fun k a => a = (k : Int)) l.length (by unfold big; omega) rfl fun k a hk hI => ?_) fun b _ => Rn.sm (fun _ _ => Rn.some trivial) (fun _ _ => Rn.some trivial)
  subst hI
  refine Rn.lt (Rn.lt (Rn.ite (fun hg => ?_) (fun hg => Rn.some trivial)))
  have hk2 : k < l.length := by
    have : ((k : Int) < (l.length : Int)) := by simpa [ltI, lenI] using hg
    omega
  refine Rn.bnE (nth_some hk2) (Rn.lt (Rn.ite (fun _ => Rn.some trivial) (fun _ => Rn.lt (Rn.some ⟨hk2, ?_⟩))))
  rw [addI_64 (by omega) (by omega)]; omega
theorem SAdd_ok (l : List ByteArray) (x : ByteArray) (h : l.length ≤ 1000000000) : Rn (r5_SAdd_tf_sh big l x) fun m => m.length ≤ l.length + 1 := by
  unfold r5_SAdd_tf_sh
  refine Rn.bn (SHas_ok l x h) fun v _ => Rn.ite (fun _ => Rn.room (by omega) (by omega) (Rn.some (by omega))) (fun _ => ?_)
  refine Rn.bn (P := fun i : Int => ∃ k : Nat, k ≤ l.length ∧ i = k) (Rn.iter _ (fun k a => a = (k : Int)) l.length (by unfold big; omega) rfl fun k a hk hI => ?_) fun b hb => ?_
  · subst hI
    refine Rn.bn (P := fun b : Bool => b = true → k < l.length) ?_ fun b hb => Rn.lt (Rn.ite (fun hd => Rn.lt (Rn.some ⟨hb hd, ?_⟩)) (fun _ => Rn.some ⟨k, hk, rfl⟩))
    · refine Rn.lt (Rn.lt (Rn.ite (fun hg => ?_) (fun _ => Rn.some (by simp))))
      have hk2 : k < l.length := by
        have : ((k : Int) < (l.length : Int)) := by simpa [ltI, lenI] using hg
        omega
      exact Rn.bnE (nth_some hk2) (Rn.lt (Rn.some fun _ => hk2))
    · have := hb hd
      rw [addI_64 (by omega) (by omega)]; omega
  · obtain ⟨k, hk, rfl⟩ := hb
    refine Rn.bnE (segh_nat hk) (Rn.room ?_ ?_ (Rn.room ?_ ?_ (Rn.lt (Rn.bnE (segl_nat hk) (Rn.room ?_ ?_ (Rn.lt (Rn.some ?_)))))))
    all_goals simp only [List.length_append, List.length_cons, List.length_nil, List.length_take, List.length_drop]
    all_goals omega
end Go.Proofs.Ytlkhfdccapkcdaa

/- Plain laws: items and effects that numbers tell. -/
namespace Go.Proofs.Ytlkhfdccapkcdaa
open Go Go.RowKit
set_option linter.unusedVariables false
set_option linter.unusedSimpArgs false
def u8s (l : List Int) : Prop := ∀ x ∈ l, 0 ≤ x ∧ x ≤ 255
theorem ltI_d {a b : Int} (h : ltI a b = true) : a < b := by simpa [ltI] using h
theorem ltI_n {a b : Int} (h : ltI a b = false) : b ≤ a := by simpa [ltI] using h
theorem eqI_n {a b : Int} (h : eqI a b = false) : a ≠ b := by simpa [eqI] using h
theorem Make_ok (l : List Int) (x : Int) (hl : u8s l) (hx : 0 ≤ x) (hx2 : x ≤ 255) : Rn (l5_Make_sh big l x) fun i => i.f.length ≤ 9 ∧ i.l.length ≤ 9 := by
  unfold l5_Make_sh
  refine Rn.lt (Rn.lt (Rn.ite (fun _ => Rn.some ⟨by simp, by simp⟩) (fun hne => ?_)))
  have h0 : 0 < l.length := by
    have := eqI_n hne
    simp only [lenI] at this
    omega
  have hb0 := hl _ (List.getElem_mem h0)
  refine Rn.bnE (nth_some (i := 0) h0) (Rn.lt ?_)
  rw [cvI_64 (by omega) (by omega)]
  refine Rn.bnE (remI_pos hb0.1 (by omega)) (Rn.lt (Rn.bn (P := fun _ => True) ?_ fun v _ => ?_))
  · refine Rn.bnE (remI_pos hx (by omega)) (Rn.lt (Rn.ite (fun _ => Rn.lt (Rn.some trivial)) (fun _ => Rn.some trivial)))
  generalize addI .i64 1 (l[0] % 4) = kd
  refine Rn.bn (P := fun b : ByteArray × List Field × List ByteArray => b.2.1.length ≤ 9 ∧ b.2.2.length ≤ 9)
    (Rn.iter _ (fun k a => a.1 = ((k + 1 : Nat) : Int) ∧ a.2.1.size ≤ 40 * k ∧ a.2.2.1.length ≤ k ∧ a.2.2.2.length ≤ k) 8 (by unfold big; omega) ⟨rfl, Nat.le_refl _, by simp, by simp⟩ fun k a hk hI => ?_) fun b hb => ?_
  · obtain ⟨i, s, f, m⟩ := a
    obtain ⟨rfl, i2, i3, i4⟩ := hI
    simp only at i2 i3 i4
    refine Rn.bn (P := fun b : Bool => b = true → k < 8 ∧ k + 1 < l.length) ?_ fun b hb => Rn.lt (Rn.ite (fun hd => ?_) (fun _ => Rn.some ⟨by simp only; omega, by simp only; omega⟩))
    · refine Rn.lt (Rn.lt (Rn.ite (fun hg => Rn.lt (Rn.some fun hg2 => ?_)) (fun _ => Rn.some (by simp))))
      have h1 := ltI_d hg
      have h2 := ltI_d hg2
      simp only [lenI] at h1 h2
      omega
    · obtain ⟨hk8, hkl⟩ := hb hd
      have hb1 := hl _ (List.getElem_mem hkl)
      refine Rn.bn (P := fun b : ByteArray × List Field × List ByteArray => b.1.size ≤ 40 * (k + 1) ∧ b.2.1.length ≤ k + 1 ∧ b.2.2.length ≤ k + 1) ?_ fun b hb => Rn.lt (Rn.some ⟨hk8, ?_, hb⟩)
      · refine Rn.bnE (nth_some hkl) (Rn.bnE (remI_pos hb1.1 (by omega)) (Rn.lt (Rn.lt (Rn.lt ?_))))
        rw [cvI_64 (by omega) (by omega)]
        refine Rn.bnE (remI_pos hb1.1 (by omega)) ?_
        refine Rn.bn (Digits_ok _ (by omega) (by omega)) fun d hd => ?_
        refine Rn.cat (by rw [strL1]; omega) ?_
        have hw : ∀ x : Int, (strL [x] ++ d).size ≤ 31 := fun x => by
          rw [ByteArray.size_append, strL1]; omega
        have hw := hw (addI .u8 97 (l[k + 1] % 5))
        revert hw
        generalize strL [addI .u8 97 (l[k + 1] % 5)] ++ d = w
        intro hw
        refine Rn.lt ?_
        refine Rn.ite (fun _ => ?_) (fun _ => ?_)
        · refine Rn.cat (by simp only; omega) (Rn.some ⟨?_, ?_, ?_⟩)
          · rw [ByteArray.size_append]; simp only; omega
          · simp only; omega
          · simp only; omega
        refine Rn.lt ?_
        refine Rn.ite (fun _ => ?_) (fun _ => ?_)
        · refine Rn.lt ?_
          rw [subI_64 (by omega) (by omega)]
          refine Rn.bn (Digits_ok _ (by omega) (by omega)) fun e he => ?_
          refine Rn.bn (HSet_ok _ _ _ (by simp only; omega)) fun z hz => ?_
          refine Rn.some ⟨?_, ?_, ?_⟩
          · simp only; omega
          · simp only at hz ⊢; omega
          · simp only; omega
        refine Rn.lt ?_
        refine Rn.ite (fun _ => ?_) (fun _ => ?_)
        · refine Rn.room (by simp only; omega) (by simp only; omega) (Rn.lt (Rn.some ⟨?_, ?_, ?_⟩))
          · simp only; omega
          · simp only; omega
          · simp only [List.length_append, List.length_cons, List.length_nil]; omega
        · refine Rn.room (by simp only; omega) (by simp only; omega) ?_
          refine Rn.bn (SAdd_ok _ _ (by simp only; omega)) fun z hz => ?_
          refine Rn.some ⟨?_, ?_, ?_⟩
          · simp only; omega
          · simp only; omega
          · simp only at hz ⊢; omega
      · show addI .i64 ((k + 1 : Nat) : Int) 1 = _
        rw [addI_64 (by omega) (by omega)]; omega
  · refine Rn.bn (P := fun _ => True) ?_ fun c _ => ?_
    rotate_left
    · refine Rn.lt (Rn.ite (fun _ => ?_) (fun _ => Rn.room (by omega) (by omega) (Rn.some hb)))
      refine Rn.bnE (nth_some (i := 0) h0) (Rn.lt ?_)
      rw [cvI_64 (by omega) (by omega)]
      exact Rn.bn (Digits_ok _ (by omega) (by omega)) fun d hd => Rn.some ⟨by simp, by simp⟩
    · exact Rn.lt (Rn.lt (Rn.ite (fun _ => Rn.lt (Rn.some trivial)) (fun _ => Rn.some trivial)))
theorem u8s.seg {l : List Int} (h : u8s l) (i j : Nat) : u8s ((l.drop i).take j) := fun x hx => h x (List.mem_of_mem_drop (List.mem_of_mem_take hx))
theorem Effects_ok (l : List Int) (hl : u8s l) (h : l.length ≤ 1000000000) : Rn (l11_Effects_sh big l) fun m => m.length ≤ 40 ∧ (4 ≤ l.length → 0 < m.length) ∧ 4 * m.length ≤ l.length ∧ ∀ e ∈ m, okI e.item := by
  unfold l11_Effects_sh
  refine Rn.bn (P := fun m : List Effect => m.length ≤ 40 ∧ (4 ≤ l.length → 0 < m.length) ∧ 4 * m.length ≤ l.length ∧ ∀ e ∈ m, okI e.item)
    (Rn.iter _ (fun k a => a.1 = ((4 * k : Nat) : Int) ∧ a.2.length = k ∧ 4 * k ≤ l.length ∧ ∀ e ∈ a.2, okI e.item) 40 (by unfold big; omega) ⟨rfl, rfl, by omega, by simp⟩ fun k a hk hI => ?_) fun m hm => Rn.room (by omega) (by omega) (Rn.some hm)
  obtain ⟨i, m⟩ := a
  obtain ⟨rfl, i2, i5, i3⟩ := hI
  simp only at i2 i3
  refine Rn.bn (P := fun b : Bool => (b = true → k < 40 ∧ 4 * k + 3 < l.length) ∧ (b = false → 4 ≤ l.length → 0 < k)) ?_ fun b hb => Rn.lt (Rn.ite (fun hd => ?_) (fun hd => Rn.some ⟨by simp only; omega, ?_, by simp only [i2]; exact i5, i3⟩))
  · refine Rn.lt ?_
    rw [addI_64 (by simp only; omega) (by simp only; omega)]
    refine Rn.lt (Rn.lt (Rn.ite (fun hg => Rn.lt (Rn.lt (Rn.some ?_))) (fun hg => Rn.some ?_)))
    · have h1 := ltI_d hg
      simp only [lenI] at h1
      refine ⟨fun h2 => ?_, fun h2 => ?_⟩
      · have h2 := ltI_d h2
        simp only [lenI, i2] at h2
        omega
      · have h2 := ltI_n h2
        simp only [lenI, i2] at h2
        omega
    · have h1 := ltI_n hg
      simp only [lenI] at h1
      exact ⟨fun h => by simp at h, fun _ => by omega⟩
  · obtain ⟨h40, h4⟩ := hb.1 hd
    have hb0 := hl _ (List.getElem_mem (show 4 * k < l.length by omega))
    have hb1 := hl _ (List.getElem_mem (show 4 * k + 1 < l.length by omega))
    have hb2 := hl _ (List.getElem_mem (show 4 * k + 2 < l.length by omega))
    refine Rn.bnE (nth_some (show 4 * k < l.length by omega)) (Rn.bn (Key_ok _ hb0.1 hb0.2) fun key _ => Rn.lt ?_)
    rw [show addI .i64 ((4 * k : Nat) : Int) 1 = ((4 * k + 1 : Nat) : Int) by rw [addI_64 (by omega) (by omega)]; omega]
    refine Rn.bnE (nth_some (show 4 * k + 1 < l.length by omega)) (Rn.bnE (remI_pos hb1.1 (by omega)) (Rn.lt (Rn.bn (P := fun b : Int × ByteArray × List Field × List ByteArray × Int => b.2.2.1.length ≤ 9 ∧ b.2.2.2.1.length ≤ 9) ?_ fun b hb => Rn.room ?_ ?_ (Rn.lt (Rn.lt (Rn.some ⟨h40, ?_, ?_, by omega, ?_⟩))))))
    · refine Rn.lt (Rn.ite (fun _ => Rn.lt ?_) (fun _ => Rn.some ⟨by simp, by simp⟩))
      rw [show addI .i64 ((4 * k : Nat) : Int) 4 = ((4 * k + 4 : Nat) : Int) by rw [addI_64 (by omega) (by omega)]; omega]
      refine Rn.bnE (seglh_nat (by omega) (by omega)) (Rn.lt ?_)
      rw [show addI .i64 ((4 * k : Nat) : Int) 2 = ((4 * k + 2 : Nat) : Int) by rw [addI_64 (by omega) (by omega)]; omega]
      exact Rn.bnE (nth_some (show 4 * k + 2 < l.length by omega)) (Rn.bn (Make_ok _ _ (hl.seg _ _) hb2.1 hb2.2) fun it hit => Rn.some hit)
    · simp only; omega
    · simp only; omega
    · simp only
      rw [addI_64 (by omega) (by omega)]; omega
    · simp [i2]
    · intro e he
      rcases List.mem_append.1 he with he | he
      · exact i3 e he
      · simp at he
        subst he
        exact ⟨by simp only; omega, by simp only; omega⟩
  · simp only [i2]
    exact hb.2 hd
end Go.Proofs.Ytlkhfdccapkcdaa

/- Plain law: feeds keep the last of what was added. -/
namespace Go.Proofs.Ytlkhfdccapkcdaa
open Go Go.RowKit
set_option linter.unusedVariables false
set_option linter.unusedSimpArgs false
set_option maxRecDepth 100000 in
theorem awake15_ok : l15_awake_sh big = some true := by kernel_rfl
theorem okE.lastN {l : List Effect} (h : okE l) : okE (lastN l) := h.drop _
def allR (l : List Effect) (i : Nat) : List Effect := (List.replicate i l).flatten
def fdOf (off : Int) (b : List Effect) : Feed := ⟨⟨0, 0⟩, off, b, ⟨0, 0⟩, 0⟩
end Go.Proofs.Ytlkhfdccapkcdaa

/- Plain laws: spaces that rise, what an effect makes of one. -/
namespace Go.Proofs.Ytlkhfdccapkcdaa
open Go Go.RowKit
set_option linter.unusedVariables false
set_option linter.unusedSimpArgs false
section
variable {α β γ σ : Type}
/-- Rounds over a list. -/
theorem bn_fold {f : α → Option (α ⊕ β)} {a0 : α} {k : β → Option γ} {r : Option γ} {δ : Type} (l : List δ) (g : σ → δ → σ) (mk : Nat → σ → α) (s0 : σ) (b : β) (hl : l.length ≤ 140737488355328) (h0 : a0 = mk 0 s0)
    (h : ∀ i (hi : i < l.length) a, a = (l.take i).foldl g s0 → f (mk i a) = some (.inl (mk (i + 1) (g a l[i])))) (he : f (mk l.length (l.foldl g s0)) = some (.inr b)) (hk : k b = r) : bn (iter big f a0) k = r := by
  refine bn_run b (fun i => mk i ((l.take i).foldl g s0)) l.length (by unfold big; omega) h0 (fun i hi => ?_) ?_ hk
  · rw [h i hi _ rfl, ← List.take_append_getElem hi, List.foldl_append]
    rfl
  · rw [List.take_length]; exact he
/-- Where a name stands among what rises. -/
theorem shapeG {key : α → ByteArray} (name : ByteArray) : ∀ l : List α, l.Pairwise (fun a b => slt (key a) (key b) = true) → ∃ A B C, l = A ++ B ++ C ∧ (∀ a ∈ A, slt (key a) name = true) ∧ (∀ c ∈ C, slt name (key c) = true) ∧ (B = [] ∨ ∃ x, B = [x] ∧ key x = name)
  | [], _ => ⟨[], [], [], rfl, by simp, by simp, .inl rfl⟩
  | a :: l, h => by
    obtain ⟨h1, h2⟩ := List.pairwise_cons.1 h
    cases hs : slt (key a) name
    · rcases (slt_or _ _).1 hs with e | e
      · exact ⟨[], [a], l, rfl, by simp, fun c hc => e ▸ h1 c hc, .inr ⟨a, rfl, e⟩⟩
      · refine ⟨[], [], a :: l, rfl, by simp, fun c hc => ?_, .inl rfl⟩
        rcases List.mem_cons.1 hc with rfl | hc
        · exact e
        · exact slt_trans e (h1 c hc)
    · obtain ⟨A, B, C, rfl, h3, h4, h5⟩ := shapeG name l h2
      exact ⟨a :: A, B, C, rfl, fun x hx => by rcases List.mem_cons.1 hx with rfl | hx; exact hs; exact h3 x hx, h4, h5⟩
theorem Rn.eq {m : Option α} {v : α} (h : Rn m (· = v)) : m = Option.some v := by
  obtain ⟨w, h1, rfl⟩ := h
  exact h1
end
def SrtP (l : List Pair) : Prop := l.Pairwise (fun a b => slt a.key b.key = true)
def newP (e : Effect) : List Pair := if e.gone then [] else [⟨e.key, e.item⟩]
def applyP (l : List Pair) (e : Effect) : List Pair := l.filter (fun p => slt p.key e.key) ++ newP e ++ l.filter (fun p => slt e.key p.key)
theorem filtP_all {α : Type} {p : α → Bool} {l : List α} (h : ∀ a ∈ l, p a = true) : l.filter p = l := List.filter_eq_self.2 h
theorem filtP_no {α : Type} {p : α → Bool} {l : List α} (h : ∀ a ∈ l, p a = false) : l.filter p = [] := List.filter_eq_nil_iff.2 fun a ha => by simp [h a ha]
theorem applyP_shape {A B C : List Pair} {e : Effect} (hA : ∀ a ∈ A, slt a.key e.key = true) (hC : ∀ c ∈ C, slt e.key c.key = true) (hB : B = [] ∨ ∃ x, B = [x] ∧ x.key = e.key) : applyP (A ++ B ++ C) e = A ++ newP e ++ C := by
  have hB1 : ∀ b ∈ B, slt b.key e.key = false := fun b hb => by
    rcases hB with rfl | ⟨x, rfl, hx⟩
    · simp at hb
    · simp at hb; subst hb; rw [hx]; exact slt_irrefl _
  have hB2 : ∀ b ∈ B, slt e.key b.key = false := fun b hb => by
    rcases hB with rfl | ⟨x, rfl, hx⟩
    · simp at hb
    · simp at hb; subst hb; rw [hx]; exact slt_irrefl _
  unfold applyP
  rw [List.filter_append, List.filter_append, List.filter_append, List.filter_append, filtP_all hA, filtP_no hB1, filtP_no (fun c hc => slt_asymm (hC c hc)), filtP_no (fun a ha => slt_asymm (hA a ha)), filtP_no hB2, filtP_all hC]
  simp
theorem applyP_srt {l : List Pair} (h : SrtP l) (e : Effect) : SrtP (applyP l e) := by
  unfold SrtP applyP newP
  have h1 : SrtP (l.filter (fun p => slt p.key e.key)) := List.Pairwise.filter _ h
  have h2 : SrtP (l.filter (fun p => slt e.key p.key)) := List.Pairwise.filter _ h
  refine List.pairwise_append.2 ⟨List.pairwise_append.2 ⟨h1, ?_, fun a ha b hb => ?_⟩, h2, fun a ha b hb => ?_⟩
  · split <;> simp
  · split at hb
    · simp at hb
    · simp at hb; subst hb; exact (List.mem_filter.1 ha).2
  · have hb2 := (List.mem_filter.1 hb).2
    rcases List.mem_append.1 ha with ha | ha
    · exact slt_trans (List.mem_filter.1 ha).2 hb2
    · split at ha
      · simp at ha
      · simp at ha; subst ha; exact hb2
theorem applyP_len (l : List Pair) (e : Effect) (h : SrtP l) : (applyP l e).length ≤ l.length + 1 := by
  obtain ⟨A, B, C, rfl, hA, hC, hB⟩ := shapeG (key := Pair.key) e.key l h
  rw [applyP_shape hA hC hB]
  have : (newP e).length ≤ 1 := by unfold newP; split <;> simp
  simp; omega
def okP (l : List Pair) : Prop := ∀ p ∈ l, okI p.item
theorem applyP_ok {l : List Pair} {e : Effect} (h : okP l) (he : okI e.item) : okP (applyP l e) := by
  intro p hp
  unfold applyP newP at hp
  rcases List.mem_append.1 hp with hp | hp
  · rcases List.mem_append.1 hp with hp | hp
    · exact h p (List.mem_filter.1 hp).1
    · split at hp
      · simp at hp
      · simp at hp; subst hp; exact he
  · exact h p (List.mem_filter.1 hp).1
/-! ### The document's -/
def stepP (e : Effect) (a : Bool × List Pair) (x : Pair) : Bool × List Pair :=
  let a1 := if a.1 = false ∧ slt x.key e.key = false then (true, a.2 ++ [⟨e.key, e.item⟩]) else a
  if x.key = e.key then a1 else (a1.1, a1.2 ++ [x])
theorem stepP_len (e : Effect) (a : Bool × List Pair) (x : Pair) : (stepP e a x).2.length ≤ a.2.length + 2 := by
  unfold stepP
  dsimp only
  split <;> split <;> simp <;> omega
theorem foldP_len (e : Effect) : ∀ (l : List Pair) (a : Bool × List Pair), (l.foldl (stepP e) a).2.length ≤ a.2.length + 2 * l.length
  | [], a => by simp
  | x :: l, a => by
    have h1 := foldP_len e l (stepP e a x)
    have h2 := stepP_len e a x
    simp only [List.foldl_cons, List.length_cons]
    omega
theorem foldP_low {e : Effect} : ∀ (A : List Pair) (d : Bool) (out : List Pair), (∀ a ∈ A, slt a.key e.key = true) → A.foldl (stepP e) (d, out) = (d, out ++ A)
  | [], d, out, _ => by simp
  | a :: A, d, out, h => by
    have h1 := h a (by simp)
    have e1 : stepP e (d, out) a = (d, out ++ [a]) := by simp [stepP, h1, slt_ne h1]
    rw [List.foldl_cons, e1, foldP_low A d (out ++ [a]) fun b hb => h b (by simp [hb])]
    simp
theorem foldP_high {e : Effect} : ∀ (A : List Pair) (out : List Pair), (∀ a ∈ A, slt e.key a.key = true) → A.foldl (stepP e) (true, out) = (true, out ++ A)
  | [], out, _ => by simp
  | a :: A, out, h => by
    have h1 := h a (by simp)
    have hne : ¬ a.key = e.key := fun h => slt_ne h1 h.symm
    have e1 : stepP e (true, out) a = (true, out ++ [a]) := by simp [stepP, hne]
    rw [List.foldl_cons, e1, foldP_high A (out ++ [a]) fun b hb => h b (by simp [hb])]
    simp
theorem foldP_all {e : Effect} {l : List Pair} (h : SrtP l) : (bif (l.foldl (stepP e) (e.gone, [])).1 then (l.foldl (stepP e) (e.gone, [])).2 else (l.foldl (stepP e) (e.gone, [])).2 ++ [⟨e.key, e.item⟩]) = applyP l e := by
  obtain ⟨A, B, C, rfl, hA, hC, hB⟩ := shapeG (key := Pair.key) e.key l h
  rw [applyP_shape hA hC hB, List.foldl_append, List.foldl_append, foldP_low A _ _ hA]
  cases hg : e.gone
  · rcases hB with rfl | ⟨x, rfl, hx⟩
    · cases C with
      | nil => simp [newP, hg]
      | cons c C =>
        have h1 := hC c (by simp)
        have hne : ¬ c.key = e.key := fun h => slt_ne h1 h.symm
        have e1 : stepP e (false, [] ++ A) c = (true, A ++ [⟨e.key, e.item⟩, c]) := by simp [stepP, slt_asymm h1, hne]
        rw [List.foldl_nil, List.foldl_cons, e1, foldP_high C _ fun b hb => hC b (by simp [hb])]
        simp [newP, hg]
    · have e1 : stepP e (false, [] ++ A) x = (true, A ++ [⟨e.key, e.item⟩]) := by simp [stepP, hx, slt_irrefl]
      rw [List.foldl_cons, List.foldl_nil, e1, foldP_high C _ hC]
      simp [newP, hg]
  · rcases hB with rfl | ⟨x, rfl, hx⟩
    · rw [List.foldl_nil, foldP_high C _ hC]
      simp [newP, hg]
    · have e1 : stepP e (true, [] ++ A) x = (true, A) := by simp [stepP, hx]
      rw [List.foldl_cons, List.foldl_nil, e1, foldP_high C _ hC]
      simp [newP, hg]
theorem r_apply_ok (l : List Pair) (e : Effect) (h : SrtP l) (hl : l.length ≤ 100000000) : r5_apply_sh big l e = some (applyP l e) := by
  unfold r5_apply_sh
  refine bn_fold l (stepP e) (fun i a => (a.1, (i : Int), a.2)) (e.gone, []) (l.foldl (stepP e) (e.gone, [])) (by omega) rfl (fun i hi a ha => ?_) ?_ ?_
  · have hlen : a.2.length ≤ 2 * i := by
      have := foldP_len e (l.take i) (e.gone, [])
      rw [← ha] at this
      simp at this
      omega
    simp only [lt_eq, bn_some, ite_t, ite_f, sm_inl, sm_inr, lenI_eq, Option.some.injEq]
    rw [ltI_t (by omega)]
    simp only [lt_eq, bn_some, ite_t, ite_f, sm_inl, sm_inr, lenI_eq, Option.some.injEq, nth_some hi]
    have e2 : (ite' (ite' (notB a.1) (some (geS l[i].key e.key)) (some false)).get! (some (true, a.2 ++ [(⟨e.key, e.item⟩ : Pair)])) (some (a.1, a.2))) = some (if a.1 = false ∧ slt l[i].key e.key = false then (true, a.2 ++ [⟨e.key, e.item⟩]) else a) := by
      cases h1 : a.1 <;> cases h2 : slt l[i].key e.key <;> simp [notB, geS, h1, h2, ite'] <;> (rw [← h1])
    rw [chk_room (by omega) (by omega)]
    have e3 : ite' (notB a.1) (some (geS l[i].key e.key)) (some false) = some (ite' (notB a.1) (some (geS l[i].key e.key)) (some false)).get! := by
      cases a.1 <;> rfl
    rw [e3]
    simp only [lt_eq, bn_some, ite_t, ite_f, sm_inl, sm_inr, lenI_eq, Option.some.injEq]
    rw [e2]
    simp only [lt_eq, bn_some, ite_t, ite_f, sm_inl, sm_inr, lenI_eq, Option.some.injEq]
    rw [addI_64 (by omega) (by omega)]
    unfold stepP
    dsimp only
    generalize hq : (if a.1 = false ∧ slt l[i].key e.key = false then (true, a.2 ++ [(⟨e.key, e.item⟩ : Pair)]) else a) = q
    have hq2 : q.2.length ≤ 2 * i + 1 := by
      rw [← hq]
      split
      · simp only [List.length_append, List.length_cons, List.length_nil]; omega
      · omega
    by_cases hk : l[i].key = e.key
    · rw [hk, neS_self]
      simp [ite_f, bn_some]
    · rw [show neS l[i].key e.key = true by simp [neS, hk], if_neg hk, ite_t, chk_room (by omega) (by omega)]
      simp only [lt_eq, bn_some, ite_t, ite_f, sm_inl, sm_inr, lenI_eq, Option.some.injEq]
      simp
  · simp only [lt_eq, bn_some, ite_t, ite_f, sm_inl, sm_inr, lenI_eq, Option.some.injEq]
    rw [ltI_f (by omega)]
    rfl
  · have hlen : (l.foldl (stepP e) (e.gone, [])).2.length ≤ 2 * l.length := by
      have := foldP_len e l (e.gone, [])
      simp at this
      omega
    have hA := foldP_all (e := e) h
    have hn := applyP_len l e h
    simp only [lt_eq, bn_some, ite_t, ite_f, sm_inl, sm_inr, lenI_eq, Option.some.injEq]
    rw [chk_room (by omega) (by omega)]
    revert hA
    cases (l.foldl (stepP e) (e.gone, [])).1 <;> intro hA <;> simp at hA <;> rw [hA] <;> simp [notB, ite', bn_some] <;> rw [chk_room (by omega) (by omega)]
end Go.Proofs.Ytlkhfdccapkcdaa

/- Plain laws: the program's space. -/
namespace Go.Proofs.Ytlkhfdccapkcdaa
open Go Go.RowKit
set_option linter.unusedVariables false
set_option linter.unusedSimpArgs false
theorem shr1 {x : Int} (h : 0 ≤ x) : shrI .u64 x 1 = some (x / 2) := by
  simp [shrI, IntKind.bits, Int.fdiv_eq_ediv_of_nonneg]
theorem cvU_64 {a : Int} (h : 0 ≤ a) (h2 : a < 18446744073709551616) : cvI .u64 a = a := by
  simp only [cvI, wrap_u64]; omega
theorem find_ok (A B C : List Pair) (k : ByteArray) (hA : ∀ a ∈ A, slt a.key k = true) (hC : ∀ c ∈ C, slt k c.key = true) (hB : B = [] ∨ ∃ x, B = [x] ∧ x.key = k) (hl : (A ++ B ++ C).length ≤ 1000000000) :
    slices_BinarySearchFunc_string_sh big (A ++ B ++ C) k = some ((A.length : Int), !B.isEmpty) := by
  have hget : ∀ i x, (A ++ B ++ C)[i]? = some x → slt x.key k = decide (i < A.length) := fun i x hx => by
    rw [List.append_assoc] at hx
    by_cases h : i < A.length
    · rw [List.getElem?_append_left h] at hx
      simp only [h, decide_true]
      exact hA _ (List.mem_of_getElem? hx)
    · rw [List.getElem?_append_right (by omega)] at hx
      simp only [h, decide_false]
      rcases List.mem_append.1 (List.mem_of_getElem? hx) with hm | hm
      · rcases hB with rfl | ⟨y, rfl, hy⟩
        · simp at hm
        · simp at hm; rw [hm, hy]; exact slt_irrefl _
      · exact slt_asymm (hC _ hm)
  have hB2 : (A ++ B ++ C)[A.length]? = (B ++ C)[0]? := by rw [List.append_assoc, List.getElem?_append_right (Nat.le_refl _), Nat.sub_self]
  have hAL : A.length ≤ (A ++ B ++ C).length := by simp
  generalize A ++ B ++ C = L at hget hB2 hl hAL ⊢
  refine Rn.eq ?_
  unfold slices_BinarySearchFunc_string_sh
  refine Rn.lt (Rn.bn (P := fun i => i = (A.length : Int)) (Rn.iter _ (fun q a => ∃ lo hi : Nat, a = ((lo : Int), (hi : Int)) ∧ lo ≤ A.length ∧ A.length ≤ hi ∧ hi ≤ L.length ∧ hi - lo < 2 ^ (48 - q)) 48 (by unfold big; omega) ⟨0, L.length, rfl, by omega, hAL, Nat.le_refl _, by omega⟩ fun q a hq hI => ?_) fun i hi => ?_)
  · obtain ⟨lo, hi, rfl, h1, h2, h3, h4⟩ := hI
    refine Rn.lt (Rn.ite (fun hg => ?_) (fun hg => Rn.some ?_))
    · have hg := ltI_d hg
      simp only at hg
      have hq2 : q < 48 := by
        apply Nat.lt_of_not_le
        intro h
        have : 48 - q = 0 := by omega
        rw [this] at h4
        omega
      have e48 : 48 - q = (48 - (q + 1)) + 1 := by omega
      rw [e48, Nat.pow_succ] at h4
      refine Rn.lt (Rn.lt ?_)
      rw [addI_64 (by simp only; omega) (by simp only; omega), cvU_64 (by simp only; omega) (by simp only; omega)]
      refine Rn.bnE (shr1 (by simp only; omega)) (Rn.lt ?_)
      rw [cvI_64 (by simp only; omega) (by simp only; omega)]
      have em : ((lo : Int) + (hi : Int)) / 2 = (((lo + hi) / 2 : Nat) : Int) := by omega
      simp only
      rw [em]
      have hm : (lo + hi) / 2 < L.length := by omega
      have hge := hget _ _ (List.getElem?_eq_getElem hm)
      refine Rn.bnE (nth_some hm) (Rn.bnE (v := cmpB L[(lo + hi) / 2].key k) rfl (Rn.lt (Rn.ite (fun hc => Rn.lt (Rn.some ⟨hq2, (lo + hi) / 2 + 1, hi, ?_, ?_⟩)) (fun hc => Rn.some ⟨hq2, lo, (lo + hi) / 2, rfl, ?_⟩))))
      · rw [addI_64 (by omega) (by omega)]
        exact congrArg (·, (hi : Int)) (by omega)
      · rw [(cmpB_lt _ _).1 (ltI_d hc)] at hge
        have := of_decide_eq_true hge.symm
        refine ⟨?_, h2, h3, ?_⟩ <;> omega
      · have hc2 : slt L[(lo + hi) / 2].key k = false := by
          cases h : slt L[(lo + hi) / 2].key k
          · rfl
          · have := (cmpB_lt _ _).2 h
            have := ltI_n hc
            omega
        rw [hc2] at hge
        have := of_decide_eq_false hge.symm
        refine ⟨h1, ?_, ?_, ?_⟩ <;> omega
    · have hg := ltI_n hg
      simp only at hg ⊢
      omega
  · subst hi
    refine Rn.bn (P := fun b => b = !B.isEmpty) ?_ fun b hb => Rn.some (by rw [hb])
    refine Rn.lt (Rn.ite (fun hg => ?_) (fun hg => Rn.some ?_))
    · have hg := ltI_d hg
      simp only [lenI] at hg
      have hm : A.length < L.length := by omega
      refine Rn.bnE (nth_some hm) (Rn.bnE (v := cmpB L[A.length].key k) rfl (Rn.lt (Rn.some ?_)))
      rw [List.getElem?_eq_getElem hm] at hB2
      rcases hB with rfl | ⟨y, rfl, hy⟩
      · have hc := hC L[A.length] (List.mem_of_getElem? (by simpa using hB2.symm))
        have hne : ¬ cmpB L[A.length].key k = 0 := fun h => slt_ne hc ((cmpB_eq _ _).1 h).symm
        simp [eqI, hne]
      · simp at hB2
        rw [hB2, hy]
        simp [eqI, (cmpB_eq k k).2 rfl]
    · have hg := ltI_n hg
      simp only [lenI] at hg
      have e : L[A.length]? = none := List.getElem?_eq_none (by omega)
      rw [e] at hB2
      rcases hB with rfl | ⟨y, rfl, hy⟩
      · rfl
      · simp at hB2
theorem find_ok2 (A B C : List Pair) (k : ByteArray) (hA : ∀ a ∈ A, slt a.key k = true) (hC : ∀ c ∈ C, slt k c.key = true) (hB : B = [] ∨ ∃ x, B = [x] ∧ x.key = k) (hl : (A ++ B ++ C).length ≤ 1000000000) :
    space_find_tf_sh big (A ++ B ++ C) k = some ((A.length : Int), !B.isEmpty) := by
  have := find_ok A B C k hA hC hB hl
  unfold space_find_tf_sh
  rw [show slices_BinarySearchFunc_string_tfk121_sh big (A ++ B ++ C) k = slices_BinarySearchFunc_string_sh big (A ++ B ++ C) k from rfl, this]
  rfl
theorem foldA_inv : ∀ (es : List Effect) (l : List Pair), SrtP l → okP l → (∀ e ∈ es, okI e.item) → SrtP (es.foldl applyP l) ∧ okP (es.foldl applyP l) ∧ (es.foldl applyP l).length ≤ l.length + es.length
  | [], l, h1, h2, _ => ⟨h1, h2, by simp⟩
  | e :: es, l, h1, h2, h3 => by
    obtain ⟨g1, g2, g3⟩ := foldA_inv es (applyP l e) (applyP_srt h1 e) (applyP_ok h2 (h3 e (by simp))) fun x hx => h3 x (by simp [hx])
    have := applyP_len l e h1
    exact ⟨g1, g2, by simp only [List.foldl_cons, List.length_cons]; omega⟩
theorem space_Apply_ok (l : List Pair) (es : List Effect) (h : SrtP l) (h2 : okP l) (he : ∀ e ∈ es, okI e.item) (hl : l.length + es.length ≤ 100000000) : space_Apply_sh big l es = some (es.foldl applyP l) := by
  unfold space_Apply_sh
  rw [chk_small (by omega)]
  simp only [lt_eq, bn_some, ite_t, ite_f, sm_inl, sm_inr, lenI_eq, Option.some.injEq]
  refine bn_run l (fun i => ((i : Int), l)) l.length (by unfold big; omega) rfl (fun i hi => ?_) ?_ ?_
  · simp only [lt_eq, bn_some, ite_t, ite_f, sm_inl, sm_inr, lenI_eq, Option.some.injEq]
    rw [ltI_t (by omega), nth_some hi]
    simp only [lt_eq, bn_some, ite_t, ite_f, sm_inl, sm_inr, lenI_eq, Option.some.injEq]
    rw [item_Copy_ok _ (h2 _ (List.getElem_mem hi))]
    simp only [lt_eq, bn_some, ite_t, ite_f, sm_inl, sm_inr, lenI_eq, Option.some.injEq]
    rw [addI_64 (by omega) (by omega)]
    have e : l.set i { key := l[i].key, item := l[i].item } = l := List.set_getElem_self hi
    simp [e]
  · simp only [lt_eq, bn_some, ite_t, ite_f, sm_inl, sm_inr, lenI_eq, Option.some.injEq]
    rw [ltI_f (by omega)]
    rfl
  refine bn_fold es applyP (fun i a => ((i : Int), a)) l (es.foldl applyP l) (by omega) rfl (fun i hi a ha => ?_) ?_ ?_
  · obtain ⟨g1, g2, g3⟩ := foldA_inv (es.take i) l h h2 fun x hx => he x (List.mem_of_mem_take hx)
    rw [← ha] at g1 g2 g3
    have hal : a.length ≤ 100000000 := by rw [List.length_take] at g3; omega
    have hok := he _ (List.getElem_mem hi)
    simp only [lt_eq, bn_some, ite_t, ite_f, sm_inl, sm_inr, lenI_eq, Option.some.injEq]
    rw [ltI_t (by omega), nth_some hi]
    simp only [lt_eq, bn_some, ite_t, ite_f, sm_inl, sm_inr, lenI_eq, Option.some.injEq]
    rw [chk_room (by omega) (by omega)]
    obtain ⟨A, B, C, e, hA, hC, hB⟩ := shapeG (key := Pair.key) es[i].key a g1
    have hap : applyP a es[i] = A ++ newP es[i] ++ C := by rw [e]; exact applyP_shape hA hC hB
    have hf : space_find_tf_sh big a es[i].key = some ((A.length : Int), !B.isEmpty) := by rw [e]; exact find_ok2 A B C _ hA hC hB (by rw [← e]; omega)
    rw [hf, hap]
    simp only [lt_eq, bn_some, ite_t, ite_f, sm_inl, sm_inr, lenI_eq, Option.some.injEq]
    rw [addI_64 (a := (i : Int)) (by omega) (by omega)]
    have hlen : A.length + B.length + C.length = a.length := by rw [e]; simp; omega
    rcases hB with rfl | ⟨x, rfl, hx⟩
    · simp only [List.isEmpty_nil, Bool.not_true, lt_eq, bn_some, ite_t, ite_f, sm_inl, sm_inr, lenI_eq, Option.some.injEq]
      cases hg : es[i].gone
      · simp only [notB_f, lt_eq, bn_some, ite_t, ite_f, sm_inl, sm_inr, lenI_eq, Option.some.injEq]
        rw [item_Copy_ok _ hok]
        simp only [lt_eq, bn_some, ite_t, ite_f, sm_inl, sm_inr, lenI_eq, Option.some.injEq]
        rw [chk_t (by simp [insB]; simp at hlen; omega)]
        have e1 : insL a A.length ⟨es[i].key, es[i].item⟩ = A ++ newP es[i] ++ C := by rw [e]; simp [insL, newP, hg]
        simp [e1, bn_some]
      · simp only [notB_t, lt_eq, bn_some, ite_t, ite_f, sm_inl, sm_inr, lenI_eq, Option.some.injEq]
        rw [e]
        simp [newP, hg]
    · simp only [List.isEmpty_cons, Bool.not_false, lt_eq, bn_some, ite_t, ite_f, sm_inl, sm_inr, lenI_eq, Option.some.injEq]
      have hn : (A ++ [x] ++ C)[A.length]? = some x := by simp
      cases hg : es[i].gone
      · simp only [lt_eq, bn_some, ite_t, ite_f, sm_inl, sm_inr, lenI_eq, Option.some.injEq]
        rw [item_Copy_ok _ hok]
        simp only [lt_eq, bn_some, ite_t, ite_f, sm_inl, sm_inr, lenI_eq, Option.some.injEq]
        rw [nth_nat, e, hn]
        have e1 : (A ++ [x] ++ C).set A.length ⟨x.key, es[i].item⟩ = A ++ newP es[i] ++ C := by simp [newP, hg, hx]
        simp [e1, bn_some, lt_eq]
        simp [newP, hg, hx]
      · simp only [lt_eq, bn_some, ite_t, ite_f, sm_inl, sm_inr, lenI_eq, Option.some.injEq]
        rw [addI_64 (by omega) (by omega), chk_t (by simp [delB]; simp at hlen; omega)]
        have e1 : delL a A.length = A ++ newP es[i] ++ C := by rw [e]; simp [delL, newP, hg]
        simp [e1, bn_some]
  · simp only [lt_eq, bn_some, ite_t, ite_f, sm_inl, sm_inr, lenI_eq, Option.some.injEq]
    rw [ltI_f (by omega)]
    rfl
  · obtain ⟨g1, g2, g3⟩ := foldA_inv es l h h2 he
    rw [chk_room (by omega) (by omega)]
theorem r_Apply_ok (l : List Pair) (es : List Effect) (h : SrtP l) (h2 : okP l) (he : ∀ e ∈ es, okI e.item) (hl : l.length + es.length ≤ 100000000) : r5_Apply_sh big l es = some (es.foldl applyP l) := by
  unfold r5_Apply_sh
  rw [chk_room (by omega) (by omega), chk_room (by omega) (by omega)]
  refine bn_fold es applyP (fun i a => (a, (i : Int))) l (es.foldl applyP l) (by omega) rfl (fun i hi a ha => ?_) ?_ rfl
  · obtain ⟨g1, g2, g3⟩ := foldA_inv (es.take i) l h h2 fun x hx => he x (List.mem_of_mem_take hx)
    rw [← ha] at g1 g2 g3
    rw [List.length_take] at g3
    simp only [lt_eq, bn_some, ite_t, ite_f, sm_inl, sm_inr, lenI_eq, Option.some.injEq]
    rw [ltI_t (by omega), nth_some hi]
    simp only [lt_eq, bn_some, ite_t, ite_f, sm_inl, sm_inr, lenI_eq, Option.some.injEq]
    rw [r_apply_ok _ _ g1 (by omega)]
    simp only [lt_eq, bn_some, ite_t, ite_f, sm_inl, sm_inr, lenI_eq, Option.some.injEq]
    rw [addI_64 (by omega) (by omega)]
    rfl
  · simp only [lt_eq, bn_some, ite_t, ite_f, sm_inl, sm_inr, lenI_eq, Option.some.injEq]
    rw [ltI_f (by omega)]
    rfl
end Go.Proofs.Ytlkhfdccapkcdaa

/- Walks, printed: l15_Make, r13_SameClaims, r1_Ints, r19_SameMsg, r13_SameFeed, r5_SameSpace, l15_FeedMade, l15_FeedComes -/
namespace Go.Proofs.Ytlkhfdccapkcdaa
open Go Go.RowKit
set_option linter.unusedVariables false
set_option linter.unusedSimpArgs false
def l15_Make_sh (n : Nat) (a0 : List Int) (a1 : Int) : Option (Feed × List Pair) :=
bn (l11_Effects_sh n a0) fun v1 =>
lt (cvI .i64 a1) fun v2 =>
bn (remI .i64 v2 4) fun v3 =>
bn (quoI .i64 v2 64) fun v4 =>
bn (r13_Add_sh n (⟨(⟨v3, v4⟩ : Rid), 0, [], (⟨0, 0⟩ : Rid), 0⟩ : Feed) v1) fun v5 =>
bn (r5_Apply_sh n [] v1) fun v6 =>
some (v5, v6)
set_option maxRecDepth 8000 in
set_option maxHeartbeats 8000000 in
theorem s_l15_Make {n : Nat} {a0 : List Int} {a1 : Int} {r : Feed × List Pair} (h : l15_Make_sh n a0 a1 = some r) : Sound Try.prog 35 [.l (.d false 1 (encU a0)), .l (.s (.int .u8 a1))] [] (.t [(true, [.s (.int .i64 r.1.rid.node), .s (.int .i64 r.1.rid.epoch), .s (.int .i64 r.1.off), .d false 7 (encEffect r.1.back), .s (.int .i64 r.1.prev.node), .s (.int .i64 r.1.prev.epoch), .s (.int .i64 r.1.upto)]), (false, [.d false 6 (encPair r.2)])]) [] := by
  unfold l15_Make_sh at h
  refine Sound.of_aw (fn := Try.f35) (c := _) Try.func35 rfl (by simp [Try.f35]) fun cx hG hnb => ?_
  rw [show Try.f35.ntmps = 23 from rfl]
  have hn0 : cx.nb = 0 := hnb
  simp only [st0_mk, initTm, List.map_cons, List.map_nil]
  apply AW.step
  · simp
    intros; rfl
  replace h := bnE h; obtain ⟨v1, e1, h⟩ := h
  apply AW.step
  · simp
    intros
    refine xcall_plain en_l11_Effects (s_l11_Effects e1) rfl ⟨.same rfl, trivial⟩ ?_
    try simp
    intros; rfl
  replace h := ltE h; obtain ⟨v2, e2, h⟩ := h
  replace h := bnE h; obtain ⟨v3, e3, h⟩ := h
  replace h := bnE h; obtain ⟨v4, e4, h⟩ := h
  replace h := bnE h; obtain ⟨v5, e5, h⟩ := h
  apply AW.step
  · simp [← e2, e3, e4]
    intros
    refine xcall_plain en_r13_Add (s_r13_Add e5) rfl ⟨.g ⟨.s _, .s _, .s _, .nil _ _, .s _, .s _, .s _, trivial⟩, .same rfl, trivial⟩ ?_
    try simp [← e2, e3, e4]
    intros; rfl
  replace h := bnE h; obtain ⟨v6, e6, h⟩ := h
  apply AW.drawnP (V := [_, _, _]) mixed [⟨[0], [], [(7, none)], false⟩, ⟨[0], [], [(6, none)], false⟩, ⟨[0], [1], [(21, some 1)], false⟩, ⟨[], [0, 1, 2], [], false⟩, ⟨[], [0, 1, 2, 3], [], false⟩] 3 (by kernel_rfl) (by kernel_rfl)
  · refine ⟨?_, ?_, ?_, trivial⟩
    · intro tm hr
      simp [AllL, rdV] at hr
      simp [hr]
      intros; first | exact KD.mk | exact KD.mkN
    · intro tm hr
      simp [AllL, rdV] at hr
      simp [hr]
      intros; first | exact KD.mk | exact KD.mkN
    · intro tm hr
      simp [AllL, rdV] at hr
      simp [hr]
      intros
      refine xcall_plain en_r5_Apply (s_r5_Apply e6) rfl ⟨.nil _ _, .same rfl, trivial⟩ ?_
      try simp []
      intros; first | exact KD.mk | exact KD.mkN
  · rfl
  · simp [tmD, putD]; rfl
  · simp
    intros; rfl
  obtain rfl := Option.some.inj h
  refine AW.ret ?_
  refine Left.plain hnb (by simp [Try.f35, resV, resC, comp]; rfl) rfl rfl ?_
  simp
theorem en_l15_Make : Enters Try.prog 35 := enters Try.func35 (by kernel_rfl) rfl
def r13_SameClaims_sh (n : Nat) (a0 : List Claim) (a1 : List Claim) : Option Bool :=
lt (lenI a0) fun v1 =>
lt (lenI a1) fun v2 =>
lt (neI v1 v2) fun v3 =>
ite' v3 (some false) (bn (iter n (fun (y4 : Int) =>
lt (lenI a0) fun v7 =>
lt (ltI y4 v7) fun v8 =>
ite' v8 (bn (nth a0 y4) fun v9 =>
bn (nth a1 y4) fun v10 =>
lt (notB (andB (eqI v9.frm v10.frm) (andB (eqI v9.to v10.to) (andB (eqI v9.node v10.node) (andB (eqI v9.epoch v10.epoch) true))))) fun v11 =>
ite' v11 (some (.inr (.inr false))) (lt (addI .i64 y4 1) fun v12 =>
some (.inl v12))) (some (.inr (.inl ())))) 0) fun (y5 : Unit ⊕ Bool) =>
sm y5 (fun y13 => some true) (fun y14 => some y14))
set_option maxRecDepth 8000 in
set_option maxHeartbeats 8000000 in
theorem s_r13_SameClaims {n : Nat} {a0 : List Claim} {a1 : List Claim} {r : Bool} (h : r13_SameClaims_sh n a0 a1 = some r) : Sound Try.prog 85 [.l (.d false 4 (encClaim a0)), .l (.d false 4 (encClaim a1))] [] (.l (.s (.bool r))) [] := by
  unfold r13_SameClaims_sh at h
  refine Sound.of_aw (fn := Try.f85) (c := _) Try.func85 rfl (by simp [Try.f85]) fun cx hG hnb => ?_
  rw [show Try.f85.ntmps = 26 from rfl]
  have hn0 : cx.nb = 0 := hnb
  simp only [st0_mk, initTm, List.map_cons, List.map_nil]
  apply AW.step
  · simp
    intros; rfl
  refine AW.seq ?_
  replace h := ltE h; obtain ⟨v1, e1, h⟩ := h
  replace h := ltE h; obtain ⟨v2, e2, h⟩ := h
  replace h := ltE h; obtain ⟨v3, e3, h⟩ := h
  apply AW.step
  · simp [lenI_cast e1, lenI_cast e2, ← e3]
    intros; rfl
  cases v3 with
  | true =>
    replace h := iteT rfl h
    refine AW.cond_true (by simp) ?_
    apply AW.step
    · simp
      intros; rfl
    obtain rfl := Option.some.inj h
    refine AW.ret ?_
    refine Left.plain hnb (by simp [Try.f85, resV, resC, comp]; rfl) rfl rfl ?_
    simp
  | false =>
    replace h := iteF rfl h
    refine AW.cond_false (by simp) ?_
    refine AW.skip ?_
    try simp only [sp_l, sp_r, Post.seq, Post.block, Nat.reduceEqDiff, reduceIte, Nat.zero_ne_one, Nat.one_ne_zero]
    try simp only [sp_l, sp_r, Post.seq, Post.block, Nat.reduceEqDiff, reduceIte, Nat.zero_ne_one, Nat.one_ne_zero]
    refine AW.seq ?_
    apply AW.step
    · simp
      intros; rfl
    refine AW.block ?_
    replace h := bnE h; obtain ⟨y5, g5, h⟩ := h
    refine AW.iterP g5 (mk := fun gh ls q => (⟨[(0, .l (.d false 4 (encClaim a0))), (1, .l (.d false 4 (encClaim a1))), (5, .l (.s (.int .i64 q)))], [], 26, gh, ls⟩ : St)) (N := fun gh ls => (sp (xP 0 (cx := cx) (fun _ => (⟨[], [], 26, gh, ls⟩ : St))) (rP (cx := cx) (P := Try.prog) Try.f85 (fun q => .l (.s (.bool q))) (fun q => [])))) ?_ (noS noX noR) ?_ ?_
    · refine Weak.mixN [] hn0 (by decide) ?_ ?_ rfl
      all_goals first | (simp [inv_cons, inv_nil, pickOb]; done) | rfl
    · clear h; intro y4 y6 h
      refine AW.seq ?_
      replace h := ltE h; obtain ⟨v7, e7, h⟩ := h
      replace h := ltE h; obtain ⟨v8, e8, h⟩ := h
      apply AW.step
      · simp [lenI_cast e7, ← e8]
        intros; rfl
      cases v8 with
      | true =>
        replace h := iteT rfl h
        refine AW.cond_true (by simp) ?_
        refine AW.skip ?_
        try simp only [sp_l, sp_r, Post.seq, Post.block, Nat.reduceEqDiff, reduceIte, Nat.zero_ne_one, Nat.one_ne_zero]
        try simp only [sp_l, sp_r, Post.seq, Post.block, Nat.reduceEqDiff, reduceIte, Nat.zero_ne_one, Nat.one_ne_zero]
        refine AW.seq ?_
        refine AW.block ?_
        replace h := bnE h; obtain ⟨v9, e9, h⟩ := h
        replace h := bnE h; obtain ⟨v10, e10, h⟩ := h
        replace h := ltE h; obtain ⟨v11, e11, h⟩ := h
        apply AW.drawnP (V := [_, _, _, _, _, _, _, _]) mixed [⟨[0], [], [(0, none)], false⟩, ⟨[0], [], [(5, none)], false⟩, ⟨[0], [0, 1], [(17, some 0), (18, some 1)], false⟩, ⟨[0], [0, 1, 2], [(19, some 2)], false⟩, ⟨[0], [], [(1, none)], false⟩, ⟨[0], [], [(5, none)], false⟩, ⟨[0], [4, 5], [(21, some 4), (22, some 5)], false⟩, ⟨[0], [4, 5, 6], [(23, some 6)], false⟩, ⟨[], [0, 1, 2, 3, 4, 5, 6, 7], [], false⟩] 8 (by kernel_rfl) (by kernel_rfl)
        · refine ⟨?_, ?_, ?_, ?_, ?_, ?_, ?_, ?_, trivial⟩
          · intro tm hr
            simp [AllL, rdV] at hr
            simp [hr, nth_d e9, nth_d e10, ← e11]
            intros; first | exact KD.mk | exact KD.mkN
          · intro tm hr
            simp [AllL, rdV] at hr
            simp [hr, nth_d e9, nth_d e10, ← e11]
            intros; first | exact KD.mk | exact KD.mkN
          · intro tm hr
            simp [AllL, rdV] at hr
            simp [hr, nth_d e9, nth_d e10, ← e11]
            intros; first | exact KD.mk | exact KD.mkN
          · intro tm hr
            simp [AllL, rdV] at hr
            simp [hr, nth_d e9, nth_d e10, ← e11]
            intros; first | exact KD.mk | exact KD.mkN
          · intro tm hr
            simp [AllL, rdV] at hr
            simp [hr, nth_d e9, nth_d e10, ← e11]
            intros; first | exact KD.mk | exact KD.mkN
          · intro tm hr
            simp [AllL, rdV] at hr
            simp [hr, nth_d e9, nth_d e10, ← e11]
            intros; first | exact KD.mk | exact KD.mkN
          · intro tm hr
            simp [AllL, rdV] at hr
            simp [hr, nth_d e9, nth_d e10, ← e11]
            intros; first | exact KD.mk | exact KD.mkN
          · intro tm hr
            simp [AllL, rdV] at hr
            simp [hr, nth_d e9, nth_d e10, ← e11]
            intros; first | exact KD.mk | exact KD.mkN
        · rfl
        · simp [tmD, putD, nth_d e9, nth_d e10, ← e11]; rfl
        · simp [nth_d e9, nth_d e10, ← e11]
          intros; rfl
        cases v11 with
        | true =>
          replace h := iteT rfl h
          refine AW.cond_true (by simp) ?_
          apply AW.step
          · simp
            intros; rfl
          obtain rfl := Option.some.inj h
          refine AW.ret ?_
          try simp only [sp_l, sp_r, Post.seq, Post.block, Nat.reduceEqDiff, reduceIte, Nat.zero_ne_one, Nat.one_ne_zero]
          refine rP_i ?_
          refine Left.plain hnb (by simp [Try.f85, resV, resC, comp]; rfl) rfl rfl ?_
          simp
        | false =>
          replace h := iteF rfl h
          refine AW.cond_false (by simp) ?_
          refine AW.skip ?_
          try simp only [sp_l, sp_r, Post.seq, Post.block, Nat.reduceEqDiff, reduceIte, Nat.zero_ne_one, Nat.one_ne_zero]
          try simp only [sp_l, sp_r, Post.seq, Post.block, Nat.reduceEqDiff, reduceIte, Nat.zero_ne_one, Nat.one_ne_zero]
          replace h := ltE h; obtain ⟨v12, e12, h⟩ := h
          apply AW.last
          · simp [← e12]
            intros; rfl
          obtain rfl := Option.some.inj h
          refine nP_i ?_
          refine Weak.mixN [] hn0 (by decide) ?_ ?_ rfl
          all_goals first | (simp [inv_cons, inv_nil, pickOb]; done) | rfl
      | false =>
        replace h := iteF rfl h
        refine AW.cond_false (by simp) ?_
        refine AW.exit ?_
        try simp only [sp_l, sp_r, Post.seq, Post.block, Nat.reduceEqDiff, reduceIte, Nat.zero_ne_one, Nat.one_ne_zero]
        obtain rfl := Option.some.inj h
        try simp only [sp_l, sp_r]
        refine xP_i ?_
        refine Weak.mixN [] hn0 (by decide) ?_ ?_ rfl
        all_goals first | (simp [inv_cons, inv_nil, pickOb]; done) | rfl
    · rintro e s hp
      rcases y5 with y13 | y14
      · replace h := smL h
        obtain ⟨rfl, hw⟩ := hp
        refine ⟨_, hw, ?_⟩
        try simp only [sp_l, sp_r, Post.seq, Post.block, Nat.reduceEqDiff, reduceIte, Nat.zero_ne_one, Nat.one_ne_zero]
        apply AW.step
        · simp
          intros; rfl
        obtain rfl := Option.some.inj h
        refine AW.ret ?_
        refine Left.plain hnb (by simp [Try.f85, resV, resC, comp]; rfl) rfl rfl ?_
        simp
      · replace h := smR h
        obtain ⟨rfl, hl⟩ := hp
        refine ⟨_, Weak.refl _, ?_⟩
        obtain rfl := Option.some.inj h
        exact hl
theorem en_r13_SameClaims : Enters Try.prog 85 := enters Try.func85 (by kernel_rfl) rfl
def r1_Ints_sh (n : Nat) (a0 : List Int) (a1 : List Int) : Option Bool :=
lt (lenI a0) fun v1 =>
lt (lenI a1) fun v2 =>
lt (neI v1 v2) fun v3 =>
ite' v3 (some false) (bn (iter n (fun (y4 : Int) =>
lt (lenI a0) fun v7 =>
lt (ltI y4 v7) fun v8 =>
ite' v8 (bn (nth a0 y4) fun v9 =>
bn (nth a1 y4) fun v10 =>
lt (neI v9 v10) fun v11 =>
ite' v11 (some (.inr (.inr false))) (lt (addI .i64 y4 1) fun v12 =>
some (.inl v12))) (some (.inr (.inl ())))) 0) fun (y5 : Unit ⊕ Bool) =>
sm y5 (fun y13 => some true) (fun y14 => some y14))
set_option maxRecDepth 8000 in
set_option maxHeartbeats 8000000 in
theorem s_r1_Ints {n : Nat} {a0 : List Int} {a1 : List Int} {r : Bool} (h : r1_Ints_sh n a0 a1 = some r) : Sound Try.prog 86 [.l (.d false 1 (encI a0)), .l (.d false 1 (encI a1))] [] (.l (.s (.bool r))) [] := by
  unfold r1_Ints_sh at h
  refine Sound.of_aw (fn := Try.f86) (c := _) Try.func86 rfl (by simp [Try.f86]) fun cx hG hnb => ?_
  rw [show Try.f86.ntmps = 26 from rfl]
  have hn0 : cx.nb = 0 := hnb
  simp only [st0_mk, initTm, List.map_cons, List.map_nil]
  apply AW.step
  · simp
    intros; rfl
  refine AW.seq ?_
  replace h := ltE h; obtain ⟨v1, e1, h⟩ := h
  replace h := ltE h; obtain ⟨v2, e2, h⟩ := h
  replace h := ltE h; obtain ⟨v3, e3, h⟩ := h
  apply AW.step
  · simp [lenI_cast e1, lenI_cast e2, ← e3]
    intros; rfl
  cases v3 with
  | true =>
    replace h := iteT rfl h
    refine AW.cond_true (by simp) ?_
    apply AW.step
    · simp
      intros; rfl
    obtain rfl := Option.some.inj h
    refine AW.ret ?_
    refine Left.plain hnb (by simp [Try.f86, resV, resC, comp]; rfl) rfl rfl ?_
    simp
  | false =>
    replace h := iteF rfl h
    refine AW.cond_false (by simp) ?_
    refine AW.skip ?_
    try simp only [sp_l, sp_r, Post.seq, Post.block, Nat.reduceEqDiff, reduceIte, Nat.zero_ne_one, Nat.one_ne_zero]
    try simp only [sp_l, sp_r, Post.seq, Post.block, Nat.reduceEqDiff, reduceIte, Nat.zero_ne_one, Nat.one_ne_zero]
    refine AW.seq ?_
    apply AW.step
    · simp
      intros; rfl
    refine AW.block ?_
    replace h := bnE h; obtain ⟨y5, g5, h⟩ := h
    refine AW.iterP g5 (mk := fun gh ls q => (⟨[(0, .l (.d false 1 (encI a0))), (1, .l (.d false 1 (encI a1))), (5, .l (.s (.int .i64 q)))], [], 26, gh, ls⟩ : St)) (N := fun gh ls => (sp (xP 0 (cx := cx) (fun _ => (⟨[], [], 26, gh, ls⟩ : St))) (rP (cx := cx) (P := Try.prog) Try.f86 (fun q => .l (.s (.bool q))) (fun q => [])))) ?_ (noS noX noR) ?_ ?_
    · refine Weak.mixN [] hn0 (by decide) ?_ ?_ rfl
      all_goals first | (simp [inv_cons, inv_nil, pickOb]; done) | rfl
    · clear h; intro y4 y6 h
      refine AW.seq ?_
      replace h := ltE h; obtain ⟨v7, e7, h⟩ := h
      replace h := ltE h; obtain ⟨v8, e8, h⟩ := h
      apply AW.step
      · simp [lenI_cast e7, ← e8]
        intros; rfl
      cases v8 with
      | true =>
        replace h := iteT rfl h
        refine AW.cond_true (by simp) ?_
        refine AW.skip ?_
        try simp only [sp_l, sp_r, Post.seq, Post.block, Nat.reduceEqDiff, reduceIte, Nat.zero_ne_one, Nat.one_ne_zero]
        try simp only [sp_l, sp_r, Post.seq, Post.block, Nat.reduceEqDiff, reduceIte, Nat.zero_ne_one, Nat.one_ne_zero]
        refine AW.seq ?_
        refine AW.block ?_
        replace h := bnE h; obtain ⟨v9, e9, h⟩ := h
        replace h := bnE h; obtain ⟨v10, e10, h⟩ := h
        replace h := ltE h; obtain ⟨v11, e11, h⟩ := h
        apply AW.drawnP (V := [_, _, _, _, _, _, _, _]) mixed [⟨[0], [], [(0, none)], false⟩, ⟨[0], [], [(5, none)], false⟩, ⟨[0], [0, 1], [(17, some 0), (18, some 1)], false⟩, ⟨[0], [0, 1, 2], [(19, some 2)], false⟩, ⟨[0], [], [(1, none)], false⟩, ⟨[0], [], [(5, none)], false⟩, ⟨[0], [4, 5], [(21, some 4), (22, some 5)], false⟩, ⟨[0], [4, 5, 6], [(23, some 6)], false⟩, ⟨[], [0, 1, 2, 3, 4, 5, 6, 7], [], false⟩] 8 (by kernel_rfl) (by kernel_rfl)
        · refine ⟨?_, ?_, ?_, ?_, ?_, ?_, ?_, ?_, trivial⟩
          · intro tm hr
            simp [AllL, rdV] at hr
            simp [hr, nth_d e9, nth_d e10, ← e11]
            intros; first | exact KD.mk | exact KD.mkN
          · intro tm hr
            simp [AllL, rdV] at hr
            simp [hr, nth_d e9, nth_d e10, ← e11]
            intros; first | exact KD.mk | exact KD.mkN
          · intro tm hr
            simp [AllL, rdV] at hr
            simp [hr, nth_d e9, nth_d e10, ← e11]
            intros; first | exact KD.mk | exact KD.mkN
          · intro tm hr
            simp [AllL, rdV] at hr
            simp [hr, nth_d e9, nth_d e10, ← e11]
            intros; first | exact KD.mk | exact KD.mkN
          · intro tm hr
            simp [AllL, rdV] at hr
            simp [hr, nth_d e9, nth_d e10, ← e11]
            intros; first | exact KD.mk | exact KD.mkN
          · intro tm hr
            simp [AllL, rdV] at hr
            simp [hr, nth_d e9, nth_d e10, ← e11]
            intros; first | exact KD.mk | exact KD.mkN
          · intro tm hr
            simp [AllL, rdV] at hr
            simp [hr, nth_d e9, nth_d e10, ← e11]
            intros; first | exact KD.mk | exact KD.mkN
          · intro tm hr
            simp [AllL, rdV] at hr
            simp [hr, nth_d e9, nth_d e10, ← e11]
            intros; first | exact KD.mk | exact KD.mkN
        · rfl
        · simp [tmD, putD, nth_d e9, nth_d e10, ← e11]; rfl
        · simp [nth_d e9, nth_d e10, ← e11]
          intros; rfl
        cases v11 with
        | true =>
          replace h := iteT rfl h
          refine AW.cond_true (by simp) ?_
          apply AW.step
          · simp
            intros; rfl
          obtain rfl := Option.some.inj h
          refine AW.ret ?_
          try simp only [sp_l, sp_r, Post.seq, Post.block, Nat.reduceEqDiff, reduceIte, Nat.zero_ne_one, Nat.one_ne_zero]
          refine rP_i ?_
          refine Left.plain hnb (by simp [Try.f86, resV, resC, comp]; rfl) rfl rfl ?_
          simp
        | false =>
          replace h := iteF rfl h
          refine AW.cond_false (by simp) ?_
          refine AW.skip ?_
          try simp only [sp_l, sp_r, Post.seq, Post.block, Nat.reduceEqDiff, reduceIte, Nat.zero_ne_one, Nat.one_ne_zero]
          try simp only [sp_l, sp_r, Post.seq, Post.block, Nat.reduceEqDiff, reduceIte, Nat.zero_ne_one, Nat.one_ne_zero]
          replace h := ltE h; obtain ⟨v12, e12, h⟩ := h
          apply AW.last
          · simp [← e12]
            intros; rfl
          obtain rfl := Option.some.inj h
          refine nP_i ?_
          refine Weak.mixN [] hn0 (by decide) ?_ ?_ rfl
          all_goals first | (simp [inv_cons, inv_nil, pickOb]; done) | rfl
      | false =>
        replace h := iteF rfl h
        refine AW.cond_false (by simp) ?_
        refine AW.exit ?_
        try simp only [sp_l, sp_r, Post.seq, Post.block, Nat.reduceEqDiff, reduceIte, Nat.zero_ne_one, Nat.one_ne_zero]
        obtain rfl := Option.some.inj h
        try simp only [sp_l, sp_r]
        refine xP_i ?_
        refine Weak.mixN [] hn0 (by decide) ?_ ?_ rfl
        all_goals first | (simp [inv_cons, inv_nil, pickOb]; done) | rfl
    · rintro e s hp
      rcases y5 with y13 | y14
      · replace h := smL h
        obtain ⟨rfl, hw⟩ := hp
        refine ⟨_, hw, ?_⟩
        try simp only [sp_l, sp_r, Post.seq, Post.block, Nat.reduceEqDiff, reduceIte, Nat.zero_ne_one, Nat.one_ne_zero]
        apply AW.step
        · simp
          intros; rfl
        obtain rfl := Option.some.inj h
        refine AW.ret ?_
        refine Left.plain hnb (by simp [Try.f86, resV, resC, comp]; rfl) rfl rfl ?_
        simp
      · replace h := smR h
        obtain ⟨rfl, hl⟩ := hp
        refine ⟨_, Weak.refl _, ?_⟩
        obtain rfl := Option.some.inj h
        exact hl
theorem en_r1_Ints : Enters Try.prog 86 := enters Try.func86 (by kernel_rfl) rfl
def r19_SameMsg_sh (n : Nat) (a0 : Msg) (a1 : Msg) : Option Bool :=
bn (lt (eqI a0.kind a1.kind) fun v2 =>
ite' v2 (lt (eqI a0.frm a1.frm) fun v3 =>
ite' v3 (lt (eqI a0.to a1.to) fun v4 =>
ite' v4 (lt (eqI a0.epoch a1.epoch) fun v5 =>
ite' v5 (lt (eqI a0.node a1.node) fun v6 =>
ite' v6 (lt (eqI a0.slot a1.slot) fun v7 =>
ite' v7 (lt (eqI a0.num a1.num) fun v8 =>
ite' v8 (lt (andB (eqI a0.rid.node a1.rid.node) (andB (eqI a0.rid.epoch a1.rid.epoch) true)) fun v9 =>
ite' v9 (lt (andB (eqI a0.prev.node a1.prev.node) (andB (eqI a0.prev.epoch a1.prev.epoch) true)) fun v10 =>
ite' v10 (lt (eqI a0.off a1.off) fun v11 =>
ite' v11 (bn (r13_SameClaims_sh n a0.claims a1.claims) fun v12 =>
ite' v12 (bn (r1_Ints_sh n a0.nodes a1.nodes) fun v13 =>
ite' v13 (bn (r5_SameEffects_sh n a0.effects a1.effects) fun v14 =>
some (v14)) (some (false))) (some (false))) (some (false))) (some (false))) (some (false))) (some (false))) (some (false))) (some (false))) (some (false))) (some (false))) (some (false))) (some (false))) fun (y1 : Bool) =>
some y1
set_option maxRecDepth 8000 in
set_option maxHeartbeats 8000000 in
theorem s_r19_SameMsg {n : Nat} {a0 : Msg} {a1 : Msg} {r : Bool} (h : r19_SameMsg_sh n a0 a1 = some r) : Sound Try.prog 40 [.g [.s (.int .i64 a0.kind), .s (.int .i64 a0.frm), .s (.int .i64 a0.to), .s (.int .i64 a0.epoch), .d false 4 (encClaim a0.claims), .d false 1 (encI a0.nodes), .s (.int .i64 a0.node), .s (.int .i64 a0.slot), .s (.int .i64 a0.num), .s (.int .i64 a0.rid.node), .s (.int .i64 a0.rid.epoch), .s (.int .i64 a0.prev.node), .s (.int .i64 a0.prev.epoch), .s (.int .i64 a0.off), .d false 7 (encEffect a0.effects)], .g [.s (.int .i64 a1.kind), .s (.int .i64 a1.frm), .s (.int .i64 a1.to), .s (.int .i64 a1.epoch), .d false 4 (encClaim a1.claims), .d false 1 (encI a1.nodes), .s (.int .i64 a1.node), .s (.int .i64 a1.slot), .s (.int .i64 a1.num), .s (.int .i64 a1.rid.node), .s (.int .i64 a1.rid.epoch), .s (.int .i64 a1.prev.node), .s (.int .i64 a1.prev.epoch), .s (.int .i64 a1.off), .d false 7 (encEffect a1.effects)]] [] (.l (.s (.bool r))) [] := by
  unfold r19_SameMsg_sh at h
  refine Sound.of_aw (fn := Try.f40) (c := _) Try.func40 rfl (by simp [Try.f40]) fun cx hG hnb => ?_
  rw [show Try.f40.ntmps = 94 from rfl]
  have hn0 : cx.nb = 0 := hnb
  simp only [st0_mk, initTm, List.map_cons, List.map_nil]
  apply AW.step
  · simp
    intros; rfl
  replace h := bnE h; obtain ⟨y1, g1, h⟩ := h
  refine AW.flow (p := fun gh ls => (nP (cx := cx) (fun q => (⟨[(4, .l (.s (.bool q)))], [], 94, gh, ls⟩ : St))) y1) ?_ ?_
  · replace h := g1; clear g1
    replace h := ltE h; obtain ⟨v2, e2, h⟩ := h
    cases v2 with
    | true =>
      replace h := iteT rfl h
      replace h := ltE h; obtain ⟨v3, e3, h⟩ := h
      cases v3 with
      | true =>
        replace h := iteT rfl h
        replace h := ltE h; obtain ⟨v4, e4, h⟩ := h
        cases v4 with
        | true =>
          replace h := iteT rfl h
          replace h := ltE h; obtain ⟨v5, e5, h⟩ := h
          cases v5 with
          | true =>
            replace h := iteT rfl h
            replace h := ltE h; obtain ⟨v6, e6, h⟩ := h
            cases v6 with
            | true =>
              replace h := iteT rfl h
              replace h := ltE h; obtain ⟨v7, e7, h⟩ := h
              cases v7 with
              | true =>
                replace h := iteT rfl h
                replace h := ltE h; obtain ⟨v8, e8, h⟩ := h
                cases v8 with
                | true =>
                  replace h := iteT rfl h
                  replace h := ltE h; obtain ⟨v9, e9, h⟩ := h
                  cases v9 with
                  | true =>
                    replace h := iteT rfl h
                    replace h := ltE h; obtain ⟨v10, e10, h⟩ := h
                    cases v10 with
                    | true =>
                      replace h := iteT rfl h
                      replace h := ltE h; obtain ⟨v11, e11, h⟩ := h
                      cases v11 with
                      | true =>
                        replace h := iteT rfl h
                        replace h := bnE h; obtain ⟨v12, e12, h⟩ := h
                        cases v12 with
                        | true =>
                          replace h := iteT rfl h
                          replace h := bnE h; obtain ⟨v13, e13, h⟩ := h
                          cases v13 with
                          | true =>
                            replace h := iteT rfl h
                            replace h := bnE h; obtain ⟨v14, e14, h⟩ := h
                            apply AW.last
                            · simp [← e2, ← e3, ← e4, ← e5, ← e6, ← e7, ← e8, ← e9, ← e10, ← e11]
                              intros
                              refine xcall_plain en_r13_SameClaims (s_r13_SameClaims e12) rfl ⟨.same rfl, .same rfl, trivial⟩ ?_
                              try simp [← e2, ← e3, ← e4, ← e5, ← e6, ← e7, ← e8, ← e9, ← e10, ← e11]
                              intros
                              refine xcall_plain en_r1_Ints (s_r1_Ints e13) rfl ⟨.same rfl, .same rfl, trivial⟩ ?_
                              try simp [← e2, ← e3, ← e4, ← e5, ← e6, ← e7, ← e8, ← e9, ← e10, ← e11]
                              intros
                              refine xcall_plain en_r5_SameEffects (s_r5_SameEffects e14) rfl ⟨.same rfl, .same rfl, trivial⟩ ?_
                              try simp [← e2, ← e3, ← e4, ← e5, ← e6, ← e7, ← e8, ← e9, ← e10, ← e11]
                              intros; rfl
                            obtain rfl := Option.some.inj h
                            refine nP_i ?_
                            refine Weak.mixN [] hn0 (by decide) ?_ ?_ rfl
                            all_goals first | (simp [inv_cons, inv_nil, pickOb]; done) | rfl
                          | false =>
                            replace h := iteF rfl h
                            apply AW.last
                            · simp [← e2, ← e3, ← e4, ← e5, ← e6, ← e7, ← e8, ← e9, ← e10, ← e11]
                              intros
                              refine xcall_plain en_r13_SameClaims (s_r13_SameClaims e12) rfl ⟨.same rfl, .same rfl, trivial⟩ ?_
                              try simp [← e2, ← e3, ← e4, ← e5, ← e6, ← e7, ← e8, ← e9, ← e10, ← e11]
                              intros
                              refine xcall_plain en_r1_Ints (s_r1_Ints e13) rfl ⟨.same rfl, .same rfl, trivial⟩ ?_
                              try simp [← e2, ← e3, ← e4, ← e5, ← e6, ← e7, ← e8, ← e9, ← e10, ← e11]
                              intros; rfl
                            obtain rfl := Option.some.inj h
                            refine nP_i ?_
                            refine Weak.mixN [] hn0 (by decide) ?_ ?_ rfl
                            all_goals first | (simp [inv_cons, inv_nil, pickOb]; done) | rfl
                        | false =>
                          replace h := iteF rfl h
                          apply AW.last
                          · simp [← e2, ← e3, ← e4, ← e5, ← e6, ← e7, ← e8, ← e9, ← e10, ← e11]
                            intros
                            refine xcall_plain en_r13_SameClaims (s_r13_SameClaims e12) rfl ⟨.same rfl, .same rfl, trivial⟩ ?_
                            try simp [← e2, ← e3, ← e4, ← e5, ← e6, ← e7, ← e8, ← e9, ← e10, ← e11]
                            intros; rfl
                          obtain rfl := Option.some.inj h
                          refine nP_i ?_
                          refine Weak.mixN [] hn0 (by decide) ?_ ?_ rfl
                          all_goals first | (simp [inv_cons, inv_nil, pickOb]; done) | rfl
                      | false =>
                        replace h := iteF rfl h
                        apply AW.last
                        · simp [← e2, ← e3, ← e4, ← e5, ← e6, ← e7, ← e8, ← e9, ← e10, ← e11]
                          intros; rfl
                        obtain rfl := Option.some.inj h
                        refine nP_i ?_
                        refine Weak.mixN [] hn0 (by decide) ?_ ?_ rfl
                        all_goals first | (simp [inv_cons, inv_nil, pickOb]; done) | rfl
                    | false =>
                      replace h := iteF rfl h
                      apply AW.last
                      · simp [← e2, ← e3, ← e4, ← e5, ← e6, ← e7, ← e8, ← e9, ← e10]
                        intros; rfl
                      obtain rfl := Option.some.inj h
                      refine nP_i ?_
                      refine Weak.mixN [] hn0 (by decide) ?_ ?_ rfl
                      all_goals first | (simp [inv_cons, inv_nil, pickOb]; done) | rfl
                  | false =>
                    replace h := iteF rfl h
                    apply AW.last
                    · simp [← e2, ← e3, ← e4, ← e5, ← e6, ← e7, ← e8, ← e9]
                      intros; rfl
                    obtain rfl := Option.some.inj h
                    refine nP_i ?_
                    refine Weak.mixN [] hn0 (by decide) ?_ ?_ rfl
                    all_goals first | (simp [inv_cons, inv_nil, pickOb]; done) | rfl
                | false =>
                  replace h := iteF rfl h
                  apply AW.last
                  · simp [← e2, ← e3, ← e4, ← e5, ← e6, ← e7, ← e8]
                    intros; rfl
                  obtain rfl := Option.some.inj h
                  refine nP_i ?_
                  refine Weak.mixN [] hn0 (by decide) ?_ ?_ rfl
                  all_goals first | (simp [inv_cons, inv_nil, pickOb]; done) | rfl
              | false =>
                replace h := iteF rfl h
                apply AW.last
                · simp [← e2, ← e3, ← e4, ← e5, ← e6, ← e7]
                  intros; rfl
                obtain rfl := Option.some.inj h
                refine nP_i ?_
                refine Weak.mixN [] hn0 (by decide) ?_ ?_ rfl
                all_goals first | (simp [inv_cons, inv_nil, pickOb]; done) | rfl
            | false =>
              replace h := iteF rfl h
              apply AW.last
              · simp [← e2, ← e3, ← e4, ← e5, ← e6]
                intros; rfl
              obtain rfl := Option.some.inj h
              refine nP_i ?_
              refine Weak.mixN [] hn0 (by decide) ?_ ?_ rfl
              all_goals first | (simp [inv_cons, inv_nil, pickOb]; done) | rfl
          | false =>
            replace h := iteF rfl h
            apply AW.last
            · simp [← e2, ← e3, ← e4, ← e5]
              intros; rfl
            obtain rfl := Option.some.inj h
            refine nP_i ?_
            refine Weak.mixN [] hn0 (by decide) ?_ ?_ rfl
            all_goals first | (simp [inv_cons, inv_nil, pickOb]; done) | rfl
        | false =>
          replace h := iteF rfl h
          apply AW.last
          · simp [← e2, ← e3, ← e4]
            intros; rfl
          obtain rfl := Option.some.inj h
          refine nP_i ?_
          refine Weak.mixN [] hn0 (by decide) ?_ ?_ rfl
          all_goals first | (simp [inv_cons, inv_nil, pickOb]; done) | rfl
      | false =>
        replace h := iteF rfl h
        apply AW.last
        · simp [← e2, ← e3]
          intros; rfl
        obtain rfl := Option.some.inj h
        refine nP_i ?_
        refine Weak.mixN [] hn0 (by decide) ?_ ?_ rfl
        all_goals first | (simp [inv_cons, inv_nil, pickOb]; done) | rfl
    | false =>
      replace h := iteF rfl h
      apply AW.last
      · simp [← e2]
        intros; rfl
      obtain rfl := Option.some.inj h
      refine nP_i ?_
      refine Weak.mixN [] hn0 (by decide) ?_ ?_ rfl
      all_goals first | (simp [inv_cons, inv_nil, pickOb]; done) | rfl
  · rintro e s hp
    obtain ⟨rfl, hw⟩ := hp
    refine ⟨_, hw, ?_⟩
    try simp only [sp_l, sp_r, Post.seq, Post.block, Nat.reduceEqDiff, reduceIte, Nat.zero_ne_one, Nat.one_ne_zero]
    obtain rfl := Option.some.inj h
    refine AW.ret ?_
    refine Left.plain hnb (by simp [Try.f40, resV, resC, comp]; rfl) rfl rfl ?_
    simp
theorem en_r19_SameMsg : Enters Try.prog 40 := enters Try.func40 (by kernel_rfl) rfl
def r13_SameFeed_sh (n : Nat) (a0 : Feed) (a1 : Feed) : Option Bool :=
bn (lt (andB (eqI a0.rid.node a1.rid.node) (andB (eqI a0.rid.epoch a1.rid.epoch) true)) fun v2 =>
ite' v2 (lt (eqI a0.off a1.off) fun v3 =>
ite' v3 (lt (andB (eqI a0.prev.node a1.prev.node) (andB (eqI a0.prev.epoch a1.prev.epoch) true)) fun v4 =>
ite' v4 (lt (eqI a0.upto a1.upto) fun v5 =>
ite' v5 (bn (r5_SameEffects_sh n a0.back a1.back) fun v6 =>
some (v6)) (some (false))) (some (false))) (some (false))) (some (false))) fun (y1 : Bool) =>
some y1
set_option maxRecDepth 8000 in
set_option maxHeartbeats 8000000 in
theorem s_r13_SameFeed {n : Nat} {a0 : Feed} {a1 : Feed} {r : Bool} (h : r13_SameFeed_sh n a0 a1 = some r) : Sound Try.prog 41 [.g [.s (.int .i64 a0.rid.node), .s (.int .i64 a0.rid.epoch), .s (.int .i64 a0.off), .d false 7 (encEffect a0.back), .s (.int .i64 a0.prev.node), .s (.int .i64 a0.prev.epoch), .s (.int .i64 a0.upto)], .g [.s (.int .i64 a1.rid.node), .s (.int .i64 a1.rid.epoch), .s (.int .i64 a1.off), .d false 7 (encEffect a1.back), .s (.int .i64 a1.prev.node), .s (.int .i64 a1.prev.epoch), .s (.int .i64 a1.upto)]] [] (.l (.s (.bool r))) [] := by
  unfold r13_SameFeed_sh at h
  refine Sound.of_aw (fn := Try.f41) (c := _) Try.func41 rfl (by simp [Try.f41]) fun cx hG hnb => ?_
  rw [show Try.f41.ntmps = 38 from rfl]
  have hn0 : cx.nb = 0 := hnb
  simp only [st0_mk, initTm, List.map_cons, List.map_nil]
  apply AW.step
  · simp
    intros; rfl
  replace h := bnE h; obtain ⟨y1, g1, h⟩ := h
  refine AW.flow (p := fun gh ls => (nP (cx := cx) (fun q => (⟨[(4, .l (.s (.bool q)))], [], 38, gh, ls⟩ : St))) y1) ?_ ?_
  · replace h := g1; clear g1
    replace h := ltE h; obtain ⟨v2, e2, h⟩ := h
    cases v2 with
    | true =>
      replace h := iteT rfl h
      replace h := ltE h; obtain ⟨v3, e3, h⟩ := h
      cases v3 with
      | true =>
        replace h := iteT rfl h
        replace h := ltE h; obtain ⟨v4, e4, h⟩ := h
        cases v4 with
        | true =>
          replace h := iteT rfl h
          replace h := ltE h; obtain ⟨v5, e5, h⟩ := h
          cases v5 with
          | true =>
            replace h := iteT rfl h
            replace h := bnE h; obtain ⟨v6, e6, h⟩ := h
            apply AW.last
            · simp [← e2, ← e3, ← e4, ← e5]
              intros
              refine xcall_plain en_r5_SameEffects (s_r5_SameEffects e6) rfl ⟨.same rfl, .same rfl, trivial⟩ ?_
              try simp [← e2, ← e3, ← e4, ← e5]
              intros; rfl
            obtain rfl := Option.some.inj h
            refine nP_i ?_
            refine Weak.mixN [] hn0 (by decide) ?_ ?_ rfl
            all_goals first | (simp [inv_cons, inv_nil, pickOb]; done) | rfl
          | false =>
            replace h := iteF rfl h
            apply AW.last
            · simp [← e2, ← e3, ← e4, ← e5]
              intros; rfl
            obtain rfl := Option.some.inj h
            refine nP_i ?_
            refine Weak.mixN [] hn0 (by decide) ?_ ?_ rfl
            all_goals first | (simp [inv_cons, inv_nil, pickOb]; done) | rfl
        | false =>
          replace h := iteF rfl h
          apply AW.last
          · simp [← e2, ← e3, ← e4]
            intros; rfl
          obtain rfl := Option.some.inj h
          refine nP_i ?_
          refine Weak.mixN [] hn0 (by decide) ?_ ?_ rfl
          all_goals first | (simp [inv_cons, inv_nil, pickOb]; done) | rfl
      | false =>
        replace h := iteF rfl h
        apply AW.last
        · simp [← e2, ← e3]
          intros; rfl
        obtain rfl := Option.some.inj h
        refine nP_i ?_
        refine Weak.mixN [] hn0 (by decide) ?_ ?_ rfl
        all_goals first | (simp [inv_cons, inv_nil, pickOb]; done) | rfl
    | false =>
      replace h := iteF rfl h
      apply AW.last
      · simp [← e2]
        intros; rfl
      obtain rfl := Option.some.inj h
      refine nP_i ?_
      refine Weak.mixN [] hn0 (by decide) ?_ ?_ rfl
      all_goals first | (simp [inv_cons, inv_nil, pickOb]; done) | rfl
  · rintro e s hp
    obtain ⟨rfl, hw⟩ := hp
    refine ⟨_, hw, ?_⟩
    try simp only [sp_l, sp_r, Post.seq, Post.block, Nat.reduceEqDiff, reduceIte, Nat.zero_ne_one, Nat.one_ne_zero]
    obtain rfl := Option.some.inj h
    refine AW.ret ?_
    refine Left.plain hnb (by simp [Try.f41, resV, resC, comp]; rfl) rfl rfl ?_
    simp
theorem en_r13_SameFeed : Enters Try.prog 41 := enters Try.func41 (by kernel_rfl) rfl
def r5_SameSpace_sh (n : Nat) (a0 : List Pair) (a1 : List Pair) : Option Bool :=
lt (lenI a0) fun v1 =>
lt (lenI a1) fun v2 =>
lt (neI v1 v2) fun v3 =>
ite' v3 (some false) (bn (iter n (fun (y4 : Int) =>
lt (lenI a0) fun v7 =>
lt (ltI y4 v7) fun v8 =>
ite' v8 (bn (bn (nth a0 y4) fun v10 =>
bn (nth a1 y4) fun v11 =>
lt (neS v10.key v11.key) fun v12 =>
ite' v12 (some (true)) (bn (r5_SameItem_sh n v10.item v11.item) fun v13 =>
lt (notB v13) fun v14 =>
some (v14))) fun (y9 : Bool) =>
lt (y9) fun v15 =>
ite' v15 (some (.inr (.inr false))) (lt (addI .i64 y4 1) fun v16 =>
some (.inl v16))) (some (.inr (.inl ())))) 0) fun (y5 : Unit ⊕ Bool) =>
sm y5 (fun y17 => some true) (fun y18 => some y18))
set_option maxRecDepth 8000 in
set_option maxHeartbeats 8000000 in
theorem s_r5_SameSpace {n : Nat} {a0 : List Pair} {a1 : List Pair} {r : Bool} (h : r5_SameSpace_sh n a0 a1 = some r) : Sound Try.prog 42 [.l (.d false 6 (encPair a0)), .l (.d false 6 (encPair a1))] [] (.l (.s (.bool r))) [] := by
  unfold r5_SameSpace_sh at h
  refine Sound.of_aw (fn := Try.f42) (c := _) Try.func42 rfl (by simp [Try.f42]) fun cx hG hnb => ?_
  rw [show Try.f42.ntmps = 42 from rfl]
  have hn0 : cx.nb = 0 := hnb
  simp only [st0_mk, initTm, List.map_cons, List.map_nil]
  apply AW.step
  · simp
    intros; rfl
  refine AW.seq ?_
  replace h := ltE h; obtain ⟨v1, e1, h⟩ := h
  replace h := ltE h; obtain ⟨v2, e2, h⟩ := h
  replace h := ltE h; obtain ⟨v3, e3, h⟩ := h
  apply AW.step
  · simp [lenI_cast e1, lenI_cast e2, ← e3]
    intros; rfl
  cases v3 with
  | true =>
    replace h := iteT rfl h
    refine AW.cond_true (by simp) ?_
    apply AW.step
    · simp
      intros; rfl
    obtain rfl := Option.some.inj h
    refine AW.ret ?_
    refine Left.plain hnb (by simp [Try.f42, resV, resC, comp]; rfl) rfl rfl ?_
    simp
  | false =>
    replace h := iteF rfl h
    refine AW.cond_false (by simp) ?_
    refine AW.skip ?_
    try simp only [sp_l, sp_r, Post.seq, Post.block, Nat.reduceEqDiff, reduceIte, Nat.zero_ne_one, Nat.one_ne_zero]
    try simp only [sp_l, sp_r, Post.seq, Post.block, Nat.reduceEqDiff, reduceIte, Nat.zero_ne_one, Nat.one_ne_zero]
    refine AW.seq ?_
    apply AW.step
    · simp
      intros; rfl
    refine AW.block ?_
    replace h := bnE h; obtain ⟨y5, g5, h⟩ := h
    refine AW.iterP g5 (mk := fun gh ls q => (⟨[(0, .l (.d false 6 (encPair a0))), (1, .l (.d false 6 (encPair a1))), (5, .l (.s (.int .i64 q)))], [], 42, gh, ls⟩ : St)) (N := fun gh ls => (sp (xP 0 (cx := cx) (fun _ => (⟨[], [], 42, gh, ls⟩ : St))) (rP (cx := cx) (P := Try.prog) Try.f42 (fun q => .l (.s (.bool q))) (fun q => [])))) ?_ (noS noX noR) ?_ ?_
    · refine Weak.mixN [] hn0 (by decide) ?_ ?_ rfl
      all_goals first | (simp [inv_cons, inv_nil, pickOb]; done) | rfl
    · clear h; intro y4 y6 h
      refine AW.seq ?_
      replace h := ltE h; obtain ⟨v7, e7, h⟩ := h
      replace h := ltE h; obtain ⟨v8, e8, h⟩ := h
      apply AW.step
      · simp [lenI_cast e7, ← e8]
        intros; rfl
      cases v8 with
      | true =>
        replace h := iteT rfl h
        refine AW.cond_true (by simp) ?_
        refine AW.skip ?_
        try simp only [sp_l, sp_r, Post.seq, Post.block, Nat.reduceEqDiff, reduceIte, Nat.zero_ne_one, Nat.one_ne_zero]
        try simp only [sp_l, sp_r, Post.seq, Post.block, Nat.reduceEqDiff, reduceIte, Nat.zero_ne_one, Nat.one_ne_zero]
        refine AW.seq ?_
        refine AW.block ?_
        replace h := bnE h; obtain ⟨y9, g9, h⟩ := h
        refine AW.flow (p := fun gh ls => (nP (cx := cx) (fun q => (⟨[(0, .l (.d false 6 (encPair a0))), (1, .l (.d false 6 (encPair a1))), (5, .l (.s (.int .i64 y4))), (41, .l (.s (.bool q)))], [], 42, gh, ls⟩ : St))) y9) ?_ ?_
        · replace h := g9; clear g9
          replace h := bnE h; obtain ⟨v10, e10, h⟩ := h
          replace h := bnE h; obtain ⟨v11, e11, h⟩ := h
          replace h := ltE h; obtain ⟨v12, e12, h⟩ := h
          cases v12 with
          | true =>
            replace h := iteT rfl h
            apply AW.drawnR (V := [_, _, _, _, _, _, _, _, _, _, _, _, _, _, _, _, _, _, _, _, _, _]) mixed [⟨[0], [], [(0, none)], false⟩, ⟨[0], [], [(5, none)], false⟩, ⟨[0], [0, 1], [(17, some 0), (18, some 1)], false⟩, ⟨[0], [0, 1, 2], [(19, some 2)], false⟩, ⟨[0], [0, 1, 2, 3], [(20, some 3)], false⟩, ⟨[0], [], [(1, none)], false⟩, ⟨[0], [], [(5, none)], false⟩, ⟨[0], [5, 6], [(22, some 5), (23, some 6)], false⟩, ⟨[0], [5, 6, 7], [(24, some 7)], false⟩, ⟨[0], [5, 6, 7, 8], [(25, some 8)], false⟩, ⟨[0], [0, 1, 2, 3, 4, 5, 6, 7, 8, 9], [(21, some 4), (26, some 9)], false⟩, ⟨[0], [0, 1, 2, 3, 4, 5, 6, 7, 8, 9, 10], [(27, some 10)], false⟩, ⟨[0], [0, 1, 2, 3, 4, 5, 6, 7, 8, 9, 10, 11], [(0, none), (28, some 11)], false⟩, ⟨[0], [0, 1, 2, 3, 4, 5, 6, 7, 8, 9, 10, 11], [(5, none), (28, some 11)], false⟩, ⟨[0], [0, 1, 2, 3, 4, 5, 6, 7, 8, 9, 10, 11, 12, 13], [(28, some 11), (29, some 12), (30, some 13)], false⟩, ⟨[0], [0, 1, 2, 3, 4, 5, 6, 7, 8, 9, 10, 11, 12, 13, 14], [(28, some 11), (31, some 14)], false⟩, ⟨[0], [0, 1, 2, 3, 4, 5, 6, 7, 8, 9, 10, 11, 12, 13, 14, 15], [(28, some 11), (32, some 15)], false⟩, ⟨[0], [0, 1, 2, 3, 4, 5, 6, 7, 8, 9, 10, 11], [(1, none), (28, some 11)], false⟩, ⟨[0], [0, 1, 2, 3, 4, 5, 6, 7, 8, 9, 10, 11], [(5, none), (28, some 11)], false⟩, ⟨[0], [0, 1, 2, 3, 4, 5, 6, 7, 8, 9, 10, 11, 17, 18], [(28, some 11), (34, some 17), (35, some 18)], false⟩, ⟨[0], [0, 1, 2, 3, 4, 5, 6, 7, 8, 9, 10, 11, 17, 18, 19], [(28, some 11), (36, some 19)], false⟩, ⟨[0], [0, 1, 2, 3, 4, 5, 6, 7, 8, 9, 10, 11, 17, 18, 19, 20], [(28, some 11), (37, some 20)], false⟩, ⟨[], [0, 1, 2, 3, 4, 5, 6, 7, 8, 9, 10, 11, 12, 13, 14, 15, 16, 17, 18, 19, 20, 21], [], false⟩, ⟨[], [0, 1, 2, 3, 4, 5, 6, 7, 8, 9, 10, 11, 12, 13, 14, 15, 16, 17, 18, 19, 20, 21, 22], [], false⟩, ⟨[], [0, 1, 2, 3, 4, 5, 6, 7, 8, 9, 10, 11, 12, 13, 14, 15, 16, 17, 18, 19, 20, 21, 22, 23], [], false⟩] 22 (by kernel_rfl) (by kernel_rfl)
            · refine ⟨?_, ?_, ?_, ?_, ?_, ?_, ?_, ?_, ?_, ?_, ?_, ?_, ?_, ?_, ?_, ?_, ?_, ?_, ?_, ?_, ?_, ?_, trivial⟩
              · intro tm hr
                simp [AllL, rdV] at hr
                simp [hr, nth_d e10, nth_d e11, ← e12]
                intros; first | exact KD.mk | exact KD.mkN
              · intro tm hr
                simp [AllL, rdV] at hr
                simp [hr, nth_d e10, nth_d e11, ← e12]
                intros; first | exact KD.mk | exact KD.mkN
              · intro tm hr
                simp [AllL, rdV] at hr
                simp [hr, nth_d e10, nth_d e11, ← e12]
                intros; first | exact KD.mk | exact KD.mkN
              · intro tm hr
                simp [AllL, rdV] at hr
                simp [hr, nth_d e10, nth_d e11, ← e12]
                intros; first | exact KD.mk | exact KD.mkN
              · intro tm hr
                simp [AllL, rdV] at hr
                simp [hr, nth_d e10, nth_d e11, ← e12]
                intros; first | exact KD.mk | exact KD.mkN
              · intro tm hr
                simp [AllL, rdV] at hr
                simp [hr, nth_d e10, nth_d e11, ← e12]
                intros; first | exact KD.mk | exact KD.mkN
              · intro tm hr
                simp [AllL, rdV] at hr
                simp [hr, nth_d e10, nth_d e11, ← e12]
                intros; first | exact KD.mk | exact KD.mkN
              · intro tm hr
                simp [AllL, rdV] at hr
                simp [hr, nth_d e10, nth_d e11, ← e12]
                intros; first | exact KD.mk | exact KD.mkN
              · intro tm hr
                simp [AllL, rdV] at hr
                simp [hr, nth_d e10, nth_d e11, ← e12]
                intros; first | exact KD.mk | exact KD.mkN
              · intro tm hr
                simp [AllL, rdV] at hr
                simp [hr, nth_d e10, nth_d e11, ← e12]
                intros; first | exact KD.mk | exact KD.mkN
              · intro tm hr
                simp [AllL, rdV] at hr
                simp [hr, nth_d e10, nth_d e11, ← e12]
                intros; first | exact KD.mk | exact KD.mkN
              · intro tm hr
                simp [AllL, rdV] at hr
                simp [hr, nth_d e10, nth_d e11, ← e12]
                intros; first | exact KD.mk | exact KD.mkN
              · intro tm hr
                simp [AllL, rdV] at hr
                simp [hr, nth_d e10, nth_d e11, ← e12]
                intros; first | exact KD.mk | exact KD.mkN
              · intro tm hr
                simp [AllL, rdV] at hr
                simp [hr, nth_d e10, nth_d e11, ← e12]
                intros; first | exact KD.mk | exact KD.mkN
              · intro tm hr
                simp [AllL, rdV] at hr
                simp [hr, nth_d e10, nth_d e11, ← e12]
                intros; first | exact KD.mk | exact KD.mkN
              · intro tm hr
                simp [AllL, rdV] at hr
                simp [hr, nth_d e10, nth_d e11, ← e12]
                intros; first | exact KD.mk | exact KD.mkN
              · intro tm hr
                simp [AllL, rdV] at hr
                simp [hr, nth_d e10, nth_d e11, ← e12]
                intros; first | exact KD.mk | exact KD.mkN
              · intro tm hr
                simp [AllL, rdV] at hr
                simp [hr, nth_d e10, nth_d e11, ← e12]
                intros; first | exact KD.mk | exact KD.mkN
              · intro tm hr
                simp [AllL, rdV] at hr
                simp [hr, nth_d e10, nth_d e11, ← e12]
                intros; first | exact KD.mk | exact KD.mkN
              · intro tm hr
                simp [AllL, rdV] at hr
                simp [hr, nth_d e10, nth_d e11, ← e12]
                intros; first | exact KD.mk | exact KD.mkN
              · intro tm hr
                simp [AllL, rdV] at hr
                simp [hr, nth_d e10, nth_d e11, ← e12]
                intros; first | exact KD.mk | exact KD.mkN
              · intro tm hr
                simp [AllL, rdV] at hr
                simp [hr, nth_d e10, nth_d e11, ← e12]
                intros; first | exact KD.mk | exact KD.mkN
            · rfl
            · simp [tmD, putD, nth_d e10, nth_d e11, ← e12]; rfl
            · simp [nth_d e10, nth_d e11, ← e12]
              intros; rfl
            obtain rfl := Option.some.inj h
            refine nP_i ?_
            refine Weak.mixN [] hn0 (by decide) ?_ ?_ rfl
            all_goals first | (simp [inv_cons, inv_nil, pickOb]; done) | rfl
          | false =>
            replace h := iteF rfl h
            replace h := bnE h; obtain ⟨v13, e13, h⟩ := h
            replace h := ltE h; obtain ⟨v14, e14, h⟩ := h
            apply AW.drawnR (V := [_, _, _, _, _, _, _, _, _, _, _, _, _, _, _, _, _, _, _, _, _, _]) mixed [⟨[0], [], [(0, none)], false⟩, ⟨[0], [], [(5, none)], false⟩, ⟨[0], [0, 1], [(17, some 0), (18, some 1)], false⟩, ⟨[0], [0, 1, 2], [(19, some 2)], false⟩, ⟨[0], [0, 1, 2, 3], [(20, some 3)], false⟩, ⟨[0], [], [(1, none)], false⟩, ⟨[0], [], [(5, none)], false⟩, ⟨[0], [5, 6], [(22, some 5), (23, some 6)], false⟩, ⟨[0], [5, 6, 7], [(24, some 7)], false⟩, ⟨[0], [5, 6, 7, 8], [(25, some 8)], false⟩, ⟨[0], [0, 1, 2, 3, 4, 5, 6, 7, 8, 9], [(21, some 4), (26, some 9)], false⟩, ⟨[0], [0, 1, 2, 3, 4, 5, 6, 7, 8, 9, 10], [(27, some 10)], false⟩, ⟨[0], [0, 1, 2, 3, 4, 5, 6, 7, 8, 9, 10, 11], [(0, none), (28, some 11)], false⟩, ⟨[0], [0, 1, 2, 3, 4, 5, 6, 7, 8, 9, 10, 11], [(5, none), (28, some 11)], false⟩, ⟨[0], [0, 1, 2, 3, 4, 5, 6, 7, 8, 9, 10, 11, 12, 13], [(28, some 11), (29, some 12), (30, some 13)], false⟩, ⟨[0], [0, 1, 2, 3, 4, 5, 6, 7, 8, 9, 10, 11, 12, 13, 14], [(28, some 11), (31, some 14)], false⟩, ⟨[0], [0, 1, 2, 3, 4, 5, 6, 7, 8, 9, 10, 11, 12, 13, 14, 15], [(28, some 11), (32, some 15)], false⟩, ⟨[0], [0, 1, 2, 3, 4, 5, 6, 7, 8, 9, 10, 11], [(1, none), (28, some 11)], false⟩, ⟨[0], [0, 1, 2, 3, 4, 5, 6, 7, 8, 9, 10, 11], [(5, none), (28, some 11)], false⟩, ⟨[0], [0, 1, 2, 3, 4, 5, 6, 7, 8, 9, 10, 11, 17, 18], [(28, some 11), (34, some 17), (35, some 18)], false⟩, ⟨[0], [0, 1, 2, 3, 4, 5, 6, 7, 8, 9, 10, 11, 17, 18, 19], [(28, some 11), (36, some 19)], false⟩, ⟨[0], [0, 1, 2, 3, 4, 5, 6, 7, 8, 9, 10, 11, 17, 18, 19, 20], [(28, some 11), (37, some 20)], false⟩, ⟨[], [0, 1, 2, 3, 4, 5, 6, 7, 8, 9, 10, 11, 12, 13, 14, 15, 16, 17, 18, 19, 20, 21], [], false⟩, ⟨[], [0, 1, 2, 3, 4, 5, 6, 7, 8, 9, 10, 11, 12, 13, 14, 15, 16, 17, 18, 19, 20, 21, 22], [], false⟩, ⟨[], [0, 1, 2, 3, 4, 5, 6, 7, 8, 9, 10, 11, 12, 13, 14, 15, 16, 17, 18, 19, 20, 21, 22, 23], [], false⟩] 22 (by kernel_rfl) (by kernel_rfl)
            · refine ⟨?_, ?_, ?_, ?_, ?_, ?_, ?_, ?_, ?_, ?_, ?_, ?_, ?_, ?_, ?_, ?_, ?_, ?_, ?_, ?_, ?_, ?_, trivial⟩
              · intro tm hr
                simp [AllL, rdV] at hr
                simp [hr, nth_d e10, nth_d e11, ← e12, ← e14]
                intros; first | exact KD.mk | exact KD.mkN
              · intro tm hr
                simp [AllL, rdV] at hr
                simp [hr, nth_d e10, nth_d e11, ← e12, ← e14]
                intros; first | exact KD.mk | exact KD.mkN
              · intro tm hr
                simp [AllL, rdV] at hr
                simp [hr, nth_d e10, nth_d e11, ← e12, ← e14]
                intros; first | exact KD.mk | exact KD.mkN
              · intro tm hr
                simp [AllL, rdV] at hr
                simp [hr, nth_d e10, nth_d e11, ← e12, ← e14]
                intros; first | exact KD.mk | exact KD.mkN
              · intro tm hr
                simp [AllL, rdV] at hr
                simp [hr, nth_d e10, nth_d e11, ← e12, ← e14]
                intros; first | exact KD.mk | exact KD.mkN
              · intro tm hr
                simp [AllL, rdV] at hr
                simp [hr, nth_d e10, nth_d e11, ← e12, ← e14]
                intros; first | exact KD.mk | exact KD.mkN
              · intro tm hr
                simp [AllL, rdV] at hr
                simp [hr, nth_d e10, nth_d e11, ← e12, ← e14]
                intros; first | exact KD.mk | exact KD.mkN
              · intro tm hr
                simp [AllL, rdV] at hr
                simp [hr, nth_d e10, nth_d e11, ← e12, ← e14]
                intros; first | exact KD.mk | exact KD.mkN
              · intro tm hr
                simp [AllL, rdV] at hr
                simp [hr, nth_d e10, nth_d e11, ← e12, ← e14]
                intros; first | exact KD.mk | exact KD.mkN
              · intro tm hr
                simp [AllL, rdV] at hr
                simp [hr, nth_d e10, nth_d e11, ← e12, ← e14]
                intros; first | exact KD.mk | exact KD.mkN
              · intro tm hr
                simp [AllL, rdV] at hr
                simp [hr, nth_d e10, nth_d e11, ← e12, ← e14]
                intros; first | exact KD.mk | exact KD.mkN
              · intro tm hr
                simp [AllL, rdV] at hr
                simp [hr, nth_d e10, nth_d e11, ← e12, ← e14]
                intros; first | exact KD.mk | exact KD.mkN
              · intro tm hr
                simp [AllL, rdV] at hr
                simp [hr, nth_d e10, nth_d e11, ← e12, ← e14]
                intros; first | exact KD.mk | exact KD.mkN
              · intro tm hr
                simp [AllL, rdV] at hr
                simp [hr, nth_d e10, nth_d e11, ← e12, ← e14]
                intros; first | exact KD.mk | exact KD.mkN
              · intro tm hr
                simp [AllL, rdV] at hr
                simp [hr, nth_d e10, nth_d e11, ← e12, ← e14]
                intros; first | exact KD.mk | exact KD.mkN
              · intro tm hr
                simp [AllL, rdV] at hr
                simp [hr, nth_d e10, nth_d e11, ← e12, ← e14]
                intros; first | exact KD.mk | exact KD.mkN
              · intro tm hr
                simp [AllL, rdV] at hr
                simp [hr, nth_d e10, nth_d e11, ← e12, ← e14]
                intros; first | exact KD.mk | exact KD.mkN
              · intro tm hr
                simp [AllL, rdV] at hr
                simp [hr, nth_d e10, nth_d e11, ← e12, ← e14]
                intros; first | exact KD.mk | exact KD.mkN
              · intro tm hr
                simp [AllL, rdV] at hr
                simp [hr, nth_d e10, nth_d e11, ← e12, ← e14]
                intros; first | exact KD.mk | exact KD.mkN
              · intro tm hr
                simp [AllL, rdV] at hr
                simp [hr, nth_d e10, nth_d e11, ← e12, ← e14]
                intros; first | exact KD.mk | exact KD.mkN
              · intro tm hr
                simp [AllL, rdV] at hr
                simp [hr, nth_d e10, nth_d e11, ← e12, ← e14]
                intros; first | exact KD.mk | exact KD.mkN
              · intro tm hr
                simp [AllL, rdV] at hr
                simp [hr, nth_d e10, nth_d e11, ← e12, ← e14]
                intros; first | exact KD.mk | exact KD.mkN
            · rfl
            · simp [tmD, putD, nth_d e10, nth_d e11, ← e12, ← e14]; rfl
            · simp [nth_d e10, nth_d e11, ← e12, ← e14]
              intros
              refine xcall_plain en_r5_SameItem (s_r5_SameItem e13) rfl ⟨.same rfl, .same rfl, trivial⟩ ?_
              try simp [nth_d e10, nth_d e11, ← e12, ← e14]
              intros; rfl
            obtain rfl := Option.some.inj h
            refine nP_i ?_
            refine Weak.mixN [] hn0 (by decide) ?_ ?_ rfl
            all_goals first | (simp [inv_cons, inv_nil, pickOb]; done) | rfl
        · rintro e s hp
          obtain ⟨rfl, hw⟩ := hp
          refine ⟨_, hw, ?_⟩
          try simp only [sp_l, sp_r, Post.seq, Post.block, Nat.reduceEqDiff, reduceIte, Nat.zero_ne_one, Nat.one_ne_zero]
          replace h := ltE h; obtain ⟨v15, e15, h⟩ := h
          rw [← e15]
          cases v15 with
          | true =>
            replace h := iteT rfl h
            refine AW.cond_true (by simp) ?_
            apply AW.step
            · simp
              intros; rfl
            obtain rfl := Option.some.inj h
            refine AW.ret ?_
            try simp only [sp_l, sp_r, Post.seq, Post.block, Nat.reduceEqDiff, reduceIte, Nat.zero_ne_one, Nat.one_ne_zero]
            refine rP_i ?_
            refine Left.plain hnb (by simp [Try.f42, resV, resC, comp]; rfl) rfl rfl ?_
            simp
          | false =>
            replace h := iteF rfl h
            refine AW.cond_false (by simp) ?_
            refine AW.skip ?_
            try simp only [sp_l, sp_r, Post.seq, Post.block, Nat.reduceEqDiff, reduceIte, Nat.zero_ne_one, Nat.one_ne_zero]
            try simp only [sp_l, sp_r, Post.seq, Post.block, Nat.reduceEqDiff, reduceIte, Nat.zero_ne_one, Nat.one_ne_zero]
            replace h := ltE h; obtain ⟨v16, e16, h⟩ := h
            apply AW.last
            · simp [← e16]
              intros; rfl
            obtain rfl := Option.some.inj h
            refine nP_i ?_
            refine Weak.mixN [] hn0 (by decide) ?_ ?_ rfl
            all_goals first | (simp [inv_cons, inv_nil, pickOb]; done) | rfl
      | false =>
        replace h := iteF rfl h
        refine AW.cond_false (by simp) ?_
        refine AW.exit ?_
        try simp only [sp_l, sp_r, Post.seq, Post.block, Nat.reduceEqDiff, reduceIte, Nat.zero_ne_one, Nat.one_ne_zero]
        obtain rfl := Option.some.inj h
        try simp only [sp_l, sp_r]
        refine xP_i ?_
        refine Weak.mixN [] hn0 (by decide) ?_ ?_ rfl
        all_goals first | (simp [inv_cons, inv_nil, pickOb]; done) | rfl
    · rintro e s hp
      rcases y5 with y17 | y18
      · replace h := smL h
        obtain ⟨rfl, hw⟩ := hp
        refine ⟨_, hw, ?_⟩
        try simp only [sp_l, sp_r, Post.seq, Post.block, Nat.reduceEqDiff, reduceIte, Nat.zero_ne_one, Nat.one_ne_zero]
        apply AW.step
        · simp
          intros; rfl
        obtain rfl := Option.some.inj h
        refine AW.ret ?_
        refine Left.plain hnb (by simp [Try.f42, resV, resC, comp]; rfl) rfl rfl ?_
        simp
      · replace h := smR h
        obtain ⟨rfl, hl⟩ := hp
        refine ⟨_, Weak.refl _, ?_⟩
        obtain rfl := Option.some.inj h
        exact hl
theorem en_r5_SameSpace : Enters Try.prog 42 := enters Try.func42 (by kernel_rfl) rfl
def l15_FeedMade_sh (n : Nat) (a0 : List Int) (a1 : Int) (a2 : Int) (a3 : Int) (a4 : Int) : Option Bool :=
lt (lenI a0) fun v1 =>
lt (gtI v1 160) fun v2 =>
ite' v2 (bn (l15_awake_sh n) fun v3 =>
some v3) (bn (l15_Make_sh n a0 a1) fun v4 =>
lt (cvI .i64 a3) fun v5 =>
lt (addI .i64 v4.1.off 1) fun v6 =>
bn (remI .i64 v5 v6) fun v7 =>
lt (mulI .i64 4 v7) fun v8 =>
bn (segh a0 v8) fun v9 =>
bn (l15_Make_sh n v9 a2) fun v11 =>
lt (cvI .i64 a4) fun v12 =>
bn (quoI .i64 v12 40) fun v13 =>
lt (addI .i64 v11.1.off v13) fun v14 =>
bn (feed_Answer_sh n v4.1 v4.2 v11.1.rid v14) fun v15 =>
bn (r13_Answer_sh n v4.1 v4.2 v11.1.rid v14) fun v16 =>
bn (feed_Got_sh n v11.1 v11.2 v15) fun v17 =>
bn (r13_Got_sh n v11.1 v11.2 v16) fun v18 =>
bn (bn (r19_SameMsg_sh n v15 v16) fun v20 =>
ite' v20 (bn (r13_SameFeed_sh n v17.1 v18.f) fun v21 =>
ite' v21 (bn (r5_SameSpace_sh n v17.2.1 v18.db) fun v22 =>
ite' v22 (lt (eqB v17.2.2 v18.is) fun v23 =>
ite' v23 (bn (l15_awake_sh n) fun v24 =>
some (v24)) (some (false))) (some (false))) (some (false))) (some (false))) fun (y19 : Bool) =>
some y19)
set_option maxRecDepth 8000 in
set_option maxHeartbeats 8000000 in
theorem s_l15_FeedMade {n : Nat} {a0 : List Int} {a1 : Int} {a2 : Int} {a3 : Int} {a4 : Int} {r : Bool} (h : l15_FeedMade_sh n a0 a1 a2 a3 a4 = some r) : Sound Try.prog 7 [.l (.d false 1 (encU a0)), .l (.s (.int .u8 a1)), .l (.s (.int .u8 a2)), .l (.s (.int .u8 a3)), .l (.s (.int .i8 a4))] [] (.l (.s (.bool r))) [] := by
  unfold l15_FeedMade_sh at h
  refine Sound.of_aw (fn := Try.f7) (c := _) Try.func7 rfl (by simp [Try.f7]) fun cx hG hnb => ?_
  rw [show Try.f7.ntmps = 105 from rfl]
  have hn0 : cx.nb = 0 := hnb
  simp only [st0_mk, initTm, List.map_cons, List.map_nil]
  apply AW.step
  · simp
    intros; rfl
  refine AW.seq ?_
  replace h := ltE h; obtain ⟨v1, e1, h⟩ := h
  replace h := ltE h; obtain ⟨v2, e2, h⟩ := h
  apply AW.step
  · simp [lenI_cast e1, ← e2]
    intros; rfl
  cases v2 with
  | true =>
    replace h := iteT rfl h
    refine AW.cond_true (by simp) ?_
    replace h := bnE h; obtain ⟨v3, e3, h⟩ := h
    apply AW.step
    · simp
      intros
      refine xcall_plain en_l15_awake (s_l15_awake e3) rfl trivial ?_
      try simp
      intros; rfl
    obtain rfl := Option.some.inj h
    refine AW.ret ?_
    refine Left.plain hnb (by simp [Try.f7, resV, resC, comp]; rfl) rfl rfl ?_
    simp
  | false =>
    replace h := iteF rfl h
    refine AW.cond_false (by simp) ?_
    refine AW.skip ?_
    try simp only [sp_l, sp_r, Post.seq, Post.block, Nat.reduceEqDiff, reduceIte, Nat.zero_ne_one, Nat.one_ne_zero]
    try simp only [sp_l, sp_r, Post.seq, Post.block, Nat.reduceEqDiff, reduceIte, Nat.zero_ne_one, Nat.one_ne_zero]
    replace h := bnE h; obtain ⟨v4, e4, h⟩ := h
    apply AW.step
    · simp
      intros
      refine xcall_plain en_l15_Make (s_l15_Make e4) rfl ⟨.same rfl, .same rfl, trivial⟩ ?_
      try simp
      intros; rfl
    replace h := ltE h; obtain ⟨v5, e5, h⟩ := h
    replace h := ltE h; obtain ⟨v6, e6, h⟩ := h
    replace h := bnE h; obtain ⟨v7, e7, h⟩ := h
    apply AW.step
    · simp [← e5, ← e6, e7]
      intros; rfl
    replace h := ltE h; obtain ⟨v8, e8, h⟩ := h
    replace h := bnE h; obtain ⟨v9, e9, h⟩ := h
    have f10 := encU_segh e9
    try simp [← e8] at f10
    replace h := bnE h; obtain ⟨v11, e11, h⟩ := h
    apply AW.step
    · simp [← e8, f10]
      intros
      refine xcall_plain en_l15_Make (s_l15_Make e11) rfl ⟨.same rfl, .same rfl, trivial⟩ ?_
      try simp [← e8, f10]
      intros; rfl
    replace h := ltE h; obtain ⟨v12, e12, h⟩ := h
    replace h := bnE h; obtain ⟨v13, e13, h⟩ := h
    replace h := ltE h; obtain ⟨v14, e14, h⟩ := h
    replace h := bnE h; obtain ⟨v15, e15, h⟩ := h
    apply AW.step
    · simp [← e12, e13, ← e14]
      intros
      refine xcall_plain en_feed_Answer (s_feed_Answer e15) rfl ⟨.same rfl, .same rfl, .same rfl, .same rfl, trivial⟩ ?_
      try simp [← e12, e13, ← e14]
      intros; rfl
    replace h := bnE h; obtain ⟨v16, e16, h⟩ := h
    apply AW.step
    · simp [← e12, e13, ← e14]
      intros
      refine xcall_plain en_r13_Answer (s_r13_Answer e16) rfl ⟨.same rfl, .same rfl, .same rfl, .same rfl, trivial⟩ ?_
      try simp [← e12, e13, ← e14]
      intros; rfl
    replace h := bnE h; obtain ⟨v17, e17, h⟩ := h
    apply AW.step
    · simp
      intros
      refine xcall_plain en_feed_Got (s_feed_Got e17) rfl ⟨.same rfl, .same rfl, .same rfl, trivial⟩ ?_
      try simp
      intros; rfl
    replace h := bnE h; obtain ⟨v18, e18, h⟩ := h
    apply AW.step
    · simp
      intros
      refine xcall_plain en_r13_Got (s_r13_Got e18) rfl ⟨.same rfl, .same rfl, .same rfl, trivial⟩ ?_
      try simp
      intros; rfl
    replace h := bnE h; obtain ⟨y19, g19, h⟩ := h
    refine AW.flow (p := fun gh ls => (nP (cx := cx) (fun q => (⟨[(10, .l (.s (.bool q)))], [], 105, gh, ls⟩ : St))) y19) ?_ ?_
    · replace h := g19; clear g19
      replace h := bnE h; obtain ⟨v20, e20, h⟩ := h
      cases v20 with
      | true =>
        replace h := iteT rfl h
        replace h := bnE h; obtain ⟨v21, e21, h⟩ := h
        cases v21 with
        | true =>
          replace h := iteT rfl h
          replace h := bnE h; obtain ⟨v22, e22, h⟩ := h
          cases v22 with
          | true =>
            replace h := iteT rfl h
            replace h := ltE h; obtain ⟨v23, e23, h⟩ := h
            cases v23 with
            | true =>
              replace h := iteT rfl h
              replace h := bnE h; obtain ⟨v24, e24, h⟩ := h
              apply AW.last
              · simp [← e23]
                intros
                refine xcall_plain en_r19_SameMsg (s_r19_SameMsg e20) rfl ⟨.same rfl, .same rfl, trivial⟩ ?_
                try simp [← e23]
                intros
                refine xcall_plain en_r13_SameFeed (s_r13_SameFeed e21) rfl ⟨.same rfl, .same rfl, trivial⟩ ?_
                try simp [← e23]
                intros
                refine xcall_plain en_r5_SameSpace (s_r5_SameSpace e22) rfl ⟨.same rfl, .same rfl, trivial⟩ ?_
                try simp [← e23]
                intros
                refine xcall_plain en_l15_awake (s_l15_awake e24) rfl trivial ?_
                try simp [← e23]
                intros; rfl
              obtain rfl := Option.some.inj h
              refine nP_i ?_
              refine Weak.mixN [] hn0 (by decide) ?_ ?_ rfl
              all_goals first | (simp [inv_cons, inv_nil, pickOb]; done) | rfl
            | false =>
              replace h := iteF rfl h
              apply AW.last
              · simp [← e23]
                intros
                refine xcall_plain en_r19_SameMsg (s_r19_SameMsg e20) rfl ⟨.same rfl, .same rfl, trivial⟩ ?_
                try simp [← e23]
                intros
                refine xcall_plain en_r13_SameFeed (s_r13_SameFeed e21) rfl ⟨.same rfl, .same rfl, trivial⟩ ?_
                try simp [← e23]
                intros
                refine xcall_plain en_r5_SameSpace (s_r5_SameSpace e22) rfl ⟨.same rfl, .same rfl, trivial⟩ ?_
                try simp [← e23]
                intros; rfl
              obtain rfl := Option.some.inj h
              refine nP_i ?_
              refine Weak.mixN [] hn0 (by decide) ?_ ?_ rfl
              all_goals first | (simp [inv_cons, inv_nil, pickOb]; done) | rfl
          | false =>
            replace h := iteF rfl h
            apply AW.last
            · simp
              intros
              refine xcall_plain en_r19_SameMsg (s_r19_SameMsg e20) rfl ⟨.same rfl, .same rfl, trivial⟩ ?_
              try simp
              intros
              refine xcall_plain en_r13_SameFeed (s_r13_SameFeed e21) rfl ⟨.same rfl, .same rfl, trivial⟩ ?_
              try simp
              intros
              refine xcall_plain en_r5_SameSpace (s_r5_SameSpace e22) rfl ⟨.same rfl, .same rfl, trivial⟩ ?_
              try simp
              intros; rfl
            obtain rfl := Option.some.inj h
            refine nP_i ?_
            refine Weak.mixN [] hn0 (by decide) ?_ ?_ rfl
            all_goals first | (simp [inv_cons, inv_nil, pickOb]; done) | rfl
        | false =>
          replace h := iteF rfl h
          apply AW.last
          · simp
            intros
            refine xcall_plain en_r19_SameMsg (s_r19_SameMsg e20) rfl ⟨.same rfl, .same rfl, trivial⟩ ?_
            try simp
            intros
            refine xcall_plain en_r13_SameFeed (s_r13_SameFeed e21) rfl ⟨.same rfl, .same rfl, trivial⟩ ?_
            try simp
            intros; rfl
          obtain rfl := Option.some.inj h
          refine nP_i ?_
          refine Weak.mixN [] hn0 (by decide) ?_ ?_ rfl
          all_goals first | (simp [inv_cons, inv_nil, pickOb]; done) | rfl
      | false =>
        replace h := iteF rfl h
        apply AW.last
        · simp
          intros
          refine xcall_plain en_r19_SameMsg (s_r19_SameMsg e20) rfl ⟨.same rfl, .same rfl, trivial⟩ ?_
          try simp
          intros; rfl
        obtain rfl := Option.some.inj h
        refine nP_i ?_
        refine Weak.mixN [] hn0 (by decide) ?_ ?_ rfl
        all_goals first | (simp [inv_cons, inv_nil, pickOb]; done) | rfl
    · rintro e s hp
      obtain ⟨rfl, hw⟩ := hp
      refine ⟨_, hw, ?_⟩
      try simp only [sp_l, sp_r, Post.seq, Post.block, Nat.reduceEqDiff, reduceIte, Nat.zero_ne_one, Nat.one_ne_zero]
      obtain rfl := Option.some.inj h
      refine AW.ret ?_
      refine Left.plain hnb (by simp [Try.f7, resV, resC, comp]; rfl) rfl rfl ?_
      simp
end Go.Proofs.Ytlkhfdccapkcdaa

/- Plain laws: feeds, answers, what is got. -/
namespace Go.Proofs.Ytlkhfdccapkcdaa
open Go Go.RowKit
set_option linter.unusedVariables false
set_option linter.unusedSimpArgs false
theorem ite_some {β : Type} (b : Bool) (x y : β) : ite' b (some x) (some y) = some (bif b then x else y) := by cases b <;> rfl
theorem ite_and (b c : Bool) : ite' b (some c) (some false) = some (b && c) := by cases b <;> rfl
theorem ite_or (b c : Bool) : ite' b (some true) (some c) = some (b || c) := by cases b <;> rfl
theorem eqRid (a b : Rid) : andB (eqI a.node b.node) (andB (eqI a.epoch b.epoch) true) = decide (a = b) := by
  rw [Bool.eq_iff_iff]
  simp only [andB, eqI, Bool.and_true, Bool.and_eq_true, decide_eq_true_eq]
  constructor
  · rintro ⟨h1, h2⟩
    exact Rid.ext h1 h2
  · rintro rfl
    exact ⟨rfl, rfl⟩
def addF (f : Feed) (l : List Effect) : Feed := { f with off := addI .i64 f.off l.length, back := lastN (f.back ++ l) }
theorem f_Add_ok (f : Feed) (l : List Effect) (h : okE f.back) (h2 : okE l) (h3 : f.back.length + l.length ≤ 1000000000) : feed_Add_sh big f l = some (addF f l) := by
  have hl := h2.1
  unfold feed_Add_sh
  simp only [lt_eq, bn_some, ite_t, ite_f, sm_inl, sm_inr, lenI_eq, Option.some.injEq]
  rw [chk_t (by simp [catB]; omega)]
  simp only [lt_eq, bn_some, ite_t, ite_f, sm_inl, sm_inr, lenI_eq, Option.some.injEq, List.flatten_cons, List.flatten_nil, List.append_nil]
  rw [feed_last_ok _ (h.app h2 h3)]
  rfl
theorem r_Add_ok (f : Feed) (l : List Effect) (h3 : f.back.length + l.length ≤ 1000000000) : r13_Add_sh big f l = some (addF f l) := by
  unfold r13_Add_sh
  simp only [lt_eq, bn_some, ite_t, ite_f, sm_inl, sm_inr, lenI_eq, Option.some.injEq]
  rw [chk_room (by omega) (by omega), chk_room (by omega) (by omega), chk_room (by simp; omega) (by simp; omega), subI_64 (by simp; omega) (by simp; omega)]
  have e : maxI 0 (((f.back ++ l).length : Int) - 64) = (((f.back ++ l).length - 64 : Nat) : Int) := by simp only [maxI]; omega
  rw [e, segl_nat (by omega)]
  rfl
def allP (l : List Pair) : List Effect := l.map fun p => ⟨p.key, false, p.item⟩
theorem allP_take (l : List Pair) (i : Nat) (hi : i < l.length) : allP (l.take i) ++ [⟨l[i].key, false, l[i].item⟩] = allP (l.take (i + 1)) := by
  rw [← List.take_append_getElem hi]
  simp only [allP, List.map_append]
  rfl
theorem space_All_ok (l : List Pair) (h : okP l) (hl : l.length ≤ 1000000000) : space_All_sh big l = some (allP l) := by
  unfold space_All_sh
  simp only [lt_eq, bn_some, ite_t, ite_f, sm_inl, sm_inr, lenI_eq, Option.some.injEq]
  refine bn_run (allP l) (fun i => ((i : Int), allP (l.take i))) l.length (by unfold big; omega) rfl (fun i hi => ?_) ?_ ?_
  · simp only [lt_eq, bn_some, ite_t, ite_f, sm_inl, sm_inr, lenI_eq, Option.some.injEq]
    rw [ltI_t (by omega), nth_some hi]
    simp only [lt_eq, bn_some, ite_t, ite_f, sm_inl, sm_inr, lenI_eq, Option.some.injEq]
    rw [item_Copy_ok _ (h _ (List.getElem_mem hi))]
    simp only [lt_eq, bn_some, ite_t, ite_f, sm_inl, sm_inr, lenI_eq, Option.some.injEq]
    rw [chk_room (by simp [allP]; omega) (by simp [allP]; omega), addI_64 (by omega) (by omega), allP_take l i hi]
    rfl
  · simp only [lt_eq, bn_some, ite_t, ite_f, sm_inl, sm_inr, lenI_eq, Option.some.injEq]
    rw [ltI_f (by omega), List.take_length]
    rfl
  · rw [chk_room (by simp [allP]; omega) (by simp [allP]; omega)]
theorem r_All_ok (l : List Pair) (hl : l.length ≤ 1000000000) : r5_All_sh big l = some (allP l) := by
  unfold r5_All_sh
  refine bn_run (allP l) (fun i => ((i : Int), allP (l.take i))) l.length (by unfold big; omega) rfl (fun i hi => ?_) ?_ ?_
  · simp only [lt_eq, bn_some, ite_t, ite_f, sm_inl, sm_inr, lenI_eq, Option.some.injEq]
    rw [ltI_t (by omega), nth_some hi]
    simp only [lt_eq, bn_some, ite_t, ite_f, sm_inl, sm_inr, lenI_eq, Option.some.injEq]
    rw [chk_room (by simp [allP]; omega) (by simp [allP]; omega), addI_64 (by omega) (by omega), allP_take l i hi]
    rfl
  · simp only [lt_eq, bn_some, ite_t, ite_f, sm_inl, sm_inr, lenI_eq, Option.some.injEq]
    rw [ltI_f (by omega), List.take_length]
    rfl
  · rw [chk_room (by simp [allP]; omega) (by simp [allP]; omega)]
def goesF (f : Feed) (rid : Rid) (off : Int) : Bool := (decide (rid = f.rid) || (decide (rid = f.prev) && decide (off ≤ f.upto))) && (decide (off ≤ f.off) && decide (f.off - f.back.length ≤ off))
def ansF (f : Feed) (db : List Pair) (rid : Rid) (off : Int) : Msg :=
  bif goesF f rid off then ⟨5, 0, 0, 0, [], [], 0, 0, 0, f.rid, rid, off, (f.back.drop (off - (f.off - f.back.length)).toNat).take 16⟩ else ⟨6, 0, 0, 0, [], [], 0, 0, 0, f.rid, ⟨0, 0⟩, f.off, allP db⟩
/-- A feed that may be. -/
def okF (f : Feed) : Prop := okE f.back ∧ f.back.length ≤ 64 ∧ (f.back.length : Int) ≤ f.off ∧ f.off ≤ 9223372036854775807
theorem f_goes_ok (f : Feed) (rid : Rid) (off : Int) (h : okF f) : feed_goes_sh big f rid off = some (goesF f rid off) := by
  obtain ⟨-, h2, h3, h4⟩ := h
  unfold feed_goes_sh
  simp only [lt_eq, bn_some, ite_t, ite_f, sm_inl, sm_inr, lenI_eq, Option.some.injEq, eqRid, ite_and, ite_or]
  rw [subI_64 (by omega) (by omega)]
  rfl
theorem okE.take {l : List Effect} (h : okE l) (k : Nat) : okE (l.take k) := ⟨by have := h.1; simp; omega, fun e he => h.2 e (List.mem_of_mem_take he)⟩
theorem f_Answer_ok (f : Feed) (db : List Pair) (rid : Rid) (off : Int) (h : okF f) (hd : okP db) (hdl : db.length ≤ 1000000000) : feed_Answer_sh big f db rid off = some (ansF f db rid off) := by
  obtain ⟨h1, h2, h3, h4⟩ := id h
  unfold feed_Answer_sh ansF
  rw [f_goes_ok f rid off h]
  simp only [lt_eq, bn_some, ite_t, ite_f, sm_inl, sm_inr, lenI_eq, Option.some.injEq]
  cases hg : goesF f rid off
  · simp only [notB_f, lt_eq, bn_some, ite_t, ite_f, sm_inl, sm_inr, lenI_eq, Option.some.injEq]
    rw [space_All_ok _ hd hdl]
    rfl
  · simp only [notB_t, lt_eq, bn_some, ite_t, ite_f, sm_inl, sm_inr, lenI_eq, Option.some.injEq]
    have hb : off ≤ f.off ∧ f.off - f.back.length ≤ off := by
      simp only [goesF, Bool.and_eq_true, decide_eq_true_eq] at hg
      exact hg.2
    have hk : feed_kept_sh big f off = some (f.back.drop (off - (f.off - f.back.length)).toNat) := by
      unfold feed_kept_sh
      simp only [lt_eq, bn_some, ite_t, ite_f, sm_inl, sm_inr, lenI_eq, Option.some.injEq]
      rw [subI_64 (a := f.off) (by omega) (by omega), subI_64 (by omega) (by omega)]
      have e : (f.back.length : Int) - (f.off - off) = (((off - (f.off - f.back.length)).toNat : Nat) : Int) := by omega
      rw [e, segl_nat (by omega)]
      rfl
    rw [hk]
    simp only [lt_eq, bn_some, ite_t, ite_f, sm_inl, sm_inr, lenI_eq, Option.some.injEq]
    have hkE := h1.drop (off - (f.off - f.back.length)).toNat
    have hkl : (f.back.drop (off - (f.off - f.back.length)).toNat).length ≤ 64 := by simp; omega
    generalize f.back.drop (off - (f.off - f.back.length)).toNat = v at hkE hkl ⊢
    have hloop : ∀ {γ : Type} (k : List Effect ⊕ List Effect → Option γ) (r : Option γ), k (.inl (v.take 16)) = r → k (.inr (v.take 16)) = r →
        bn (iter big (fun (y7 : Int × List Effect) => ite' (ltI y7.1 (v.length : Int)) (bn (nth v y7.1) fun v11 => bn (ite' (eqI (y7.2.length : Int) 16) (some (.inr ())) (chk (room (y7.2.length + 1) 104) (some (.inl (y7.2 ++ [v11]))))) fun (y12 : (List Effect) ⊕ Unit) => sm y12 (fun y17 => some (.inl (addI .i64 y7.1 1, y17))) (fun y18 => some (.inr (.inr y7.2)))) (some (.inr (.inl y7.2)))) (0, [])) k = r := by
      intro γ k r hk1 hk2
      have hstep : ∀ i, i < min 16 v.length → (fun (y7 : Int × List Effect) => ite' (ltI y7.1 (v.length : Int)) (bn (nth v y7.1) fun v11 => bn (ite' (eqI (y7.2.length : Int) 16) (some (.inr ())) (chk (room (y7.2.length + 1) 104) (some (.inl (y7.2 ++ [v11]))))) fun (y12 : (List Effect) ⊕ Unit) => sm y12 (fun y17 => some (Sum.inl (β := List Effect ⊕ List Effect) (addI .i64 y7.1 1, y17))) (fun y18 => some (.inr (.inr y7.2)))) (some (.inr (.inl y7.2)))) ((i : Int), v.take i) = some (.inl (((i + 1 : Nat) : Int), v.take (i + 1))) := fun i hi => by
        have hi2 : i < v.length := by omega
        simp only
        rw [ltI_t (by omega), nth_some hi2]
        simp only [lt_eq, bn_some, ite_t, ite_f, sm_inl, sm_inr, lenI_eq, Option.some.injEq]
        have hne : eqI ((v.take i).length : Int) 16 = false := by simp [eqI]; omega
        rw [hne]
        simp only [lt_eq, bn_some, ite_t, ite_f, sm_inl, sm_inr, lenI_eq, Option.some.injEq]
        rw [chk_room (by simp; omega) (by simp; omega), List.take_append_getElem hi2]
        simp only [lt_eq, bn_some, ite_t, ite_f, sm_inl, sm_inr, lenI_eq, Option.some.injEq]
        rw [addI_64 (by omega) (by omega)]
        rfl
      by_cases hv : 16 < v.length
      · refine bn_run (.inr (v.take 16)) (fun i => ((i : Int), v.take i)) 16 (by unfold big; omega) (by simp) (fun i hi => hstep i (by omega)) ?_ hk2
        simp only
        rw [ltI_t (by omega), nth_some hv]
        have he : eqI ((v.take 16).length : Int) 16 = true := by simp [eqI]; omega
        simp only [lt_eq, bn_some, ite_t, ite_f, sm_inl, sm_inr, lenI_eq, Option.some.injEq, he]
      · refine bn_run (.inl (v.take 16)) (fun i => ((i : Int), v.take i)) v.length (by unfold big; omega) (by simp) (fun i hi => hstep i (by omega)) ?_ hk1
        simp only
        rw [ltI_f (by omega), List.take_length, List.take_of_length_le (by omega)]
        rfl
    have e : ∀ x : Option (List Effect), x = some (v.take 16) → (bn x fun y4 => chk (room y4.length 1) (bn (feed_copied_sh big y4) fun v23 => some (⟨5, 0, 0, 0, [], [], 0, 0, 0, f.rid, rid, off, v23⟩ : Msg))) = some ⟨5, 0, 0, 0, [], [], 0, 0, 0, f.rid, rid, off, v.take 16⟩ := by
      rintro x rfl
      simp only [lt_eq, bn_some, ite_t, ite_f, sm_inl, sm_inr, lenI_eq, Option.some.injEq]
      rw [chk_room (by simp; omega) (by simp; omega), copied_ok _ (hkE.take 16)]
      rfl
    refine e _ ?_
    exact hloop _ _ rfl rfl
theorem r_Answer_ok (f : Feed) (db : List Pair) (rid : Rid) (off : Int) (h : okF f) (hdl : db.length ≤ 1000000000) : r13_Answer_sh big f db rid off = some (ansF f db rid off) := by
  obtain ⟨h1, h2, h3, h4⟩ := id h
  unfold r13_Answer_sh ansF
  simp only [lt_eq, bn_some, ite_t, ite_f, sm_inl, sm_inr, lenI_eq, Option.some.injEq, eqRid]
  rw [subI_64 (a := f.off) (by omega) (by omega)]
  have e : ite' (decide (rid = f.rid)) (ite' (geI off (f.off - f.back.length)) (some (leI off f.off)) (some false)) (ite' (decide (rid = f.prev)) (ite' (leI off f.upto) (ite' (geI off (f.off - f.back.length)) (some (leI off f.off)) (some false)) (some false)) (some false)) = some (goesF f rid off) := by
    simp only [ite_and, ite_some, goesF, geI, leI]
    cases decide (rid = f.rid) <;> cases decide (rid = f.prev) <;> cases decide (off ≤ f.upto) <;> cases decide (off ≤ f.off) <;> cases decide (f.off - (f.back.length : Int) ≤ off) <;> rfl
  rw [e]
  simp only [lt_eq, bn_some, ite_t, ite_f, sm_inl, sm_inr, lenI_eq, Option.some.injEq]
  cases hg : goesF f rid off
  · simp only [lt_eq, bn_some, ite_t, ite_f, sm_inl, sm_inr, lenI_eq, Option.some.injEq]
    rw [r_All_ok _ hdl]
    rfl
  · have hb : off ≤ f.off ∧ f.off - f.back.length ≤ off := by
      simp only [goesF, Bool.and_eq_true, decide_eq_true_eq] at hg
      exact hg.2
    simp only [lt_eq, bn_some, ite_t, ite_f, sm_inl, sm_inr, lenI_eq, Option.some.injEq]
    rw [subI_64 (by omega) (by omega)]
    have e : off - (f.off - (f.back.length : Int)) = (((off - (f.off - f.back.length)).toNat : Nat) : Int) := by omega
    rw [e, segl_nat (by omega)]
    simp only [lt_eq, bn_some, ite_t, ite_f, sm_inl, sm_inr, lenI_eq, Option.some.injEq, Int.toNat_natCast]
    have hkl : (f.back.drop (off - (f.off - f.back.length)).toNat).length ≤ 64 := by simp; omega
    generalize f.back.drop (off - (f.off - f.back.length)).toNat = v at hkl ⊢
    have e : minI (v.length : Int) 16 = ((min v.length 16 : Nat) : Int) := by simp only [minI]; omega
    rw [e, segh_nat (by omega)]
    simp only [lt_eq, bn_some, ite_t, ite_f, sm_inl, sm_inr, lenI_eq, Option.some.injEq]
    rw [chk_room (by simp; omega) (by simp; omega), chk_room (by simp; omega) (by simp; omega)]
    have e2 : v.take (min v.length 16) = v.take 16 := by
      by_cases h : v.length ≤ 16
      · rw [Nat.min_eq_left h, List.take_length, List.take_of_length_le h]
      · rw [Nat.min_eq_right (by omega)]
    rw [e2]
    rfl
end Go.Proofs.Ytlkhfdccapkcdaa

/- Plain laws: what is got; feeds made by numbers. -/
namespace Go.Proofs.Ytlkhfdccapkcdaa
open Go Go.RowKit
set_option linter.unusedVariables false
set_option linter.unusedSimpArgs false
def newerF (f : Feed) (m : Msg) : Bool := !decide (m.rid.node = f.rid.node) || (decide (f.rid.epoch < m.rid.epoch) || (decide (m.rid = f.rid) && decide (f.off < m.off)))
def nextF (f : Feed) (m : Msg) : Bool := decide (m.kind = 5) && (decide (m.prev = f.rid) && decide (m.off = f.off))
def gotF (f : Feed) (db : List Pair) (m : Msg) : Feed × List Pair × Bool :=
  bif nextF f m then (addF (bif decide (m.rid = f.rid) then f else { f with rid := m.rid, prev := f.rid, upto := f.off }) m.effects, m.effects.foldl applyP db, true)
  else bif decide (m.kind = 6) && newerF f m then (⟨m.rid, m.off, [], ⟨0, 0⟩, 0⟩, m.effects.foldl applyP [], true) else (f, db, false)
theorem addF_nil (f : Feed) (h : f.back.length ≤ 64) (h2 : -9223372036854775808 ≤ f.off) (h3 : f.off ≤ 9223372036854775807) : addF f [] = f := by
  unfold addF lastN
  rw [addI_64 (by simp; omega) (by simp; omega), List.append_nil, show f.back.length - 64 = 0 by omega, List.drop_zero]
  simp
theorem f_Got_ok (f : Feed) (db : List Pair) (m : Msg) (h : okE f.back) (h2 : f.back.length ≤ 64) (h3 : -9223372036854775808 ≤ f.off) (h4 : f.off ≤ 9223372036854775807) (hs : SrtP db) (hd : okP db) (he : okE m.effects) (hl : db.length + m.effects.length ≤ 100000000) :
    feed_Got_sh big f db m = some (gotF f db m) := by
  unfold feed_Got_sh gotF
  simp only [lt_eq, bn_some, ite_t, ite_f, sm_inl, sm_inr, lenI_eq, Option.some.injEq, eqRid, ite_and, ite_or]
  have e1 : (neI m.rid.node f.rid.node || (gtI m.rid.epoch f.rid.epoch || (decide (m.rid = f.rid) && gtI m.off f.off))) = newerF f m := rfl
  have e2 : (eqI m.kind 5 && (decide (m.prev = f.rid) && eqI m.off f.off)) = nextF f m := rfl
  rw [e1, e2]
  cases hn : nextF f m
  · simp only [lt_eq, bn_some, ite_t, ite_f, sm_inl, sm_inr, lenI_eq, Option.some.injEq, cond_false]
    rw [show eqI m.kind 6 = decide (m.kind = 6) from rfl]
    cases hw : (decide (m.kind = 6) && newerF f m)
    · simp only [lt_eq, bn_some, ite_t, ite_f, sm_inl, sm_inr, lenI_eq, Option.some.injEq, cond_false]
      rw [f_Add_ok f [] h ⟨by simp, by simp⟩ (by simp; omega)]
      simp only [lt_eq, bn_some, ite_t, ite_f, sm_inl, sm_inr, lenI_eq, Option.some.injEq]
      rw [space_Apply_ok db [] hs hd (by simp) (by simp; omega), addF_nil f h2 h3 h4]
      rfl
    · simp only [lt_eq, bn_some, ite_t, ite_f, sm_inl, sm_inr, lenI_eq, Option.some.injEq, cond_true]
      rw [space_Apply_ok [] m.effects .nil (by simp [okP]) he.2 (by simp; omega)]
      rfl
  · simp only [lt_eq, bn_some, ite_t, ite_f, sm_inl, sm_inr, lenI_eq, Option.some.injEq, cond_true]
    cases hr : decide (m.rid = f.rid)
    · simp only [notB_f, lt_eq, bn_some, ite_t, ite_f, sm_inl, sm_inr, lenI_eq, Option.some.injEq, cond_false]
      rw [f_Add_ok ⟨⟨m.rid.node, m.rid.epoch⟩, f.off, f.back, ⟨f.rid.node, f.rid.epoch⟩, f.off⟩ _ h he (by show f.back.length + _ ≤ _; omega)]
      simp only [lt_eq, bn_some, ite_t, ite_f, sm_inl, sm_inr, lenI_eq, Option.some.injEq]
      rw [space_Apply_ok db _ hs hd he.2 hl]
      rfl
    · simp only [notB_t, lt_eq, bn_some, ite_t, ite_f, sm_inl, sm_inr, lenI_eq, Option.some.injEq, cond_true]
      rw [f_Add_ok ⟨⟨f.rid.node, f.rid.epoch⟩, f.off, f.back, ⟨f.prev.node, f.prev.epoch⟩, f.upto⟩ _ h he (by show f.back.length + _ ≤ _; omega)]
      simp only [lt_eq, bn_some, ite_t, ite_f, sm_inl, sm_inr, lenI_eq, Option.some.injEq]
      rw [space_Apply_ok db _ hs hd he.2 hl]
      rfl
theorem r_Got_ok (f : Feed) (db : List Pair) (m : Msg) (h2 : f.back.length ≤ 64) (hs : SrtP db) (hd : okP db) (he : okE m.effects) (hl : db.length + m.effects.length ≤ 100000000) :
    r13_Got_sh big f db m = some ⟨(gotF f db m).1, (gotF f db m).2.1, (gotF f db m).2.2⟩ := by
  unfold r13_Got_sh gotF
  simp only [lt_eq, bn_some, ite_t, ite_f, sm_inl, sm_inr, lenI_eq, Option.some.injEq, eqRid, ite_and, ite_or]
  have e1 : (neI m.rid.node f.rid.node || (gtI m.rid.epoch f.rid.epoch || (decide (m.rid = f.rid) && gtI m.off f.off))) = newerF f m := rfl
  have e2 : (eqI m.kind 5 && (decide (m.prev = f.rid) && eqI m.off f.off)) = nextF f m := rfl
  rw [e2]
  try rw [e1]
  cases hn : nextF f m
  · simp only [lt_eq, bn_some, ite_t, ite_f, sm_inl, sm_inr, lenI_eq, Option.some.injEq, cond_false]
    rw [show eqI m.kind 6 = decide (m.kind = 6) from rfl]
    cases hw : (decide (m.kind = 6) && newerF f m)
    · simp only [lt_eq, bn_some, ite_t, ite_f, sm_inl, sm_inr, lenI_eq, Option.some.injEq, cond_false]
    · simp only [lt_eq, bn_some, ite_t, ite_f, sm_inl, sm_inr, lenI_eq, Option.some.injEq, cond_true]
      rw [r_Apply_ok [] m.effects .nil (by simp [okP]) he.2 (by simp; omega)]
      rfl
  · simp only [lt_eq, bn_some, ite_t, ite_f, sm_inl, sm_inr, lenI_eq, Option.some.injEq, cond_true]
    rw [r_Apply_ok db _ hs hd he.2 hl]
    simp only [lt_eq, bn_some, ite_t, ite_f, sm_inl, sm_inr, lenI_eq, Option.some.injEq]
    rw [r_Add_ok _ _ (by omega)]
    simp only [lt_eq, bn_some, ite_t, ite_f, sm_inl, sm_inr, lenI_eq, Option.some.injEq]
    cases hr : decide (m.rid = f.rid)
    · simp only [notB_f, lt_eq, bn_some, ite_t, ite_f, sm_inl, sm_inr, lenI_eq, Option.some.injEq, cond_false]
      rfl
    · simp only [notB_t, lt_eq, bn_some, ite_t, ite_f, sm_inl, sm_inr, lenI_eq, Option.some.injEq, cond_true]
/-! ### What is alike -/
theorem r_SameSpace_refl (l : List Pair) (h : okP l) (hl : l.length ≤ 1000000000) : r5_SameSpace_sh big l l = some true := by
  unfold r5_SameSpace_sh
  simp only [lt_eq, bn_some, ite_t, ite_f, sm_inl, sm_inr, lenI_eq, Option.some.injEq, neI_self]
  refine bn_run (.inl ()) (fun i => (i : Int)) l.length (by unfold big; omega) rfl (fun i hi => ?_) ?_ rfl
  · rw [ltI_t (by omega)]
    simp only [lt_eq, bn_some, ite_t, ite_f, sm_inl, sm_inr, lenI_eq, Option.some.injEq, nth_some hi, neS_self, r_SameItem_refl _ (h _ (List.getElem_mem hi)), notB_t]
    rw [addI_64 (by omega) (by omega)]
    rfl
  · rw [ltI_f (by omega)]; rfl
theorem r_SameFeed_refl (f : Feed) (h : okE f.back) : r13_SameFeed_sh big f f = some true := by
  unfold r13_SameFeed_sh
  simp only [lt_eq, bn_some, ite_t, ite_f, sm_inl, sm_inr, lenI_eq, Option.some.injEq, eqI_self, andB_tt, r_SameEffects_refl _ h]
theorem r_Claims_refl (l : List Claim) (hl : l.length ≤ 1000000000) : r13_SameClaims_sh big l l = some true := by
  unfold r13_SameClaims_sh
  simp only [lt_eq, bn_some, ite_t, ite_f, sm_inl, sm_inr, lenI_eq, Option.some.injEq, neI_self]
  refine bn_run (.inl ()) (fun i => (i : Int)) l.length (by unfold big; omega) rfl (fun i hi => ?_) ?_ rfl
  · rw [ltI_t (by omega)]
    simp only [lt_eq, bn_some, ite_t, ite_f, sm_inl, sm_inr, lenI_eq, Option.some.injEq, nth_some hi, eqI_self, andB_tt, notB_t]
    rw [addI_64 (by omega) (by omega)]
    rfl
  · rw [ltI_f (by omega)]; rfl
theorem r_Ints_refl (l : List Int) (hl : l.length ≤ 1000000000) : r1_Ints_sh big l l = some true := by
  unfold r1_Ints_sh
  simp only [lt_eq, bn_some, ite_t, ite_f, sm_inl, sm_inr, lenI_eq, Option.some.injEq, neI_self]
  refine bn_run (.inl ()) (fun i => (i : Int)) l.length (by unfold big; omega) rfl (fun i hi => ?_) ?_ rfl
  · rw [ltI_t (by omega)]
    simp only [lt_eq, bn_some, ite_t, ite_f, sm_inl, sm_inr, lenI_eq, Option.some.injEq, nth_some hi, neI_self]
    rw [addI_64 (by omega) (by omega)]
    rfl
  · rw [ltI_f (by omega)]; rfl
theorem r_SameMsg_refl (m : Msg) (h : okE m.effects) (hc : m.claims.length ≤ 1000000000) (hn : m.nodes.length ≤ 1000000000) : r19_SameMsg_sh big m m = some true := by
  unfold r19_SameMsg_sh
  simp only [lt_eq, bn_some, ite_t, ite_f, sm_inl, sm_inr, lenI_eq, Option.some.injEq, eqI_self, andB_tt, r_Claims_refl _ hc, r_Ints_refl _ hn, r_SameEffects_refl _ h]
end Go.Proofs.Ytlkhfdccapkcdaa

/- Plain law: feeds made by numbers. -/
namespace Go.Proofs.Ytlkhfdccapkcdaa
open Go Go.RowKit
set_option linter.unusedVariables false
set_option linter.unusedSimpArgs false
theorem Make15_ok (es : List Int) (r : Int) (hes : u8s es) (hl : es.length ≤ 1000000000) (hr : 0 ≤ r) (hr2 : r ≤ 255) : Rn (l15_Make_sh big es r) fun p => okE p.1.back ∧ p.1.back.length ≤ 40 ∧ p.1.off = p.1.back.length ∧ 4 * p.1.back.length ≤ es.length ∧ SrtP p.2 ∧ okP p.2 ∧ p.2.length ≤ 40 := by
  unfold l15_Make_sh
  refine Rn.bn (Effects_ok es hes hl) fun l hll => Rn.lt ?_
  obtain ⟨h1, h2, h3, h4⟩ := hll
  have hE : okE l := ⟨by omega, h4⟩
  rw [cvI_64 (by omega) (by omega)]
  refine Rn.bnE (remI_pos hr (by omega)) (Rn.bnE (quoI_64 hr (by omega) (by omega)) (Rn.bnE (r_Add_ok _ _ (by simp; omega)) (Rn.bnE (r_Apply_ok [] l .nil (by simp [okP]) h4 (by simp; omega)) (Rn.some ?_))))
  have hb : (lastN ([] ++ l)) = l := by unfold lastN; rw [List.nil_append, show l.length - 64 = 0 by omega, List.drop_zero]
  obtain ⟨g1, g2, g3⟩ := foldA_inv l [] .nil (by simp [okP]) h4
  simp only [addF, hb]
  refine ⟨hE, h1, ?_, h3, g1, g2, ?_⟩
  · rw [addI_64 (by omega) (by omega)]; omega
  · simp at g3; omega
theorem ansF_ok (f : Feed) (db : List Pair) (rid : Rid) (off : Int) (h : okE f.back) (hd : okP db) (hl : db.length ≤ 1000000) : okE (ansF f db rid off).effects ∧ (ansF f db rid off).effects.length ≤ 16 + db.length ∧ (ansF f db rid off).claims = [] ∧ (ansF f db rid off).nodes = [] := by
  unfold ansF
  cases goesF f rid off
  · refine ⟨⟨by simp [allP]; omega, fun e he => ?_⟩, by simp [allP], rfl, rfl⟩
    simp only [cond_false, allP, List.mem_map] at he
    obtain ⟨p, hp, rfl⟩ := he
    exact hd p hp
  · exact ⟨(h.drop _).take 16, by simp; omega, rfl, rfl⟩
theorem gotF_ok (f : Feed) (db : List Pair) (m : Msg) (h : okE f.back) (h2 : f.back.length ≤ 1000000) (hs : SrtP db) (hd : okP db) (he : okE m.effects) (hm : m.effects.length ≤ 1000000) :
    okE (gotF f db m).1.back ∧ SrtP (gotF f db m).2.1 ∧ okP (gotF f db m).2.1 ∧ (gotF f db m).2.1.length ≤ db.length + m.effects.length := by
  unfold gotF
  cases nextF f m
  · simp only [cond_false]
    cases (decide (m.kind = 6) && newerF f m)
    · exact ⟨h, hs, hd, by simp only [cond_false]; omega⟩
    · obtain ⟨g1, g2, g3⟩ := foldA_inv m.effects [] .nil (by simp [okP]) he.2
      exact ⟨⟨by simp, by simp⟩, g1, g2, by simp only [cond_true, List.length_nil] at g3 ⊢; omega⟩
  · obtain ⟨g1, g2, g3⟩ := foldA_inv m.effects db hs hd he.2
    refine ⟨?_, g1, g2, g3⟩
    simp only [cond_true, addF]
    cases decide (m.rid = f.rid)
    · exact (h.app he (by omega)).lastN
    · exact (h.app he (by omega)).lastN
theorem FeedMade_ok (es : List Int) (rid other off far : Int) (hes : u8s es) (h1 : 0 ≤ rid ∧ rid ≤ 255) (h2 : 0 ≤ other ∧ other ≤ 255) (h3 : 0 ≤ off ∧ off ≤ 255) : l15_FeedMade_sh big es rid other off far = some true := by
  refine Rn.eq ?_
  unfold l15_FeedMade_sh
  refine Rn.lt (Rn.lt (Rn.ite (fun _ => ?_) (fun hg => ?_)))
  · exact Rn.bnE awake15_ok (Rn.some rfl)
  have hlen : es.length ≤ 160 := by
    have hg := of_decide_eq_false (p := (160 : Int) < (es.length : Int)) hg
    omega
  refine Rn.bn (Make15_ok es rid hes (by omega) h1.1 h1.2) fun p hp => ?_
  obtain ⟨f, db⟩ := p
  obtain ⟨f1, f2, f3, f4, f5, f6, f7⟩ := hp
  simp only at f1 f2 f3 f4 f5 f6 f7
  refine Rn.lt (Rn.lt ?_)
  rw [cvI_64 (by omega) (by omega), addI_64 (by simp only; omega) (by simp only; omega)]
  refine Rn.bnE (remI_pos h3.1 (by simp only; omega)) (Rn.lt ?_)
  simp only
  obtain ⟨k, hk⟩ : ∃ k : Nat, off % (f.off + 1) = k := ⟨(off % (f.off + 1)).toNat, by have := Int.emod_nonneg off (show f.off + 1 ≠ 0 by omega); omega⟩
  have hk2 : (k : Int) < f.off + 1 := by rw [← hk]; exact Int.emod_lt_of_pos _ (by omega)
  rw [hk]
  have hm : mulI .i64 4 (k : Int) = ((4 * k : Nat) : Int) := by
    unfold mulI
    rw [wrap64 (by omega) (by omega)]
    omega
  rw [hm]
  refine Rn.bnE (segh_nat (by omega)) ?_
  refine Rn.bn (Make15_ok (es.take (4 * k)) other (fun x hx => hes x (List.mem_of_mem_take hx)) (by simp; omega) h2.1 h2.2) fun p hp => ?_
  obtain ⟨g, own⟩ := p
  obtain ⟨g1, g2, g3, g4, g5, g6, g7⟩ := hp
  simp only at g1 g2 g3 g4 g5 g6 g7
  refine Rn.lt (Rn.bnE (v := IntKind.i64.wrap ((cvI .i64 far).tdiv 40)) (by simp [quoI]) (Rn.lt ?_))
  simp only
  generalize addI .i64 g.off (IntKind.i64.wrap ((cvI .i64 far).tdiv 40)) = o
  have hF : okF f := ⟨f1, by omega, by omega, by omega⟩
  refine Rn.bnE (f_Answer_ok f db g.rid o hF f6 (by omega)) (Rn.bnE (r_Answer_ok f db g.rid o hF (by omega)) ?_)
  obtain ⟨a1, a2, a3, a4⟩ := ansF_ok f db g.rid o f1 f6 (by omega)
  obtain ⟨b1, b2, b3, b4⟩ := gotF_ok g own (ansF f db g.rid o) g1 (by omega) g5 g6 a1 (by omega)
  refine Rn.bnE (f_Got_ok g own _ g1 (by omega) (by omega) (by omega) g5 g6 a1 (by omega)) (Rn.bnE (r_Got_ok g own _ (by omega) g5 g6 a1 (by omega)) ?_)
  refine Rn.bnE (v := true) ?_ (Rn.some rfl)
  rw [r_SameMsg_refl _ a1 (by rw [a3]; simp) (by rw [a4]; simp)]
  simp only [lt_eq, bn_some, ite_t, ite_f, sm_inl, sm_inr, lenI_eq, Option.some.injEq]
  rw [r_SameFeed_refl _ b1]
  simp only [lt_eq, bn_some, ite_t, ite_f, sm_inl, sm_inr, lenI_eq, Option.some.injEq]
  rw [r_SameSpace_refl _ b3 (by omega)]
  simp only [lt_eq, bn_some, ite_t, ite_f, sm_inl, sm_inr, lenI_eq, Option.some.injEq, eqB_self]
  rw [awake15_ok]
  rfl
end Go.Proofs.Ytlkhfdccapkcdaa

/- What is read as data of the program's structs. -/
namespace Go.Proofs.Ytlkhfdccapkcdaa
open Go Go.RowKit
set_option linter.unusedVariables false
set_option linter.unusedSimpArgs false
set_option linter.constructorNameAsVariable false
set_option maxRecDepth 100000
section
variable {P : Program} {n t : Nat} {ts : List T}
theorem WfT.bool (hu : P.underlying t = some .bool) (h : WfT P (n + 1) t ts) : ∃ b, ts = [.v (.bool b)] := by rw [WfT, hu] at h; exact h
theorem WfT.int {k : IntKind} (hu : P.underlying t = some (.int k)) (h : WfT P (n + 1) t ts) : ∃ i, ts = [.v (.int k i)] ∧ (Lit.int k i).wf = true := by rw [WfT, hu] at h; exact h
theorem WfT.slice {e : Nat} (hu : P.underlying t = some (.slice e)) (h : WfT P (n + 1) t ts) : ∃ es, ts = [.sl (P.cellsOf e) es] ∧ es.length * P.bytesOf e ≤ reachBytes ∧ ∀ x ∈ es, WfT P n e x := by rw [WfT, hu] at h; exact h
theorem WfT.struct {fs : Array Go.Field} (hu : P.underlying t = some (.struct fs)) (h : WfT P (n + 1) t ts) : ∃ ps : List (List T), ts = ps.flatten ∧ All2 (fun p f => WfT P n f p) ps (fs.toList.map (·.type)) := by rw [WfT, hu] at h; exact h
end
theorem All2.cons_r {α β : Type} {R : α → β → Prop} {l : List α} {b : β} {bs : List β} (h : All2 R l (b :: bs)) : ∃ x xs, l = x :: xs ∧ R x b ∧ All2 R xs bs := by
  cases l with
  | nil => exact h.elim
  | cons x xs => exact ⟨x, xs, rfl, h⟩
theorem All2.nil_r {α β : Type} {R : α → β → Prop} {l : List α} (h : All2 R l ([] : List β)) : l = [] := by
  cases l with
  | nil => rfl
  | cons x xs => exact h.elim
def rngI (i : Int) : Prop := -9223372036854775808 ≤ i ∧ i ≤ 9223372036854775807
theorem wf_list {α : Type} {enc : List α → List (List T)} {R : List T → Prop} {rng : α → Prop} (hn : enc [] = []) (hc : ∀ x l, enc (x :: l) = enc [x] ++ enc l) (h1 : ∀ e, R e → ∃ x, enc [x] = [e] ∧ rng x) :
    ∀ es, (∀ x ∈ es, R x) → ∃ l, es = enc l ∧ ∀ x ∈ l, rng x
  | [], _ => ⟨[], hn.symm, fun x h => by cases h⟩
  | e :: es, h => by
    obtain ⟨x, hx, rx⟩ := h1 e (h e (by simp))
    obtain ⟨l, rfl, rl⟩ := wf_list hn hc h1 es fun y hy => h y (by simp [hy])
    refine ⟨x :: l, by rw [hc, hx]; rfl, ?_⟩
    intro y hy
    rcases List.mem_cons.1 hy with rfl | hy
    · exact rx
    · exact rl y hy
/-- Bytes. -/
def rngU (i : Int) : Prop := 0 ≤ i ∧ i ≤ 255
theorem wf_rngU {i : Int} (h : (Lit.int .u8 i).wf = true) : rngU i := by
  have h' := (Bool.and_eq_true _ _ ▸ h : _ ∧ _)
  exact ⟨of_decide_eq_true h'.1, of_decide_eq_true h'.2⟩
theorem wf_U (n : Nat) (e : List T) (h : WfT Try.prog (n + 1) 5 e) : ∃ x : Int, encU [x] = [e] ∧ rngU x := by
  obtain ⟨f, rfl, h2⟩ := WfT.int (t := 5) Try.underlying5 h
  have h' := (Bool.and_eq_true _ _ ▸ h2 : _ ∧ _)
  have h1 := of_decide_eq_true h'.1
  have h2 := of_decide_eq_true h'.2
  exact ⟨f, rfl, h1, h2⟩
theorem wf_Us {n : Nat} {es : List (List T)} (h : ∀ x ∈ es, WfT Try.prog (n + 1) 5 x) : ∃ l : List Int, es = encU l ∧ ∀ x ∈ l, rngU x :=
  wf_list (enc := encU) (R := fun e => WfT Try.prog (n + 1) 5 e) (rng := rngU) rfl (fun _ _ => rfl) (@wf_U n) es h
def rngField (x : Field) : Prop := True
def rngItem (x : Item) : Prop := (rngI x.kind) ∧ (∀ y ∈ x.f, rngField y) ∧ (rngI x.exp)
def rngPair (x : Pair) : Prop := (rngItem x.item)
def rngEffect (x : Effect) : Prop := (rngItem x.item)
def rngRid (x : Rid) : Prop := (rngI x.node) ∧ (rngI x.epoch)
def rngFeed (x : Feed) : Prop := (rngRid x.rid) ∧ (rngI x.off) ∧ (∀ y ∈ x.back, rngEffect y) ∧ (rngRid x.prev) ∧ (rngI x.upto)
end Go.Proofs.Ytlkhfdccapkcdaa

/- What all rows need. -/
namespace Go.Proofs.Ytlkhfdccapkcdaa
open Go Go.RowKit
open Go.ChangeShapes Go.WideShapes Go.ChangeAt Go.RowKit
theorem Try.own : ownKnob Try.prog.godebug = none := by kernel_rfl
theorem Try.laidOut : laidOutB Try.prog = true := by kernel_rfl
end Go.Proofs.Ytlkhfdccapkcdaa

