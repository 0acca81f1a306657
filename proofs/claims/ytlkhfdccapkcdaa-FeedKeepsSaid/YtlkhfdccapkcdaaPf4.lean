/- Part 4 of the proof. -/
import Derived.Test.YtlkhfdccapkcdaaPf3
/- Walks: Go's slices functions. -/
namespace Go.Proofs.Ytlkhfdccapkcdaa
open Go Go.RowKit
set_option linter.unusedVariables false
set_option linter.unusedSimpArgs false
def small {α : Type} (l : List α) : Bool := decide (l.length ≤ 1000000000)
theorem small_d {α : Type} {l : List α} (h : small l = true) : l.length ≤ 1000000000 := by simpa [small] using h
set_option maxRecDepth 8000 in
theorem s_cl_Effect (l : List Effect) (hl : l.length ≤ 1000000000) : Sound Try.prog 116 [.l (.d false 7 ((encEffect l)))] [] (.l (.r 0 7 0 l.length)) [some ⟨36, 7, true, none, lvs (encEffect l)⟩] := by
  refine Sound.of_aw (fn := Try.f116) (c := _) Try.func116 rfl (by simp [Try.f116]) fun cx hG hnb => ?_
  rw [show Try.f116.ntmps = 8 from rfl]
  have hn0 : cx.nb = 0 := hnb
  refine AW.step (by simp; rfl) ?_
  refine AW.seq ?_
  refine AW.stepN (fun s => ∃ b : Bool, (encEffect l ≠ [] → b = false) ∧ s = ⟨[(4, .l (.s (.bool b))), (3, .l (.d false 7 (encEffect l))), (2, .l (.s (.slice none 0 0))), (0, .l (.d false 7 (encEffect l)))], [], 8, [], none⟩) ?_ ?_
  · simp
  rintro s ⟨b, hb, rfl⟩
  refine AW.cond rfl (fun h => ?_) (fun h => AW.skip ?_)
  · have he : l = [] := by
      cases l with
      | nil => rfl
      | cons x l => simp at hb; rw [hb] at h; simp at h
    subst he
    refine AW.step (by simp; rfl) ?_
    refine AW.ret (Left.of (av := .l (.s (.slice none 0 0))) (by simp [Try.f116, resV, resC]) ?_)
    refine LeftV.weak (Weak.nilRow 0 36 7 rfl) ?_
    refine LeftV.now hnb [some 0] (fun i j o hi hj => ?_) rfl ?_ ?_
    · cases i <;> cases j <;> simp_all
    · simp [pickOb, St.add, Ob.ren, lvs]
    · rfl
  · simp only [Post.seq]
    apply AW.step
    · simp [Value.oneCell']
      refine xrow_own ?_
      try simp
      refine xapp_grow (q := (l.length, lvs (encEffect l))) (z := ⟨36, 7, true, none, []⟩) tb_el24 tb_ti36 (by simp) (by simp [← lvs_eq]) (by simp) (by simp) (by simp) (by simp; omega) ?_
      simp [St.grow, obsBut, lvs_ren]
      rfl
    refine AW.ret (Left.of (av := .l (.r 0 7 0 l.length)) (by simp [Try.f116, resV, resC]) ?_)
    refine LeftV.now hnb [some 0] (fun i j o hi hj => ?_) rfl ?_ rfl
    · cases i <;> cases j <;> simp_all
    · simp [pickOb, Ob.ren, lvs_ren]
theorem en_cl_Effect : Enters Try.prog 116 := enters Try.func116 (by kernel_rfl) rfl
theorem z_cl_Effect (l : List Effect) (hl : l.length ≤ 1000000000) : Sound Try.prog 116 [.l (.d false 7 (encEffect l))] [] (.l (.d false 7 (encEffect l))) [] :=
  (s_cl_Effect l hl).frz (by simp) (by omega) (encEffect_sz l) (by omega)

set_option maxRecDepth 8000 in
theorem s_cl_Field (l : List Field) (hl : l.length ≤ 1000000000) : Sound Try.prog 75 [.l (.d true 2 ((encField l)))] [] (.l (.r 0 2 0 l.length)) [some ⟨105, 2, true, none, lvs (encField l)⟩] := by
  refine Sound.of_aw (fn := Try.f75) (c := _) Try.func75 rfl (by simp [Try.f75]) fun cx hG hnb => ?_
  rw [show Try.f75.ntmps = 8 from rfl]
  have hn0 : cx.nb = 0 := hnb
  refine AW.step (by simp; rfl) ?_
  refine AW.seq ?_
  refine AW.stepN (fun s => ∃ b : Bool, (encField l ≠ [] → b = false) ∧ s = ⟨[(4, .l (.s (.bool b))), (3, .l (.d true 2 (encField l))), (2, .l (.s (.slice none 0 0))), (0, .l (.d true 2 (encField l)))], [], 8, [], none⟩) ?_ ?_
  · simp
  rintro s ⟨b, hb, rfl⟩
  refine AW.cond rfl (fun h => ?_) (fun h => AW.skip ?_)
  · have he : l = [] := by
      cases l with
      | nil => rfl
      | cons x l => simp at hb; rw [hb] at h; simp at h
    subst he
    refine AW.step (by simp; rfl) ?_
    refine AW.ret (Left.of (av := .l (.s (.slice none 0 0))) (by simp [Try.f75, resV, resC]) ?_)
    refine LeftV.weak (Weak.nilRow 0 105 2 rfl) ?_
    refine LeftV.now hnb [some 0] (fun i j o hi hj => ?_) rfl ?_ ?_
    · cases i <;> cases j <;> simp_all
    · simp [pickOb, St.add, Ob.ren, lvs]
    · rfl
  · simp only [Post.seq]
    apply AW.step
    · simp [Value.oneCell']
      refine xrow_own ?_
      try simp
      refine xapp_grow (q := (l.length, lvs (encField l))) (z := ⟨105, 2, true, none, []⟩) tb_el31 tb_ti105 (by simp) (by simp [encField_lvsA]) (by simp) (by simp) (by simp) (by simp; omega) ?_
      simp [St.grow, obsBut, lvs_ren]
      rfl
    refine AW.ret (Left.of (av := .l (.r 0 2 0 l.length)) (by simp [Try.f75, resV, resC]) ?_)
    refine LeftV.now hnb [some 0] (fun i j o hi hj => ?_) rfl ?_ rfl
    · cases i <;> cases j <;> simp_all
    · simp [pickOb, Ob.ren, lvs_ren]
theorem en_cl_Field : Enters Try.prog 75 := enters Try.func75 (by kernel_rfl) rfl
theorem z_cl_Field (l : List Field) (hl : l.length ≤ 1000000000) : Sound Try.prog 75 [.l (.d true 2 (encField l))] [] (.l (.d false 2 (encField l))) [] :=
  (s_cl_Field l hl).frz (by simp) (by omega) (encField_sz l) (by omega)

set_option maxRecDepth 8000 in
theorem s_cl_Pair (l : List Pair) (hl : l.length ≤ 1000000000) : Sound Try.prog 95 [.l (.d false 6 ((encPair l)))] [] (.l (.r 0 6 0 l.length)) [some ⟨125, 6, true, none, lvs (encPair l)⟩] := by
  refine Sound.of_aw (fn := Try.f95) (c := _) Try.func95 rfl (by simp [Try.f95]) fun cx hG hnb => ?_
  rw [show Try.f95.ntmps = 8 from rfl]
  have hn0 : cx.nb = 0 := hnb
  refine AW.step (by simp; rfl) ?_
  refine AW.seq ?_
  refine AW.stepN (fun s => ∃ b : Bool, (encPair l ≠ [] → b = false) ∧ s = ⟨[(4, .l (.s (.bool b))), (3, .l (.d false 6 (encPair l))), (2, .l (.s (.slice none 0 0))), (0, .l (.d false 6 (encPair l)))], [], 8, [], none⟩) ?_ ?_
  · simp
  rintro s ⟨b, hb, rfl⟩
  refine AW.cond rfl (fun h => ?_) (fun h => AW.skip ?_)
  · have he : l = [] := by
      cases l with
      | nil => rfl
      | cons x l => simp at hb; rw [hb] at h; simp at h
    subst he
    refine AW.step (by simp; rfl) ?_
    refine AW.ret (Left.of (av := .l (.s (.slice none 0 0))) (by simp [Try.f95, resV, resC]) ?_)
    refine LeftV.weak (Weak.nilRow 0 125 6 rfl) ?_
    refine LeftV.now hnb [some 0] (fun i j o hi hj => ?_) rfl ?_ ?_
    · cases i <;> cases j <;> simp_all
    · simp [pickOb, St.add, Ob.ren, lvs]
    · rfl
  · simp only [Post.seq]
    apply AW.step
    · simp [Value.oneCell']
      refine xrow_own ?_
      try simp
      refine xapp_grow (q := (l.length, lvs (encPair l))) (z := ⟨125, 6, true, none, []⟩) tb_el56 tb_ti125 (by simp) (by simp [← lvs_eq]) (by simp) (by simp) (by simp) (by simp; omega) ?_
      simp [St.grow, obsBut, lvs_ren]
      rfl
    refine AW.ret (Left.of (av := .l (.r 0 6 0 l.length)) (by simp [Try.f95, resV, resC]) ?_)
    refine LeftV.now hnb [some 0] (fun i j o hi hj => ?_) rfl ?_ rfl
    · cases i <;> cases j <;> simp_all
    · simp [pickOb, Ob.ren, lvs_ren]
theorem en_cl_Pair : Enters Try.prog 95 := enters Try.func95 (by kernel_rfl) rfl
theorem z_cl_Pair (l : List Pair) (hl : l.length ≤ 1000000000) : Sound Try.prog 95 [.l (.d false 6 (encPair l))] [] (.l (.d false 6 (encPair l))) [] :=
  (s_cl_Pair l hl).frz (by simp) (by omega) (encPair_sz l) (by omega)

set_option maxRecDepth 8000 in
theorem s_cl_S (l : List ByteArray) (hl : l.length ≤ 1000000000) : Sound Try.prog 122 [.l (.d true 1 ((encS l)))] [] (.l (.r 0 1 0 l.length)) [some ⟨9, 1, true, none, lvs (encS l)⟩] := by
  refine Sound.of_aw (fn := Try.f122) (c := _) Try.func122 rfl (by simp [Try.f122]) fun cx hG hnb => ?_
  rw [show Try.f122.ntmps = 8 from rfl]
  have hn0 : cx.nb = 0 := hnb
  refine AW.step (by simp; rfl) ?_
  refine AW.seq ?_
  refine AW.stepN (fun s => ∃ b : Bool, (encS l ≠ [] → b = false) ∧ s = ⟨[(4, .l (.s (.bool b))), (3, .l (.d true 1 (encS l))), (2, .l (.s (.slice none 0 0))), (0, .l (.d true 1 (encS l)))], [], 8, [], none⟩) ?_ ?_
  · simp
  rintro s ⟨b, hb, rfl⟩
  refine AW.cond rfl (fun h => ?_) (fun h => AW.skip ?_)
  · have he : l = [] := by
      cases l with
      | nil => rfl
      | cons x l => simp at hb; rw [hb] at h; simp at h
    subst he
    refine AW.step (by simp; rfl) ?_
    refine AW.ret (Left.of (av := .l (.s (.slice none 0 0))) (by simp [Try.f122, resV, resC]) ?_)
    refine LeftV.weak (Weak.nilRow 0 9 1 rfl) ?_
    refine LeftV.now hnb [some 0] (fun i j o hi hj => ?_) rfl ?_ ?_
    · cases i <;> cases j <;> simp_all
    · simp [pickOb, St.add, Ob.ren, lvs]
    · rfl
  · simp only [Post.seq]
    apply AW.step
    · simp [Value.oneCell']
      refine xrow_own ?_
      try simp
      refine xapp_grow (q := (l.length, lvs (encS l))) (z := ⟨9, 1, true, none, []⟩) tb_el32 tb_ti9 (by simp) (by simp [encS_lvsA]) (by simp) (by simp) (by simp) (by simp; omega) ?_
      simp [St.grow, obsBut, lvs_ren]
      rfl
    refine AW.ret (Left.of (av := .l (.r 0 1 0 l.length)) (by simp [Try.f122, resV, resC]) ?_)
    refine LeftV.now hnb [some 0] (fun i j o hi hj => ?_) rfl ?_ rfl
    · cases i <;> cases j <;> simp_all
    · simp [pickOb, Ob.ren, lvs_ren]
theorem en_cl_S : Enters Try.prog 122 := enters Try.func122 (by kernel_rfl) rfl
theorem z_cl_S (l : List ByteArray) (hl : l.length ≤ 1000000000) : Sound Try.prog 122 [.l (.d true 1 (encS l))] [] (.l (.d false 1 (encS l))) [] :=
  (s_cl_S l hl).frz (by simp) (by omega) (encS_sz l) (by omega)

def insL {α : Type} (l : List α) (i : Nat) (x : α) : List α := l.take i ++ x :: l.drop i
theorem insL_length {α : Type} (l : List α) (i : Nat) (x : α) (h : i ≤ l.length) : (insL l i x).length = l.length + 1 := by
  simp [insL]
  omega

def delL {α : Type} (l : List α) (i : Nat) : List α := l.take i ++ l.drop (i + 1)
theorem delL_length {α : Type} (l : List α) (i : Nat) (h : i < l.length) : (delL l i).length = l.length - 1 := by
  simp [delL]
  omega

def insB {α : Type} (l : List α) (i : Int) : Bool := decide (0 ≤ i ∧ i ≤ l.length ∧ l.length ≤ 1000000000)
def delB {α : Type} (l : List α) (i j : Int) : Bool := decide (0 ≤ i ∧ i < l.length ∧ j = i + 1 ∧ l.length ≤ 1000000000)
theorem insL_len {α : Type} {l m : List α} {i : Int} {x : α} (h : insB l i = true) (e : m = insL l i.toNat x) : l.length + 1 = m.length := by
  simp [insB] at h
  rw [e, insL_length l i.toNat x (by omega)]
theorem delL_len {α : Type} {l m : List α} {i j : Int} (h : delB l i j = true) (e : m = delL l i.toNat) : l.length - 1 = m.length := by
  simp [delB] at h
  rw [e, delL_length l i.toNat (by omega)]
set_option maxRecDepth 8000 in
set_option maxHeartbeats 8000000 in
theorem s_de_Field (l : List Field) (i : Nat) (hi : i < l.length) (hl : l.length ≤ 1000000000) : Sound Try.prog 77 [.l (.r 0 2 0 l.length), .l (.s (.int .i64 i)), .l (.s (.int .i64 (((i + 1 : Nat) : Int))))] [⟨105, 2, true, none, lvs (encField l)⟩] (.l (.r 0 2 0 (l.length - 1))) [some ⟨105, 2, true, none, lvs (encField (delL l i))⟩] := by
  refine Sound.of_aw (fn := Try.f77) (c := _) Try.func77 rfl (by simp [Try.f77]) fun cx hG hnb => ?_
  rw [show Try.f77.ntmps = 33 from rfl]
  have hn0 : cx.nb = 1 := hnb
  have hlv : (lvs (encField l)).length = l.length * 2 := by rw [lvs_length (encField_sz l)]; simp
  have hn1 : i + (l.length - (i + 1)) = l.length - 1 := by omega
  obtain ⟨es5, he5⟩ : ∃ es5, es5 = (encField l).take i ++ ((encField l).drop (i + 1)).take (l.length - (i + 1)) ++ (encField l).drop (i + (((encField l).drop (i + 1)).take (l.length - (i + 1))).length) := ⟨_, rfl⟩
  have hF : (((encField l).drop (i + 1)).take (l.length - (i + 1))) = (encField l).drop (i + 1) := List.take_of_length_le (by simp)
  have hs5 : ∀ e ∈ es5, e.length = 2 := by
    intro e he
    rw [he5, hF] at he
    simp only [List.mem_append] at he
    rcases he with (h | h) | h
    · exact encField_sz l e (List.mem_of_mem_take h)
    · exact encField_sz l e (List.mem_of_mem_drop h)
    · exact encField_sz l e (List.mem_of_mem_drop h)
  have hn5 : es5.length = l.length := by
    rw [he5, hF]
    simp
    omega
  have hv5 : (lvs es5).length = l.length * 2 := by rw [lvs_length hs5, hn5]
  have hend : es5.take (l.length - 1) = encField (delL l i) := by
    rw [he5, hF, List.take_left' (by simp; omega)]
    simp [encField, delL]
  have hset : setAt (lvs (encField l)) (i * 2) (lvs (((encField l).drop (i + 1)).take (l.length - (i + 1)))) = lvs es5 := by
    rw [he5]
    exact setAt_mid (encField_sz l) (fun e he => encField_sz l e (List.mem_of_mem_drop (List.mem_of_mem_take he))) (by rw [hF]; simp; omega)
  refine AW.step (by simp [hlv]; rfl) ?_
  refine AW.step (by simp [hlv]; (repeat refine ⟨by omega, ?_⟩); rfl) ?_
  refine AW.seq ?_
  refine AW.step (by simp [hlv]; rfl) ?_
  refine AW.cond rfl (fun h2 => ?_) (fun h2 => ?_)
  · simp at h2
    omega
  · try simp at h2
    refine AW.skip ?_
    simp only [Post.seq, Post.block, if_true]
    refine AW.step (by simp [hlv]; rfl) ?_
    apply AW.drawnP (V := [_, _, _, _, _, _]) mixed [⟨[0], [], [(0, none)], false⟩, ⟨[0], [], [(1, none)], false⟩, ⟨[0], [0, 1], [(20, some 0), (21, some 1)], false⟩, ⟨[0], [], [(0, none)], false⟩, ⟨[0], [], [(2, none)], false⟩, ⟨[0], [3, 4], [(23, some 3), (24, some 4)], false⟩, ⟨[], [0, 1, 2, 3, 4, 5], [], false⟩, ⟨[], [0, 1, 2, 3, 4, 5, 6], [], false⟩] 6 (by kernel_rfl) (by kernel_rfl)
    · refine ⟨?_, ?_, ?_, ?_, ?_, ?_, trivial⟩
      · intro tm hr
        simp [AllL, rdV] at hr
        simp [hr, hlv, hn1]
        repeat refine ⟨by omega, ?_⟩
        exact KD.mk
      · intro tm hr
        simp [AllL, rdV] at hr
        simp [hr, hlv, hn1]
        repeat refine ⟨by omega, ?_⟩
        exact KD.mk
      · intro tm hr
        simp [AllL, rdV] at hr
        simp [hr, hlv, hn1]
        repeat refine ⟨by omega, ?_⟩
        exact KD.mk
      · intro tm hr
        simp [AllL, rdV] at hr
        simp [hr, hlv, hn1]
        repeat refine ⟨by omega, ?_⟩
        exact KD.mk
      · intro tm hr
        simp [AllL, rdV] at hr
        simp [hr, hlv, hn1]
        repeat refine ⟨by omega, ?_⟩
        exact KD.mk
      · intro tm hr
        simp [AllL, rdV] at hr
        simp [hr, hlv, hn1]
        repeat refine ⟨by omega, ?_⟩
        exact KD.mk
    · rfl
    · simp [tmD, putD, hlv, hn1]; rfl
    · simp [hlv, hn1]
      repeat refine ⟨by omega, ?_⟩
      refine xapp_in (z := ⟨105, 2, true, none, lvs (encField l)⟩) (q := (l.length - (i + 1), lvs (((encField l).drop (i + 1)).take (l.length - (i + 1))))) tb_el31 tb_ti105 ⟨rfl, by decide, by decide⟩ (src_all (cap := none) rfl (encField_sz l) (by omega) (by simp)) rfl ⟨rfl, rfl, rfl, rfl⟩ (by simp [hlv]; omega) ?_
      simp [hset]
      try simp [hlv, hn1]
      rfl
    refine AW.step (by simp [hlv, hv5, hset]; (repeat refine ⟨by omega, ?_⟩); rfl) ?_
    refine AW.step (by simp [hlv]; rfl) ?_
    refine AW.ret ?_
    refine Left.of (av := _) (by simp [Try.f77, resV, resC, comp, hlv]; rfl) ?_
    refine LeftV.shrink 0 ((l.length - 1) * 2) rfl rfl rfl rfl ?_
    refine LeftV.rows [some 0] (by simp; omega) nd_one rfl rfl ?_ (by simp)
    simp [pickOb, setAt_take, lvs_takeN hs5, hend]
theorem en_de_Field : Enters Try.prog 77 := enters Try.func77 (by kernel_rfl) rfl

theorem sd_Field (l : List Field) (i j : Int) (h : delB l i j = true) : Sound Try.prog 77 [.l (.r 0 2 0 l.length), .l (.s (.int .i64 i)), .l (.s (.int .i64 j))] [⟨105, 2, true, none, lvs (encField l)⟩] (.l (.r 0 2 0 (l.length - 1)))
    [some ⟨105, 2, true, none, lvs (encField (delL l i.toNat))⟩] := by
  simp [delB] at h
  have := s_de_Field l i.toNat (by omega) (by omega)
  rwa [show ((i.toNat : Nat) : Int) = i by omega, show ((i.toNat + 1 : Nat) : Int) = j by omega] at this
set_option maxRecDepth 8000 in
set_option maxHeartbeats 8000000 in
theorem s_de_Pair (l : List Pair) (i : Nat) (hi : i < l.length) (hl : l.length ≤ 1000000000) : Sound Try.prog 96 [.l (.r 0 6 0 l.length), .l (.s (.int .i64 i)), .l (.s (.int .i64 (((i + 1 : Nat) : Int))))] [⟨125, 6, true, none, lvs (encPair l)⟩] (.l (.r 0 6 0 (l.length - 1))) [some ⟨125, 6, true, none, lvs (encPair (delL l i))⟩] := by
  refine Sound.of_aw (fn := Try.f96) (c := _) Try.func96 rfl (by simp [Try.f96]) fun cx hG hnb => ?_
  rw [show Try.f96.ntmps = 33 from rfl]
  have hn0 : cx.nb = 1 := hnb
  have hlv : (lvs (encPair l)).length = l.length * 6 := by rw [lvs_length (encPair_sz l)]; simp
  have hn1 : i + (l.length - (i + 1)) = l.length - 1 := by omega
  obtain ⟨es5, he5⟩ : ∃ es5, es5 = (encPair l).take i ++ ((encPair l).drop (i + 1)).take (l.length - (i + 1)) ++ (encPair l).drop (i + (((encPair l).drop (i + 1)).take (l.length - (i + 1))).length) := ⟨_, rfl⟩
  have hF : (((encPair l).drop (i + 1)).take (l.length - (i + 1))) = (encPair l).drop (i + 1) := List.take_of_length_le (by simp)
  have hs5 : ∀ e ∈ es5, e.length = 6 := by
    intro e he
    rw [he5, hF] at he
    simp only [List.mem_append] at he
    rcases he with (h | h) | h
    · exact encPair_sz l e (List.mem_of_mem_take h)
    · exact encPair_sz l e (List.mem_of_mem_drop h)
    · exact encPair_sz l e (List.mem_of_mem_drop h)
  have hn5 : es5.length = l.length := by
    rw [he5, hF]
    simp
    omega
  have hv5 : (lvs es5).length = l.length * 6 := by rw [lvs_length hs5, hn5]
  have hend : es5.take (l.length - 1) = encPair (delL l i) := by
    rw [he5, hF, List.take_left' (by simp; omega)]
    simp [encPair, delL]
  have hset : setAt (lvs (encPair l)) (i * 6) (lvs (((encPair l).drop (i + 1)).take (l.length - (i + 1)))) = lvs es5 := by
    rw [he5]
    exact setAt_mid (encPair_sz l) (fun e he => encPair_sz l e (List.mem_of_mem_drop (List.mem_of_mem_take he))) (by rw [hF]; simp; omega)
  refine AW.step (by simp [hlv]; rfl) ?_
  refine AW.step (by simp [hlv]; (repeat refine ⟨by omega, ?_⟩); rfl) ?_
  refine AW.seq ?_
  refine AW.step (by simp [hlv]; rfl) ?_
  refine AW.cond rfl (fun h2 => ?_) (fun h2 => ?_)
  · simp at h2
    omega
  · try simp at h2
    refine AW.skip ?_
    simp only [Post.seq, Post.block, if_true]
    refine AW.step (by simp [hlv]; rfl) ?_
    apply AW.drawnP (V := [_, _, _, _, _, _]) mixed [⟨[0], [], [(0, none)], false⟩, ⟨[0], [], [(1, none)], false⟩, ⟨[0], [0, 1], [(20, some 0), (21, some 1)], false⟩, ⟨[0], [], [(0, none)], false⟩, ⟨[0], [], [(2, none)], false⟩, ⟨[0], [3, 4], [(23, some 3), (24, some 4)], false⟩, ⟨[], [0, 1, 2, 3, 4, 5], [], false⟩, ⟨[], [0, 1, 2, 3, 4, 5, 6], [], false⟩] 6 (by kernel_rfl) (by kernel_rfl)
    · refine ⟨?_, ?_, ?_, ?_, ?_, ?_, trivial⟩
      · intro tm hr
        simp [AllL, rdV] at hr
        simp [hr, hlv, hn1]
        repeat refine ⟨by omega, ?_⟩
        exact KD.mk
      · intro tm hr
        simp [AllL, rdV] at hr
        simp [hr, hlv, hn1]
        repeat refine ⟨by omega, ?_⟩
        exact KD.mk
      · intro tm hr
        simp [AllL, rdV] at hr
        simp [hr, hlv, hn1]
        repeat refine ⟨by omega, ?_⟩
        exact KD.mk
      · intro tm hr
        simp [AllL, rdV] at hr
        simp [hr, hlv, hn1]
        repeat refine ⟨by omega, ?_⟩
        exact KD.mk
      · intro tm hr
        simp [AllL, rdV] at hr
        simp [hr, hlv, hn1]
        repeat refine ⟨by omega, ?_⟩
        exact KD.mk
      · intro tm hr
        simp [AllL, rdV] at hr
        simp [hr, hlv, hn1]
        repeat refine ⟨by omega, ?_⟩
        exact KD.mk
    · rfl
    · simp [tmD, putD, hlv, hn1]; rfl
    · simp [hlv, hn1]
      repeat refine ⟨by omega, ?_⟩
      refine xapp_in (z := ⟨125, 6, true, none, lvs (encPair l)⟩) (q := (l.length - (i + 1), lvs (((encPair l).drop (i + 1)).take (l.length - (i + 1))))) tb_el56 tb_ti125 ⟨rfl, by decide, by decide⟩ (src_all (cap := none) rfl (encPair_sz l) (by omega) (by simp)) rfl ⟨rfl, rfl, rfl, rfl⟩ (by simp [hlv]; omega) ?_
      simp [hset]
      try simp [hlv, hn1]
      rfl
    refine AW.step (by simp [hlv, hv5, hset]; (repeat refine ⟨by omega, ?_⟩); rfl) ?_
    refine AW.step (by simp [hlv]; rfl) ?_
    refine AW.ret ?_
    refine Left.of (av := _) (by simp [Try.f96, resV, resC, comp, hlv]; rfl) ?_
    refine LeftV.shrink 0 ((l.length - 1) * 6) rfl rfl rfl rfl ?_
    refine LeftV.rows [some 0] (by simp; omega) nd_one rfl rfl ?_ (by simp)
    simp [pickOb, setAt_take, lvs_takeN hs5, hend]
theorem en_de_Pair : Enters Try.prog 96 := enters Try.func96 (by kernel_rfl) rfl

theorem sd_Pair (l : List Pair) (i j : Int) (h : delB l i j = true) : Sound Try.prog 96 [.l (.r 0 6 0 l.length), .l (.s (.int .i64 i)), .l (.s (.int .i64 j))] [⟨125, 6, true, none, lvs (encPair l)⟩] (.l (.r 0 6 0 (l.length - 1)))
    [some ⟨125, 6, true, none, lvs (encPair (delL l i.toNat))⟩] := by
  simp [delB] at h
  have := s_de_Pair l i.toNat (by omega) (by omega)
  rwa [show ((i.toNat : Nat) : Int) = i by omega, show ((i.toNat + 1 : Nat) : Int) = j by omega] at this
set_option maxRecDepth 8000 in
set_option maxHeartbeats 8000000 in
theorem s_in_Field (l : List Field) (i : Nat) (x : Field) (hi : i ≤ l.length) (hl : l.length ≤ 1000000000) : Sound Try.prog 76 [.l (.r 0 2 0 l.length), .l (.s (.int .i64 i)), .l (.r 1 2 0 1)] [⟨105, 2, true, none, lvs (encField l)⟩, ⟨105, 2, true, none, lvs (encField [x])⟩] (.l (.r 0 2 0 (l.length + 1))) [some ⟨105, 2, true, none, lvs (encField (insL l i x))⟩, some ⟨105, 2, true, none, lvs (encField [x])⟩] := by
  refine Sound.of_aw (fn := Try.f76) (c := _) Try.func76 rfl (by simp [Try.f76]) fun cx hG hnb => ?_
  rw [show Try.f76.ntmps = 95 from rfl]
  have hn0 : cx.nb = 2 := hnb
  have hlv : (lvs (encField l)).length = l.length * 2 := by rw [lvs_length (encField_sz l)]; simp
  have hw1 := i64_succ (show l.length + 1 ≤ 9223372036854775807 by omega)
  have hlx : (lvs (encField [x])).length = 2 := by rw [lvs_length (encField_sz _)]; simp
  refine AW.step (by simp [hi, hw1]; rfl) ?_
  refine AW.step (by simp [hi, hw1, hlv]; rfl) ?_
  refine AW.step (by simp [hi, hw1]; rfl) ?_
  refine AW.seq ?_
  refine AW.step (by simp [hi, hw1]; rfl) ?_
  refine AW.cond rfl (fun h3 => ?_) (fun h3 => ?_)
  · simp at h3
  · try simp at h3
    refine AW.skip ?_
    simp only [Post.seq, Post.block, if_true]
    refine AW.step (by simp [hi, hw1]; rfl) ?_
    refine AW.seq ?_
    refine AW.step (by simp [hi, hw1]; rfl) ?_
    refine AW.cond rfl (fun h6 => ?_) (fun h6 => ?_)
    · simp at h6
      have hins : insL l i x = l ++ [x] := by simp [insL, show i = l.length by omega]
      apply AW.step
      · simp [hi, hw1]
        refine xapp_push (acc := encField l) (ys := encField [x]) (cap := none) (k := 1) tb_el31 tb_ti105 (by simp) (src_row (e := 105) (cap := none) (by simp) (encField_sz _) (by simp)) (encField_sz _) (by simp) (by simp) (by omega) ?_
        simp [St.grow, obsBut, ← encField_append, ← hins]
        try simp [hi, hw1]
        rfl
      refine AW.ret ?_
      refine Left.of (av := _) (by simp [Try.f76, resV, resC, comp, hi, hw1]; rfl) ?_
      exact LeftV.rows [some 0, some 1] (by simp; omega) (nd_pair (by omega)) rfl rfl (by simp [pickOb, hi, hw1]) (by simp [hi, hw1])
    · simp at h6
      have hil : i < l.length := by omega
      have hin : (i : Int) + (l.length + 1 - i : Nat) = l.length + 1 := by omega
      have hin2 : i + (l.length + 1 - i) = l.length + 1 := by omega
      have hw2 := i64_succ (show i + 1 ≤ 9223372036854775807 by omega)
      refine AW.skip ?_
      simp only [Post.seq, Post.block, if_true]
      refine AW.seq ?_
      apply AW.stepK
      simp [hi, hw1]
      refine xcap_row tb_el31 rfl rfl fun c hc1 _ hc3 => ?_
      simp [hw1]
      unfold KK
      refine AW.cond rfl (fun h8 => ?_) (fun h8 => ?_)
      · simp at h8
        have hcl : c = l.length := by omega
        obtain ⟨es2, he2⟩ : ∃ es2, es2 = (encField l).take i ++ List.replicate (l.length + 1 - i) [.v (.string ⟨#[]⟩), .v (.string ⟨#[]⟩)] := ⟨_, rfl⟩
        have hs2 : ∀ e ∈ es2, e.length = 2 := by
          intro e he
          rw [he2] at he
          rcases List.mem_append.1 he with h | h
          · exact encField_sz l e (List.mem_of_mem_take h)
          · rw [(List.mem_replicate.1 h).2]; rfl
        have hn2 : es2.length = l.length + 1 := by rw [he2]; simp; omega
        have hv2 : (lvs es2).length = (l.length + 1) * 2 := by rw [lvs_length hs2, hn2]
        obtain ⟨es3, he3⟩ : ∃ es3, es3 = es2.take i ++ encField [x] ++ es2.drop (i + 1) := ⟨_, rfl⟩
        have hs3 : ∀ e ∈ es3, e.length = 2 := by
          intro e he
          rw [he3] at he
          simp only [List.mem_append] at he
          rcases he with (h | h) | h
          · exact hs2 e (List.mem_of_mem_take h)
          · exact encField_sz _ e h
          · exact hs2 e (List.mem_of_mem_drop h)
        have hn3 : es3.length = l.length + 1 := by rw [he3]; simp [hn2]; omega
        have hv3 : (lvs es3).length = (l.length + 1) * 2 := by rw [lvs_length hs3, hn3]
        have hend : es3.take (i + 1) ++ ((encField l).drop i).take (l.length - i) = encField (insL l i x) := by
          rw [List.take_of_length_le (l := (encField l).drop i) (by simp)]
          rw [he3, List.take_append_of_le_length (by simp [hn2]; omega), List.take_of_length_le (by simp; omega), he2, List.take_append_of_le_length (by simp; omega)]
          simp [encField, insL, List.take_take]
        apply AW.step
        · simp [hi, hw1, hlv]
          repeat refine ⟨by omega, ?_⟩
          refine xmake_own (zr := [.v (.string ⟨#[]⟩), .v (.string ⟨#[]⟩)]) (es := encField l) tb_el31 tb_ti105 rfl ⟨rfl, rfl, by omega⟩ rfl rfl (encField_sz _) (by simp; omega) (l.length + 1 - i) (by rw [i64_in (by omega) (by omega)]; omega) (by omega) (by omega) (by omega) (by omega) ?_
          simp [hin2]
          try simp [hi, hw1, hlv]
          rfl
        apply AW.step
        · simp [hi, hw1, hv2, ← he2]
          repeat refine ⟨by omega, ?_⟩
          refine xcopy_own tb_el31 tb_ti105 rfl (by simp [hv2]) (by omega) 1 (by omega) (by omega) (src_at (cap := none) rfl (encField_sz [x]) (by simp)) (setAt_mid (fs := encField [x]) hs2 (encField_sz _) (by simp [hn2]; omega)) ?_
          simp [← he3]
          try simp [hi, hw1, hv2, ← he2]
          rfl
        apply AW.drawnP (V := [_, _, _, _, _, _, _, _]) mixed [⟨[0], [], [(9, none)], false⟩, ⟨[0], [], [(1, none)], false⟩, ⟨[0], [], [(7, none)], false⟩, ⟨[0], [1, 2], [(47, some 1), (48, some 2)], false⟩, ⟨[0], [0, 1, 2, 3], [(46, some 0), (49, some 3)], false⟩, ⟨[0], [], [(0, none)], false⟩, ⟨[0], [], [(1, none)], false⟩, ⟨[0], [5, 6], [(51, some 5), (52, some 6)], false⟩, ⟨[], [0, 1, 2, 3, 4, 5, 6, 7], [], false⟩] 8 (by kernel_rfl) (by kernel_rfl)
        · refine ⟨?_, ?_, ?_, ?_, ?_, ?_, ?_, ?_, trivial⟩
          · intro tm hr
            simp [AllL, rdV] at hr
            simp [hr, hi, hw1, hv3, hw2, hlv]
            repeat refine ⟨by omega, ?_⟩
            exact KD.mk
          · intro tm hr
            simp [AllL, rdV] at hr
            simp [hr, hi, hw1, hv3, hw2, hlv]
            repeat refine ⟨by omega, ?_⟩
            exact KD.mk
          · intro tm hr
            simp [AllL, rdV] at hr
            simp [hr, hi, hw1, hv3, hw2, hlv]
            repeat refine ⟨by omega, ?_⟩
            exact KD.mk
          · intro tm hr
            simp [AllL, rdV] at hr
            simp [hr, hi, hw1, hv3, hw2, hlv]
            repeat refine ⟨by omega, ?_⟩
            exact KD.mk
          · intro tm hr
            simp [AllL, rdV] at hr
            simp [hr, hi, hw1, hv3, hw2, hlv]
            repeat refine ⟨by omega, ?_⟩
            exact KD.mk
          · intro tm hr
            simp [AllL, rdV] at hr
            simp [hr, hi, hw1, hv3, hw2, hlv]
            repeat refine ⟨by omega, ?_⟩
            exact KD.mk
          · intro tm hr
            simp [AllL, rdV] at hr
            simp [hr, hi, hw1, hv3, hw2, hlv]
            repeat refine ⟨by omega, ?_⟩
            exact KD.mk
          · intro tm hr
            simp [AllL, rdV] at hr
            simp [hr, hi, hw1, hv3, hw2, hlv]
            repeat refine ⟨by omega, ?_⟩
            exact KD.mk
        · rfl
        · simp [tmD, putD, hi, hw1, hv3, hw2, hlv]; rfl
        · simp [hi, hw1, hv3, hw2, hlv]
          repeat refine ⟨by omega, ?_⟩
          refine xcopy_own tb_el31 tb_ti105 rfl (by simp [hv3]) (by omega) (l.length - i) (by omega) (by omega) (src_at (cap := some c) rfl (encField_sz l) (by simp; omega)) (setAt_end0 (fs := ((encField l).drop i).take (l.length - i)) hs3 (fun e he => encField_sz l e (List.mem_of_mem_drop (List.mem_of_mem_take he))) (by omega) (by simp [hn3]; omega)) ?_
          try simp [hend]
          try simp [hi, hw1, hv3, hw2, hlv]
          rfl
        refine AW.step (by simp [hi, hw1]; rfl) ?_
        refine AW.ret ?_
        refine Left.of (av := _) (by simp [Try.f76, resV, resC, comp, hi, hw1]; rfl) ?_
        exact LeftV.rows [some 2, some 1] (by simp; omega) (nd_pair (by omega)) rfl rfl (by simp [pickOb, hi, hw1]) (by simp [hi, hw1])
      · have hc' : l.length + 1 ≤ c := by
          simp at h8
          omega
        refine AW.room 0 2 rfl rfl rfl (by simp [hlv]; omega) rfl rfl ?_
        have hlv3 : (lvs (encField l) ++ [LV.u, LV.u]).length = (l.length + 1) * 2 := by simp [hlv]; omega
        refine AW.skip ?_
        simp only [Post.seq, Post.block, if_true]
        refine AW.step (by simp [hi, hw1, hlv3, hlv]; (repeat refine ⟨by omega, ?_⟩); rfl) ?_
        refine AW.seq ?_
        apply AW.step
        · simp [hi, hw1, hlv3, hw2]
          repeat refine ⟨by omega, ?_⟩
          refine xcall_overlaps (t := 31) (tb := 4) Try.func111 (by kernel_rfl) (by kernel_rfl) (by kernel_rfl) (by kernel_rfl) tb_el31 tb_ti105 rfl rfl (by omega) (by simp) ?_
          try simp [hi, hw1, hlv3, hw2]
          rfl
        refine AW.cond rfl (fun h14 => ?_) (fun h14 => ?_)
        · try simp at h14
          apply AW.drawnP (V := [_, _, _, _, _, _, _, _]) mixed [⟨[0], [], [(0, none)], false⟩, ⟨[0], [], [(1, none)], false⟩, ⟨[0], [], [(7, none)], false⟩, ⟨[0], [1, 2], [(70, some 1), (71, some 2)], false⟩, ⟨[0], [0, 1, 2, 3], [(69, some 0), (72, some 3)], false⟩, ⟨[0], [], [(0, none)], false⟩, ⟨[0], [], [(1, none)], false⟩, ⟨[0], [5, 6], [(74, some 5), (75, some 6)], false⟩, ⟨[], [0, 1, 2, 3, 4, 5, 6, 7], [], false⟩] 8 (by kernel_rfl) (by kernel_rfl)
          · refine ⟨?_, ?_, ?_, ?_, ?_, ?_, ?_, ?_, trivial⟩
            · intro tm hr
              simp [AllL, rdV] at hr
              simp [hr, hi, hw1, hlv3, hw2]
              repeat refine ⟨by omega, ?_⟩
              exact KD.mk
            · intro tm hr
              simp [AllL, rdV] at hr
              simp [hr, hi, hw1, hlv3, hw2]
              repeat refine ⟨by omega, ?_⟩
              exact KD.mk
            · intro tm hr
              simp [AllL, rdV] at hr
              simp [hr, hi, hw1, hlv3, hw2]
              repeat refine ⟨by omega, ?_⟩
              exact KD.mk
            · intro tm hr
              simp [AllL, rdV] at hr
              simp [hr, hi, hw1, hlv3, hw2]
              repeat refine ⟨by omega, ?_⟩
              exact KD.mk
            · intro tm hr
              simp [AllL, rdV] at hr
              simp [hr, hi, hw1, hlv3, hw2]
              repeat refine ⟨by omega, ?_⟩
              exact KD.mk
            · intro tm hr
              simp [AllL, rdV] at hr
              simp [hr, hi, hw1, hlv3, hw2]
              repeat refine ⟨by omega, ?_⟩
              exact KD.mk
            · intro tm hr
              simp [AllL, rdV] at hr
              simp [hr, hi, hw1, hlv3, hw2]
              repeat refine ⟨by omega, ?_⟩
              exact KD.mk
            · intro tm hr
              simp [AllL, rdV] at hr
              simp [hr, hi, hw1, hlv3, hw2]
              repeat refine ⟨by omega, ?_⟩
              exact KD.mk
          · rfl
          · simp [tmD, putD, hi, hw1, hlv3, hw2]; rfl
          · simp [hi, hw1, hlv3, hw2]
            repeat refine ⟨by omega, ?_⟩
            refine xcopy_own tb_el31 tb_ti105 rfl (by simp [hlv3]) (by omega) (l.length - i) (by omega) (by omega) (src_atP (cap := some c) (us := [.u, .u]) rfl (encField_sz l) (by simp; omega)) (setAt_end (fs := ((encField l).drop i).take (l.length - i)) (encField_sz l) (fun e he => encField_sz l e (List.mem_of_mem_drop (List.mem_of_mem_take he))) (by simp; omega) (by simp; omega)) ?_
            try simp [hi, hw1, hlv3, hw2]
            rfl
          obtain ⟨es4, he4⟩ : ∃ es4, es4 = (encField l).take (i + 1) ++ ((encField l).drop i).take (l.length - i) := ⟨_, rfl⟩
          have hs4 : ∀ e ∈ es4, e.length = 2 := by
            intro e he
            rw [he4] at he
            rcases List.mem_append.1 he with h | h
            · exact encField_sz l e (List.mem_of_mem_take h)
            · exact encField_sz l e (List.mem_of_mem_drop (List.mem_of_mem_take h))
          have hn4 : es4.length = l.length + 1 := by rw [he4]; simp; omega
          have hend : es4.take i ++ encField [x] ++ es4.drop (i + 1) = encField (insL l i x) := by
            have hA : ((encField l).take (i + 1)).length = i + 1 := by simp; omega
            rw [he4, List.drop_left' hA, List.take_append_of_le_length (by omega), List.take_take, Nat.min_eq_left (by omega), List.take_of_length_le (l := (encField l).drop i) (by simp)]
            simp [encField, insL]
          have hv4 : (lvs es4).length = (l.length + 1) * 2 := by rw [lvs_length hs4, hn4]
          simp only [← he4]
          apply AW.step
          · simp [hi, hw1, hv4]
            repeat refine ⟨by omega, ?_⟩
            refine xcopy_own tb_el31 tb_ti105 rfl (by simp [hv4]) (by omega) 1 (by omega) (by omega) (src_at (cap := none) rfl (encField_sz [x]) (by simp)) (setAt_mid (fs := encField [x]) hs4 (encField_sz _) (by rw [hn4, encField_length]; simp; omega)) ?_
            simp [hend]
            try simp [hi, hw1, hv4]
            rfl
          refine AW.step (by simp [hi, hw1]; rfl) ?_
          refine AW.ret ?_
          refine Left.of (av := _) (by simp [Try.f76, resV, resC, comp, hi, hw1]; rfl) ?_
          refine LeftV.shrink 0 ((l.length + 1) * 2) rfl rfl rfl rfl ?_
          have hlf : (lvs (encField (insL l i x))).take ((l.length + 1) * 2) = lvs (encField (insL l i x)) := List.take_of_length_le (by rw [lvs_length (encField_sz _)]; simp [insL_length l i x hi])
          exact LeftV.rows [some 0, some 1] (by simp; omega) (nd_pair (by omega)) rfl rfl (by simp [pickOb, hlf]) (by simp)
        · simp at h14
theorem en_in_Field : Enters Try.prog 76 := enters Try.func76 (by kernel_rfl) rfl

theorem si_Field (l : List Field) (i : Int) (x : Field) (h : insB l i = true) : Sound Try.prog 76 [.l (.r 0 2 0 l.length), .l (.s (.int .i64 i)), .l (.r 1 2 0 1)] [⟨105, 2, true, none, lvs (encField l)⟩, ⟨105, 2, true, none, lvs (encField [x])⟩] (.l (.r 0 2 0 (l.length + 1)))
    [some ⟨105, 2, true, none, lvs (encField (insL l i.toNat x))⟩, some ⟨105, 2, true, none, lvs (encField [x])⟩] := by
  simp [insB] at h
  have := s_in_Field l i.toNat x (by omega) (by omega)
  rwa [show ((i.toNat : Nat) : Int) = i by omega] at this
set_option maxRecDepth 8000 in
set_option maxHeartbeats 8000000 in
theorem s_in_Pair (l : List Pair) (i : Nat) (x : Pair) (hi : i ≤ l.length) (hl : l.length ≤ 1000000000) : Sound Try.prog 97 [.l (.r 0 6 0 l.length), .l (.s (.int .i64 i)), .l (.r 1 6 0 1)] [⟨125, 6, true, none, lvs (encPair l)⟩, ⟨125, 6, true, none, lvs (encPair [x])⟩] (.l (.r 0 6 0 (l.length + 1))) [some ⟨125, 6, true, none, lvs (encPair (insL l i x))⟩, some ⟨125, 6, true, none, lvs (encPair [x])⟩] := by
  refine Sound.of_aw (fn := Try.f97) (c := _) Try.func97 rfl (by simp [Try.f97]) fun cx hG hnb => ?_
  rw [show Try.f97.ntmps = 95 from rfl]
  have hn0 : cx.nb = 2 := hnb
  have hlv : (lvs (encPair l)).length = l.length * 6 := by rw [lvs_length (encPair_sz l)]; simp
  have hw1 := i64_succ (show l.length + 1 ≤ 9223372036854775807 by omega)
  have hlx : (lvs (encPair [x])).length = 6 := by rw [lvs_length (encPair_sz _)]; simp
  refine AW.step (by simp [hi, hw1]; rfl) ?_
  refine AW.step (by simp [hi, hw1, hlv]; rfl) ?_
  refine AW.step (by simp [hi, hw1]; rfl) ?_
  refine AW.seq ?_
  refine AW.step (by simp [hi, hw1]; rfl) ?_
  refine AW.cond rfl (fun h3 => ?_) (fun h3 => ?_)
  · simp at h3
  · try simp at h3
    refine AW.skip ?_
    simp only [Post.seq, Post.block, if_true]
    refine AW.step (by simp [hi, hw1]; rfl) ?_
    refine AW.seq ?_
    refine AW.step (by simp [hi, hw1]; rfl) ?_
    refine AW.cond rfl (fun h6 => ?_) (fun h6 => ?_)
    · simp at h6
      have hins : insL l i x = l ++ [x] := by simp [insL, show i = l.length by omega]
      apply AW.step
      · simp [hi, hw1]
        refine xapp_push (acc := encPair l) (ys := encPair [x]) (cap := none) (k := 1) tb_el56 tb_ti125 (by simp) (src_row (e := 125) (cap := none) (by simp) (encPair_sz _) (by simp)) (encPair_sz _) (by simp) (by simp) (by omega) ?_
        simp [St.grow, obsBut, ← encPair_append, ← hins]
        try simp [hi, hw1]
        rfl
      refine AW.ret ?_
      refine Left.of (av := _) (by simp [Try.f97, resV, resC, comp, hi, hw1]; rfl) ?_
      exact LeftV.rows [some 0, some 1] (by simp; omega) (nd_pair (by omega)) rfl rfl (by simp [pickOb, hi, hw1]) (by simp [hi, hw1])
    · simp at h6
      have hil : i < l.length := by omega
      have hin : (i : Int) + (l.length + 1 - i : Nat) = l.length + 1 := by omega
      have hin2 : i + (l.length + 1 - i) = l.length + 1 := by omega
      have hw2 := i64_succ (show i + 1 ≤ 9223372036854775807 by omega)
      refine AW.skip ?_
      simp only [Post.seq, Post.block, if_true]
      refine AW.seq ?_
      apply AW.stepK
      simp [hi, hw1]
      refine xcap_row tb_el56 rfl rfl fun c hc1 _ hc3 => ?_
      simp [hw1]
      unfold KK
      refine AW.cond rfl (fun h8 => ?_) (fun h8 => ?_)
      · simp at h8
        have hcl : c = l.length := by omega
        obtain ⟨es2, he2⟩ : ∃ es2, es2 = (encPair l).take i ++ List.replicate (l.length + 1 - i) [.v (.string ⟨#[]⟩), .v (.int .i64 0), .v (.string ⟨#[]⟩), .v (.slice none 0 0), .v (.slice none 0 0), .v (.int .i64 0)] := ⟨_, rfl⟩
        have hs2 : ∀ e ∈ es2, e.length = 6 := by
          intro e he
          rw [he2] at he
          rcases List.mem_append.1 he with h | h
          · exact encPair_sz l e (List.mem_of_mem_take h)
          · rw [(List.mem_replicate.1 h).2]; rfl
        have hn2 : es2.length = l.length + 1 := by rw [he2]; simp; omega
        have hv2 : (lvs es2).length = (l.length + 1) * 6 := by rw [lvs_length hs2, hn2]
        obtain ⟨es3, he3⟩ : ∃ es3, es3 = es2.take i ++ encPair [x] ++ es2.drop (i + 1) := ⟨_, rfl⟩
        have hs3 : ∀ e ∈ es3, e.length = 6 := by
          intro e he
          rw [he3] at he
          simp only [List.mem_append] at he
          rcases he with (h | h) | h
          · exact hs2 e (List.mem_of_mem_take h)
          · exact encPair_sz _ e h
          · exact hs2 e (List.mem_of_mem_drop h)
        have hn3 : es3.length = l.length + 1 := by rw [he3]; simp [hn2]; omega
        have hv3 : (lvs es3).length = (l.length + 1) * 6 := by rw [lvs_length hs3, hn3]
        have hend : es3.take (i + 1) ++ ((encPair l).drop i).take (l.length - i) = encPair (insL l i x) := by
          rw [List.take_of_length_le (l := (encPair l).drop i) (by simp)]
          rw [he3, List.take_append_of_le_length (by simp [hn2]; omega), List.take_of_length_le (by simp; omega), he2, List.take_append_of_le_length (by simp; omega)]
          simp [encPair, insL, List.take_take]
        apply AW.step
        · simp [hi, hw1, hlv]
          repeat refine ⟨by omega, ?_⟩
          refine xmake_own (zr := [.v (.string ⟨#[]⟩), .v (.int .i64 0), .v (.string ⟨#[]⟩), .v (.slice none 0 0), .v (.slice none 0 0), .v (.int .i64 0)]) (es := encPair l) tb_el56 tb_ti125 rfl ⟨rfl, rfl, by omega⟩ rfl rfl (encPair_sz _) (by simp; omega) (l.length + 1 - i) (by rw [i64_in (by omega) (by omega)]; omega) (by omega) (by omega) (by omega) (by omega) ?_
          simp [hin2]
          try simp [hi, hw1, hlv]
          rfl
        apply AW.step
        · simp [hi, hw1, hv2, ← he2]
          repeat refine ⟨by omega, ?_⟩
          refine xcopy_own tb_el56 tb_ti125 rfl (by simp [hv2]) (by omega) 1 (by omega) (by omega) (src_at (cap := none) rfl (encPair_sz [x]) (by simp)) (setAt_mid (fs := encPair [x]) hs2 (encPair_sz _) (by simp [hn2]; omega)) ?_
          simp [← he3]
          try simp [hi, hw1, hv2, ← he2]
          rfl
        apply AW.drawnP (V := [_, _, _, _, _, _, _, _]) mixed [⟨[0], [], [(9, none)], false⟩, ⟨[0], [], [(1, none)], false⟩, ⟨[0], [], [(7, none)], false⟩, ⟨[0], [1, 2], [(47, some 1), (48, some 2)], false⟩, ⟨[0], [0, 1, 2, 3], [(46, some 0), (49, some 3)], false⟩, ⟨[0], [], [(0, none)], false⟩, ⟨[0], [], [(1, none)], false⟩, ⟨[0], [5, 6], [(51, some 5), (52, some 6)], false⟩, ⟨[], [0, 1, 2, 3, 4, 5, 6, 7], [], false⟩] 8 (by kernel_rfl) (by kernel_rfl)
        · refine ⟨?_, ?_, ?_, ?_, ?_, ?_, ?_, ?_, trivial⟩
          · intro tm hr
            simp [AllL, rdV] at hr
            simp [hr, hi, hw1, hv3, hw2, hlv]
            repeat refine ⟨by omega, ?_⟩
            exact KD.mk
          · intro tm hr
            simp [AllL, rdV] at hr
            simp [hr, hi, hw1, hv3, hw2, hlv]
            repeat refine ⟨by omega, ?_⟩
            exact KD.mk
          · intro tm hr
            simp [AllL, rdV] at hr
            simp [hr, hi, hw1, hv3, hw2, hlv]
            repeat refine ⟨by omega, ?_⟩
            exact KD.mk
          · intro tm hr
            simp [AllL, rdV] at hr
            simp [hr, hi, hw1, hv3, hw2, hlv]
            repeat refine ⟨by omega, ?_⟩
            exact KD.mk
          · intro tm hr
            simp [AllL, rdV] at hr
            simp [hr, hi, hw1, hv3, hw2, hlv]
            repeat refine ⟨by omega, ?_⟩
            exact KD.mk
          · intro tm hr
            simp [AllL, rdV] at hr
            simp [hr, hi, hw1, hv3, hw2, hlv]
            repeat refine ⟨by omega, ?_⟩
            exact KD.mk
          · intro tm hr
            simp [AllL, rdV] at hr
            simp [hr, hi, hw1, hv3, hw2, hlv]
            repeat refine ⟨by omega, ?_⟩
            exact KD.mk
          · intro tm hr
            simp [AllL, rdV] at hr
            simp [hr, hi, hw1, hv3, hw2, hlv]
            repeat refine ⟨by omega, ?_⟩
            exact KD.mk
        · rfl
        · simp [tmD, putD, hi, hw1, hv3, hw2, hlv]; rfl
        · simp [hi, hw1, hv3, hw2, hlv]
          repeat refine ⟨by omega, ?_⟩
          refine xcopy_own tb_el56 tb_ti125 rfl (by simp [hv3]) (by omega) (l.length - i) (by omega) (by omega) (src_at (cap := some c) rfl (encPair_sz l) (by simp; omega)) (setAt_end0 (fs := ((encPair l).drop i).take (l.length - i)) hs3 (fun e he => encPair_sz l e (List.mem_of_mem_drop (List.mem_of_mem_take he))) (by omega) (by simp [hn3]; omega)) ?_
          try simp [hend]
          try simp [hi, hw1, hv3, hw2, hlv]
          rfl
        refine AW.step (by simp [hi, hw1]; rfl) ?_
        refine AW.ret ?_
        refine Left.of (av := _) (by simp [Try.f97, resV, resC, comp, hi, hw1]; rfl) ?_
        exact LeftV.rows [some 2, some 1] (by simp; omega) (nd_pair (by omega)) rfl rfl (by simp [pickOb, hi, hw1]) (by simp [hi, hw1])
      · have hc' : l.length + 1 ≤ c := by
          simp at h8
          omega
        refine AW.room 0 6 rfl rfl rfl (by simp [hlv]; omega) rfl rfl ?_
        have hlv3 : (lvs (encPair l) ++ [LV.u, LV.u, LV.u, LV.u, LV.u, LV.u]).length = (l.length + 1) * 6 := by simp [hlv]; omega
        refine AW.skip ?_
        simp only [Post.seq, Post.block, if_true]
        refine AW.step (by simp [hi, hw1, hlv3, hlv]; (repeat refine ⟨by omega, ?_⟩); rfl) ?_
        refine AW.seq ?_
        apply AW.step
        · simp [hi, hw1, hlv3, hw2]
          repeat refine ⟨by omega, ?_⟩
          refine xcall_overlaps (t := 56) (tb := 4) Try.func123 (by kernel_rfl) (by kernel_rfl) (by kernel_rfl) (by kernel_rfl) tb_el56 tb_ti125 rfl rfl (by omega) (by simp) ?_
          try simp [hi, hw1, hlv3, hw2]
          rfl
        refine AW.cond rfl (fun h14 => ?_) (fun h14 => ?_)
        · try simp at h14
          apply AW.drawnP (V := [_, _, _, _, _, _, _, _]) mixed [⟨[0], [], [(0, none)], false⟩, ⟨[0], [], [(1, none)], false⟩, ⟨[0], [], [(7, none)], false⟩, ⟨[0], [1, 2], [(70, some 1), (71, some 2)], false⟩, ⟨[0], [0, 1, 2, 3], [(69, some 0), (72, some 3)], false⟩, ⟨[0], [], [(0, none)], false⟩, ⟨[0], [], [(1, none)], false⟩, ⟨[0], [5, 6], [(74, some 5), (75, some 6)], false⟩, ⟨[], [0, 1, 2, 3, 4, 5, 6, 7], [], false⟩] 8 (by kernel_rfl) (by kernel_rfl)
          · refine ⟨?_, ?_, ?_, ?_, ?_, ?_, ?_, ?_, trivial⟩
            · intro tm hr
              simp [AllL, rdV] at hr
              simp [hr, hi, hw1, hlv3, hw2]
              repeat refine ⟨by omega, ?_⟩
              exact KD.mk
            · intro tm hr
              simp [AllL, rdV] at hr
              simp [hr, hi, hw1, hlv3, hw2]
              repeat refine ⟨by omega, ?_⟩
              exact KD.mk
            · intro tm hr
              simp [AllL, rdV] at hr
              simp [hr, hi, hw1, hlv3, hw2]
              repeat refine ⟨by omega, ?_⟩
              exact KD.mk
            · intro tm hr
              simp [AllL, rdV] at hr
              simp [hr, hi, hw1, hlv3, hw2]
              repeat refine ⟨by omega, ?_⟩
              exact KD.mk
            · intro tm hr
              simp [AllL, rdV] at hr
              simp [hr, hi, hw1, hlv3, hw2]
              repeat refine ⟨by omega, ?_⟩
              exact KD.mk
            · intro tm hr
              simp [AllL, rdV] at hr
              simp [hr, hi, hw1, hlv3, hw2]
              repeat refine ⟨by omega, ?_⟩
              exact KD.mk
            · intro tm hr
              simp [AllL, rdV] at hr
              simp [hr, hi, hw1, hlv3, hw2]
              repeat refine ⟨by omega, ?_⟩
              exact KD.mk
            · intro tm hr
              simp [AllL, rdV] at hr
              simp [hr, hi, hw1, hlv3, hw2]
              repeat refine ⟨by omega, ?_⟩
              exact KD.mk
          · rfl
          · simp [tmD, putD, hi, hw1, hlv3, hw2]; rfl
          · simp [hi, hw1, hlv3, hw2]
            repeat refine ⟨by omega, ?_⟩
            refine xcopy_own tb_el56 tb_ti125 rfl (by simp [hlv3]) (by omega) (l.length - i) (by omega) (by omega) (src_atP (cap := some c) (us := [.u, .u, .u, .u, .u, .u]) rfl (encPair_sz l) (by simp; omega)) (setAt_end (fs := ((encPair l).drop i).take (l.length - i)) (encPair_sz l) (fun e he => encPair_sz l e (List.mem_of_mem_drop (List.mem_of_mem_take he))) (by simp; omega) (by simp; omega)) ?_
            try simp [hi, hw1, hlv3, hw2]
            rfl
          obtain ⟨es4, he4⟩ : ∃ es4, es4 = (encPair l).take (i + 1) ++ ((encPair l).drop i).take (l.length - i) := ⟨_, rfl⟩
          have hs4 : ∀ e ∈ es4, e.length = 6 := by
            intro e he
            rw [he4] at he
            rcases List.mem_append.1 he with h | h
            · exact encPair_sz l e (List.mem_of_mem_take h)
            · exact encPair_sz l e (List.mem_of_mem_drop (List.mem_of_mem_take h))
          have hn4 : es4.length = l.length + 1 := by rw [he4]; simp; omega
          have hend : es4.take i ++ encPair [x] ++ es4.drop (i + 1) = encPair (insL l i x) := by
            have hA : ((encPair l).take (i + 1)).length = i + 1 := by simp; omega
            rw [he4, List.drop_left' hA, List.take_append_of_le_length (by omega), List.take_take, Nat.min_eq_left (by omega), List.take_of_length_le (l := (encPair l).drop i) (by simp)]
            simp [encPair, insL]
          have hv4 : (lvs es4).length = (l.length + 1) * 6 := by rw [lvs_length hs4, hn4]
          simp only [← he4]
          apply AW.step
          · simp [hi, hw1, hv4]
            repeat refine ⟨by omega, ?_⟩
            refine xcopy_own tb_el56 tb_ti125 rfl (by simp [hv4]) (by omega) 1 (by omega) (by omega) (src_at (cap := none) rfl (encPair_sz [x]) (by simp)) (setAt_mid (fs := encPair [x]) hs4 (encPair_sz _) (by rw [hn4, encPair_length]; simp; omega)) ?_
            simp [hend]
            try simp [hi, hw1, hv4]
            rfl
          refine AW.step (by simp [hi, hw1]; rfl) ?_
          refine AW.ret ?_
          refine Left.of (av := _) (by simp [Try.f97, resV, resC, comp, hi, hw1]; rfl) ?_
          refine LeftV.shrink 0 ((l.length + 1) * 6) rfl rfl rfl rfl ?_
          have hlf : (lvs (encPair (insL l i x))).take ((l.length + 1) * 6) = lvs (encPair (insL l i x)) := List.take_of_length_le (by rw [lvs_length (encPair_sz _)]; simp [insL_length l i x hi])
          exact LeftV.rows [some 0, some 1] (by simp; omega) (nd_pair (by omega)) rfl rfl (by simp [pickOb, hlf]) (by simp)
        · simp at h14
theorem en_in_Pair : Enters Try.prog 97 := enters Try.func97 (by kernel_rfl) rfl

theorem si_Pair (l : List Pair) (i : Int) (x : Pair) (h : insB l i = true) : Sound Try.prog 97 [.l (.r 0 6 0 l.length), .l (.s (.int .i64 i)), .l (.r 1 6 0 1)] [⟨125, 6, true, none, lvs (encPair l)⟩, ⟨125, 6, true, none, lvs (encPair [x])⟩] (.l (.r 0 6 0 (l.length + 1)))
    [some ⟨125, 6, true, none, lvs (encPair (insL l i.toNat x))⟩, some ⟨125, 6, true, none, lvs (encPair [x])⟩] := by
  simp [insB] at h
  have := s_in_Pair l i.toNat x (by omega) (by omega)
  rwa [show ((i.toNat : Nat) : Int) = i by omega] at this
theorem i64_0 : IntKind.i64.wrap 0 = 0 := by decide
def flatL {α : Type} (ss : List (List α)) (i : Nat) : List α := (ss.take i).flatten
theorem flat_take {α : Type} {ss : List (List α)} {i : Nat} {x : List α} (hx : ss[i]? = some x) : flatL ss (i + 1) = flatL ss i ++ x := by unfold flatL; rw [← take_snoc hx]; simp
theorem flat_take_le {α : Type} (ss : List (List α)) (i : Nat) : (flatL ss i).length ≤ (flatL ss ss.length).length := by
  have : flatL ss ss.length = flatL ss i ++ (ss.drop i).flatten := by unfold flatL; rw [← List.flatten_append, List.take_append_drop, List.take_length]
  rw [this]
  simp
theorem flatL_0 {α : Type} (ss : List (List α)) : flatL ss 0 = [] := rfl
theorem flatL_all {α : Type} (ss : List (List α)) : flatL ss ss.length = ss.flatten := by unfold flatL; rw [List.take_length]
def catB {α : Type} (ss : List (List α)) : Bool := decide (ss.flatten.length ≤ 1000000000 ∧ ss.length ≤ 1000000000)
def zero_Effect : List Value := [.string ⟨#[]⟩, .bool false, .int .i64 0, .string ⟨#[]⟩, .slice none 0 0, .slice none 0 0, .int .i64 0]
set_option maxRecDepth 8000 in
set_option maxHeartbeats 8000000 in
theorem s_gr_Effect (n : Nat) (hn : n ≤ 1000000000) : Sound Try.prog 105 [.l (.s (.slice none 0 0)), .l (.s (.int .i64 n))] [] (.l (.r 0 7 0 0)) [some ⟨36, 7, true, none, (repZ n zero_Effect).map .s⟩] := by
  refine Sound.of_aw (fn := Try.f105) (c := _) Try.func105 rfl (by simp [Try.f105]) fun cx hG hnb => ?_
  rw [show Try.f105.ntmps = 27 from rfl]
  have hn0 : cx.nb = 0 := hnb
  refine AW.step (by simp; rfl) ?_
  refine AW.seq ?_
  refine AW.step (by simp; rfl) ?_
  refine AW.cond rfl (fun h1 => ?_) (fun h1 => ?_)
  · simp at h1
    omega
  · try simp at h1
    refine AW.skip ?_
    simp only [Post.seq, Post.block, if_true]
    refine AW.seq ?_
    refine AW.step (by simp [i64_0, i64_in (show (-9223372036854775808 : Int) ≤ (n : Int) by omega) (show (n : Int) ≤ 9223372036854775807 by omega)]; rfl) ?_
    refine AW.step (by simp; rfl) ?_
    refine AW.cond rfl (fun h4 => ?_) (fun h4 => ?_)
    · simp at h4
      refine AW.last (by simp [h4, show n * 104 ≤ 281474976710656 by omega, show n ≤ 4611686018427387904 by omega]; rfl) ?_
      simp only [Post.seq, Post.block, if_true]
      refine AW.step (by simp; rfl) ?_
      refine AW.ret ?_
      refine Left.of (av := _) (by simp [Try.f105, resV, resC, comp]; rfl) ?_
      exact LeftV.nowN 1 hn0 (by simp [zero_Effect, repZ]) (by simp) rfl
    · simp at h4
      subst h4
      refine AW.nilRow 0 36 7 0 (by simp) rfl rfl ?_
      refine AW.skip ?_
      simp only [Post.seq, Post.block, if_true]
      refine AW.step (by simp; rfl) ?_
      refine AW.ret ?_
      refine Left.of (av := _) (by simp [Try.f105, resV, resC, comp]; rfl) ?_
      exact LeftV.nowN 1 hn0 (by simp [zero_Effect, repZ]) (by simp) rfl
theorem en_gr_Effect : Enters Try.prog 105 := enters Try.func105 (by kernel_rfl) rfl
theorem zeros_length_Effect (m : Nat) : ((repZ m zero_Effect).map LV.s).length = m * 7 := by
  rw [List.length_map, repZ_length]; rfl
theorem lvs_encEffect_length (l : List Effect) : (lvs (encEffect l)).length = l.length * 7 := by
  rw [lvs_length (encEffect_sz l), encEffect_length]
theorem put_zeros_Effect (A x : List Effect) (m : Nat) (h : x.length ≤ m) : setAt (lvs (encEffect A) ++ (repZ m zero_Effect).map LV.s) (A.length * 7) (lvs (encEffect x)) = lvs (encEffect (A ++ x)) ++ (repZ (m - x.length) zero_Effect).map LV.s := by
  have hz := zeros_length_Effect m
  have hA := lvs_encEffect_length A
  have hx := lvs_encEffect_length x
  have e1 : repZ m zero_Effect = repZ x.length zero_Effect ++ repZ (m - x.length) zero_Effect := by rw [← repZ_add, Nat.add_sub_cancel' h]
  rw [setAt_eq _ _ _ (by rw [List.length_append, hz, hA, hx]; omega), encEffect_append, lvs_append]
  rw [List.take_append_of_le_length (by omega), List.take_of_length_le (by omega), hx]
  congr 1
  rw [← List.drop_drop, ← hA, List.drop_left, e1, List.map_append]
  have hxz := zeros_length_Effect x.length
  rw [← hxz, List.drop_left]
set_option maxRecDepth 8000 in
set_option maxHeartbeats 8000000 in
theorem s_cc_Effect (ss : List (List Effect)) (hl : (flatL ss ss.length).length ≤ 1000000000) (hs : ss.length ≤ 1000000000) : Sound Try.prog 70 [.l (.r 0 1 0 ss.length)] [⟨24, 1, true, none, ss.map fun l => .d false 7 (encEffect l)⟩] (.l (.r 1 7 0 (flatL ss ss.length).length)) [some ⟨24, 1, true, none, ss.map fun l => .d false 7 (encEffect l)⟩, some ⟨36, 7, true, none, lvs (encEffect (flatL ss ss.length))⟩] := by
  refine Sound.of_aw (fn := Try.f70) (c := _) Try.func70 rfl (by simp [Try.f70]) fun cx hG hnb => ?_
  rw [show Try.f70.ntmps = 36 from rfl]
  have hn0 : cx.nb = 1 := hnb
  refine AW.step (by simp; rfl) ?_
  refine AW.step (by simp; rfl) ?_
  refine AW.seq ?_
  refine AW.step (by simp; rfl) ?_
  refine AW.block ?_
  refine AW.loopF (α := Nat) [3, 5, 11, 12, 13, 14, 15, 16, 17, 18, 19, 20, 21, 22] (fun i => [(11, .l (.s (.int .i64 i))), (3, .l (.s (.int .i64 (flatL ss i).length)))]) (fun _ => [some ⟨24, 1, true, none, ss.map fun l => .d false 7 (encEffect l)⟩]) (fun i => i ≤ ss.length) (fun i => ss.length - i) 0 (by simp; rfl) (by simp [flatL_0]) (by simp) (Nat.zero_le _) ?_
  intro i g1
  refine AW.step (by simp; rfl) ?_
  refine AW.seq ?_
  refine AW.cond rfl (fun h3 => ?_) (fun h3 => ?_)
  · simp at h3
    obtain ⟨x, hx⟩ := get_some h3
    have hx' : ss[i] = x := (List.getElem?_eq_some_iff.1 hx).2
    have hf := flat_take hx
    have hfl := flat_take_le ss (i + 1)
    rw [hf, List.length_append] at hfl
    have hxl : x.length ≤ 140737488355328 := by omega
    have hw : IntKind.i64.wrap (((flatL ss i).length : Int) + (x.length : Int)) = (((flatL ss (i + 1)).length : Nat) : Int) := by rw [i64_in (by omega) (by omega), hf, List.length_append]; omega
    refine AW.skip ?_
    simp only [Post.seq, Post.block, if_true]
    refine AW.seq ?_
    refine AW.block ?_
    refine AW.step (by simp [hx, hx', h3]; rfl) ?_
    refine AW.step (by simp [hxl, hw]; rfl) ?_
    refine AW.step (by simp; rfl) ?_
    refine AW.cond rfl (fun h6 => ?_) (fun h6 => ?_)
    · simp at h6
      omega
    · try simp at h6
      refine AW.skip ?_
      simp only [Post.seq, Post.block, if_true]
      refine AW.last (by simp; rfl) ?_
      simp only [Post.seq, Post.block, if_true]
      refine ⟨i + 1, Weak.cut 1 (by omega) (by simp [i64_succ (show i + 1 ≤ 9223372036854775807 by omega)]) (by simp) rfl, by omega, by omega⟩
  · try simp at h3
    refine AW.exit ?_
    simp only [Post.seq, Post.block, if_true]
    have hi : i = ss.length := by omega
    subst hi
    apply AW.step
    · simp
      refine xcall_new en_gr_Effect (s_gr_Effect (flatL ss ss.length).length hl) rfl (by simp) ⟨.same rfl, .same rfl, trivial⟩ ?_
      try simp
      rfl
    refine AW.seq ?_
    refine AW.step (by simp; rfl) ?_
    refine AW.block ?_
    refine AW.loopF (α := Nat) [6, 8, 27, 28, 29, 30, 31, 32, 33, 34] (fun i => [(27, .l (.s (.int .i64 i))), (6, .l (.r 1 7 0 (flatL ss i).length))]) (fun i => [some ⟨24, 1, true, none, ss.map fun l => .d false 7 (encEffect l)⟩, some ⟨36, 7, true, none, lvs (encEffect (flatL ss i)) ++ (repZ ((flatL ss ss.length).length - (flatL ss i).length) zero_Effect).map LV.s⟩]) (fun i => i ≤ ss.length) (fun i => ss.length - i) 0 (by simp; rfl) (by simp [flatL_0]) (by simp [lvs, flatL_0]) (Nat.zero_le _) ?_
    intro i g1
    refine AW.step (by simp; rfl) ?_
    refine AW.seq ?_
    refine AW.cond rfl (fun h11 => ?_) (fun h11 => ?_)
    · simp at h11
      obtain ⟨x, hx⟩ := get_some h11
      have hx' : ss[i] = x := (List.getElem?_eq_some_iff.1 hx).2
      have hf := flat_take hx
      have hfl := flat_take_le ss (i + 1)
      rw [hf, List.length_append] at hfl
      have hput := put_zeros_Effect (flatL ss i) x ((flatL ss ss.length).length - (flatL ss i).length) (by omega)
      have hlx := lvs_encEffect_length (flatL ss i)
      have hzx := zeros_length_Effect ((flatL ss ss.length).length - (flatL ss i).length)
      refine AW.skip ?_
      simp only [Post.seq, Post.block, if_true]
      refine AW.seq ?_
      refine AW.block ?_
      refine AW.step (by simp [hx, hx', h11]; rfl) ?_
      apply AW.last
      · simp
        refine xapp_in (q := ((encEffect x).length, lvs (encEffect x))) (z := ⟨36, 7, true, none, lvs (encEffect (flatL ss i)) ++ (repZ ((flatL ss ss.length).length - (flatL ss i).length) zero_Effect).map LV.s⟩) tb_el24 tb_ti36 (by simp) src_d (by simp) (by simp) (by show ((flatL ss i).length + (encEffect x).length) * 7 ≤ _; rw [List.length_append, hlx, hzx, encEffect_length]; omega) ?_
        simp only [hput]
        try simp
        rfl
      simp only [Post.seq, Post.block, if_true]
      refine AW.last (by simp; rfl) ?_
      simp only [Post.seq, Post.block, if_true]
      refine ⟨i + 1, Weak.cut 2 (by omega) (by simp [i64_succ (show i + 1 ≤ 9223372036854775807 by omega), hf]) (by simp [hf, Nat.sub_sub]) rfl, by omega, by omega⟩
    · try simp at h11
      refine AW.exit ?_
      simp only [Post.seq, Post.block, if_true]
      have hi : i = ss.length := by omega
      subst hi
      have h0 : (flatL ss ss.length).length - (flatL ss ss.length).length = 0 := Nat.sub_self _
      refine AW.step (by simp; rfl) ?_
      refine AW.ret ?_
      refine Left.of (av := _) (by simp [Try.f70, resV, resC, comp]; rfl) ?_
      exact LeftV.rows [some 0, some 1] (by simp; omega) (nd_pair (by omega)) rfl rfl (by simp [pickOb, repZ, Ob.ren, lvs_ren]) (by simp)
theorem en_cc_Effect : Enters Try.prog 70 := enters Try.func70 (by kernel_rfl) rfl
theorem z_cc_Effect (ss : List (List Effect)) (hl : (flatL ss ss.length).length ≤ 1000000000) (hs : ss.length ≤ 1000000000) : Sound Try.prog 70 [.l (.r 0 1 0 ss.length)] [⟨24, 1, true, none, ss.map fun l => .d false 7 (encEffect l)⟩]
    (.l (.d false 7 (encEffect (flatL ss ss.length)))) [some ⟨24, 1, true, none, ss.map fun l => .d false 7 (encEffect l)⟩] :=
  (s_cc_Effect ss hl hs).frz1 (by simp) (by omega) (encEffect_sz _) (by omega) (by simp [Ob.frz, Ob.ren, LV.frz, LV.ren])

theorem sc_Effect (ss : List (List Effect)) (h : catB ss = true) : Sound Try.prog 70 [.l (.r 0 1 0 ss.length)] [⟨24, 1, true, none, ss.map fun l => .d false 7 (encEffect l)⟩] (.l (.r 1 7 0 ss.flatten.length)) [some ⟨24, 1, true, none, ss.map fun l => .d false 7 (encEffect l)⟩, some ⟨36, 7, true, none, lvs (encEffect ss.flatten)⟩] := by
  simp [catB] at h
  have := s_cc_Effect ss (by rw [flatL_all]; simp; omega) (by omega)
  rwa [flatL_all] at this
theorem zc_Effect (ss : List (List Effect)) (h : catB ss = true) : Sound Try.prog 70 [.l (.r 0 1 0 ss.length)] [⟨24, 1, true, none, ss.map fun l => .d false 7 (encEffect l)⟩] (.l (.d false 7 (encEffect ss.flatten))) [some ⟨24, 1, true, none, ss.map fun l => .d false 7 (encEffect l)⟩] := by
  have h2 := h
  simp [catB] at h2
  exact (sc_Effect ss h).frz1 (by simp) (by omega) (encEffect_sz _) (by simp; omega) (by simp [Ob.frz, Ob.ren, LV.frz, LV.ren])
end Go.Proofs.Ytlkhfdccapkcdaa
/- Operations, told by shallow code: what simp makes of them. -/
namespace Go.Proofs.Ytlkhfdccapkcdaa
open Go Go.RowKit
set_option linter.unusedVariables false
set_option linter.unusedSimpArgs false
/-! ### Operations, told by such code -/
section
variable {P : Program} {d : Option Nat} {t : Nat} {st : St} {K : St → Prop} {k : IntKind} {a b : Int} {x y : ByteArray} {p q : Bool}
@[simp high] theorem xs_add : xeq P .add t (.l (.s (.int k a))) (.l (.s (.int k b))) st d K = K (st.put d (.l (.s (.int k (addI k a b))))) := by simp [xeq, bopP, bop, addI]
@[simp high] theorem xs_sub : xeq P .sub t (.l (.s (.int k a))) (.l (.s (.int k b))) st d K = K (st.put d (.l (.s (.int k (subI k a b))))) := by simp [xeq, bopP, bop, subI]
@[simp high] theorem xs_mul : xeq P .mul t (.l (.s (.int k a))) (.l (.s (.int k b))) st d K = K (st.put d (.l (.s (.int k (mulI k a b))))) := by simp [xeq, bopP, bop, mulI]
@[simp high] theorem xs_and : xeq P .and t (.l (.s (.int k a))) (.l (.s (.int k b))) st d K = K (st.put d (.l (.s (.int k (andI k a b))))) := by simp [xeq, bopP, bop, andI]
@[simp high] theorem xs_or : xeq P .or t (.l (.s (.int k a))) (.l (.s (.int k b))) st d K = K (st.put d (.l (.s (.int k (orI k a b))))) := by simp [xeq, bopP, bop, orI]
@[simp high] theorem xs_xor : xeq P .xor t (.l (.s (.int k a))) (.l (.s (.int k b))) st d K = K (st.put d (.l (.s (.int k (xorI k a b))))) := by simp [xeq, bopP, bop, xorI]
@[simp high] theorem xs_quo : xeq P .quo t (.l (.s (.int k a))) (.l (.s (.int k b))) st d K = wh (quoI k a b) fun c => K (st.put d (.l (.s (.int k c)))) := by
  unfold quoI; split <;> simp_all [xeq, bopP, bop]
@[simp high] theorem xs_rem : xeq P .rem t (.l (.s (.int k a))) (.l (.s (.int k b))) st d K = wh (remI k a b) fun c => K (st.put d (.l (.s (.int k c)))) := by
  unfold remI; split <;> simp_all [xeq, bopP, bop]
@[simp high] theorem xs_shl {k' : IntKind} : xeq P .shl t (.l (.s (.int k a))) (.l (.s (.int k' b))) st d K = wh (shlI k a b) fun c => K (st.put d (.l (.s (.int k c)))) := by
  unfold shlI; simp only [xeq, bopP, bop]; split <;> rfl
@[simp high] theorem xs_shr {k' : IntKind} : xeq P .shr t (.l (.s (.int k a))) (.l (.s (.int k' b))) st d K = wh (shrI k a b) fun c => K (st.put d (.l (.s (.int k c)))) := by
  unfold shrI; simp only [xeq, bopP, bop]; split <;> rfl
@[simp high] theorem xs_eql : xeq P .eql t (.l (.s (.int k a))) (.l (.s (.int k b))) st d K = K (st.put d (.l (.s (.bool (eqI a b))))) := by simp [xeq, bopP, bop, eqI]
@[simp high] theorem xs_neq : xeq P .neq t (.l (.s (.int k a))) (.l (.s (.int k b))) st d K = K (st.put d (.l (.s (.bool (neI a b))))) := by simp [xeq, bopP, bop, neI]
@[simp high] theorem xs_lss : xeq P .lss t (.l (.s (.int k a))) (.l (.s (.int k b))) st d K = K (st.put d (.l (.s (.bool (ltI a b))))) := by simp [xeq, bopP, bop, ltI]
@[simp high] theorem xs_leq : xeq P .leq t (.l (.s (.int k a))) (.l (.s (.int k b))) st d K = K (st.put d (.l (.s (.bool (leI a b))))) := by simp [xeq, bopP, bop, leI]
@[simp high] theorem xs_gtr : xeq P .gtr t (.l (.s (.int k a))) (.l (.s (.int k b))) st d K = K (st.put d (.l (.s (.bool (gtI a b))))) := by simp [xeq, bopP, bop, gtI]
@[simp high] theorem xs_geq : xeq P .geq t (.l (.s (.int k a))) (.l (.s (.int k b))) st d K = K (st.put d (.l (.s (.bool (geI a b))))) := by simp [xeq, bopP, bop, geI]
@[simp high] theorem xs_eqlS : xeq P .eql t (.l (.s (.string x))) (.l (.s (.string y))) st d K = K (st.put d (.l (.s (.bool (eqS x y))))) := by simp [xeq, bopP, bop, eqS]
@[simp high] theorem xs_neqS : xeq P .neq t (.l (.s (.string x))) (.l (.s (.string y))) st d K = K (st.put d (.l (.s (.bool (neS x y))))) := by simp [xeq, bopP, bop, neS]
@[simp high] theorem xs_lssS : xeq P .lss t (.l (.s (.string x))) (.l (.s (.string y))) st d K = K (st.put d (.l (.s (.bool (ltS x y))))) := by simp [xeq, bopP, bop, ltS]
@[simp high] theorem xs_leqS : xeq P .leq t (.l (.s (.string x))) (.l (.s (.string y))) st d K = K (st.put d (.l (.s (.bool (leS x y))))) := by simp [xeq, bopP, bop, leS]
@[simp high] theorem xs_gtrS : xeq P .gtr t (.l (.s (.string x))) (.l (.s (.string y))) st d K = K (st.put d (.l (.s (.bool (gtS x y))))) := by simp [xeq, bopP, bop, gtS]
@[simp high] theorem xs_geqS : xeq P .geq t (.l (.s (.string x))) (.l (.s (.string y))) st d K = K (st.put d (.l (.s (.bool (geS x y))))) := by simp [xeq, bopP, bop, geS]
@[simp high] theorem xs_cat : xeq P .add t (.l (.s (.string x))) (.l (.s (.string y))) st d K = wh (catS x y) fun c => K (st.put d (.l (.s (.string c)))) := by
  unfold catS; simp only [xeq, bopP, bop]; split <;> rfl
@[simp high] theorem xs_eqlB : xeq P .eql t (.l (.s (.bool p))) (.l (.s (.bool q))) st d K = (sk P t = some 2 ∧ K (st.put d (.l (.s (.bool (eqB p q)))))) := by
  simp only [xeq, bopP, eqB]; split <;> simp_all
@[simp high] theorem xs_neqB : xeq P .neq t (.l (.s (.bool p))) (.l (.s (.bool q))) st d K = (sk P t = some 2 ∧ K (st.put d (.l (.s (.bool (neB p q)))))) := by
  simp only [xeq, bopP, neB]; split <;> simp_all
@[simp high] theorem xs_eqlG (xs ys : List LV) : xeq P .eql t (.g xs) (.g ys) st d K = wh (seqF P t) fun ks => wh (veqs ks xs ys) fun b => K (st.put d (.l (.s (.bool b)))) := by rw [xeq_g']; simp
@[simp high] theorem xs_neqG (xs ys : List LV) : xeq P .neq t (.g xs) (.g ys) st d K = wh (seqF P t) fun ks => wh (veqs ks xs ys) fun b => K (st.put d (.l (.s (.bool (notB b))))) := by rw [xeq_g']; simp [notB]
theorem veqs_nil : veqs [] [] [] = some true := rfl
def andO : Option Bool → Option Bool → Option Bool
  | some b, some c => some (andB b c)
  | _, _ => none
@[simp high] theorem veqs_0 {ks : List Nat} {xs ys : List LV} {k k' : IntKind} : veqs (0 :: ks) (.s (.int k a) :: xs) (.s (.int k' b) :: ys) = if k = k' then andO (some (eqI a b)) (veqs ks xs ys) else none := by
  simp only [veqs, veq, eqI]
  by_cases h : k = k'
  · simp only [h, if_true]; cases veqs ks xs ys <;> rfl
  · simp [h]
@[simp high] theorem veqs_1 {ks : List Nat} {xs ys : List LV} : veqs (1 :: ks) (.s (.string x) :: xs) (.s (.string y) :: ys) = andO (some (eqS x y)) (veqs ks xs ys) := by
  simp only [veqs, veq, eqS]; cases veqs ks xs ys <;> rfl
@[simp high] theorem veqs_2 {ks : List Nat} {xs ys : List LV} : veqs (2 :: ks) (.s (.bool p) :: xs) (.s (.bool q) :: ys) = andO (some (eqB p q)) (veqs ks xs ys) := by
  simp only [veqs, veq, eqB]; cases veqs ks xs ys <;> rfl
@[simp] theorem veqs_n : veqs [] [] [] = some true := rfl
@[simp] theorem andO_s (b c : Bool) : andO (some b) (some c) = some (andB b c) := rfl
@[simp high] theorem xs_not {ty : TypeId} {pos : String} {af : Array Edge} {g : Option (Nat × Bool)} {x' : Operand} : xo P ⟨d, .unOp .not t x', ty, pos, af, g⟩ st K = wb (st.ev x') fun b => K (st.put d (.l (.s (.bool (notB b))))) := by
  rw [xo_unOp]
  generalize st.ev x' = v
  cases v with
  | l y =>
    cases y with
    | s z => cases z <;> first | rfl | (simp [ws, wb, uop])
    | _ => rfl
  | _ => rfl
def wik (v : AV) (k : IntKind → Int → Prop) : Prop :=
  match v with
  | .l (.s (.int kd n)) => k kd n
  | _ => False
@[congr] theorem wik_congr {x y : AV} {k : IntKind → Int → Prop} (h : x = y) : wik x k = wik y k := by rw [h]
@[simp] theorem wik_i (kd : IntKind) (n : Int) (k : IntKind → Int → Prop) : wik (.l (.s (.int kd n))) k = k kd n := nr rfl
@[simp high] theorem xs_neg {ty : TypeId} {pos : String} {af : Array Edge} {g : Option (Nat × Bool)} {x' : Operand} : xo P ⟨d, .unOp .neg t x', ty, pos, af, g⟩ st K = wik (st.ev x') fun k b => K (st.put d (.l (.s (.int k (negI k b))))) := by
  rw [xo_unOp]
  generalize st.ev x' = v
  cases v with
  | l y =>
    cases y with
    | s z => cases z <;> first | rfl | (simp [ws, wik, uop])
    | _ => rfl
  | _ => rfl
@[simp high] theorem xs_conv (s t : Nat) : xconv P s t (.l (.s (.int k a))) st d K = ((P.underlying s).isSome = true ∧ wh (intF P t) fun k => K (st.put d (.l (.s (.int k (cvI k a)))))) := nr rfl
@[simp high] theorem xs_max : xmm max (.l (.s (.int k a))) (.l (.s (.int k b))) st d K = K (st.put d (.l (.s (.int k (maxI a b))))) := by simp [xmm, maxI]
@[simp high] theorem xs_min : xmm min (.l (.s (.int k a))) (.l (.s (.int k b))) st d K = K (st.put d (.l (.s (.int k (minI a b))))) := by simp [xmm, minI]
end
section
variable {P : Program} {d : Option Nat} {t : Nat} {st : St} {K : St → Prop} {x : ByteArray} {ob sz lo hi : Nat} {al : Bool}
@[simp high] theorem xs_lenS : xlen P t (.l (.s (.string x))) st d K = (strF P t = true ∧ K (st.put d (.l (.s (.int .i64 (lenS x)))))) := nr rfl
end

/-- Where a byte stands in a text (-1: nowhere). -/
def idxB (a : ByteArray) (c : Int) : Int := Lib.indexByte a.data.toList c.toNat.toUInt8
theorem xcall_idxB {P : Program} {st : St} {f : Nat} {fn : Func} {a : ByteArray} {c : Int} {dst : Option Nat} {K : St → Prop} (hf : P.funcs[f]? = some fn) (hname : (fn.name == "runtime.NumGoroutine") = false) (hb : fn.body.isNone = true) (hn : Extern.findNext fn = none)
    (he : Extern.find fn = some Extern.BytealgIndexByte.indexByte) (hk : K (st.put dst (.l (.s (.int .i64 (idxB a c)))))) : xcall P f [.l (.s (.string a)), .l (.s (.int .u8 c))] st dst K := by
  refine .inr (.inl ⟨.int .i64 (idxB a c), rfl, fun cx σ ac w vs hr hv => ?_, hk⟩)
  match vs, hv with
  | [x, y], hv =>
    obtain ⟨⟨rfl, _⟩, ⟨rfl, _⟩, _⟩ := hv
    rw [run_callFunc_extern hf hname hb hn he]
    have := Lib.run_indexByteString (P := P) a c w
    rw [this]
    rfl
  | [], hv => exact hv.elim
  | [_], hv => exact hv.2.elim
  | _ :: _ :: _ :: _, hv => exact hv.2.2.elim
def bytesI (s : ByteArray) : List Int := s.data.toList.map fun b => (b.toNat : Int)
@[simp] theorem bytesT_eq (s : ByteArray) : bytesT s = encU (bytesI s) := by simp [bytesT, encU, bytesI, Function.comp_def]
end Go.Proofs.Ytlkhfdccapkcdaa
/- Plain laws: how shallow code runs. -/
namespace Go.Proofs.Ytlkhfdccapkcdaa
open Go Go.RowKit
set_option linter.unusedVariables false
set_option linter.unusedSimpArgs false
/-- Rounds enough for whatever lies in memory. -/
def big : Nat := 281474976710656
section
variable {α β γ : Type}
theorem iter_go {f : α → Option (α ⊕ β)} (Q : β → Prop) (I : Nat → α → Prop) (N : Nat)
    (h : ∀ k a, k ≤ N → I k a → (∃ a', k < N ∧ f a = some (.inl a') ∧ I (k + 1) a') ∨ ∃ b, f a = some (.inr b) ∧ Q b) :
    ∀ (d k : Nat) (a : α), k + d = N → I k a → ∀ n, d < n → ∃ b, iter n f a = some b ∧ Q b
  | d, k, a, hd, hI, 0, hn => by omega
  | d, k, a, hd, hI, n + 1, hn => by
    rcases h k a (by omega) hI with ⟨a', hk, h1, h2⟩ | ⟨b, h1, h2⟩
    · rw [iter_inl h1]
      match d with
      | 0 => omega
      | d + 1 => exact iter_go Q I N h d (k + 1) a' (by omega) h2 n (by omega)
    · exact ⟨b, iter_inr h1, h2⟩
/-- Rounds that end: what holds at the end. -/
theorem iter_inv {f : α → Option (α ⊕ β)} {a : α} (Q : β → Prop) (I : Nat → α → Prop) (N : Nat) (hN : N < big)
    (h0 : I 0 a) (h : ∀ k a, k ≤ N → I k a → (∃ a', k < N ∧ f a = some (.inl a') ∧ I (k + 1) a') ∨ ∃ b, f a = some (.inr b) ∧ Q b) : ∃ b, iter big f a = some b ∧ Q b :=
  iter_go Q I N h N 0 a (by omega) h0 big hN
/-- Rounds whose states are told. -/
theorem iter_run {f : α → Option (α ⊕ β)} {a : α} {b : β} (s : Nat → α) (N : Nat) (hN : N < big) (h0 : a = s 0) (h : ∀ i, i < N → f (s i) = some (.inl (s (i + 1)))) (he : f (s N) = some (.inr b)) : iter big f a = some b := by
  obtain ⟨b', h1, h2⟩ := iter_inv (f := f) (a := a) (· = b) (fun k x => x = s k) N hN h0 fun k x hk hx => by
    subst hx
    by_cases hl : k < N
    · exact .inl ⟨_, hl, h k hl, rfl⟩
    · have : k = N := by omega
      subst this
      exact .inr ⟨b, he, rfl⟩
  rw [h1, h2]
theorem bn_run {f : α → Option (α ⊕ β)} {a : α} {k : β → Option γ} {r : Option γ} (b : β) (s : Nat → α) (N : Nat) (hN : N < big) (h0 : a = s 0) (h : ∀ i, i < N → f (s i) = some (.inl (s (i + 1)))) (he : f (s N) = some (.inr b)) (hk : k b = r) : bn (iter big f a) k = r := by
  rw [iter_run s N hN h0 h he]
  exact hk
theorem bn_inv {f : α → Option (α ⊕ β)} {a : α} {k : β → Option γ} {p : Option γ → Prop} (Q : β → Prop) (I : Nat → α → Prop) (N : Nat) (hN : N < big)
    (h0 : I 0 a) (h : ∀ k a, k ≤ N → I k a → (∃ a', k < N ∧ f a = some (.inl a') ∧ I (k + 1) a') ∨ ∃ b, f a = some (.inr b) ∧ Q b) (hk : ∀ b, Q b → p (k b)) : p (bn (iter big f a) k) := by
  obtain ⟨b, h1, h2⟩ := iter_inv Q I N hN h0 h
  rw [h1]
  exact hk b h2
theorem chk_t {b : Bool} {k : Option β} (h : b = true) : chk b k = k := by subst h; rfl
/-- Code runs, and what it yields is such. -/
def Rn (m : Option α) (Q : α → Prop) : Prop := ∃ v, m = some v ∧ Q v
theorem Rn.some {v : α} {Q : α → Prop} (h : Q v) : Rn (some v) Q := ⟨v, rfl, h⟩
theorem Rn.mono {m : Option α} {Q R : α → Prop} (h : Rn m Q) (hk : ∀ v, Q v → R v) : Rn m R := ⟨h.choose, h.choose_spec.1, hk _ h.choose_spec.2⟩
theorem Rn.lt {a : α} {k : α → Option β} {Q : β → Prop} (h : Rn (k a) Q) : Rn (lt a k) Q := h
theorem Rn.bn {m : Option α} {k : α → Option β} {P : α → Prop} {Q : β → Prop} (h : Rn m P) (hk : ∀ v, P v → Rn (k v) Q) : Rn (bn m k) Q := by
  obtain ⟨v, rfl, hv⟩ := h
  exact hk v hv
theorem Rn.bnE {m : Option α} {k : α → Option β} {v : α} {Q : β → Prop} (h : m = Option.some v) (hk : Rn (k v) Q) : Rn (Go.Proofs.Ytlkhfdccapkcdaa.bn m k) Q := by
  subst h
  exact hk
theorem Rn.chk {b : Bool} {k : Option β} {Q : β → Prop} (h : b = true) (hk : Rn k Q) : Rn (chk b k) Q := by
  subst h
  exact hk
theorem Rn.room {m c : Nat} {k : Option β} {Q : β → Prop} (h : m * c ≤ 140737488355328) (h2 : m ≤ 140737488355328) (hk : Rn k Q) : Rn (Go.Proofs.Ytlkhfdccapkcdaa.chk (Go.Proofs.Ytlkhfdccapkcdaa.room m c) k) Q := Rn.chk (by simp [Go.Proofs.Ytlkhfdccapkcdaa.room, h, h2]) hk
theorem Rn.ite {b : Bool} {x y : Option β} {Q : β → Prop} (h : b = true → Rn x Q) (h2 : b = false → Rn y Q) : Rn (ite' b x y) Q := by
  cases b
  · exact h2 rfl
  · exact h rfl
theorem Rn.sm {s : α ⊕ β} {f : α → Option γ} {g : β → Option γ} {Q : γ → Prop} (h : ∀ a, s = .inl a → Rn (f a) Q) (h2 : ∀ b, s = .inr b → Rn (g b) Q) : Rn (sm s f g) Q := by
  cases s with
  | inl a => exact h a rfl
  | inr b => exact h2 b rfl
/-- Rounds: I holds ahead of each, and N of them are enough. -/
theorem Rn.iter {f : α → Option (α ⊕ β)} {a : α} (Q : β → Prop) (I : Nat → α → Prop) (N : Nat) (hN : N < big) (h0 : I 0 a)
    (h : ∀ k a, k ≤ N → I k a → Rn (f a) fun x => match x with | .inl a' => k < N ∧ I (k + 1) a' | .inr b => Q b) : Rn (iter big f a) Q := by
  refine iter_inv Q I N hN h0 fun k a hk hI => ?_
  obtain ⟨x, h1, h2⟩ := h k a hk hI
  cases x with
  | inl a' => exact .inl ⟨a', h2.1, h1, h2.2⟩
  | inr b => exact .inr ⟨b, h1, h2⟩
theorem chk_room {m c : Nat} {k : Option β} (h : m * c ≤ 140737488355328) (h2 : m ≤ 140737488355328) : chk (room m c) k = k := chk_t (by simp [room, h, h2])
theorem chk_small {l : List α} {k : Option β} (h : l.length ≤ 1000000000) : chk (small l) k = k := chk_t (by simp [small, h])
theorem ite_eqI (a b : Int) (x y : Option β) : ite' (eqI a b) x y = if a = b then x else y := by simp only [ite', eqI]; split <;> simp [*]
theorem ite_neI (a b : Int) (x y : Option β) : ite' (neI a b) x y = if a = b then y else x := by simp only [ite', neI]; split <;> simp [*]
theorem ite_ltI (a b : Int) (x y : Option β) : ite' (ltI a b) x y = if a < b then x else y := by simp only [ite', ltI]; split <;> simp [*]
theorem ite_leI (a b : Int) (x y : Option β) : ite' (leI a b) x y = if a ≤ b then x else y := by simp only [ite', leI]; split <;> simp [*]
theorem ite_gtI (a b : Int) (x y : Option β) : ite' (gtI a b) x y = if b < a then x else y := by simp only [ite', gtI]; split <;> simp [*]
theorem ite_geI (a b : Int) (x y : Option β) : ite' (geI a b) x y = if b ≤ a then x else y := by simp only [ite', geI]; split <;> simp [*]
theorem ite_eqS (a b : ByteArray) (x y : Option β) : ite' (eqS a b) x y = if a = b then x else y := by simp only [ite', eqS]; split <;> simp [*]
theorem ite_neS (a b : ByteArray) (x y : Option β) : ite' (neS a b) x y = if a = b then y else x := by simp only [ite', neS]; split <;> simp [*]
theorem ite_eqB (a b : Bool) (x y : Option β) : ite' (eqB a b) x y = if a = b then x else y := by simp only [ite', eqB]; split <;> simp [*]
theorem ite_notB (a : Bool) (x y : Option β) : ite' (notB a) x y = ite' a y x := by cases a <;> rfl
theorem lenI_eq (l : List α) : lenI l = (l.length : Int) := rfl
theorem nth_some {l : List α} {i : Nat} (h : i < l.length) : nth l (i : Int) = some l[i] := by rw [nth_nat, List.getElem?_eq_getElem h]
theorem segl_nat {l : List α} {i : Nat} (h : i ≤ l.length) : segl l (i : Int) = some (l.drop i) := by simp [segl, h]
theorem segh_nat {l : List α} {i : Nat} (h : i ≤ l.length) : segh l (i : Int) = some (l.take i) := by simp [segh, h]
theorem seglh_nat {l : List α} {i j : Nat} (h : i ≤ j) (h2 : j ≤ l.length) : seglh l (i : Int) (j : Int) = some ((l.drop i).take (j - i)) := by
  have h3 : (i : Int) ≤ j := by omega
  have h4 : (j : Int) ≤ l.length := by omega
  simp [seglh, seg, h3, h4]
end
theorem wrap64 {a : Int} (h : -9223372036854775808 ≤ a) (h2 : a ≤ 9223372036854775807) : IntKind.i64.wrap a = a := by
  simp [IntKind.wrap, IntKind.bits, IntKind.signed]
  omega
theorem addI_64 {a b : Int} (h : -9223372036854775808 ≤ a + b) (h2 : a + b ≤ 9223372036854775807) : addI .i64 a b = a + b := wrap64 h h2
theorem subI_64 {a b : Int} (h : -9223372036854775808 ≤ a - b) (h2 : a - b ≤ 9223372036854775807) : subI .i64 a b = a - b := wrap64 h h2
theorem cvI_64 {a : Int} (h : -9223372036854775808 ≤ a) (h2 : a ≤ 9223372036854775807) : cvI .i64 a = a := wrap64 h h2
end Go.Proofs.Ytlkhfdccapkcdaa
/- Walks, printed: r5_apply, r5_Apply, r5_Raw, r5_Alive, r5_Get, r1_Tag, r1_Crc, r1_Slot, r5_In, r5_All, r13_Add, r13_Answer, r13_Got -/
namespace Go.Proofs.Ytlkhfdccapkcdaa
open Go Go.RowKit
set_option linter.unusedVariables false
set_option linter.unusedSimpArgs false
def r5_apply_sh (n : Nat) (a0 : List Pair) (a1 : Effect) : Option (List Pair) :=
bn (iter n (fun (y1 : Bool × Int × List Pair) =>
lt (lenI a0) fun v4 =>
lt (ltI y1.2.1 v4) fun v5 =>
ite' v5 (bn (bn (bn (lt (notB y1.1) fun v9 =>
ite' v9 (bn (nth a0 y1.2.1) fun v10 =>
lt (geS v10.key a1.key) fun v11 =>
some (v11)) (some (false))) fun (y8 : Bool) =>
lt (y8) fun v12 =>
ite' v12 (chk (room (y1.2.2.length + 1) 96) <|
lt (y1.2.2 ++ [(⟨a1.key, a1.item⟩ : Pair)]) fun v14 =>
some ((true, v14))) (some ((y1.1, y1.2.2)))) fun (y7 : Bool × List Pair) =>
bn (nth a0 y1.2.1) fun v15 =>
lt (neS v15.key a1.key) fun v16 =>
ite' v16 (chk (room (y7.2.length + 1) 96) <|
lt (y7.2 ++ [v15]) fun v18 =>
some ((y7.1, v18))) (some ((y7.1, y7.2)))) fun (y6 : Bool × List Pair) =>
lt (addI .i64 y1.2.1 1) fun v19 =>
some (.inl (y6.1, v19, y6.2))) (some (.inr (y1.1, y1.2.2)))) (a1.gone, 0, [])) fun (y2 : Bool × List Pair) =>
bn (lt (notB y2.1) fun v21 =>
ite' v21 (chk (room (y2.2.length + 1) 96) <|
lt (y2.2 ++ [(⟨a1.key, a1.item⟩ : Pair)]) fun v23 =>
some (v23)) (some (y2.2))) fun (y20 : List Pair) =>
chk (room y20.length 1) <|
some y20
set_option maxRecDepth 8000 in
set_option maxHeartbeats 8000000 in
theorem s_r5_apply {n : Nat} {a0 : List Pair} {a1 : Effect} {r : List Pair} (h : r5_apply_sh n a0 a1 = some r) : Sound Try.prog 103 [.l (.d false 6 (encPair a0)), .g [.s (.string a1.key), .s (.bool a1.gone), .s (.int .i64 a1.item.kind), .s (.string a1.item.s), .d false 2 (encField a1.item.f), .d false 1 (encS a1.item.l), .s (.int .i64 a1.item.exp)]] [] (.l (.d false 6 (encPair r))) [] := by
  unfold r5_apply_sh at h
  refine Sound.of_aw (fn := Try.f103) (c := _) Try.func103 rfl (by simp [Try.f103]) fun cx hG hnb => ?_
  rw [show Try.f103.ntmps = 62 from rfl]
  have hn0 : cx.nb = 0 := hnb
  simp only [st0_mk, initTm, List.map_cons, List.map_nil]
  apply AW.step
  · simp
    intros; rfl
  apply AW.step
  · simp
    intros; rfl
  apply AW.step
  · simp
    intros; rfl
  refine AW.seq ?_
  apply AW.step
  · simp
    intros; rfl
  refine AW.block ?_
  replace h := bnE h; obtain ⟨y2, g2, h⟩ := h
  refine AW.iterP g2 (mk := fun gh ls q => (⟨[(0, .l (.d false 6 (encPair a0))), (3, .l (.p 0 0)), (5, .l (.r 1 6 0 q.2.2.length)), (6, .l (.s (.bool q.1))), (7, .l (.s (.int .i64 q.2.1)))], [some ⟨36, 7, false, none, [.s (.string a1.key), .s (.bool a1.gone), .s (.int .i64 a1.item.kind), .s (.string a1.item.s), .d false 2 (encField a1.item.f), .d false 1 (encS a1.item.l), .s (.int .i64 a1.item.exp)]⟩, some ⟨125, 6, true, none, lvs (encPair q.2.2)⟩], 62, gh, ls⟩ : St)) (N := fun gh ls => (xP 0 (cx := cx) (fun q => (⟨[(3, .l (.p 0 0)), (5, .l (.r 1 6 0 q.2.length)), (6, .l (.s (.bool q.1)))], [some ⟨36, 7, false, none, [.s (.string a1.key), .s (.bool a1.gone), .s (.int .i64 a1.item.kind), .s (.string a1.item.s), .d false 2 (encField a1.item.f), .d false 1 (encS a1.item.l), .s (.int .i64 a1.item.exp)]⟩, some ⟨125, 6, true, none, lvs (encPair q.2)⟩], 62, gh, ls⟩ : St)))) ?_ noX ?_ ?_
  · refine W.nilRow 5 125 6 1 (by simp) rfl rfl ?_
    refine Weak.mixN [some 0, some 1] hn0 (by decide) ?_ ?_ rfl
    all_goals first | (simp [inv_cons, inv_nil, pickOb]; done) | rfl
  · clear h; intro y1 y3 h
    refine AW.seq ?_
    replace h := ltE h; obtain ⟨v4, e4, h⟩ := h
    replace h := ltE h; obtain ⟨v5, e5, h⟩ := h
    apply AW.step
    · simp [lenI_cast e4, ← e5]
      intros; rfl
    cases v5 with
    | true =>
      replace h := iteT rfl h
      refine AW.cond_true (by simp) ?_
      refine AW.skip ?_
      try simp only [sp_l, sp_r, Post.seq, Post.block, Nat.reduceEqDiff, reduceIte, Nat.zero_ne_one, Nat.one_ne_zero]
      try simp only [sp_l, sp_r, Post.seq, Post.block, Nat.reduceEqDiff, reduceIte, Nat.zero_ne_one, Nat.one_ne_zero]
      replace h := bnE h; obtain ⟨y6, g6, h⟩ := h
      refine AW.flow (p := fun gh ls => (nP (cx := cx) (fun q => (⟨[(0, .l (.d false 6 (encPair a0))), (3, .l (.p 0 0)), (5, .l (.r 1 6 0 q.2.length)), (6, .l (.s (.bool q.1))), (7, .l (.s (.int .i64 y1.2.1)))], [some ⟨36, 7, false, none, [.s (.string a1.key), .s (.bool a1.gone), .s (.int .i64 a1.item.kind), .s (.string a1.item.s), .d false 2 (encField a1.item.f), .d false 1 (encS a1.item.l), .s (.int .i64 a1.item.exp)]⟩, some ⟨125, 6, true, none, lvs (encPair q.2)⟩], 62, gh, ls⟩ : St))) y6) ?_ ?_
      · replace h := g6; clear g6
        refine AW.block ?_
        replace h := bnE h; obtain ⟨y7, g7, h⟩ := h
        refine AW.flow (p := fun gh ls => (nP (cx := cx) (fun q => (⟨[(0, .l (.d false 6 (encPair a0))), (3, .l (.p 0 0)), (5, .l (.r 1 6 0 q.2.length)), (6, .l (.s (.bool q.1))), (7, .l (.s (.int .i64 y1.2.1)))], [some ⟨36, 7, false, none, [.s (.string a1.key), .s (.bool a1.gone), .s (.int .i64 a1.item.kind), .s (.string a1.item.s), .d false 2 (encField a1.item.f), .d false 1 (encS a1.item.l), .s (.int .i64 a1.item.exp)]⟩, some ⟨125, 6, true, none, lvs (encPair q.2)⟩], 62, gh, ls⟩ : St))) y7) ?_ ?_
        · replace h := g7; clear g7
          replace h := bnE h; obtain ⟨y8, g8, h⟩ := h
          refine AW.flow (p := fun gh ls => (nP (cx := cx) (fun q => (⟨[(0, .l (.d false 6 (encPair a0))), (3, .l (.p 0 0)), (5, .l (.r 1 6 0 y1.2.2.length)), (6, .l (.s (.bool y1.1))), (7, .l (.s (.int .i64 y1.2.1))), (27, .l (.s (.bool q)))], [some ⟨36, 7, false, none, [.s (.string a1.key), .s (.bool a1.gone), .s (.int .i64 a1.item.kind), .s (.string a1.item.s), .d false 2 (encField a1.item.f), .d false 1 (encS a1.item.l), .s (.int .i64 a1.item.exp)]⟩, some ⟨125, 6, true, none, lvs (encPair y1.2.2)⟩], 62, gh, ls⟩ : St))) y8) ?_ ?_
          · replace h := g8; clear g8
            replace h := ltE h; obtain ⟨v9, e9, h⟩ := h
            cases v9 with
            | true =>
              replace h := iteT rfl h
              replace h := bnE h; obtain ⟨v10, e10, h⟩ := h
              replace h := ltE h; obtain ⟨v11, e11, h⟩ := h
              apply AW.drawnR (V := [_, _, _, _, _, _, _, _, _, _]) mixed [⟨[0], [], [(6, none)], false⟩, ⟨[0], [0], [(16, some 0)], false⟩, ⟨[0], [0, 1], [(17, some 1)], false⟩, ⟨[0], [0, 1, 2], [(0, none), (18, some 2)], false⟩, ⟨[0], [0, 1, 2], [(7, none), (18, some 2)], false⟩, ⟨[0], [0, 1, 2, 3, 4], [(18, some 2), (19, some 3), (20, some 4)], false⟩, ⟨[0], [0, 1, 2, 3, 4, 5], [(18, some 2), (21, some 5)], false⟩, ⟨[0], [0, 1, 2, 3, 4, 5, 6], [(18, some 2), (22, some 6)], false⟩, ⟨[0], [0, 1, 2], [(3, none), (18, some 2)], false⟩, ⟨[0], [0, 1, 2, 8], [(18, some 2), (24, some 8)], false⟩, ⟨[], [0, 1, 2, 3, 4, 5, 6, 7, 8, 9], [], false⟩, ⟨[], [0, 1, 2, 3, 4, 5, 6, 7, 8, 9, 10], [], false⟩] 10 (by kernel_rfl) (by kernel_rfl)
              · refine ⟨?_, ?_, ?_, ?_, ?_, ?_, ?_, ?_, ?_, ?_, trivial⟩
                · intro tm hr
                  simp [AllL, rdV] at hr
                  simp [hr, ← e9, nth_d e10, ← e11]
                  intros; first | exact KD.mk | exact KD.mkN
                · intro tm hr
                  simp [AllL, rdV] at hr
                  simp [hr, ← e9, nth_d e10, ← e11]
                  intros; first | exact KD.mk | exact KD.mkN
                · intro tm hr
                  simp [AllL, rdV] at hr
                  simp [hr, ← e9, nth_d e10, ← e11]
                  intros; first | exact KD.mk | exact KD.mkN
                · intro tm hr
                  simp [AllL, rdV] at hr
                  simp [hr, ← e9, nth_d e10, ← e11]
                  intros; first | exact KD.mk | exact KD.mkN
                · intro tm hr
                  simp [AllL, rdV] at hr
                  simp [hr, ← e9, nth_d e10, ← e11]
                  intros; first | exact KD.mk | exact KD.mkN
                · intro tm hr
                  simp [AllL, rdV] at hr
                  simp [hr, ← e9, nth_d e10, ← e11]
                  intros; first | exact KD.mk | exact KD.mkN
                · intro tm hr
                  simp [AllL, rdV] at hr
                  simp [hr, ← e9, nth_d e10, ← e11]
                  intros; first | exact KD.mk | exact KD.mkN
                · intro tm hr
                  simp [AllL, rdV] at hr
                  simp [hr, ← e9, nth_d e10, ← e11]
                  intros; first | exact KD.mk | exact KD.mkN
                · intro tm hr
                  simp [AllL, rdV] at hr
                  simp [hr, ← e9, nth_d e10, ← e11]
                  intros; first | exact KD.mk | exact KD.mkN
                · intro tm hr
                  simp [AllL, rdV] at hr
                  simp [hr, ← e9, nth_d e10, ← e11]
                  intros; first | exact KD.mk | exact KD.mkN
              · rfl
              · simp [tmD, putD, ← e9, nth_d e10, ← e11]; rfl
              · simp [← e9, nth_d e10, ← e11]
                intros; rfl
              obtain rfl := Option.some.inj h
              refine nP_i ?_
              refine Weak.mixN [some 0, some 1] hn0 (by decide) ?_ ?_ rfl
              all_goals first | (simp [inv_cons, inv_nil, pickOb]; done) | rfl
            | false =>
              replace h := iteF rfl h
              apply AW.drawnR (V := [_, _, _, _, _, _, _, _, _, _]) mixed [⟨[0], [], [(6, none)], false⟩, ⟨[0], [0], [(16, some 0)], false⟩, ⟨[0], [0, 1], [(17, some 1)], false⟩, ⟨[0], [0, 1, 2], [(0, none), (18, some 2)], false⟩, ⟨[0], [0, 1, 2], [(7, none), (18, some 2)], false⟩, ⟨[0], [0, 1, 2, 3, 4], [(18, some 2), (19, some 3), (20, some 4)], false⟩, ⟨[0], [0, 1, 2, 3, 4, 5], [(18, some 2), (21, some 5)], false⟩, ⟨[0], [0, 1, 2, 3, 4, 5, 6], [(18, some 2), (22, some 6)], false⟩, ⟨[0], [0, 1, 2], [(3, none), (18, some 2)], false⟩, ⟨[0], [0, 1, 2, 8], [(18, some 2), (24, some 8)], false⟩, ⟨[], [0, 1, 2, 3, 4, 5, 6, 7, 8, 9], [], false⟩, ⟨[], [0, 1, 2, 3, 4, 5, 6, 7, 8, 9, 10], [], false⟩] 10 (by kernel_rfl) (by kernel_rfl)
              · refine ⟨?_, ?_, ?_, ?_, ?_, ?_, ?_, ?_, ?_, ?_, trivial⟩
                · intro tm hr
                  simp [AllL, rdV] at hr
                  simp [hr, ← e9]
                  intros; first | exact KD.mk | exact KD.mkN
                · intro tm hr
                  simp [AllL, rdV] at hr
                  simp [hr, ← e9]
                  intros; first | exact KD.mk | exact KD.mkN
                · intro tm hr
                  simp [AllL, rdV] at hr
                  simp [hr, ← e9]
                  intros; first | exact KD.mk | exact KD.mkN
                · intro tm hr
                  simp [AllL, rdV] at hr
                  simp [hr, ← e9]
                  intros; first | exact KD.mk | exact KD.mkN
                · intro tm hr
                  simp [AllL, rdV] at hr
                  simp [hr, ← e9]
                  intros; first | exact KD.mk | exact KD.mkN
                · intro tm hr
                  simp [AllL, rdV] at hr
                  simp [hr, ← e9]
                  intros; first | exact KD.mk | exact KD.mkN
                · intro tm hr
                  simp [AllL, rdV] at hr
                  simp [hr, ← e9]
                  intros; first | exact KD.mk | exact KD.mkN
                · intro tm hr
                  simp [AllL, rdV] at hr
                  simp [hr, ← e9]
                  intros; first | exact KD.mk | exact KD.mkN
                · intro tm hr
                  simp [AllL, rdV] at hr
                  simp [hr, ← e9]
                  intros; first | exact KD.mk | exact KD.mkN
                · intro tm hr
                  simp [AllL, rdV] at hr
                  simp [hr, ← e9]
                  intros; first | exact KD.mk | exact KD.mkN
              · rfl
              · simp [tmD, putD, ← e9]; rfl
              · simp [← e9]
                intros; rfl
              obtain rfl := Option.some.inj h
              refine nP_i ?_
              refine Weak.mixN [some 0, some 1] hn0 (by decide) ?_ ?_ rfl
              all_goals first | (simp [inv_cons, inv_nil, pickOb]; done) | rfl
          · rintro e s hp
            obtain ⟨rfl, hw⟩ := hp
            refine ⟨_, hw, ?_⟩
            try simp only [sp_l, sp_r, Post.seq, Post.block, Nat.reduceEqDiff, reduceIte, Nat.zero_ne_one, Nat.one_ne_zero]
            replace h := ltE h; obtain ⟨v12, e12, h⟩ := h
            rw [← e12]
            cases v12 with
            | true =>
              replace h := iteT rfl h
              refine AW.cond_true (by simp) ?_
              replace h := chkE h; obtain ⟨e13, h⟩ := h
              replace h := ltE h; obtain ⟨v14, e14, h⟩ := h
              apply AW.step
              · simp [← encPair_append, ← e14, app_len1 e14]
                intros
                refine xrow_own ?_
                try simp [← encPair_append, ← e14, app_len1 e14]
                intros
                refine xapp_pushN (acc := encPair y1.2.2) (ys := encPair [(⟨a1.key, a1.item⟩ : Pair)]) (cap := none) (k := 1) tb_el56 tb_ti125 (by simp) (by simp [encPair, lvs]) (encPair_sz _) (by simp) (by simp) (by simpa using (room_d e13).1) ?_
                try simp [← encPair_append, ← e14, app_len1 e14]
                intros; rfl
              apply AW.last
              · simp
                intros; rfl
              obtain rfl := Option.some.inj h
              refine nP_i ?_
              refine Weak.mixN [some 0, some 3] hn0 (by decide) ?_ ?_ rfl
              all_goals first | (simp [inv_cons, inv_nil, pickOb, lvs_encPair1]; done) | rfl
            | false =>
              replace h := iteF rfl h
              refine AW.cond_false (by simp) ?_
              refine AW.skip ?_
              try simp only [sp_l, sp_r, Post.seq, Post.block, Nat.reduceEqDiff, reduceIte, Nat.zero_ne_one, Nat.one_ne_zero]
              obtain rfl := Option.some.inj h
              refine nP_i ?_
              refine Weak.mixN [some 0, some 1] hn0 (by decide) ?_ ?_ rfl
              all_goals first | (simp [inv_cons, inv_nil, pickOb]; done) | rfl
        · rintro e s hp
          obtain ⟨rfl, hw⟩ := hp
          refine ⟨_, hw, ?_⟩
          try simp only [sp_l, sp_r, Post.seq, Post.block, Nat.reduceEqDiff, reduceIte, Nat.zero_ne_one, Nat.one_ne_zero]
          replace h := bnE h; obtain ⟨v15, e15, h⟩ := h
          replace h := ltE h; obtain ⟨v16, e16, h⟩ := h
          apply AW.drawnP (V := [_, _, _, _, _, _, _]) mixed [⟨[0], [], [(0, none)], false⟩, ⟨[0], [], [(7, none)], false⟩, ⟨[0], [0, 1], [(36, some 0), (37, some 1)], false⟩, ⟨[0], [0, 1, 2], [(38, some 2)], false⟩, ⟨[0], [0, 1, 2, 3], [(39, some 3)], false⟩, ⟨[0], [], [(3, none)], false⟩, ⟨[0], [5], [(41, some 5)], false⟩, ⟨[], [0, 1, 2, 3, 4, 5, 6], [], false⟩] 7 (by kernel_rfl) (by kernel_rfl)
          · refine ⟨?_, ?_, ?_, ?_, ?_, ?_, ?_, trivial⟩
            · intro tm hr
              simp [AllL, rdV] at hr
              simp [hr, nth_d e15, ← e16]
              intros; first | exact KD.mk | exact KD.mkN
            · intro tm hr
              simp [AllL, rdV] at hr
              simp [hr, nth_d e15, ← e16]
              intros; first | exact KD.mk | exact KD.mkN
            · intro tm hr
              simp [AllL, rdV] at hr
              simp [hr, nth_d e15, ← e16]
              intros; first | exact KD.mk | exact KD.mkN
            · intro tm hr
              simp [AllL, rdV] at hr
              simp [hr, nth_d e15, ← e16]
              intros; first | exact KD.mk | exact KD.mkN
            · intro tm hr
              simp [AllL, rdV] at hr
              simp [hr, nth_d e15, ← e16]
              intros; first | exact KD.mk | exact KD.mkN
            · intro tm hr
              simp [AllL, rdV] at hr
              simp [hr, nth_d e15, ← e16]
              intros; first | exact KD.mk | exact KD.mkN
            · intro tm hr
              simp [AllL, rdV] at hr
              simp [hr, nth_d e15, ← e16]
              intros; first | exact KD.mk | exact KD.mkN
          · rfl
          · simp [tmD, putD, nth_d e15, ← e16]; rfl
          · simp [nth_d e15, ← e16]
            intros; rfl
          cases v16 with
          | true =>
            replace h := iteT rfl h
            refine AW.cond_true (by simp) ?_
            replace h := chkE h; obtain ⟨e17, h⟩ := h
            replace h := ltE h; obtain ⟨v18, e18, h⟩ := h
            apply AW.last
            · simp [nth_d e15, ← encPair_append, ← e18, app_len1 e18]
              intros
              refine xrow_own ?_
              try simp [nth_d e15, ← encPair_append, ← e18, app_len1 e18]
              intros
              refine xapp_pushN (acc := encPair y7.2) (ys := encPair [v15]) (cap := none) (k := 1) tb_el56 tb_ti125 (by simp) (by simp [encPair, lvs]) (encPair_sz _) (by simp) (by simp) (by simpa using (room_d e17).1) ?_
              try simp [nth_d e15, ← encPair_append, ← e18, app_len1 e18]
              intros; rfl
            obtain rfl := Option.some.inj h
            refine nP_i ?_
            refine Weak.mixN [some 0, some 3] hn0 (by decide) ?_ ?_ rfl
            all_goals first | (simp [inv_cons, inv_nil, pickOb, lvs_encPair1]; done) | rfl
          | false =>
            replace h := iteF rfl h
            refine AW.cond_false (by simp) ?_
            refine AW.skip ?_
            try simp only [sp_l, sp_r, Post.seq, Post.block, Nat.reduceEqDiff, reduceIte, Nat.zero_ne_one, Nat.one_ne_zero]
            obtain rfl := Option.some.inj h
            refine nP_i ?_
            refine Weak.mixN [some 0, some 1] hn0 (by decide) ?_ ?_ rfl
            all_goals first | (simp [inv_cons, inv_nil, pickOb]; done) | rfl
      · rintro e s hp
        obtain ⟨rfl, hw⟩ := hp
        refine ⟨_, hw, ?_⟩
        try simp only [sp_l, sp_r, Post.seq, Post.block, Nat.reduceEqDiff, reduceIte, Nat.zero_ne_one, Nat.one_ne_zero]
        replace h := ltE h; obtain ⟨v19, e19, h⟩ := h
        apply AW.last
        · simp [← e19]
          intros; rfl
        obtain rfl := Option.some.inj h
        refine nP_i ?_
        refine Weak.mixN [some 0, some 1] hn0 (by decide) ?_ ?_ rfl
        all_goals first | (simp [inv_cons, inv_nil, pickOb]; done) | rfl
    | false =>
      replace h := iteF rfl h
      refine AW.cond_false (by simp) ?_
      refine AW.exit ?_
      try simp only [sp_l, sp_r, Post.seq, Post.block, Nat.reduceEqDiff, reduceIte, Nat.zero_ne_one, Nat.one_ne_zero]
      obtain rfl := Option.some.inj h
      refine xP_i ?_
      refine Weak.mixN [some 0, some 1] hn0 (by decide) ?_ ?_ rfl
      all_goals first | (simp [inv_cons, inv_nil, pickOb]; done) | rfl
  · rintro e s hp
    obtain ⟨rfl, hw⟩ := hp
    refine ⟨_, hw, ?_⟩
    try simp only [sp_l, sp_r, Post.seq, Post.block, Nat.reduceEqDiff, reduceIte, Nat.zero_ne_one, Nat.one_ne_zero]
    replace h := bnE h; obtain ⟨y20, g20, h⟩ := h
    refine AW.flow (p := fun gh ls => (nP (cx := cx) (fun q => (⟨[(5, .l (.r 0 6 0 q.length))], [some ⟨125, 6, true, none, lvs (encPair q)⟩], 62, gh, ls⟩ : St))) y20) ?_ ?_
    · replace h := g20; clear g20
      replace h := ltE h; obtain ⟨v21, e21, h⟩ := h
      apply AW.step
      · simp [← e21]
        intros; rfl
      cases v21 with
      | true =>
        replace h := iteT rfl h
        refine AW.cond_true (by simp) ?_
        replace h := chkE h; obtain ⟨e22, h⟩ := h
        replace h := ltE h; obtain ⟨v23, e23, h⟩ := h
        apply AW.last
        · simp [← encPair_append, ← e23, app_len1 e23]
          intros
          refine xrow_own ?_
          try simp [← encPair_append, ← e23, app_len1 e23]
          intros
          refine xapp_pushN (acc := encPair y2.2) (ys := encPair [(⟨a1.key, a1.item⟩ : Pair)]) (cap := none) (k := 1) tb_el56 tb_ti125 (by simp) (by simp [encPair, lvs]) (encPair_sz _) (by simp) (by simp) (by simpa using (room_d e22).1) ?_
          try simp [← encPair_append, ← e23, app_len1 e23]
          intros; rfl
        obtain rfl := Option.some.inj h
        refine nP_i ?_
        refine Weak.mixN [some 3] hn0 (by decide) ?_ ?_ rfl
        all_goals first | (simp [inv_cons, inv_nil, pickOb, lvs_encPair1]; done) | rfl
      | false =>
        replace h := iteF rfl h
        refine AW.cond_false (by simp) ?_
        refine AW.skip ?_
        try simp only [sp_l, sp_r, Post.seq, Post.block, Nat.reduceEqDiff, reduceIte, Nat.zero_ne_one, Nat.one_ne_zero]
        obtain rfl := Option.some.inj h
        refine nP_i ?_
        refine Weak.mixN [some 1] hn0 (by decide) ?_ ?_ rfl
        all_goals first | (simp [inv_cons, inv_nil, pickOb]; done) | rfl
    · rintro e s hp
      obtain ⟨rfl, hw⟩ := hp
      refine ⟨_, hw, ?_⟩
      try simp only [sp_l, sp_r, Post.seq, Post.block, Nat.reduceEqDiff, reduceIte, Nat.zero_ne_one, Nat.one_ne_zero]
      apply AW.step
      · simp
        intros; rfl
      replace h := chkE h; obtain ⟨e24, h⟩ := h
      refine AW.frzRow 0 (ty := 125) (cap := none) (sz := 6) (es := encPair y20) (by simp) (by omega) (encPair_sz _) (by first | exact (room_d e24).2 | simpa using (room_d e24).2 | simp) (by simp [Tm.frz, AV.frz, LV.frz]; rfl) (by simp [Ob.frz, LV.frz]; rfl) rfl ?_
      obtain rfl := Option.some.inj h
      refine AW.ret ?_
      refine Left.plain hnb (by simp [Try.f103, resV, resC, comp]; rfl) rfl rfl ?_
      simp
theorem en_r5_apply : Enters Try.prog 103 := enters Try.func103 (by kernel_rfl) rfl
def r5_Apply_sh (n : Nat) (a0 : List Pair) (a1 : List Effect) : Option (List Pair) :=
chk (room a0.length 96) <|
chk (room a0.length 1) <|
bn (iter n (fun (y2 : List Pair × Int) =>
lt (lenI a1) fun v6 =>
lt (ltI y2.2 v6) fun v7 =>
ite' v7 (bn (nth a1 y2.2) fun v8 =>
bn (r5_apply_sh n y2.1 v8) fun v9 =>
lt (addI .i64 y2.2 1) fun v10 =>
some (.inl (v9, v10))) (some (.inr y2.1))) (a0, 0)) fun (y3 : List Pair) =>
some y3
set_option maxRecDepth 8000 in
set_option maxHeartbeats 8000000 in
theorem s_r5_Apply {n : Nat} {a0 : List Pair} {a1 : List Effect} {r : List Pair} (h : r5_Apply_sh n a0 a1 = some r) : Sound Try.prog 64 [.l (.d false 6 (encPair a0)), .l (.d false 7 (encEffect a1))] [] (.l (.d false 6 (encPair r))) [] := by
  unfold r5_Apply_sh at h
  refine Sound.of_aw (fn := Try.f64) (c := _) Try.func64 rfl (by simp [Try.f64]) fun cx hG hnb => ?_
  rw [show Try.f64.ntmps = 23 from rfl]
  have hn0 : cx.nb = 0 := hnb
  simp only [st0_mk, initTm, List.map_cons, List.map_nil]
  apply AW.step
  · simp
    intros; rfl
  replace h := chkE h; obtain ⟨e1, h⟩ := h
  apply AW.step
  · simp
    intros
    refine xrow_own ?_
    try simp
    intros
    refine xapp_pushN (acc := []) (ys := encPair a0) (cap := none) (k := a0.length) tb_el56 tb_ti125 (by simp) (by rw [src_d]; simp) (by simp) (by simp) (by simp) (by simpa using (room_d e1).1) ?_
    try simp
    intros; rfl
  refine AW.seq ?_
  apply AW.step
  · simp
    intros; rfl
  refine AW.block ?_
  replace h := chkE h; obtain ⟨e4, h⟩ := h
  replace h := bnE h; obtain ⟨y3, g3, h⟩ := h
  refine AW.iterP g3 (mk := fun gh ls q => (⟨[(1, .l (.d false 7 (encEffect a1))), (5, .l (.d false 6 (encPair q.1))), (6, .l (.s (.int .i64 q.2)))], [], 23, gh, ls⟩ : St)) (N := fun gh ls => (xP 0 (cx := cx) (fun q => (⟨[(5, .l (.d false 6 (encPair q)))], [], 23, gh, ls⟩ : St)))) ?_ noX ?_ ?_
  · refine W.frzRow 1 (ty := 125) (cap := none) (sz := 6) (es := encPair a0) (by simp) (by omega) (encPair_sz _) (by first | exact (room_d e4).2 | simpa using (room_d e4).2 | simp) (by simp [Tm.frz, AV.frz, LV.frz]; rfl) (by simp [Ob.frz, LV.frz]; rfl) rfl ?_
    refine Weak.mixN [] hn0 (by decide) ?_ ?_ rfl
    all_goals first | (simp [inv_cons, inv_nil, pickOb]; done) | rfl
  · clear h; intro y2 y5 h
    refine AW.seq ?_
    replace h := ltE h; obtain ⟨v6, e6, h⟩ := h
    replace h := ltE h; obtain ⟨v7, e7, h⟩ := h
    apply AW.step
    · simp [lenI_cast e6, ← e7]
      intros; rfl
    cases v7 with
    | true =>
      replace h := iteT rfl h
      refine AW.cond_true (by simp) ?_
      refine AW.skip ?_
      try simp only [sp_l, sp_r, Post.seq, Post.block, Nat.reduceEqDiff, reduceIte, Nat.zero_ne_one, Nat.one_ne_zero]
      try simp only [sp_l, sp_r, Post.seq, Post.block, Nat.reduceEqDiff, reduceIte, Nat.zero_ne_one, Nat.one_ne_zero]
      refine AW.seq ?_
      refine AW.block ?_
      replace h := bnE h; obtain ⟨v8, e8, h⟩ := h
      replace h := bnE h; obtain ⟨v9, e9, h⟩ := h
      apply AW.last
      · simp [nth_d e8]
        intros
        refine xcall_plain en_r5_apply (s_r5_apply e9) rfl ⟨.same rfl, .same rfl, trivial⟩ ?_
        try simp [nth_d e8]
        intros; rfl
      try simp only [sp_l, sp_r, Post.seq, Post.block, Nat.reduceEqDiff, reduceIte, Nat.zero_ne_one, Nat.one_ne_zero]
      replace h := ltE h; obtain ⟨v10, e10, h⟩ := h
      apply AW.last
      · simp [← e10]
        intros; rfl
      obtain rfl := Option.some.inj h
      refine nP_i ?_
      refine Weak.mixN [] hn0 (by decide) ?_ ?_ rfl
      all_goals first | (simp [inv_cons, inv_nil, pickOb]; done) | rfl
    | false =>
      replace h := iteF rfl h
      refine AW.cond_false (by simp) ?_
      refine AW.exit ?_
      try simp only [sp_l, sp_r, Post.seq, Post.block, Nat.reduceEqDiff, reduceIte, Nat.zero_ne_one, Nat.one_ne_zero]
      obtain rfl := Option.some.inj h
      refine xP_i ?_
      refine Weak.mixN [] hn0 (by decide) ?_ ?_ rfl
      all_goals first | (simp [inv_cons, inv_nil, pickOb]; done) | rfl
  · rintro e s hp
    obtain ⟨rfl, hw⟩ := hp
    refine ⟨_, hw, ?_⟩
    try simp only [sp_l, sp_r, Post.seq, Post.block, Nat.reduceEqDiff, reduceIte, Nat.zero_ne_one, Nat.one_ne_zero]
    apply AW.step
    · simp
      intros; rfl
    obtain rfl := Option.some.inj h
    refine AW.ret ?_
    refine Left.plain hnb (by simp [Try.f64, resV, resC, comp]; rfl) rfl rfl ?_
    simp
theorem en_r5_Apply : Enters Try.prog 64 := enters Try.func64 (by kernel_rfl) rfl
def r5_Raw_sh (n : Nat) (a0 : List Pair) (a1 : ByteArray) : Option R5Got :=
bn (iter n (fun (y1 : Int) =>
lt (lenI a0) fun v4 =>
lt (ltI y1 v4) fun v5 =>
ite' v5 (bn (nth a0 y1) fun v6 =>
lt (eqS v6.key a1) fun v7 =>
ite' v7 (some (.inr (.inr (⟨v6.item, true⟩ : R5Got)))) (lt (addI .i64 y1 1) fun v8 =>
some (.inl v8))) (some (.inr (.inl ())))) 0) fun (y2 : Unit ⊕ R5Got) =>
sm y2 (fun y9 => some (⟨(⟨0, ⟨#[]⟩, [], [], 0⟩ : Item), false⟩ : R5Got)) (fun y10 => some y10)
set_option maxRecDepth 8000 in
set_option maxHeartbeats 8000000 in
theorem s_r5_Raw {n : Nat} {a0 : List Pair} {a1 : ByteArray} {r : R5Got} (h : r5_Raw_sh n a0 a1 = some r) : Sound Try.prog 66 [.l (.d false 6 (encPair a0)), .l (.s (.string a1))] [] (.g [.s (.int .i64 r.i.kind), .s (.string r.i.s), .d false 2 (encField r.i.f), .d false 1 (encS r.i.l), .s (.int .i64 r.i.exp), .s (.bool r.ok)]) [] := by
  unfold r5_Raw_sh at h
  refine Sound.of_aw (fn := Try.f66) (c := _) Try.func66 rfl (by simp [Try.f66]) fun cx hG hnb => ?_
  rw [show Try.f66.ntmps = 26 from rfl]
  have hn0 : cx.nb = 0 := hnb
  simp only [st0_mk, initTm, List.map_cons, List.map_nil]
  apply AW.step
  · simp
    intros; rfl
  refine AW.seq ?_
  apply AW.step
  · simp
    intros; rfl
  refine AW.block ?_
  replace h := bnE h; obtain ⟨y2, g2, h⟩ := h
  refine AW.iterP g2 (mk := fun gh ls q => (⟨[(0, .l (.d false 6 (encPair a0))), (1, .l (.s (.string a1))), (4, .l (.p 0 0)), (5, .l (.s (.int .i64 q)))], [some ⟨93, 6, false, none, [.s (.int .i64 0), .s (.string ⟨#[]⟩), .s (.slice none 0 0), .s (.slice none 0 0), .s (.int .i64 0), .s (.bool false)]⟩], 26, gh, ls⟩ : St)) (N := fun gh ls => (sp (xP 0 (cx := cx) (fun _ => (⟨[(4, .l (.p 0 0))], [some ⟨93, 6, false, none, [.s (.int .i64 0), .s (.string ⟨#[]⟩), .s (.slice none 0 0), .s (.slice none 0 0), .s (.int .i64 0), .s (.bool false)]⟩], 26, gh, ls⟩ : St))) (rP (cx := cx) (P := Try.prog) Try.f66 (fun q => .g [.s (.int .i64 q.i.kind), .s (.string q.i.s), .d false 2 (encField q.i.f), .d false 1 (encS q.i.l), .s (.int .i64 q.i.exp), .s (.bool q.ok)]) (fun q => [])))) ?_ (noS noX noR) ?_ ?_
  · refine Weak.mixN [some 0] hn0 (by decide) ?_ ?_ rfl
    all_goals first | (simp [inv_cons, inv_nil, pickOb]; done) | rfl
  · clear h; intro y1 y3 h
    refine AW.seq ?_
    replace h := ltE h; obtain ⟨v4, e4, h⟩ := h
    replace h := ltE h; obtain ⟨v5, e5, h⟩ := h
    apply AW.step
    · simp [lenI_cast e4, ← e5]
      intros; rfl
    cases v5 with
    | true =>
      replace h := iteT rfl h
      refine AW.cond_true (by simp) ?_
      refine AW.skip ?_
      try simp only [sp_l, sp_r, Post.seq, Post.block, Nat.reduceEqDiff, reduceIte, Nat.zero_ne_one, Nat.one_ne_zero]
      try simp only [sp_l, sp_r, Post.seq, Post.block, Nat.reduceEqDiff, reduceIte, Nat.zero_ne_one, Nat.one_ne_zero]
      refine AW.seq ?_
      refine AW.block ?_
      replace h := bnE h; obtain ⟨v6, e6, h⟩ := h
      replace h := ltE h; obtain ⟨v7, e7, h⟩ := h
      apply AW.step
      · simp [nth_d e6, ← e7]
        intros; rfl
      cases v7 with
      | true =>
        replace h := iteT rfl h
        refine AW.cond_true (by simp) ?_
        apply AW.step
        · simp [nth_d e6]
          intros; rfl
        obtain rfl := Option.some.inj h
        refine AW.ret ?_
        try simp only [sp_l, sp_r, Post.seq, Post.block, Nat.reduceEqDiff, reduceIte, Nat.zero_ne_one, Nat.one_ne_zero]
        refine rP_i ?_
        refine Left.plain hnb (by simp [Try.f66, resV, resC, comp]; rfl) rfl rfl ?_
        simp
      | false =>
        replace h := iteF rfl h
        refine AW.cond_false (by simp) ?_
        refine AW.skip ?_
        try simp only [sp_l, sp_r, Post.seq, Post.block, Nat.reduceEqDiff, reduceIte, Nat.zero_ne_one, Nat.one_ne_zero]
        try simp only [sp_l, sp_r, Post.seq, Post.block, Nat.reduceEqDiff, reduceIte, Nat.zero_ne_one, Nat.one_ne_zero]
        replace h := ltE h; obtain ⟨v8, e8, h⟩ := h
        apply AW.last
        · simp [← e8]
          intros; rfl
        obtain rfl := Option.some.inj h
        refine nP_i ?_
        refine Weak.mixN [some 0] hn0 (by decide) ?_ ?_ rfl
        all_goals first | (simp [inv_cons, inv_nil, pickOb]; done) | rfl
    | false =>
      replace h := iteF rfl h
      refine AW.cond_false (by simp) ?_
      refine AW.exit ?_
      try simp only [sp_l, sp_r, Post.seq, Post.block, Nat.reduceEqDiff, reduceIte, Nat.zero_ne_one, Nat.one_ne_zero]
      obtain rfl := Option.some.inj h
      try simp only [sp_l, sp_r]
      refine xP_i ?_
      refine Weak.mixN [some 0] hn0 (by decide) ?_ ?_ rfl
      all_goals first | (simp [inv_cons, inv_nil, pickOb]; done) | rfl
  · rintro e s hp
    rcases y2 with y9 | y10
    · replace h := smL h
      obtain ⟨rfl, hw⟩ := hp
      refine ⟨_, hw, ?_⟩
      try simp only [sp_l, sp_r, Post.seq, Post.block, Nat.reduceEqDiff, reduceIte, Nat.zero_ne_one, Nat.one_ne_zero]
      apply AW.step
      · simp
        intros; rfl
      refine AW.nilCellD 0 2 2 rfl rfl rfl rfl ?_
      refine AW.nilCellD 0 3 1 rfl rfl rfl rfl ?_
      obtain rfl := Option.some.inj h
      refine AW.ret ?_
      refine Left.plain hnb (by simp [Try.f66, resV, resC, comp]; rfl) rfl rfl ?_
      simp
    · replace h := smR h
      obtain ⟨rfl, hl⟩ := hp
      refine ⟨_, Weak.refl _, ?_⟩
      obtain rfl := Option.some.inj h
      exact hl
theorem en_r5_Raw : Enters Try.prog 66 := enters Try.func66 (by kernel_rfl) rfl
def r5_Alive_sh (n : Nat) (a0 : Item) (a1 : Int) : Option Bool :=
bn (lt (eqI a0.exp 0) fun v2 =>
ite' v2 (some (true)) (lt (gtI a0.exp a1) fun v3 =>
some (v3))) fun (y1 : Bool) =>
some y1
set_option maxRecDepth 8000 in
set_option maxHeartbeats 8000000 in
theorem s_r5_Alive {n : Nat} {a0 : Item} {a1 : Int} {r : Bool} (h : r5_Alive_sh n a0 a1 = some r) : Sound Try.prog 101 [.g [.s (.int .i64 a0.kind), .s (.string a0.s), .d false 2 (encField a0.f), .d false 1 (encS a0.l), .s (.int .i64 a0.exp)], .l (.s (.int .i64 a1))] [] (.l (.s (.bool r))) [] := by
  unfold r5_Alive_sh at h
  refine Sound.of_aw (fn := Try.f101) (c := _) Try.func101 rfl (by simp [Try.f101]) fun cx hG hnb => ?_
  rw [show Try.f101.ntmps = 14 from rfl]
  have hn0 : cx.nb = 0 := hnb
  simp only [st0_mk, initTm, List.map_cons, List.map_nil]
  apply AW.step
  · simp
    intros; rfl
  replace h := bnE h; obtain ⟨y1, g1, h⟩ := h
  refine AW.flow (p := fun gh ls => (nP (cx := cx) (fun q => (⟨[(4, .l (.s (.bool q)))], [], 14, gh, ls⟩ : St))) y1) ?_ ?_
  · replace h := g1; clear g1
    replace h := ltE h; obtain ⟨v2, e2, h⟩ := h
    cases v2 with
    | true =>
      replace h := iteT rfl h
      apply AW.last
      · simp [← e2]
        intros; rfl
      obtain rfl := Option.some.inj h
      refine nP_i ?_
      refine Weak.mixN [] hn0 (by decide) ?_ ?_ rfl
      all_goals first | (simp [inv_cons, inv_nil, pickOb]; done) | rfl
    | false =>
      replace h := iteF rfl h
      replace h := ltE h; obtain ⟨v3, e3, h⟩ := h
      apply AW.last
      · simp [← e2, ← e3]
        intros; rfl
      obtain rfl := Option.some.inj h
      refine nP_i ?_
      refine Weak.mixN [] hn0 (by decide) ?_ ?_ rfl
      all_goals first | (simp [inv_cons, inv_nil, pickOb]; done) | rfl
  · rintro e s hp
    obtain ⟨rfl, hw⟩ := hp
    refine ⟨_, hw, ?_⟩
    try simp only [sp_l, sp_r, Post.seq, Post.block, Nat.reduceEqDiff, reduceIte, Nat.zero_ne_one, Nat.one_ne_zero]
    obtain rfl := Option.some.inj h
    refine AW.ret ?_
    refine Left.plain hnb (by simp [Try.f101, resV, resC, comp]; rfl) rfl rfl ?_
    simp
theorem en_r5_Alive : Enters Try.prog 101 := enters Try.func101 (by kernel_rfl) rfl
def r5_Get_sh (n : Nat) (a0 : List Pair) (a1 : ByteArray) (a2 : Int) : Option R5Got :=
bn (r5_Raw_sh n a0 a1) fun v1 =>
bn (lt (notB v1.ok) fun v3 =>
ite' v3 (some (true)) (bn (r5_Alive_sh n v1.i a2) fun v4 =>
lt (notB v4) fun v5 =>
some (v5))) fun (y2 : Bool) =>
lt (y2) fun v6 =>
ite' v6 (some (⟨(⟨0, ⟨#[]⟩, [], [], 0⟩ : Item), false⟩ : R5Got)) (some v1)
set_option maxRecDepth 8000 in
set_option maxHeartbeats 8000000 in
theorem s_r5_Get {n : Nat} {a0 : List Pair} {a1 : ByteArray} {a2 : Int} {r : R5Got} (h : r5_Get_sh n a0 a1 a2 = some r) : Sound Try.prog 62 [.l (.d false 6 (encPair a0)), .l (.s (.string a1)), .l (.s (.int .i64 a2))] [] (.g [.s (.int .i64 r.i.kind), .s (.string r.i.s), .d false 2 (encField r.i.f), .d false 1 (encS r.i.l), .s (.int .i64 r.i.exp), .s (.bool r.ok)]) [] := by
  unfold r5_Get_sh at h
  refine Sound.of_aw (fn := Try.f62) (c := _) Try.func62 rfl (by simp [Try.f62]) fun cx hG hnb => ?_
  rw [show Try.f62.ntmps = 23 from rfl]
  have hn0 : cx.nb = 0 := hnb
  simp only [st0_mk, initTm, List.map_cons, List.map_nil]
  apply AW.step
  · simp
    intros; rfl
  replace h := bnE h; obtain ⟨v1, e1, h⟩ := h
  apply AW.step
  · simp
    intros
    refine xcall_plain en_r5_Raw (s_r5_Raw e1) rfl ⟨.same rfl, .same rfl, trivial⟩ ?_
    try simp
    intros; rfl
  refine AW.seq ?_
  replace h := bnE h; obtain ⟨y2, g2, h⟩ := h
  refine AW.flow (p := fun gh ls => (nP (cx := cx) (fun q => (⟨[(6, .l (.p 0 0)), (7, .l (.p 1 0)), (20, .l (.s (.bool q)))], [some ⟨93, 6, false, none, [.s (.int .i64 0), .s (.string ⟨#[]⟩), .s (.slice none 0 0), .s (.slice none 0 0), .s (.int .i64 0), .s (.bool false)]⟩, some ⟨93, 6, false, none, [.s (.int .i64 v1.i.kind), .s (.string v1.i.s), .d false 2 (encField v1.i.f), .d false 1 (encS v1.i.l), .s (.int .i64 v1.i.exp), .s (.bool v1.ok)]⟩], 23, gh, ls⟩ : St))) y2) ?_ ?_
  · replace h := g2; clear g2
    replace h := ltE h; obtain ⟨v3, e3, h⟩ := h
    cases v3 with
    | true =>
      replace h := iteT rfl h
      apply AW.last
      · simp [← e3]
        intros; rfl
      obtain rfl := Option.some.inj h
      refine nP_i ?_
      refine Weak.mixN [some 0, some 1] hn0 (by decide) ?_ ?_ rfl
      all_goals first | (simp [inv_cons, inv_nil, pickOb]; done) | rfl
    | false =>
      replace h := iteF rfl h
      replace h := bnE h; obtain ⟨v4, e4, h⟩ := h
      replace h := ltE h; obtain ⟨v5, e5, h⟩ := h
      apply AW.last
      · simp [← e3, ← e5]
        intros
        refine xcall_plain en_r5_Alive (s_r5_Alive e4) rfl ⟨.same rfl, .same rfl, trivial⟩ ?_
        try simp [← e3, ← e5]
        intros; rfl
      obtain rfl := Option.some.inj h
      refine nP_i ?_
      refine Weak.mixN [some 0, some 1] hn0 (by decide) ?_ ?_ rfl
      all_goals first | (simp [inv_cons, inv_nil, pickOb]; done) | rfl
  · rintro e s hp
    obtain ⟨rfl, hw⟩ := hp
    refine ⟨_, hw, ?_⟩
    try simp only [sp_l, sp_r, Post.seq, Post.block, Nat.reduceEqDiff, reduceIte, Nat.zero_ne_one, Nat.one_ne_zero]
    replace h := ltE h; obtain ⟨v6, e6, h⟩ := h
    rw [← e6]
    cases v6 with
    | true =>
      replace h := iteT rfl h
      refine AW.cond_true (by simp) ?_
      apply AW.step
      · simp
        intros; rfl
      refine AW.nilCellD 0 2 2 rfl rfl rfl rfl ?_
      refine AW.nilCellD 0 3 1 rfl rfl rfl rfl ?_
      obtain rfl := Option.some.inj h
      refine AW.ret ?_
      refine Left.plain hnb (by simp [Try.f62, resV, resC, comp]; rfl) rfl rfl ?_
      simp
    | false =>
      replace h := iteF rfl h
      refine AW.cond_false (by simp) ?_
      refine AW.skip ?_
      try simp only [sp_l, sp_r, Post.seq, Post.block, Nat.reduceEqDiff, reduceIte, Nat.zero_ne_one, Nat.one_ne_zero]
      try simp only [sp_l, sp_r, Post.seq, Post.block, Nat.reduceEqDiff, reduceIte, Nat.zero_ne_one, Nat.one_ne_zero]
      apply AW.step
      · simp
        intros; rfl
      obtain rfl := Option.some.inj h
      refine AW.ret ?_
      refine Left.plain hnb (by simp [Try.f62, resV, resC, comp]; rfl) rfl rfl ?_
      simp
theorem en_r5_Get : Enters Try.prog 62 := enters Try.func62 (by kernel_rfl) rfl
def r1_Tag_sh (n : Nat) (a0 : ByteArray) : Option ByteArray :=
bn (iter n (fun (y1 : Int) =>
lt (lenS a0) fun v4 =>
lt (ltI y1 v4) fun v5 =>
ite' v5 (bn (atS a0 y1) fun v6 =>
lt (neI v6 123) fun v8 =>
ite' v8 (lt (addI .i64 y1 1) fun v9 =>
some (.inl v9)) (lt (addI .i64 y1 1) fun v10 =>
bn (iter n (fun (y11 : Int) =>
lt (lenS a0) fun v14 =>
lt (ltI y11 v14) fun v15 =>
ite' v15 (bn (atS a0 y11) fun v16 =>
lt (eqI v16 125) fun v18 =>
ite' v18 (lt (addI .i64 y1 1) fun v19 =>
lt (eqI y11 v19) fun v20 =>
ite' v20 (some (.inr (.inr a0))) (bn (segSlh a0 v19 y11) fun v21 =>
some (.inr (.inr v21)))) (lt (addI .i64 y11 1) fun v23 =>
some (.inl v23))) (some (.inr (.inl ())))) v10) fun (y12 : Unit ⊕ ByteArray) =>
sm y12 (fun y24 => some (.inr (.inr a0))) (fun y25 => some (.inr (.inr y25))))) (some (.inr (.inl ())))) 0) fun (y2 : Unit ⊕ ByteArray) =>
sm y2 (fun y26 => some a0) (fun y27 => some y27)
set_option maxRecDepth 8000 in
set_option maxHeartbeats 8000000 in
theorem s_r1_Tag {n : Nat} {a0 : ByteArray} {r : ByteArray} (h : r1_Tag_sh n a0 = some r) : Sound Try.prog 91 [.l (.s (.string a0))] [] (.l (.s (.string r))) [] := by
  unfold r1_Tag_sh at h
  refine Sound.of_aw (fn := Try.f91) (c := _) Try.func91 rfl (by simp [Try.f91]) fun cx hG hnb => ?_
  rw [show Try.f91.ntmps = 39 from rfl]
  have hn0 : cx.nb = 0 := hnb
  simp only [st0_mk, initTm, List.map_cons, List.map_nil]
  apply AW.step
  · simp
    intros; rfl
  refine AW.seq ?_
  apply AW.step
  · simp
    intros; rfl
  refine AW.block ?_
  replace h := bnE h; obtain ⟨y2, g2, h⟩ := h
  refine AW.iterP g2 (mk := fun gh ls q => (⟨[(0, .l (.s (.string a0))), (3, .l (.s (.int .i64 q)))], [], 39, gh, ls⟩ : St)) (N := fun gh ls => (sp (xP 0 (cx := cx) (fun _ => (⟨[(0, .l (.s (.string a0)))], [], 39, gh, ls⟩ : St))) (rP (cx := cx) (P := Try.prog) Try.f91 (fun q => .l (.s (.string q))) (fun q => [])))) ?_ (noS noX noR) ?_ ?_
  · refine Weak.mixN [] hn0 (by decide) ?_ ?_ rfl
    all_goals first | (simp [inv_cons, inv_nil, pickOb]; done) | rfl
  · clear h; intro y1 y3 h
    refine AW.seq ?_
    replace h := ltE h; obtain ⟨v4, e4, h⟩ := h
    replace h := ltE h; obtain ⟨v5, e5, h⟩ := h
    apply AW.step
    · simp [← e4, ← e5]
      intros; rfl
    cases v5 with
    | true =>
      replace h := iteT rfl h
      refine AW.cond_true (by simp) ?_
      refine AW.skip ?_
      try simp only [sp_l, sp_r, Post.seq, Post.block, Nat.reduceEqDiff, reduceIte, Nat.zero_ne_one, Nat.one_ne_zero]
      try simp only [sp_l, sp_r, Post.seq, Post.block, Nat.reduceEqDiff, reduceIte, Nat.zero_ne_one, Nat.one_ne_zero]
      refine AW.seq ?_
      refine AW.block ?_
      refine AW.seq ?_
      replace h := bnE h; obtain ⟨v6, e6, h⟩ := h
      have f7 := atS_d e6
      try simp at f7
      replace h := ltE h; obtain ⟨v8, e8, h⟩ := h
      apply AW.step
      · simp [f7, ← e8]
        intros; rfl
      cases v8 with
      | true =>
        replace h := iteT rfl h
        refine AW.cond_true (by simp) ?_
        refine AW.exit ?_
        try simp only [sp_l, sp_r, Post.seq, Post.block, Nat.reduceEqDiff, reduceIte, Nat.zero_ne_one, Nat.one_ne_zero]
        try simp only [sp_l, sp_r, Post.seq, Post.block, Nat.reduceEqDiff, reduceIte, Nat.zero_ne_one, Nat.one_ne_zero]
        replace h := ltE h; obtain ⟨v9, e9, h⟩ := h
        apply AW.last
        · simp [← e9]
          intros; rfl
        obtain rfl := Option.some.inj h
        refine nP_i ?_
        refine Weak.mixN [] hn0 (by decide) ?_ ?_ rfl
        all_goals first | (simp [inv_cons, inv_nil, pickOb]; done) | rfl
      | false =>
        replace h := iteF rfl h
        refine AW.cond_false (by simp) ?_
        refine AW.skip ?_
        try simp only [sp_l, sp_r, Post.seq, Post.block, Nat.reduceEqDiff, reduceIte, Nat.zero_ne_one, Nat.one_ne_zero]
        try simp only [sp_l, sp_r, Post.seq, Post.block, Nat.reduceEqDiff, reduceIte, Nat.zero_ne_one, Nat.one_ne_zero]
        refine AW.seq ?_
        replace h := ltE h; obtain ⟨v10, e10, h⟩ := h
        apply AW.step
        · simp [← e10]
          intros; rfl
        refine AW.block ?_
        replace h := bnE h; obtain ⟨y12, g12, h⟩ := h
        refine AW.iterP g12 (mk := fun gh ls q => (⟨[(0, .l (.s (.string a0))), (3, .l (.s (.int .i64 y1))), (4, .l (.s (.int .i64 q)))], [], 39, gh, ls⟩ : St)) (N := fun gh ls => (sp (xP 2 (cx := cx) (fun _ => (⟨[(0, .l (.s (.string a0)))], [], 39, gh, ls⟩ : St))) (rP (cx := cx) (P := Try.prog) Try.f91 (fun q => .l (.s (.string q))) (fun q => [])))) ?_ (noS noX noR) ?_ ?_
        · refine Weak.mixN [] hn0 (by decide) ?_ ?_ rfl
          all_goals first | (simp [inv_cons, inv_nil, pickOb]; done) | rfl
        · clear h; intro y11 y13 h
          refine AW.seq ?_
          replace h := ltE h; obtain ⟨v14, e14, h⟩ := h
          replace h := ltE h; obtain ⟨v15, e15, h⟩ := h
          apply AW.step
          · simp [← e14, ← e15]
            intros; rfl
          cases v15 with
          | true =>
            replace h := iteT rfl h
            refine AW.cond_true (by simp) ?_
            refine AW.skip ?_
            try simp only [sp_l, sp_r, Post.seq, Post.block, Nat.reduceEqDiff, reduceIte, Nat.zero_ne_one, Nat.one_ne_zero]
            try simp only [sp_l, sp_r, Post.seq, Post.block, Nat.reduceEqDiff, reduceIte, Nat.zero_ne_one, Nat.one_ne_zero]
            refine AW.seq ?_
            refine AW.block ?_
            replace h := bnE h; obtain ⟨v16, e16, h⟩ := h
            have f17 := atS_d e16
            try simp at f17
            replace h := ltE h; obtain ⟨v18, e18, h⟩ := h
            apply AW.step
            · simp [f17, ← e18]
              intros; rfl
            cases v18 with
            | true =>
              replace h := iteT rfl h
              refine AW.cond_true (by simp) ?_
              refine AW.seq ?_
              replace h := ltE h; obtain ⟨v19, e19, h⟩ := h
              replace h := ltE h; obtain ⟨v20, e20, h⟩ := h
              apply AW.step
              · simp [← e19, ← e20]
                intros; rfl
              cases v20 with
              | true =>
                replace h := iteT rfl h
                refine AW.cond_true (by simp) ?_
                apply AW.step
                · simp
                  intros; rfl
                obtain rfl := Option.some.inj h
                refine AW.ret ?_
                try simp only [sp_l, sp_r, Post.seq, Post.block, Nat.reduceEqDiff, reduceIte, Nat.zero_ne_one, Nat.one_ne_zero]
                refine rP_i ?_
                refine Left.plain hnb (by simp [Try.f91, resV, resC, comp]; rfl) rfl rfl ?_
                simp
              | false =>
                replace h := iteF rfl h
                refine AW.cond_false (by simp) ?_
                refine AW.skip ?_
                try simp only [sp_l, sp_r, Post.seq, Post.block, Nat.reduceEqDiff, reduceIte, Nat.zero_ne_one, Nat.one_ne_zero]
                try simp only [sp_l, sp_r, Post.seq, Post.block, Nat.reduceEqDiff, reduceIte, Nat.zero_ne_one, Nat.one_ne_zero]
                replace h := bnE h; obtain ⟨v21, e21, h⟩ := h
                have f22 := segSlh_d e21
                try simp [← e19] at f22
                apply AW.step
                · simp [← e19, f22]
                  intros; rfl
                obtain rfl := Option.some.inj h
                refine AW.ret ?_
                try simp only [sp_l, sp_r, Post.seq, Post.block, Nat.reduceEqDiff, reduceIte, Nat.zero_ne_one, Nat.one_ne_zero]
                refine rP_i ?_
                refine Left.plain hnb (by simp [Try.f91, resV, resC, comp]; rfl) rfl rfl ?_
                simp
            | false =>
              replace h := iteF rfl h
              refine AW.cond_false (by simp) ?_
              refine AW.skip ?_
              try simp only [sp_l, sp_r, Post.seq, Post.block, Nat.reduceEqDiff, reduceIte, Nat.zero_ne_one, Nat.one_ne_zero]
              try simp only [sp_l, sp_r, Post.seq, Post.block, Nat.reduceEqDiff, reduceIte, Nat.zero_ne_one, Nat.one_ne_zero]
              replace h := ltE h; obtain ⟨v23, e23, h⟩ := h
              apply AW.last
              · simp [← e23]
                intros; rfl
              obtain rfl := Option.some.inj h
              refine nP_i ?_
              refine Weak.mixN [] hn0 (by decide) ?_ ?_ rfl
              all_goals first | (simp [inv_cons, inv_nil, pickOb]; done) | rfl
          | false =>
            replace h := iteF rfl h
            refine AW.cond_false (by simp) ?_
            refine AW.exit ?_
            try simp only [sp_l, sp_r, Post.seq, Post.block, Nat.reduceEqDiff, reduceIte, Nat.zero_ne_one, Nat.one_ne_zero]
            obtain rfl := Option.some.inj h
            try simp only [sp_l, sp_r]
            refine xP_i ?_
            refine Weak.mixN [] hn0 (by decide) ?_ ?_ rfl
            all_goals first | (simp [inv_cons, inv_nil, pickOb]; done) | rfl
        · rintro e s hp
          rcases y12 with y24 | y25
          · replace h := smL h
            obtain ⟨rfl, hw⟩ := hp
            refine ⟨_, hw, ?_⟩
            try simp only [sp_l, sp_r, Post.seq, Post.block, Nat.reduceEqDiff, reduceIte, Nat.zero_ne_one, Nat.one_ne_zero]
            apply AW.step
            · simp
              intros; rfl
            obtain rfl := Option.some.inj h
            refine AW.ret ?_
            try simp only [sp_l, sp_r, Post.seq, Post.block, Nat.reduceEqDiff, reduceIte, Nat.zero_ne_one, Nat.one_ne_zero]
            refine rP_i ?_
            refine Left.plain hnb (by simp [Try.f91, resV, resC, comp]; rfl) rfl rfl ?_
            simp
          · replace h := smR h
            obtain ⟨rfl, hl⟩ := hp
            refine ⟨_, Weak.refl _, ?_⟩
            obtain rfl := Option.some.inj h
            first | exact rP_i hl | (simp only [sp_l, sp_r]; exact rP_i hl) | (simp only [sp_l, sp_r, Post.seq, Post.block, Nat.reduceEqDiff, reduceIte, Nat.zero_ne_one, Nat.one_ne_zero]; exact rP_i hl)
    | false =>
      replace h := iteF rfl h
      refine AW.cond_false (by simp) ?_
      refine AW.exit ?_
      try simp only [sp_l, sp_r, Post.seq, Post.block, Nat.reduceEqDiff, reduceIte, Nat.zero_ne_one, Nat.one_ne_zero]
      obtain rfl := Option.some.inj h
      try simp only [sp_l, sp_r]
      refine xP_i ?_
      refine Weak.mixN [] hn0 (by decide) ?_ ?_ rfl
      all_goals first | (simp [inv_cons, inv_nil, pickOb]; done) | rfl
  · rintro e s hp
    rcases y2 with y26 | y27
    · replace h := smL h
      obtain ⟨rfl, hw⟩ := hp
      refine ⟨_, hw, ?_⟩
      try simp only [sp_l, sp_r, Post.seq, Post.block, Nat.reduceEqDiff, reduceIte, Nat.zero_ne_one, Nat.one_ne_zero]
      apply AW.step
      · simp
        intros; rfl
      obtain rfl := Option.some.inj h
      refine AW.ret ?_
      refine Left.plain hnb (by simp [Try.f91, resV, resC, comp]; rfl) rfl rfl ?_
      simp
    · replace h := smR h
      obtain ⟨rfl, hl⟩ := hp
      refine ⟨_, Weak.refl _, ?_⟩
      obtain rfl := Option.some.inj h
      exact hl
theorem en_r1_Tag : Enters Try.prog 91 := enters Try.func91 (by kernel_rfl) rfl
def r1_Crc_sh (n : Nat) (a0 : ByteArray) : Option Int :=
bn (iter n (fun (y1 : Int × Int) =>
lt (lenS a0) fun v4 =>
lt (ltI y1.2 v4) fun v5 =>
ite' v5 (bn (atS a0 y1.2) fun v6 =>
lt (cvI .i64 v6) fun v8 =>
bn (shlI .i64 v8 8) fun v9 =>
lt (xorI .i64 y1.1 v9) fun v10 =>
bn (iter n (fun (y11 : Int × Int) =>
lt (ltI y11.2 8) fun v14 =>
ite' v14 (bn (bn (shlI .i64 y11.1 1) fun v16 =>
lt (geI v16 65536) fun v17 =>
ite' v17 (lt (xorI .i64 v16 4129) fun v18 =>
lt (andI .i64 v18 65535) fun v19 =>
some (v19)) (some (v16))) fun (y15 : Int) =>
lt (addI .i64 y11.2 1) fun v20 =>
some (.inl (y15, v20))) (some (.inr y11.1))) (v10, 0)) fun (y12 : Int) =>
lt (addI .i64 y1.2 1) fun v21 =>
some (.inl (y12, v21))) (some (.inr y1.1))) (0, 0)) fun (y2 : Int) =>
some y2
set_option maxRecDepth 8000 in
set_option maxHeartbeats 8000000 in
theorem s_r1_Crc {n : Nat} {a0 : ByteArray} {r : Int} (h : r1_Crc_sh n a0 = some r) : Sound Try.prog 90 [.l (.s (.string a0))] [] (.l (.s (.int .i64 r))) [] := by
  unfold r1_Crc_sh at h
  refine Sound.of_aw (fn := Try.f90) (c := _) Try.func90 rfl (by simp [Try.f90]) fun cx hG hnb => ?_
  rw [show Try.f90.ntmps = 31 from rfl]
  have hn0 : cx.nb = 0 := hnb
  simp only [st0_mk, initTm, List.map_cons, List.map_nil]
  apply AW.step
  · simp
    intros; rfl
  apply AW.step
  · simp
    intros; rfl
  refine AW.seq ?_
  apply AW.step
  · simp
    intros; rfl
  refine AW.block ?_
  replace h := bnE h; obtain ⟨y2, g2, h⟩ := h
  refine AW.iterP g2 (mk := fun gh ls q => (⟨[(0, .l (.s (.string a0))), (3, .l (.s (.int .i64 q.1))), (4, .l (.s (.int .i64 q.2)))], [], 31, gh, ls⟩ : St)) (N := fun gh ls => (xP 0 (cx := cx) (fun q => (⟨[(3, .l (.s (.int .i64 q)))], [], 31, gh, ls⟩ : St)))) ?_ noX ?_ ?_
  · refine Weak.mixN [] hn0 (by decide) ?_ ?_ rfl
    all_goals first | (simp [inv_cons, inv_nil, pickOb]; done) | rfl
  · clear h; intro y1 y3 h
    refine AW.seq ?_
    replace h := ltE h; obtain ⟨v4, e4, h⟩ := h
    replace h := ltE h; obtain ⟨v5, e5, h⟩ := h
    apply AW.step
    · simp [← e4, ← e5]
      intros; rfl
    cases v5 with
    | true =>
      replace h := iteT rfl h
      refine AW.cond_true (by simp) ?_
      refine AW.skip ?_
      try simp only [sp_l, sp_r, Post.seq, Post.block, Nat.reduceEqDiff, reduceIte, Nat.zero_ne_one, Nat.one_ne_zero]
      try simp only [sp_l, sp_r, Post.seq, Post.block, Nat.reduceEqDiff, reduceIte, Nat.zero_ne_one, Nat.one_ne_zero]
      refine AW.seq ?_
      refine AW.block ?_
      replace h := bnE h; obtain ⟨v6, e6, h⟩ := h
      have f7 := atS_d e6
      try simp at f7
      replace h := ltE h; obtain ⟨v8, e8, h⟩ := h
      replace h := bnE h; obtain ⟨v9, e9, h⟩ := h
      replace h := ltE h; obtain ⟨v10, e10, h⟩ := h
      apply AW.step
      · simp [f7, ← e8, e9, ← e10]
        intros; rfl
      apply AW.step
      · simp
        intros; rfl
      refine AW.block ?_
      replace h := bnE h; obtain ⟨y12, g12, h⟩ := h
      refine AW.iterP g12 (mk := fun gh ls q => (⟨[(0, .l (.s (.string a0))), (3, .l (.s (.int .i64 q.1))), (4, .l (.s (.int .i64 y1.2))), (5, .l (.s (.int .i64 q.2)))], [], 31, gh, ls⟩ : St)) (N := fun gh ls => (xP 2 (cx := cx) (fun q => (⟨[(0, .l (.s (.string a0))), (3, .l (.s (.int .i64 q))), (4, .l (.s (.int .i64 y1.2)))], [], 31, gh, ls⟩ : St)))) ?_ noX ?_ ?_
      · refine Weak.mixN [] hn0 (by decide) ?_ ?_ rfl
        all_goals first | (simp [inv_cons, inv_nil, pickOb]; done) | rfl
      · clear h; intro y11 y13 h
        refine AW.seq ?_
        replace h := ltE h; obtain ⟨v14, e14, h⟩ := h
        apply AW.step
        · simp [← e14]
          intros; rfl
        cases v14 with
        | true =>
          replace h := iteT rfl h
          refine AW.cond_true (by simp) ?_
          refine AW.skip ?_
          try simp only [sp_l, sp_r, Post.seq, Post.block, Nat.reduceEqDiff, reduceIte, Nat.zero_ne_one, Nat.one_ne_zero]
          try simp only [sp_l, sp_r, Post.seq, Post.block, Nat.reduceEqDiff, reduceIte, Nat.zero_ne_one, Nat.one_ne_zero]
          replace h := bnE h; obtain ⟨y15, g15, h⟩ := h
          refine AW.flow (p := fun gh ls => (nP (cx := cx) (fun q => (⟨[(0, .l (.s (.string a0))), (3, .l (.s (.int .i64 q))), (4, .l (.s (.int .i64 y1.2))), (5, .l (.s (.int .i64 y11.2)))], [], 31, gh, ls⟩ : St))) y15) ?_ ?_
          · replace h := g15; clear g15
            refine AW.block ?_
            replace h := bnE h; obtain ⟨v16, e16, h⟩ := h
            apply AW.step
            · simp [e16]
              intros; rfl
            replace h := ltE h; obtain ⟨v17, e17, h⟩ := h
            apply AW.step
            · simp [← e17]
              intros; rfl
            cases v17 with
            | true =>
              replace h := iteT rfl h
              refine AW.cond_true (by simp) ?_
              replace h := ltE h; obtain ⟨v18, e18, h⟩ := h
              replace h := ltE h; obtain ⟨v19, e19, h⟩ := h
              apply AW.last
              · simp [← e18, ← e19]
                intros; rfl
              obtain rfl := Option.some.inj h
              refine nP_i ?_
              refine Weak.mixN [] hn0 (by decide) ?_ ?_ rfl
              all_goals first | (simp [inv_cons, inv_nil, pickOb]; done) | rfl
            | false =>
              replace h := iteF rfl h
              refine AW.cond_false (by simp) ?_
              refine AW.skip ?_
              try simp only [sp_l, sp_r, Post.seq, Post.block, Nat.reduceEqDiff, reduceIte, Nat.zero_ne_one, Nat.one_ne_zero]
              obtain rfl := Option.some.inj h
              refine nP_i ?_
              refine Weak.mixN [] hn0 (by decide) ?_ ?_ rfl
              all_goals first | (simp [inv_cons, inv_nil, pickOb]; done) | rfl
          · rintro e s hp
            obtain ⟨rfl, hw⟩ := hp
            refine ⟨_, hw, ?_⟩
            try simp only [sp_l, sp_r, Post.seq, Post.block, Nat.reduceEqDiff, reduceIte, Nat.zero_ne_one, Nat.one_ne_zero]
            replace h := ltE h; obtain ⟨v20, e20, h⟩ := h
            apply AW.last
            · simp [← e20]
              intros; rfl
            obtain rfl := Option.some.inj h
            refine nP_i ?_
            refine Weak.mixN [] hn0 (by decide) ?_ ?_ rfl
            all_goals first | (simp [inv_cons, inv_nil, pickOb]; done) | rfl
        | false =>
          replace h := iteF rfl h
          refine AW.cond_false (by simp) ?_
          refine AW.exit ?_
          try simp only [sp_l, sp_r, Post.seq, Post.block, Nat.reduceEqDiff, reduceIte, Nat.zero_ne_one, Nat.one_ne_zero]
          obtain rfl := Option.some.inj h
          refine xP_i ?_
          refine Weak.mixN [] hn0 (by decide) ?_ ?_ rfl
          all_goals first | (simp [inv_cons, inv_nil, pickOb]; done) | rfl
      · rintro e s hp
        obtain ⟨rfl, hw⟩ := hp
        refine ⟨_, hw, ?_⟩
        try simp only [sp_l, sp_r, Post.seq, Post.block, Nat.reduceEqDiff, reduceIte, Nat.zero_ne_one, Nat.one_ne_zero]
        replace h := ltE h; obtain ⟨v21, e21, h⟩ := h
        apply AW.last
        · simp [← e21]
          intros; rfl
        obtain rfl := Option.some.inj h
        refine nP_i ?_
        refine Weak.mixN [] hn0 (by decide) ?_ ?_ rfl
        all_goals first | (simp [inv_cons, inv_nil, pickOb]; done) | rfl
    | false =>
      replace h := iteF rfl h
      refine AW.cond_false (by simp) ?_
      refine AW.exit ?_
      try simp only [sp_l, sp_r, Post.seq, Post.block, Nat.reduceEqDiff, reduceIte, Nat.zero_ne_one, Nat.one_ne_zero]
      obtain rfl := Option.some.inj h
      refine xP_i ?_
      refine Weak.mixN [] hn0 (by decide) ?_ ?_ rfl
      all_goals first | (simp [inv_cons, inv_nil, pickOb]; done) | rfl
  · rintro e s hp
    obtain ⟨rfl, hw⟩ := hp
    refine ⟨_, hw, ?_⟩
    try simp only [sp_l, sp_r, Post.seq, Post.block, Nat.reduceEqDiff, reduceIte, Nat.zero_ne_one, Nat.one_ne_zero]
    apply AW.step
    · simp
      intros; rfl
    obtain rfl := Option.some.inj h
    refine AW.ret ?_
    refine Left.plain hnb (by simp [Try.f90, resV, resC, comp]; rfl) rfl rfl ?_
    simp
theorem en_r1_Crc : Enters Try.prog 90 := enters Try.func90 (by kernel_rfl) rfl
def r1_Slot_sh (n : Nat) (a0 : ByteArray) : Option Int :=
bn (r1_Tag_sh n a0) fun v1 =>
bn (r1_Crc_sh n v1) fun v2 =>
bn (remI .i64 v2 16384) fun v3 =>
some v3
set_option maxRecDepth 8000 in
set_option maxHeartbeats 8000000 in
theorem s_r1_Slot {n : Nat} {a0 : ByteArray} {r : Int} (h : r1_Slot_sh n a0 = some r) : Sound Try.prog 52 [.l (.s (.string a0))] [] (.l (.s (.int .i64 r))) [] := by
  unfold r1_Slot_sh at h
  refine Sound.of_aw (fn := Try.f52) (c := _) Try.func52 rfl (by simp [Try.f52]) fun cx hG hnb => ?_
  rw [show Try.f52.ntmps = 7 from rfl]
  have hn0 : cx.nb = 0 := hnb
  simp only [st0_mk, initTm, List.map_cons, List.map_nil]
  apply AW.step
  · simp
    intros; rfl
  replace h := bnE h; obtain ⟨v1, e1, h⟩ := h
  replace h := bnE h; obtain ⟨v2, e2, h⟩ := h
  replace h := bnE h; obtain ⟨v3, e3, h⟩ := h
  apply AW.step
  · simp [e3]
    intros
    refine xcall_plain en_r1_Tag (s_r1_Tag e1) rfl ⟨.same rfl, trivial⟩ ?_
    try simp [e3]
    intros
    refine xcall_plain en_r1_Crc (s_r1_Crc e2) rfl ⟨.same rfl, trivial⟩ ?_
    try simp [e3]
    intros; rfl
  obtain rfl := Option.some.inj h
  refine AW.ret ?_
  refine Left.plain hnb (by simp [Try.f52, resV, resC, comp]; rfl) rfl rfl ?_
  simp
theorem en_r1_Slot : Enters Try.prog 52 := enters Try.func52 (by kernel_rfl) rfl
def r5_In_sh (n : Nat) (a0 : List Pair) (a1 : Int) : Option (List ByteArray) :=
bn (iter n (fun (y1 : Int × List ByteArray) =>
lt (lenI a0) fun v4 =>
lt (ltI y1.1 v4) fun v5 =>
ite' v5 (bn (bn (nth a0 y1.1) fun v7 =>
bn (r1_Slot_sh n v7.key) fun v8 =>
lt (eqI v8 a1) fun v9 =>
ite' v9 (chk (room (y1.2.length + 1) 16) <|
lt (y1.2 ++ [v7.key]) fun v11 =>
some (v11)) (some (y1.2))) fun (y6 : List ByteArray) =>
lt (addI .i64 y1.1 1) fun v12 =>
some (.inl (v12, y6))) (some (.inr y1.2))) (0, [])) fun (y2 : List ByteArray) =>
chk (room y2.length 1) <|
some y2
set_option maxRecDepth 8000 in
set_option maxHeartbeats 8000000 in
theorem s_r5_In {n : Nat} {a0 : List Pair} {a1 : Int} {r : List ByteArray} (h : r5_In_sh n a0 a1 = some r) : Sound Try.prog 65 [.l (.d false 6 (encPair a0)), .l (.s (.int .i64 a1))] [] (.l (.d false 1 (encS r))) [] := by
  unfold r5_In_sh at h
  refine Sound.of_aw (fn := Try.f65) (c := _) Try.func65 rfl (by simp [Try.f65]) fun cx hG hnb => ?_
  rw [show Try.f65.ntmps = 30 from rfl]
  have hn0 : cx.nb = 0 := hnb
  simp only [st0_mk, initTm, List.map_cons, List.map_nil]
  apply AW.step
  · simp
    intros; rfl
  apply AW.step
  · simp
    intros; rfl
  refine AW.seq ?_
  apply AW.step
  · simp
    intros; rfl
  refine AW.block ?_
  replace h := bnE h; obtain ⟨y2, g2, h⟩ := h
  refine AW.iterP g2 (mk := fun gh ls q => (⟨[(0, .l (.d false 6 (encPair a0))), (1, .l (.s (.int .i64 a1))), (5, .l (.r 0 1 0 q.2.length)), (6, .l (.s (.int .i64 q.1)))], [some ⟨9, 1, true, none, lvs (encS q.2)⟩], 30, gh, ls⟩ : St)) (N := fun gh ls => (xP 0 (cx := cx) (fun q => (⟨[(5, .l (.r 0 1 0 q.length))], [some ⟨9, 1, true, none, lvs (encS q)⟩], 30, gh, ls⟩ : St)))) ?_ noX ?_ ?_
  · refine W.nilRow 5 9 1 0 (by simp) rfl rfl ?_
    refine Weak.mixN [some 0] hn0 (by decide) ?_ ?_ rfl
    all_goals first | (simp [inv_cons, inv_nil, pickOb]; done) | rfl
  · clear h; intro y1 y3 h
    refine AW.seq ?_
    replace h := ltE h; obtain ⟨v4, e4, h⟩ := h
    replace h := ltE h; obtain ⟨v5, e5, h⟩ := h
    apply AW.step
    · simp [lenI_cast e4, ← e5]
      intros; rfl
    cases v5 with
    | true =>
      replace h := iteT rfl h
      refine AW.cond_true (by simp) ?_
      refine AW.skip ?_
      try simp only [sp_l, sp_r, Post.seq, Post.block, Nat.reduceEqDiff, reduceIte, Nat.zero_ne_one, Nat.one_ne_zero]
      try simp only [sp_l, sp_r, Post.seq, Post.block, Nat.reduceEqDiff, reduceIte, Nat.zero_ne_one, Nat.one_ne_zero]
      replace h := bnE h; obtain ⟨y6, g6, h⟩ := h
      refine AW.flow (p := fun gh ls => (nP (cx := cx) (fun q => (⟨[(0, .l (.d false 6 (encPair a0))), (1, .l (.s (.int .i64 a1))), (5, .l (.r 0 1 0 q.length)), (6, .l (.s (.int .i64 y1.1)))], [some ⟨9, 1, true, none, lvs (encS q)⟩], 30, gh, ls⟩ : St))) y6) ?_ ?_
      · replace h := g6; clear g6
        refine AW.block ?_
        replace h := bnE h; obtain ⟨v7, e7, h⟩ := h
        replace h := bnE h; obtain ⟨v8, e8, h⟩ := h
        replace h := ltE h; obtain ⟨v9, e9, h⟩ := h
        apply AW.step
        · simp [nth_d e7, ← e9]
          intros
          refine xcall_plain en_r1_Slot (s_r1_Slot e8) rfl ⟨.same rfl, trivial⟩ ?_
          try simp [nth_d e7, ← e9]
          intros; rfl
        cases v9 with
        | true =>
          replace h := iteT rfl h
          refine AW.cond_true (by simp) ?_
          replace h := chkE h; obtain ⟨e10, h⟩ := h
          replace h := ltE h; obtain ⟨v11, e11, h⟩ := h
          apply AW.last
          · simp [nth_d e7, ← encS_append, ← e11, app_len1 e11]
            intros
            refine xrow_own ?_
            try simp [nth_d e7, ← encS_append, ← e11, app_len1 e11]
            intros
            refine xapp_pushN (acc := encS y1.2) (ys := encS [v7.key]) (cap := none) (k := 1) tb_el32 tb_ti9 (by simp) (by simp [encS, lvs]) (encS_sz _) (by simp) (by simp) (by simpa using (room_d e10).1) ?_
            try simp [nth_d e7, ← encS_append, ← e11, app_len1 e11]
            intros; rfl
          obtain rfl := Option.some.inj h
          refine nP_i ?_
          refine Weak.mixN [some 2] hn0 (by decide) ?_ ?_ rfl
          all_goals first | (simp [inv_cons, inv_nil, pickOb, lvs_encS1]; done) | rfl
        | false =>
          replace h := iteF rfl h
          refine AW.cond_false (by simp) ?_
          refine AW.skip ?_
          try simp only [sp_l, sp_r, Post.seq, Post.block, Nat.reduceEqDiff, reduceIte, Nat.zero_ne_one, Nat.one_ne_zero]
          obtain rfl := Option.some.inj h
          refine nP_i ?_
          refine Weak.mixN [some 0] hn0 (by decide) ?_ ?_ rfl
          all_goals first | (simp [inv_cons, inv_nil, pickOb]; done) | rfl
      · rintro e s hp
        obtain ⟨rfl, hw⟩ := hp
        refine ⟨_, hw, ?_⟩
        try simp only [sp_l, sp_r, Post.seq, Post.block, Nat.reduceEqDiff, reduceIte, Nat.zero_ne_one, Nat.one_ne_zero]
        replace h := ltE h; obtain ⟨v12, e12, h⟩ := h
        apply AW.last
        · simp [← e12]
          intros; rfl
        obtain rfl := Option.some.inj h
        refine nP_i ?_
        refine Weak.mixN [some 0] hn0 (by decide) ?_ ?_ rfl
        all_goals first | (simp [inv_cons, inv_nil, pickOb]; done) | rfl
    | false =>
      replace h := iteF rfl h
      refine AW.cond_false (by simp) ?_
      refine AW.exit ?_
      try simp only [sp_l, sp_r, Post.seq, Post.block, Nat.reduceEqDiff, reduceIte, Nat.zero_ne_one, Nat.one_ne_zero]
      obtain rfl := Option.some.inj h
      refine xP_i ?_
      refine Weak.mixN [some 0] hn0 (by decide) ?_ ?_ rfl
      all_goals first | (simp [inv_cons, inv_nil, pickOb]; done) | rfl
  · rintro e s hp
    obtain ⟨rfl, hw⟩ := hp
    refine ⟨_, hw, ?_⟩
    try simp only [sp_l, sp_r, Post.seq, Post.block, Nat.reduceEqDiff, reduceIte, Nat.zero_ne_one, Nat.one_ne_zero]
    apply AW.step
    · simp
      intros; rfl
    replace h := chkE h; obtain ⟨e13, h⟩ := h
    refine AW.frzRow 0 (ty := 9) (cap := none) (sz := 1) (es := encS y2) (by simp) (by omega) (encS_sz _) (by first | exact (room_d e13).2 | simpa using (room_d e13).2 | simp) (by simp [Tm.frz, AV.frz, LV.frz]; rfl) (by simp [Ob.frz, LV.frz]; rfl) rfl ?_
    obtain rfl := Option.some.inj h
    refine AW.ret ?_
    refine Left.plain hnb (by simp [Try.f65, resV, resC, comp]; rfl) rfl rfl ?_
    simp
theorem en_r5_In : Enters Try.prog 65 := enters Try.func65 (by kernel_rfl) rfl
def r5_All_sh (n : Nat) (a0 : List Pair) : Option (List Effect) :=
bn (iter n (fun (y1 : Int × List Effect) =>
lt (lenI a0) fun v4 =>
lt (ltI y1.1 v4) fun v5 =>
ite' v5 (bn (nth a0 y1.1) fun v6 =>
chk (room (y1.2.length + 1) 104) <|
lt (y1.2 ++ [(⟨v6.key, false, v6.item⟩ : Effect)]) fun v8 =>
lt (addI .i64 y1.1 1) fun v9 =>
some (.inl (v9, v8))) (some (.inr y1.2))) (0, [])) fun (y2 : List Effect) =>
chk (room y2.length 1) <|
some y2
set_option maxRecDepth 8000 in
set_option maxHeartbeats 8000000 in
theorem s_r5_All {n : Nat} {a0 : List Pair} {r : List Effect} (h : r5_All_sh n a0 = some r) : Sound Try.prog 67 [.l (.d false 6 (encPair a0))] [] (.l (.d false 7 (encEffect r))) [] := by
  unfold r5_All_sh at h
  refine Sound.of_aw (fn := Try.f67) (c := _) Try.func67 rfl (by simp [Try.f67]) fun cx hG hnb => ?_
  rw [show Try.f67.ntmps = 26 from rfl]
  have hn0 : cx.nb = 0 := hnb
  simp only [st0_mk, initTm, List.map_cons, List.map_nil]
  apply AW.step
  · simp
    intros; rfl
  apply AW.step
  · simp
    intros; rfl
  refine AW.seq ?_
  apply AW.step
  · simp
    intros; rfl
  refine AW.block ?_
  replace h := bnE h; obtain ⟨y2, g2, h⟩ := h
  refine AW.iterP g2 (mk := fun gh ls q => (⟨[(0, .l (.d false 6 (encPair a0))), (3, .l (.r 0 7 0 q.2.length)), (4, .l (.s (.int .i64 q.1)))], [some ⟨36, 7, true, none, lvs (encEffect q.2)⟩], 26, gh, ls⟩ : St)) (N := fun gh ls => (xP 0 (cx := cx) (fun q => (⟨[(3, .l (.r 0 7 0 q.length))], [some ⟨36, 7, true, none, lvs (encEffect q)⟩], 26, gh, ls⟩ : St)))) ?_ noX ?_ ?_
  · refine W.nilRow 3 36 7 0 (by simp) rfl rfl ?_
    refine Weak.mixN [some 0] hn0 (by decide) ?_ ?_ rfl
    all_goals first | (simp [inv_cons, inv_nil, pickOb]; done) | rfl
  · clear h; intro y1 y3 h
    refine AW.seq ?_
    replace h := ltE h; obtain ⟨v4, e4, h⟩ := h
    replace h := ltE h; obtain ⟨v5, e5, h⟩ := h
    apply AW.step
    · simp [lenI_cast e4, ← e5]
      intros; rfl
    cases v5 with
    | true =>
      replace h := iteT rfl h
      refine AW.cond_true (by simp) ?_
      refine AW.skip ?_
      try simp only [sp_l, sp_r, Post.seq, Post.block, Nat.reduceEqDiff, reduceIte, Nat.zero_ne_one, Nat.one_ne_zero]
      try simp only [sp_l, sp_r, Post.seq, Post.block, Nat.reduceEqDiff, reduceIte, Nat.zero_ne_one, Nat.one_ne_zero]
      refine AW.seq ?_
      refine AW.block ?_
      replace h := bnE h; obtain ⟨v6, e6, h⟩ := h
      replace h := chkE h; obtain ⟨e7, h⟩ := h
      replace h := ltE h; obtain ⟨v8, e8, h⟩ := h
      apply AW.drawnF (V := [_, _, _, _, _, _, _, _, _, _, _, _, _]) (M := [[some ⟨36, 7, true, none, lvs (encEffect y1.2)⟩], [some ⟨36, 7, true, none, lvs (encEffect y1.2)⟩, some ⟨36, 7, true, none, [.s (.string v6.key), .s (.bool false), .s (.int .i64 v6.item.kind), .s (.string v6.item.s), .d false 2 (encField v6.item.f), .d false 1 (encS v6.item.l), .s (.int .i64 v6.item.exp)]⟩]]) mixed [⟨[0, 1], [], [(3, none)], false⟩, ⟨[0], [], [(0, none)], false⟩, ⟨[0], [], [(4, none)], false⟩, ⟨[0], [1, 2], [(12, some 1), (13, some 2)], false⟩, ⟨[0], [1, 2, 3], [(14, some 3)], false⟩, ⟨[0], [1, 2, 3, 4], [(15, some 4)], false⟩, ⟨[0], [], [(0, none)], false⟩, ⟨[0], [], [(4, none)], false⟩, ⟨[0], [6, 7], [(17, some 6), (18, some 7)], false⟩, ⟨[0], [6, 7, 8], [(19, some 8)], false⟩, ⟨[0], [6, 7, 8, 9], [(20, some 9)], false⟩, ⟨[0], [1, 2, 3, 4, 5, 6, 7, 8, 9, 10], [(16, some 5), (21, some 10)], false⟩, ⟨[0], [1, 2, 3, 4, 5, 6, 7, 8, 9, 10, 11], [(22, some 11)], true⟩, ⟨[], [0, 1, 2, 3, 4, 5, 6, 7, 8, 9, 10, 11, 12], [], false⟩, ⟨[], [0, 1, 2, 3, 4, 5, 6, 7, 8, 9, 10, 11, 12, 13], [], false⟩] 13 1 (by kernel_rfl) (by kernel_rfl)
      · rfl
      · refine ⟨⟨?_, ?_⟩, ?_, ?_, ?_, ?_, ?_, ?_, ?_, ?_, ?_, ?_, ?_, ?_, trivial⟩
        · intro tm hr
          simp [AllL, rdV] at hr
          simp [hr, nth_d e6, ← encEffect_append, ← e8, app_len1 e8]
          intros; first | exact KD.mk | exact KD.mkN
        · intro tm hr
          simp [AllL, rdV] at hr
          simp [hr, nth_d e6, ← encEffect_append, ← e8, app_len1 e8]
          intros; first | exact KD.mk | exact KD.mkN
        · intro tm hr
          simp [AllL, rdV] at hr
          simp [hr, nth_d e6, ← encEffect_append, ← e8, app_len1 e8]
          intros; first | exact KD.mk | exact KD.mkN
        · intro tm hr
          simp [AllL, rdV] at hr
          simp [hr, nth_d e6, ← encEffect_append, ← e8, app_len1 e8]
          intros; first | exact KD.mk | exact KD.mkN
        · intro tm hr
          simp [AllL, rdV] at hr
          simp [hr, nth_d e6, ← encEffect_append, ← e8, app_len1 e8]
          intros; first | exact KD.mk | exact KD.mkN
        · intro tm hr
          simp [AllL, rdV] at hr
          simp [hr, nth_d e6, ← encEffect_append, ← e8, app_len1 e8]
          intros; first | exact KD.mk | exact KD.mkN
        · intro tm hr
          simp [AllL, rdV] at hr
          simp [hr, nth_d e6, ← encEffect_append, ← e8, app_len1 e8]
          intros; first | exact KD.mk | exact KD.mkN
        · intro tm hr
          simp [AllL, rdV] at hr
          simp [hr, nth_d e6, ← encEffect_append, ← e8, app_len1 e8]
          intros; first | exact KD.mk | exact KD.mkN
        · intro tm hr
          simp [AllL, rdV] at hr
          simp [hr, nth_d e6, ← encEffect_append, ← e8, app_len1 e8]
          intros; first | exact KD.mk | exact KD.mkN
        · intro tm hr
          simp [AllL, rdV] at hr
          simp [hr, nth_d e6, ← encEffect_append, ← e8, app_len1 e8]
          intros; first | exact KD.mk | exact KD.mkN
        · intro tm hr
          simp [AllL, rdV] at hr
          simp [hr, nth_d e6, ← encEffect_append, ← e8, app_len1 e8]
          intros; first | exact KD.mk | exact KD.mkN
        · intro tm hr
          simp [AllL, rdV] at hr
          simp [hr, nth_d e6, ← encEffect_append, ← e8, app_len1 e8]
          intros; first | exact KD.mk | exact KD.mkN
        · intro tm hr
          simp [AllL, rdV] at hr
          simp [hr, nth_d e6, ← encEffect_append, ← e8, app_len1 e8]
          intros; first | exact KD.mk | exact KD.mkN
        · intro tm hr
          simp [AllL, rdV] at hr
          simp [hr, nth_d e6, ← encEffect_append, ← e8, app_len1 e8]
          intros
          refine xrow_own ?_
          try simp [nth_d e6, ← encEffect_append, ← e8, app_len1 e8]
          intros; first | exact KD.mk | exact KD.mkN
      · rfl
      · simp [tmD, putD, nth_d e6, ← encEffect_append, ← e8, app_len1 e8]; rfl
      · simp [nth_d e6, ← encEffect_append, ← e8, app_len1 e8]
        intros
        refine xapp_pushN (acc := encEffect y1.2) (ys := encEffect [(⟨v6.key, false, v6.item⟩ : Effect)]) (cap := none) (k := 1) tb_el24 tb_ti36 (by simp) (by simp [encEffect, lvs]) (encEffect_sz _) (by simp) (by simp) (by simpa using (room_d e7).1) ?_
        try simp [nth_d e6, ← encEffect_append, ← e8, app_len1 e8]
        intros; rfl
      try simp only [sp_l, sp_r, Post.seq, Post.block, Nat.reduceEqDiff, reduceIte, Nat.zero_ne_one, Nat.one_ne_zero]
      replace h := ltE h; obtain ⟨v9, e9, h⟩ := h
      apply AW.last
      · simp [← e9]
        intros; rfl
      obtain rfl := Option.some.inj h
      refine nP_i ?_
      refine Weak.mixN [some 2] hn0 (by decide) ?_ ?_ rfl
      all_goals first | (simp [inv_cons, inv_nil, pickOb, lvs_encEffect1]; done) | rfl
    | false =>
      replace h := iteF rfl h
      refine AW.cond_false (by simp) ?_
      refine AW.exit ?_
      try simp only [sp_l, sp_r, Post.seq, Post.block, Nat.reduceEqDiff, reduceIte, Nat.zero_ne_one, Nat.one_ne_zero]
      obtain rfl := Option.some.inj h
      refine xP_i ?_
      refine Weak.mixN [some 0] hn0 (by decide) ?_ ?_ rfl
      all_goals first | (simp [inv_cons, inv_nil, pickOb]; done) | rfl
  · rintro e s hp
    obtain ⟨rfl, hw⟩ := hp
    refine ⟨_, hw, ?_⟩
    try simp only [sp_l, sp_r, Post.seq, Post.block, Nat.reduceEqDiff, reduceIte, Nat.zero_ne_one, Nat.one_ne_zero]
    apply AW.step
    · simp
      intros; rfl
    replace h := chkE h; obtain ⟨e10, h⟩ := h
    refine AW.frzRow 0 (ty := 36) (cap := none) (sz := 7) (es := encEffect y2) (by simp) (by omega) (encEffect_sz _) (by first | exact (room_d e10).2 | simpa using (room_d e10).2 | simp) (by simp [Tm.frz, AV.frz, LV.frz]; rfl) (by simp [Ob.frz, LV.frz]; rfl) rfl ?_
    obtain rfl := Option.some.inj h
    refine AW.ret ?_
    refine Left.plain hnb (by simp [Try.f67, resV, resC, comp]; rfl) rfl rfl ?_
    simp
theorem en_r5_All : Enters Try.prog 67 := enters Try.func67 (by kernel_rfl) rfl
def r13_Add_sh (n : Nat) (a0 : Feed) (a1 : List Effect) : Option Feed :=
chk (room a0.back.length 104) <|
chk (room (a0.back.length + a1.length) 104) <|
lt (a0.back ++ a1) fun v3 =>
lt (lenI a1) fun v4 =>
lt (addI .i64 a0.off v4) fun v5 =>
chk (room v3.length 1) <|
lt (lenI v3) fun v7 =>
lt (subI .i64 v7 64) fun v8 =>
lt (maxI 0 v8) fun v9 =>
bn (segl v3 v9) fun v10 =>
some (⟨a0.rid, v5, v10, a0.prev, a0.upto⟩ : Feed)
set_option maxRecDepth 8000 in
set_option maxHeartbeats 8000000 in
theorem s_r13_Add {n : Nat} {a0 : Feed} {a1 : List Effect} {r : Feed} (h : r13_Add_sh n a0 a1 = some r) : Sound Try.prog 49 [.g [.s (.int .i64 a0.rid.node), .s (.int .i64 a0.rid.epoch), .s (.int .i64 a0.off), .d false 7 (encEffect a0.back), .s (.int .i64 a0.prev.node), .s (.int .i64 a0.prev.epoch), .s (.int .i64 a0.upto)], .l (.d false 7 (encEffect a1))] [] (.g [.s (.int .i64 r.rid.node), .s (.int .i64 r.rid.epoch), .s (.int .i64 r.off), .d false 7 (encEffect r.back), .s (.int .i64 r.prev.node), .s (.int .i64 r.prev.epoch), .s (.int .i64 r.upto)]) [] := by
  unfold r13_Add_sh at h
  refine Sound.of_aw (fn := Try.f49) (c := _) Try.func49 rfl (by simp [Try.f49]) fun cx hG hnb => ?_
  rw [show Try.f49.ntmps = 27 from rfl]
  have hn0 : cx.nb = 0 := hnb
  simp only [st0_mk, initTm, List.map_cons, List.map_nil]
  apply AW.step
  · simp
    intros; rfl
  replace h := chkE h; obtain ⟨e1, h⟩ := h
  apply AW.step
  · simp
    intros
    refine xrow_own ?_
    try simp
    intros
    refine xapp_pushN (acc := []) (ys := encEffect a0.back) (cap := none) (k := a0.back.length) tb_el24 tb_ti36 (by simp) (by rw [src_d]; simp) (by simp) (by simp) (by simp) (by simpa using (room_d e1).1) ?_
    try simp
    intros; rfl
  replace h := chkE h; obtain ⟨e2, h⟩ := h
  replace h := ltE h; obtain ⟨v3, e3, h⟩ := h
  apply AW.step
  · simp [← encEffect_append, ← e3, app_len e3]
    intros
    refine xapp_pushN (acc := encEffect a0.back) (ys := encEffect a1) (cap := none) (k := a1.length) tb_el24 tb_ti36 (by simp) (by rw [src_d]; simp) (encEffect_sz _) (by simp) (by simp) (by simpa using (room_d e2).1) ?_
    try simp [← encEffect_append, ← e3, app_len e3]
    intros; rfl
  replace h := ltE h; obtain ⟨v4, e4, h⟩ := h
  replace h := ltE h; obtain ⟨v5, e5, h⟩ := h
  apply AW.step
  · simp [lenI_cast e4, ← e5]
    intros; rfl
  replace h := chkE h; obtain ⟨e6, h⟩ := h
  refine AW.frzRow 4 (ty := 36) (cap := none) (sz := 7) (es := encEffect v3) (by simp) (by omega) (encEffect_sz _) (by first | exact (room_d e6).2 | simpa using (room_d e6).2 | simp) (by simp [Tm.frz, AV.frz, LV.frz]; rfl) (by simp [Ob.frz, LV.frz]; rfl) rfl ?_
  replace h := ltE h; obtain ⟨v7, e7, h⟩ := h
  replace h := ltE h; obtain ⟨v8, e8, h⟩ := h
  replace h := ltE h; obtain ⟨v9, e9, h⟩ := h
  replace h := bnE h; obtain ⟨v10, e10, h⟩ := h
  have f11 := encEffect_segl e10
  try simp [lenI_cast e7, ← e8, ← e9] at f11
  apply AW.step
  · simp [lenI_cast e7, ← e8, ← e9, f11]
    intros; rfl
  apply AW.step
  · simp
    intros; rfl
  obtain rfl := Option.some.inj h
  refine AW.ret ?_
  refine Left.plain hnb (by simp [Try.f49, resV, resC, comp]; rfl) rfl rfl ?_
  simp
theorem en_r13_Add : Enters Try.prog 49 := enters Try.func49 (by kernel_rfl) rfl
def r13_Answer_sh (n : Nat) (a0 : Feed) (a1 : List Pair) (a2 : Rid) (a3 : Int) : Option Msg :=
lt (lenI a0.back) fun v1 =>
lt (subI .i64 a0.off v1) fun v2 =>
bn (lt (andB (eqI a2.node a0.rid.node) (andB (eqI a2.epoch a0.rid.epoch) true)) fun v4 =>
ite' v4 (lt (geI a3 v2) fun v5 =>
ite' v5 (lt (leI a3 a0.off) fun v6 =>
some (v6)) (some (false))) (lt (andB (eqI a2.node a0.prev.node) (andB (eqI a2.epoch a0.prev.epoch) true)) fun v7 =>
ite' v7 (lt (leI a3 a0.upto) fun v8 =>
ite' v8 (lt (geI a3 v2) fun v9 =>
ite' v9 (lt (leI a3 a0.off) fun v10 =>
some (v10)) (some (false))) (some (false))) (some (false)))) fun (y3 : Bool) =>
lt (y3) fun v11 =>
ite' v11 (lt (subI .i64 a3 v2) fun v12 =>
bn (segl a0.back v12) fun v13 =>
lt (lenI v13) fun v15 =>
lt (minI v15 16) fun v16 =>
bn (segh v13 v16) fun v17 =>
chk (room v17.length 104) <|
chk (room v17.length 1) <|
some (⟨5, 0, 0, 0, [], [], 0, 0, 0, a0.rid, a2, a3, v17⟩ : Msg)) (bn (r5_All_sh n a1) fun v21 =>
some (⟨6, 0, 0, 0, [], [], 0, 0, 0, a0.rid, (⟨0, 0⟩ : Rid), a0.off, v21⟩ : Msg))
set_option maxRecDepth 8000 in
set_option maxHeartbeats 8000000 in
theorem s_r13_Answer {n : Nat} {a0 : Feed} {a1 : List Pair} {a2 : Rid} {a3 : Int} {r : Msg} (h : r13_Answer_sh n a0 a1 a2 a3 = some r) : Sound Try.prog 37 [.g [.s (.int .i64 a0.rid.node), .s (.int .i64 a0.rid.epoch), .s (.int .i64 a0.off), .d false 7 (encEffect a0.back), .s (.int .i64 a0.prev.node), .s (.int .i64 a0.prev.epoch), .s (.int .i64 a0.upto)], .l (.d false 6 (encPair a1)), .g [.s (.int .i64 a2.node), .s (.int .i64 a2.epoch)], .l (.s (.int .i64 a3))] [] (.g [.s (.int .i64 r.kind), .s (.int .i64 r.frm), .s (.int .i64 r.to), .s (.int .i64 r.epoch), .d false 4 (encClaim r.claims), .d false 1 (encI r.nodes), .s (.int .i64 r.node), .s (.int .i64 r.slot), .s (.int .i64 r.num), .s (.int .i64 r.rid.node), .s (.int .i64 r.rid.epoch), .s (.int .i64 r.prev.node), .s (.int .i64 r.prev.epoch), .s (.int .i64 r.off), .d false 7 (encEffect r.effects)]) [] := by
  unfold r13_Answer_sh at h
  refine Sound.of_aw (fn := Try.f37) (c := _) Try.func37 rfl (by simp [Try.f37]) fun cx hG hnb => ?_
  rw [show Try.f37.ntmps = 69 from rfl]
  have hn0 : cx.nb = 0 := hnb
  simp only [st0_mk, initTm, List.map_cons, List.map_nil]
  apply AW.step
  · simp
    intros; rfl
  replace h := ltE h; obtain ⟨v1, e1, h⟩ := h
  replace h := ltE h; obtain ⟨v2, e2, h⟩ := h
  apply AW.step
  · simp [lenI_cast e1, ← e2]
    intros; rfl
  refine AW.seq ?_
  replace h := bnE h; obtain ⟨y3, g3, h⟩ := h
  refine AW.flow (p := fun gh ls => (nP (cx := cx) (fun q => (⟨[(1, .l (.d false 6 (encPair a1))), (3, .l (.s (.int .i64 a3))), (4, .l (.p 0 0)), (6, .l (.p 1 0)), (8, .l (.p 2 0)), (9, .l (.s (.int .i64 v2))), (43, .l (.s (.bool q)))], [some ⟨29, 7, false, none, [.s (.int .i64 a0.rid.node), .s (.int .i64 a0.rid.epoch), .s (.int .i64 a0.off), .d false 7 (encEffect a0.back), .s (.int .i64 a0.prev.node), .s (.int .i64 a0.prev.epoch), .s (.int .i64 a0.upto)]⟩, some ⟨27, 2, false, none, [.s (.int .i64 a2.node), .s (.int .i64 a2.epoch)]⟩, some ⟨62, 15, false, none, [.s (.int .i64 0), .s (.int .i64 0), .s (.int .i64 0), .s (.int .i64 0), .s (.slice none 0 0), .s (.slice none 0 0), .s (.int .i64 0), .s (.int .i64 0), .s (.int .i64 0), .s (.int .i64 0), .s (.int .i64 0), .s (.int .i64 0), .s (.int .i64 0), .s (.int .i64 0), .s (.slice none 0 0)]⟩], 69, gh, ls⟩ : St))) y3) ?_ ?_
  · replace h := g3; clear g3
    replace h := ltE h; obtain ⟨v4, e4, h⟩ := h
    cases v4 with
    | true =>
      replace h := iteT rfl h
      replace h := ltE h; obtain ⟨v5, e5, h⟩ := h
      cases v5 with
      | true =>
        replace h := iteT rfl h
        replace h := ltE h; obtain ⟨v6, e6, h⟩ := h
        apply AW.last
        · simp [← e4, ← e5, ← e6]
          intros; rfl
        obtain rfl := Option.some.inj h
        refine nP_i ?_
        refine Weak.mixN [some 0, some 1, some 2] hn0 (by decide) ?_ ?_ rfl
        all_goals first | (simp [inv_cons, inv_nil, pickOb]; done) | rfl
      | false =>
        replace h := iteF rfl h
        apply AW.last
        · simp [← e4, ← e5]
          intros; rfl
        obtain rfl := Option.some.inj h
        refine nP_i ?_
        refine Weak.mixN [some 0, some 1, some 2] hn0 (by decide) ?_ ?_ rfl
        all_goals first | (simp [inv_cons, inv_nil, pickOb]; done) | rfl
    | false =>
      replace h := iteF rfl h
      replace h := ltE h; obtain ⟨v7, e7, h⟩ := h
      cases v7 with
      | true =>
        replace h := iteT rfl h
        replace h := ltE h; obtain ⟨v8, e8, h⟩ := h
        cases v8 with
        | true =>
          replace h := iteT rfl h
          replace h := ltE h; obtain ⟨v9, e9, h⟩ := h
          cases v9 with
          | true =>
            replace h := iteT rfl h
            replace h := ltE h; obtain ⟨v10, e10, h⟩ := h
            apply AW.last
            · simp [← e4, ← e7, ← e8, ← e9, ← e10]
              intros; rfl
            obtain rfl := Option.some.inj h
            refine nP_i ?_
            refine Weak.mixN [some 0, some 1, some 2] hn0 (by decide) ?_ ?_ rfl
            all_goals first | (simp [inv_cons, inv_nil, pickOb]; done) | rfl
          | false =>
            replace h := iteF rfl h
            apply AW.last
            · simp [← e4, ← e7, ← e8, ← e9]
              intros; rfl
            obtain rfl := Option.some.inj h
            refine nP_i ?_
            refine Weak.mixN [some 0, some 1, some 2] hn0 (by decide) ?_ ?_ rfl
            all_goals first | (simp [inv_cons, inv_nil, pickOb]; done) | rfl
        | false =>
          replace h := iteF rfl h
          apply AW.last
          · simp [← e4, ← e7, ← e8]
            intros; rfl
          obtain rfl := Option.some.inj h
          refine nP_i ?_
          refine Weak.mixN [some 0, some 1, some 2] hn0 (by decide) ?_ ?_ rfl
          all_goals first | (simp [inv_cons, inv_nil, pickOb]; done) | rfl
      | false =>
        replace h := iteF rfl h
        apply AW.last
        · simp [← e4, ← e7]
          intros; rfl
        obtain rfl := Option.some.inj h
        refine nP_i ?_
        refine Weak.mixN [some 0, some 1, some 2] hn0 (by decide) ?_ ?_ rfl
        all_goals first | (simp [inv_cons, inv_nil, pickOb]; done) | rfl
  · rintro e s hp
    obtain ⟨rfl, hw⟩ := hp
    refine ⟨_, hw, ?_⟩
    try simp only [sp_l, sp_r, Post.seq, Post.block, Nat.reduceEqDiff, reduceIte, Nat.zero_ne_one, Nat.one_ne_zero]
    replace h := ltE h; obtain ⟨v11, e11, h⟩ := h
    rw [← e11]
    cases v11 with
    | true =>
      replace h := iteT rfl h
      refine AW.cond_true (by simp) ?_
      replace h := ltE h; obtain ⟨v12, e12, h⟩ := h
      replace h := bnE h; obtain ⟨v13, e13, h⟩ := h
      have f14 := encEffect_segl e13
      try simp [← e12] at f14
      apply AW.step
      · simp [← e12, f14]
        intros; rfl
      replace h := ltE h; obtain ⟨v15, e15, h⟩ := h
      replace h := ltE h; obtain ⟨v16, e16, h⟩ := h
      replace h := bnE h; obtain ⟨v17, e17, h⟩ := h
      have f18 := encEffect_segh e17
      try simp [lenI_cast e15, ← e16] at f18
      replace h := chkE h; obtain ⟨e19, h⟩ := h
      apply AW.drawnE (V := [_, _, _, _, _, _, _, _, _, _, _]) (M := [[some ⟨29, 7, false, none, [.s (.int .i64 a0.rid.node), .s (.int .i64 a0.rid.epoch), .s (.int .i64 a0.off), .d false 7 (encEffect a0.back), .s (.int .i64 a0.prev.node), .s (.int .i64 a0.prev.epoch), .s (.int .i64 a0.upto)]⟩, some ⟨27, 2, false, none, [.s (.int .i64 a2.node), .s (.int .i64 a2.epoch)]⟩, some ⟨62, 15, false, none, [.s (.int .i64 0), .s (.int .i64 0), .s (.int .i64 0), .s (.int .i64 0), .s (.slice none 0 0), .s (.slice none 0 0), .s (.int .i64 0), .s (.int .i64 0), .s (.int .i64 0), .s (.int .i64 0), .s (.int .i64 0), .s (.int .i64 0), .s (.int .i64 0), .s (.int .i64 0), .s (.slice none 0 0)]⟩], [some ⟨29, 7, false, none, [.s (.int .i64 a0.rid.node), .s (.int .i64 a0.rid.epoch), .s (.int .i64 a0.off), .d false 7 (encEffect a0.back), .s (.int .i64 a0.prev.node), .s (.int .i64 a0.prev.epoch), .s (.int .i64 a0.upto)]⟩, some ⟨27, 2, false, none, [.s (.int .i64 a2.node), .s (.int .i64 a2.epoch)]⟩, some ⟨62, 15, false, none, [.s (.int .i64 0), .s (.int .i64 0), .s (.int .i64 0), .s (.int .i64 0), .s (.slice none 0 0), .s (.slice none 0 0), .s (.int .i64 0), .s (.int .i64 0), .s (.int .i64 0), .s (.int .i64 0), .s (.int .i64 0), .s (.int .i64 0), .s (.int .i64 0), .s (.int .i64 0), .s (.slice none 0 0)]⟩, some ⟨36, 7, true, none, []⟩], [some ⟨29, 7, false, none, [.s (.int .i64 a0.rid.node), .s (.int .i64 a0.rid.epoch), .s (.int .i64 a0.off), .d false 7 (encEffect a0.back), .s (.int .i64 a0.prev.node), .s (.int .i64 a0.prev.epoch), .s (.int .i64 a0.upto)]⟩, some ⟨27, 2, false, none, [.s (.int .i64 a2.node), .s (.int .i64 a2.epoch)]⟩, some ⟨62, 15, false, none, [.s (.int .i64 0), .s (.int .i64 0), .s (.int .i64 0), .s (.int .i64 0), .s (.slice none 0 0), .s (.slice none 0 0), .s (.int .i64 0), .s (.int .i64 0), .s (.int .i64 0), .s (.int .i64 0), .s (.int .i64 0), .s (.int .i64 0), .s (.int .i64 0), .s (.int .i64 0), .s (.slice none 0 0)]⟩, none, some ⟨36, 7, true, none, lvs (encEffect v17)⟩]]) mixed [⟨[0, 1, 2], [], [(4, none)], false⟩, ⟨[0, 1, 2], [0], [(50, some 0)], false⟩, ⟨[0, 1, 2], [], [(6, none)], false⟩, ⟨[0, 1, 2], [], [(3, none)], false⟩, ⟨[0], [], [], true⟩, ⟨[0, 1], [], [(10, none)], false⟩, ⟨[0, 1], [], [(10, none)], false⟩, ⟨[0, 1], [6], [(56, some 6)], false⟩, ⟨[0, 1], [6, 7], [(57, some 7)], false⟩, ⟨[0, 1], [5, 6, 7, 8], [(55, some 5), (58, some 8)], false⟩, ⟨[1], [4, 5, 6, 7, 8, 9], [(54, some 4), (59, some 9)], true⟩, ⟨[], [0, 1, 2, 3, 4, 5, 6, 7, 8, 9, 10], [], false⟩, ⟨[], [0, 1, 2, 3, 4, 5, 6, 7, 8, 9, 10, 11], [], false⟩] 11 2 (by kernel_rfl) (by kernel_rfl)
      · rfl
      · refine ⟨⟨?_, ?_, ?_⟩, ⟨?_, ?_, ?_⟩, ⟨?_, ?_, ?_⟩, ⟨?_, ?_, ?_⟩, ?_, ⟨?_, ?_⟩, ⟨?_, ?_⟩, ⟨?_, ?_⟩, ⟨?_, ?_⟩, ⟨?_, ?_⟩, ?_, trivial⟩
        · intro tm hr
          simp [AllL, rdV] at hr
          simp [hr, lenI_cast e15, ← e16, f18]
          intros; first | exact KD.mk | exact KD.mkN
        · intro tm hr
          simp [AllL, rdV] at hr
          simp [hr, lenI_cast e15, ← e16, f18]
          intros; first | exact KD.mk | exact KD.mkN
        · intro tm hr
          simp [AllL, rdV] at hr
          simp [hr, lenI_cast e15, ← e16, f18]
          intros; first | exact KD.mk | exact KD.mkN
        · intro tm hr
          simp [AllL, rdV] at hr
          simp [hr, lenI_cast e15, ← e16, f18]
          intros; first | exact KD.mk | exact KD.mkN
        · intro tm hr
          simp [AllL, rdV] at hr
          simp [hr, lenI_cast e15, ← e16, f18]
          intros; first | exact KD.mk | exact KD.mkN
        · intro tm hr
          simp [AllL, rdV] at hr
          simp [hr, lenI_cast e15, ← e16, f18]
          intros; first | exact KD.mk | exact KD.mkN
        · intro tm hr
          simp [AllL, rdV] at hr
          simp [hr, lenI_cast e15, ← e16, f18]
          intros; first | exact KD.mk | exact KD.mkN
        · intro tm hr
          simp [AllL, rdV] at hr
          simp [hr, lenI_cast e15, ← e16, f18]
          intros; first | exact KD.mk | exact KD.mkN
        · intro tm hr
          simp [AllL, rdV] at hr
          simp [hr, lenI_cast e15, ← e16, f18]
          intros; first | exact KD.mk | exact KD.mkN
        · intro tm hr
          simp [AllL, rdV] at hr
          simp [hr, lenI_cast e15, ← e16, f18]
          intros; first | exact KD.mk | exact KD.mkN
        · intro tm hr
          simp [AllL, rdV] at hr
          simp [hr, lenI_cast e15, ← e16, f18]
          intros; first | exact KD.mk | exact KD.mkN
        · intro tm hr
          simp [AllL, rdV] at hr
          simp [hr, lenI_cast e15, ← e16, f18]
          intros; first | exact KD.mk | exact KD.mkN
        · intro tm hr
          simp [AllL, rdV] at hr
          simp [hr, lenI_cast e15, ← e16, f18]
          intros
          refine xrow_own ?_
          try simp [lenI_cast e15, ← e16, f18]
          intros; first | exact KD.mk | exact KD.mkN
        · intro tm hr
          simp [AllL, rdV] at hr
          simp [hr, lenI_cast e15, ← e16, f18]
          intros; first | exact KD.mk | exact KD.mkN
        · intro tm hr
          simp [AllL, rdV] at hr
          simp [hr, lenI_cast e15, ← e16, f18]
          intros; first | exact KD.mk | exact KD.mkN
        · intro tm hr
          simp [AllL, rdV] at hr
          simp [hr, lenI_cast e15, ← e16, f18]
          intros; first | exact KD.mk | exact KD.mkN
        · intro tm hr
          simp [AllL, rdV] at hr
          simp [hr, lenI_cast e15, ← e16, f18]
          intros; first | exact KD.mk | exact KD.mkN
        · intro tm hr
          simp [AllL, rdV] at hr
          simp [hr, lenI_cast e15, ← e16, f18]
          intros; first | exact KD.mk | exact KD.mkN
        · intro tm hr
          simp [AllL, rdV] at hr
          simp [hr, lenI_cast e15, ← e16, f18]
          intros; first | exact KD.mk | exact KD.mkN
        · intro tm hr
          simp [AllL, rdV] at hr
          simp [hr, lenI_cast e15, ← e16, f18]
          intros; first | exact KD.mk | exact KD.mkN
        · intro tm hr
          simp [AllL, rdV] at hr
          simp [hr, lenI_cast e15, ← e16, f18]
          intros; first | exact KD.mk | exact KD.mkN
        · intro tm hr
          simp [AllL, rdV] at hr
          simp [hr, lenI_cast e15, ← e16, f18]
          intros; first | exact KD.mk | exact KD.mkN
        · intro tm hr
          simp [AllL, rdV] at hr
          simp [hr, lenI_cast e15, ← e16, f18]
          intros; first | exact KD.mk | exact KD.mkN
        · intro tm hr
          simp [AllL, rdV] at hr
          simp [hr, lenI_cast e15, ← e16, f18]
          intros
          refine xapp_pushN (acc := []) (ys := encEffect v17) (cap := none) (k := v17.length) tb_el24 tb_ti36 (by simp) (by rw [src_d]; simp) (by simp) (by simp) (by simp) (by simpa using (room_d e19).1) ?_
          try simp [lenI_cast e15, ← e16, f18]
          intros; first | exact KD.mk | exact KD.mkN
      · rfl
      · simp [tmD, putD, lenI_cast e15, ← e16, f18]; rfl
      · simp [lenI_cast e15, ← e16, f18]
        intros; rfl
      refine AW.nilCellD 2 4 4 rfl rfl rfl rfl ?_
      refine AW.nilCellD 2 5 1 rfl rfl rfl rfl ?_
      replace h := chkE h; obtain ⟨e20, h⟩ := h
      refine AW.frzRow 4 (ty := 36) (cap := none) (sz := 7) (es := encEffect v17) (by simp) (by omega) (encEffect_sz _) (by first | exact (room_d e20).2 | simpa using (room_d e20).2 | simp) (by simp [Tm.frz, AV.frz, LV.frz]; rfl) (by simp [Ob.frz, LV.frz]; rfl) rfl ?_
      obtain rfl := Option.some.inj h
      refine AW.ret ?_
      refine Left.plain hnb (by simp [Try.f37, resV, resC, comp]; rfl) rfl rfl ?_
      simp
    | false =>
      replace h := iteF rfl h
      refine AW.cond_false (by simp) ?_
      refine AW.skip ?_
      try simp only [sp_l, sp_r, Post.seq, Post.block, Nat.reduceEqDiff, reduceIte, Nat.zero_ne_one, Nat.one_ne_zero]
      try simp only [sp_l, sp_r, Post.seq, Post.block, Nat.reduceEqDiff, reduceIte, Nat.zero_ne_one, Nat.one_ne_zero]
      replace h := bnE h; obtain ⟨v21, e21, h⟩ := h
      apply AW.drawnP (V := [_, _, _, _, _, _]) mixed [⟨[0], [], [(4, none)], false⟩, ⟨[0], [0], [(62, some 0)], false⟩, ⟨[0], [], [(4, none)], false⟩, ⟨[0], [2], [(64, some 2)], false⟩, ⟨[0], [], [(1, none)], false⟩, ⟨[0], [4], [(66, some 4)], false⟩, ⟨[], [0, 1, 2, 3, 4, 5], [], false⟩, ⟨[], [0, 1, 2, 3, 4, 5, 6], [], false⟩] 6 (by kernel_rfl) (by kernel_rfl)
      · refine ⟨?_, ?_, ?_, ?_, ?_, ?_, trivial⟩
        · intro tm hr
          simp [AllL, rdV] at hr
          simp [hr]
          intros; first | exact KD.mk | exact KD.mkN
        · intro tm hr
          simp [AllL, rdV] at hr
          simp [hr]
          intros; first | exact KD.mk | exact KD.mkN
        · intro tm hr
          simp [AllL, rdV] at hr
          simp [hr]
          intros; first | exact KD.mk | exact KD.mkN
        · intro tm hr
          simp [AllL, rdV] at hr
          simp [hr]
          intros; first | exact KD.mk | exact KD.mkN
        · intro tm hr
          simp [AllL, rdV] at hr
          simp [hr]
          intros; first | exact KD.mk | exact KD.mkN
        · intro tm hr
          simp [AllL, rdV] at hr
          simp [hr]
          intros
          refine xcall_plain en_r5_All (s_r5_All e21) rfl ⟨.same rfl, trivial⟩ ?_
          try simp []
          intros; first | exact KD.mk | exact KD.mkN
      · rfl
      · simp [tmD, putD]; rfl
      · simp
        intros; rfl
      refine AW.nilCellD 2 4 4 rfl rfl rfl rfl ?_
      refine AW.nilCellD 2 5 1 rfl rfl rfl rfl ?_
      obtain rfl := Option.some.inj h
      refine AW.ret ?_
      refine Left.plain hnb (by simp [Try.f37, resV, resC, comp]; rfl) rfl rfl ?_
      simp
theorem en_r13_Answer : Enters Try.prog 37 := enters Try.func37 (by kernel_rfl) rfl
def r13_Got_sh (n : Nat) (a0 : Feed) (a1 : List Pair) (a2 : Msg) : Option R13Fed :=
bn (bn (lt (eqI a2.kind 5) fun v3 =>
ite' v3 (lt (andB (eqI a2.prev.node a0.rid.node) (andB (eqI a2.prev.epoch a0.rid.epoch) true)) fun v4 =>
ite' v4 (lt (eqI a2.off a0.off) fun v5 =>
some (v5)) (some (false))) (some (false))) fun (y2 : Bool) =>
lt (y2) fun v6 =>
ite' v6 (bn (r5_Apply_sh n a1 a2.effects) fun v7 =>
bn (r13_Add_sh n a0 a2.effects) fun v8 =>
lt (notB (andB (eqI a2.rid.node a0.rid.node) (andB (eqI a2.rid.epoch a0.rid.epoch) true))) fun v9 =>
ite' v9 (some ((a2.rid.node, a2.rid.epoch, v8.off, v8.back, a0.rid.node, a0.rid.epoch, a0.off, v7, true))) (some ((v8.rid.node, v8.rid.epoch, v8.off, v8.back, v8.prev.node, v8.prev.epoch, v8.upto, v7, true)))) (bn (lt (eqI a2.kind 6) fun v11 =>
ite' v11 (lt (neI a2.rid.node a0.rid.node) fun v12 =>
ite' v12 (some (true)) (lt (gtI a2.rid.epoch a0.rid.epoch) fun v13 =>
ite' v13 (some (true)) (lt (andB (eqI a2.rid.node a0.rid.node) (andB (eqI a2.rid.epoch a0.rid.epoch) true)) fun v14 =>
ite' v14 (lt (gtI a2.off a0.off) fun v15 =>
some (v15)) (some (false))))) (some (false))) fun (y10 : Bool) =>
lt (y10) fun v16 =>
ite' v16 (bn (r5_Apply_sh n [] a2.effects) fun v17 =>
some ((a2.rid.node, a2.rid.epoch, a2.off, [], 0, 0, 0, v17, true))) (some ((a0.rid.node, a0.rid.epoch, a0.off, a0.back, a0.prev.node, a0.prev.epoch, a0.upto, a1, false))))) fun (y1 : Int × Int × Int × List Effect × Int × Int × Int × List Pair × Bool) =>
some (⟨(⟨(⟨y1.1, y1.2.1⟩ : Rid), y1.2.2.1, y1.2.2.2.1, (⟨y1.2.2.2.2.1, y1.2.2.2.2.2.1⟩ : Rid), y1.2.2.2.2.2.2.1⟩ : Feed), y1.2.2.2.2.2.2.2.1, y1.2.2.2.2.2.2.2.2⟩ : R13Fed)
set_option maxRecDepth 8000 in
set_option maxHeartbeats 8000000 in
theorem s_r13_Got {n : Nat} {a0 : Feed} {a1 : List Pair} {a2 : Msg} {r : R13Fed} (h : r13_Got_sh n a0 a1 a2 = some r) : Sound Try.prog 39 [.g [.s (.int .i64 a0.rid.node), .s (.int .i64 a0.rid.epoch), .s (.int .i64 a0.off), .d false 7 (encEffect a0.back), .s (.int .i64 a0.prev.node), .s (.int .i64 a0.prev.epoch), .s (.int .i64 a0.upto)], .l (.d false 6 (encPair a1)), .g [.s (.int .i64 a2.kind), .s (.int .i64 a2.frm), .s (.int .i64 a2.to), .s (.int .i64 a2.epoch), .d false 4 (encClaim a2.claims), .d false 1 (encI a2.nodes), .s (.int .i64 a2.node), .s (.int .i64 a2.slot), .s (.int .i64 a2.num), .s (.int .i64 a2.rid.node), .s (.int .i64 a2.rid.epoch), .s (.int .i64 a2.prev.node), .s (.int .i64 a2.prev.epoch), .s (.int .i64 a2.off), .d false 7 (encEffect a2.effects)]] [] (.g [.s (.int .i64 r.f.rid.node), .s (.int .i64 r.f.rid.epoch), .s (.int .i64 r.f.off), .d false 7 (encEffect r.f.back), .s (.int .i64 r.f.prev.node), .s (.int .i64 r.f.prev.epoch), .s (.int .i64 r.f.upto), .d false 6 (encPair r.db), .s (.bool r.is)]) [] := by
  unfold r13_Got_sh at h
  refine Sound.of_aw (fn := Try.f39) (c := _) Try.func39 rfl (by simp [Try.f39]) fun cx hG hnb => ?_
  rw [show Try.f39.ntmps = 105 from rfl]
  have hn0 : cx.nb = 0 := hnb
  simp only [st0_mk, initTm, List.map_cons, List.map_nil]
  apply AW.step
  · simp
    intros; rfl
  apply AW.step
  · simp
    intros; rfl
  replace h := bnE h; obtain ⟨y1, g1, h⟩ := h
  refine AW.flow (p := fun gh ls => (nP (cx := cx) (fun q => (⟨[(6, .l (.p 0 0)), (7, .l (.p 1 0))], [some ⟨67, 9, false, none, [.s (.int .i64 0), .s (.int .i64 0), .s (.int .i64 0), .s (.slice none 0 0), .s (.int .i64 0), .s (.int .i64 0), .s (.int .i64 0), .s (.slice none 0 0), .s (.bool false)]⟩, some ⟨67, 9, false, none, [.s (.int .i64 q.1), .s (.int .i64 q.2.1), .s (.int .i64 q.2.2.1), .d false 7 (encEffect q.2.2.2.1), .s (.int .i64 q.2.2.2.2.1), .s (.int .i64 q.2.2.2.2.2.1), .s (.int .i64 q.2.2.2.2.2.2.1), .d false 6 (encPair q.2.2.2.2.2.2.2.1), .s (.bool q.2.2.2.2.2.2.2.2)]⟩], 105, gh, ls⟩ : St))) y1) ?_ ?_
  · replace h := g1; clear g1
    refine AW.block ?_
    replace h := bnE h; obtain ⟨y2, g2, h⟩ := h
    refine AW.flow (p := fun gh ls => (nP (cx := cx) (fun q => (⟨[(1, .l (.d false 6 (encPair a1))), (3, .l (.p 0 0)), (5, .l (.p 1 0)), (6, .l (.p 2 0)), (7, .l (.p 3 0)), (11, .l (.s (.bool q)))], [some ⟨29, 7, false, none, [.s (.int .i64 a0.rid.node), .s (.int .i64 a0.rid.epoch), .s (.int .i64 a0.off), .d false 7 (encEffect a0.back), .s (.int .i64 a0.prev.node), .s (.int .i64 a0.prev.epoch), .s (.int .i64 a0.upto)]⟩, some ⟨62, 15, false, none, [.s (.int .i64 a2.kind), .s (.int .i64 a2.frm), .s (.int .i64 a2.to), .s (.int .i64 a2.epoch), .d false 4 (encClaim a2.claims), .d false 1 (encI a2.nodes), .s (.int .i64 a2.node), .s (.int .i64 a2.slot), .s (.int .i64 a2.num), .s (.int .i64 a2.rid.node), .s (.int .i64 a2.rid.epoch), .s (.int .i64 a2.prev.node), .s (.int .i64 a2.prev.epoch), .s (.int .i64 a2.off), .d false 7 (encEffect a2.effects)]⟩, some ⟨67, 9, false, none, [.s (.int .i64 0), .s (.int .i64 0), .s (.int .i64 0), .s (.slice none 0 0), .s (.int .i64 0), .s (.int .i64 0), .s (.int .i64 0), .s (.slice none 0 0), .s (.bool false)]⟩, some ⟨67, 9, false, none, [.s (.int .i64 a0.rid.node), .s (.int .i64 a0.rid.epoch), .s (.int .i64 a0.off), .d false 7 (encEffect a0.back), .s (.int .i64 a0.prev.node), .s (.int .i64 a0.prev.epoch), .s (.int .i64 a0.upto), .d false 6 (encPair a1), .s (.bool false)]⟩], 105, gh, ls⟩ : St))) y2) ?_ ?_
    · replace h := g2; clear g2
      replace h := ltE h; obtain ⟨v3, e3, h⟩ := h
      cases v3 with
      | true =>
        replace h := iteT rfl h
        replace h := ltE h; obtain ⟨v4, e4, h⟩ := h
        cases v4 with
        | true =>
          replace h := iteT rfl h
          replace h := ltE h; obtain ⟨v5, e5, h⟩ := h
          apply AW.last
          · simp [← e3, ← e4, ← e5]
            intros; rfl
          obtain rfl := Option.some.inj h
          refine nP_i ?_
          refine Weak.mixN [some 0, some 1, some 2, some 3] hn0 (by decide) ?_ ?_ rfl
          all_goals first | (simp [inv_cons, inv_nil, pickOb]; done) | rfl
        | false =>
          replace h := iteF rfl h
          apply AW.last
          · simp [← e3, ← e4]
            intros; rfl
          obtain rfl := Option.some.inj h
          refine nP_i ?_
          refine Weak.mixN [some 0, some 1, some 2, some 3] hn0 (by decide) ?_ ?_ rfl
          all_goals first | (simp [inv_cons, inv_nil, pickOb]; done) | rfl
      | false =>
        replace h := iteF rfl h
        apply AW.last
        · simp [← e3]
          intros; rfl
        obtain rfl := Option.some.inj h
        refine nP_i ?_
        refine Weak.mixN [some 0, some 1, some 2, some 3] hn0 (by decide) ?_ ?_ rfl
        all_goals first | (simp [inv_cons, inv_nil, pickOb]; done) | rfl
    · rintro e s hp
      obtain ⟨rfl, hw⟩ := hp
      refine ⟨_, hw, ?_⟩
      try simp only [sp_l, sp_r, Post.seq, Post.block, Nat.reduceEqDiff, reduceIte, Nat.zero_ne_one, Nat.one_ne_zero]
      replace h := ltE h; obtain ⟨v6, e6, h⟩ := h
      rw [← e6]
      cases v6 with
      | true =>
        replace h := iteT rfl h
        refine AW.cond_true (by simp) ?_
        apply AW.step
        · simp
          intros; rfl
        replace h := bnE h; obtain ⟨v7, e7, h⟩ := h
        apply AW.step
        · simp
          intros
          refine xcall_plain en_r5_Apply (s_r5_Apply e7) rfl ⟨.same rfl, .same rfl, trivial⟩ ?_
          try simp
          intros; rfl
        replace h := bnE h; obtain ⟨v8, e8, h⟩ := h
        apply AW.step
        · simp
          intros
          refine xcall_plain en_r13_Add (s_r13_Add e8) rfl ⟨.same rfl, .same rfl, trivial⟩ ?_
          try simp
          intros; rfl
        replace h := ltE h; obtain ⟨v9, e9, h⟩ := h
        apply AW.step
        · simp [← e9]
          intros; rfl
        cases v9 with
        | true =>
          replace h := iteT rfl h
          refine AW.cond_true (by simp) ?_
          apply AW.step
          · simp
            intros; rfl
          apply AW.step
          · simp
            intros; rfl
          apply AW.last
          · simp
            intros; rfl
          obtain rfl := Option.some.inj h
          refine nP_i ?_
          refine Weak.mixN [some 2, some 3] hn0 (by decide) ?_ ?_ rfl
          all_goals first | (simp [inv_cons, inv_nil, pickOb]; done) | rfl
        | false =>
          replace h := iteF rfl h
          refine AW.cond_false (by simp) ?_
          refine AW.skip ?_
          try simp only [sp_l, sp_r, Post.seq, Post.block, Nat.reduceEqDiff, reduceIte, Nat.zero_ne_one, Nat.one_ne_zero]
          obtain rfl := Option.some.inj h
          refine nP_i ?_
          refine Weak.mixN [some 2, some 3] hn0 (by decide) ?_ ?_ rfl
          all_goals first | (simp [inv_cons, inv_nil, pickOb]; done) | rfl
      | false =>
        replace h := iteF rfl h
        refine AW.cond_false (by simp) ?_
        replace h := bnE h; obtain ⟨y10, g10, h⟩ := h
        refine AW.flow (p := fun gh ls => (nP (cx := cx) (fun q => (⟨[(5, .l (.p 0 0)), (6, .l (.p 1 0)), (7, .l (.p 2 0)), (57, .l (.s (.bool q)))], [some ⟨62, 15, false, none, [.s (.int .i64 a2.kind), .s (.int .i64 a2.frm), .s (.int .i64 a2.to), .s (.int .i64 a2.epoch), .d false 4 (encClaim a2.claims), .d false 1 (encI a2.nodes), .s (.int .i64 a2.node), .s (.int .i64 a2.slot), .s (.int .i64 a2.num), .s (.int .i64 a2.rid.node), .s (.int .i64 a2.rid.epoch), .s (.int .i64 a2.prev.node), .s (.int .i64 a2.prev.epoch), .s (.int .i64 a2.off), .d false 7 (encEffect a2.effects)]⟩, some ⟨67, 9, false, none, [.s (.int .i64 0), .s (.int .i64 0), .s (.int .i64 0), .s (.slice none 0 0), .s (.int .i64 0), .s (.int .i64 0), .s (.int .i64 0), .s (.slice none 0 0), .s (.bool false)]⟩, some ⟨67, 9, false, none, [.s (.int .i64 a0.rid.node), .s (.int .i64 a0.rid.epoch), .s (.int .i64 a0.off), .d false 7 (encEffect a0.back), .s (.int .i64 a0.prev.node), .s (.int .i64 a0.prev.epoch), .s (.int .i64 a0.upto), .d false 6 (encPair a1), .s (.bool false)]⟩], 105, gh, ls⟩ : St))) y10) ?_ ?_
        · replace h := g10; clear g10
          replace h := ltE h; obtain ⟨v11, e11, h⟩ := h
          cases v11 with
          | true =>
            replace h := iteT rfl h
            replace h := ltE h; obtain ⟨v12, e12, h⟩ := h
            cases v12 with
            | true =>
              replace h := iteT rfl h
              apply AW.last
              · simp [← e11, ← e12]
                intros; rfl
              obtain rfl := Option.some.inj h
              refine nP_i ?_
              refine Weak.mixN [some 1, some 2, some 3] hn0 (by decide) ?_ ?_ rfl
              all_goals first | (simp [inv_cons, inv_nil, pickOb]; done) | rfl
            | false =>
              replace h := iteF rfl h
              replace h := ltE h; obtain ⟨v13, e13, h⟩ := h
              cases v13 with
              | true =>
                replace h := iteT rfl h
                apply AW.last
                · simp [← e11, ← e12, ← e13]
                  intros; rfl
                obtain rfl := Option.some.inj h
                refine nP_i ?_
                refine Weak.mixN [some 1, some 2, some 3] hn0 (by decide) ?_ ?_ rfl
                all_goals first | (simp [inv_cons, inv_nil, pickOb]; done) | rfl
              | false =>
                replace h := iteF rfl h
                replace h := ltE h; obtain ⟨v14, e14, h⟩ := h
                cases v14 with
                | true =>
                  replace h := iteT rfl h
                  replace h := ltE h; obtain ⟨v15, e15, h⟩ := h
                  apply AW.last
                  · simp [← e11, ← e12, ← e13, ← e14, ← e15]
                    intros; rfl
                  obtain rfl := Option.some.inj h
                  refine nP_i ?_
                  refine Weak.mixN [some 1, some 2, some 3] hn0 (by decide) ?_ ?_ rfl
                  all_goals first | (simp [inv_cons, inv_nil, pickOb]; done) | rfl
                | false =>
                  replace h := iteF rfl h
                  apply AW.last
                  · simp [← e11, ← e12, ← e13, ← e14]
                    intros; rfl
                  obtain rfl := Option.some.inj h
                  refine nP_i ?_
                  refine Weak.mixN [some 1, some 2, some 3] hn0 (by decide) ?_ ?_ rfl
                  all_goals first | (simp [inv_cons, inv_nil, pickOb]; done) | rfl
          | false =>
            replace h := iteF rfl h
            apply AW.last
            · simp [← e11]
              intros; rfl
            obtain rfl := Option.some.inj h
            refine nP_i ?_
            refine Weak.mixN [some 1, some 2, some 3] hn0 (by decide) ?_ ?_ rfl
            all_goals first | (simp [inv_cons, inv_nil, pickOb]; done) | rfl
        · rintro e s hp
          obtain ⟨rfl, hw⟩ := hp
          refine ⟨_, hw, ?_⟩
          try simp only [sp_l, sp_r, Post.seq, Post.block, Nat.reduceEqDiff, reduceIte, Nat.zero_ne_one, Nat.one_ne_zero]
          replace h := ltE h; obtain ⟨v16, e16, h⟩ := h
          rw [← e16]
          cases v16 with
          | true =>
            replace h := iteT rfl h
            refine AW.cond_true (by simp) ?_
            apply AW.step
            · simp
              intros; rfl
            replace h := bnE h; obtain ⟨v17, e17, h⟩ := h
            apply AW.step
            · simp
              intros
              refine xcall_plain en_r5_Apply (s_r5_Apply e17) rfl ⟨.nil _ _, .same rfl, trivial⟩ ?_
              try simp
              intros; rfl
            apply AW.last
            · simp
              intros; rfl
            obtain rfl := Option.some.inj h
            refine nP_i ?_
            refine W.nilCellD 2 3 7 rfl rfl rfl rfl ?_
            refine Weak.mixN [some 1, some 2] hn0 (by decide) ?_ ?_ rfl
            all_goals first | (simp [inv_cons, inv_nil, pickOb]; done) | rfl
          | false =>
            replace h := iteF rfl h
            refine AW.cond_false (by simp) ?_
            refine AW.skip ?_
            try simp only [sp_l, sp_r, Post.seq, Post.block, Nat.reduceEqDiff, reduceIte, Nat.zero_ne_one, Nat.one_ne_zero]
            obtain rfl := Option.some.inj h
            refine nP_i ?_
            refine Weak.mixN [some 1, some 2] hn0 (by decide) ?_ ?_ rfl
            all_goals first | (simp [inv_cons, inv_nil, pickOb]; done) | rfl
  · rintro e s hp
    obtain ⟨rfl, hw⟩ := hp
    refine ⟨_, hw, ?_⟩
    try simp only [sp_l, sp_r, Post.seq, Post.block, Nat.reduceEqDiff, reduceIte, Nat.zero_ne_one, Nat.one_ne_zero]
    apply AW.step
    · simp
      intros; rfl
    obtain rfl := Option.some.inj h
    refine AW.ret ?_
    refine Left.plain hnb (by simp [Try.f39, resV, resC, comp]; rfl) rfl rfl ?_
    simp
theorem en_r13_Got : Enters Try.prog 39 := enters Try.func39 (by kernel_rfl) rfl
end Go.Proofs.Ytlkhfdccapkcdaa
