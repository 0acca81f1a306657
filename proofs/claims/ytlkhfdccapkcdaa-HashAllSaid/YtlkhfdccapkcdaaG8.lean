/- Walks: rising fields; HashAll. -/
import Derived.Test.YtlkhfdccapkcdaaG7
namespace Go.Proofs.Ytlkhfdccapkcdaa
open Go Go.RowKit
set_option linter.unusedVariables false
set_option linter.unusedSimpArgs false
def okF (l : List Field) (i : Nat) : Bool :=
  match l[i]?, l[i - 1]? with
  | some x, some y => !(decide ((100 : Int) < i) || decide ((300 : Int) < x.name.size) || decide ((300 : Int) < x.val.size) || (decide (0 < i) && !slt y.name x.name))
  | _, _ => false
def risingF (l : List Field) : Bool := (List.range l.length).all (okF l)
theorem all_range_no {p : Nat → Bool} {n i : Nat} (h : i < n) (hp : p i = false) : (List.range n).all p = false := by
  rw [List.all_eq_false]
  exact ⟨i, List.mem_range.2 h, by simp [hp]⟩
theorem all_range_succ {p : Nat → Bool} {i : Nat} (h : (List.range i).all p = true) (hp : p i = true) : (List.range (i + 1)).all p = true := by
  rw [List.range_succ, List.all_append, h]
  simp [hp]
set_option maxRecDepth 8000 in
set_option maxHeartbeats 8000000 in
theorem s_l7rising (l : List Field) : Sound Try.prog 26 [.l (.d true 2 ((encField l)))] [] (.l (.s (.bool ((risingF l))))) [] := by
  refine Sound.of_aw (fn := Try.f26) (c := _) Try.func26 rfl (by simp [Try.f26]) fun cx hG hnb => ?_
  rw [show Try.f26.ntmps = 48 from rfl]
  have hn0 : cx.nb = 0 := hnb
  refine AW.len_d 0 rfl fun hl => ?_
  simp only [encField_length] at hl
  refine AW.step (by simp [hl]; rfl) ?_
  refine AW.seq ?_
  refine AW.step (by simp [hl]; rfl) ?_
  refine AW.block ?_
  refine AW.loopF (α := Nat) [2, 3, 4, 5, 6, 7, 8, 9, 10, 11, 12, 13, 14, 15, 16, 17, 18, 19, 20, 21, 22, 23, 24, 25, 26, 27, 28, 29, 30, 31, 32, 33, 34, 35, 36, 37, 38, 39, 40, 41, 42, 43, 44, 45, 46, 47] (fun i => [(3, .l (.s (.int .i64 i)))]) (fun _ => []) (fun i => i ≤ l.length ∧ (List.range i).all (okF l) = true) (fun i => l.length - i) 0 (by simp; rfl) (by simp) rfl ⟨Nat.zero_le _, rfl⟩ ?_
  rintro i ⟨g1, g2⟩
  refine AW.seq ?_
  refine AW.step (by simp [hl]; rfl) ?_
  refine AW.cond rfl (fun h2 => ?_) (fun h2 => ?_)
  · simp at h2
    obtain ⟨x, hx⟩ := get_some h2
    obtain ⟨y, hy⟩ := get_some (show i - 1 < l.length by omega)
    have hok : okF l i = !(decide ((100 : Int) < i) || decide ((300 : Int) < x.name.size) || decide ((300 : Int) < x.val.size) || (decide (0 < i) && !slt y.name x.name)) := by simp only [okF, hx, hy]
    have hw : 0 < i → IntKind.i64.wrap ((i : Int) - 1) = ((i - 1 : Nat) : Int) := fun h => by
      rw [i64_in (by omega) (by omega)]
      omega
    refine AW.skip ?_
    simp only [Post.seq, Post.block, if_true]
    refine AW.seq ?_
    refine AW.block ?_
    refine AW.joinR [10, 11, 12, 13, 14, 15, 16, 17, 18, 19, 20, 21, 22, 23, 24, 25, 26, 27, 28, 29, 30, 31, 32, 33, 34, 35, 36, 37, 38, 39, 40, 41, 42, 43, 44, 45, 46, 47] [(47, .l (.s (.bool (!okF l i))))] (by simp; rfl) ?_ ?_
    · by_cases k41 : (100 : Int) < (i : Int)
      · apply AW.drawnR (V := [_, _, _, _, _, _, _, _, _, _, _, _, _, _, _, _, _, _, _, _, _, _, _, _, _, _, _, _, _, _, _, _, _, _, _]) mixed [⟨[0], [], [(3, none)], false⟩, ⟨[0], [0], [(10, some 0)], false⟩, ⟨[0], [0, 1], [(11, some 1)], false⟩, ⟨[0], [0, 1, 2], [(0, none), (12, some 2)], false⟩, ⟨[0], [0, 1, 2], [(3, none), (12, some 2)], false⟩, ⟨[0], [0, 1, 2, 3, 4], [(12, some 2), (13, some 3), (14, some 4)], false⟩, ⟨[0], [0, 1, 2, 3, 4, 5], [(12, some 2), (15, some 5)], false⟩, ⟨[0], [0, 1, 2, 3, 4, 5, 6], [(12, some 2), (16, some 6)], false⟩, ⟨[0], [0, 1, 2, 3, 4, 5, 6, 7], [(12, some 2), (17, some 7)], false⟩, ⟨[0], [0, 1, 2, 3, 4, 5, 6, 7, 8], [(12, some 2), (18, some 8)], false⟩, ⟨[0], [0, 1, 2, 3, 4, 5, 6, 7, 8, 9], [(12, some 2), (19, some 9)], false⟩, ⟨[0], [0, 1, 2, 3, 4, 5, 6, 7, 8, 9, 10], [(20, some 10)], false⟩, ⟨[0], [0, 1, 2, 3, 4, 5, 6, 7, 8, 9, 10, 11], [(0, none), (21, some 11)], false⟩, ⟨[0], [0, 1, 2, 3, 4, 5, 6, 7, 8, 9, 10, 11], [(3, none), (21, some 11)], false⟩, ⟨[0], [0, 1, 2, 3, 4, 5, 6, 7, 8, 9, 10, 11, 12, 13], [(21, some 11), (22, some 12), (23, some 13)], false⟩, ⟨[0], [0, 1, 2, 3, 4, 5, 6, 7, 8, 9, 10, 11, 12, 13, 14], [(21, some 11), (24, some 14)], false⟩, ⟨[0], [0, 1, 2, 3, 4, 5, 6, 7, 8, 9, 10, 11, 12, 13, 14, 15], [(21, some 11), (25, some 15)], false⟩, ⟨[0], [0, 1, 2, 3, 4, 5, 6, 7, 8, 9, 10, 11, 12, 13, 14, 15, 16], [(21, some 11), (26, some 16)], false⟩, ⟨[0], [0, 1, 2, 3, 4, 5, 6, 7, 8, 9, 10, 11, 12, 13, 14, 15, 16, 17], [(21, some 11), (27, some 17)], false⟩, ⟨[0], [0, 1, 2, 3, 4, 5, 6, 7, 8, 9, 10, 11, 12, 13, 14, 15, 16, 17, 18], [(21, some 11), (28, some 18)], false⟩, ⟨[0], [0, 1, 2, 3, 4, 5, 6, 7, 8, 9, 10, 11, 12, 13, 14, 15, 16, 17, 18, 19], [(29, some 19)], false⟩, ⟨[0], [0, 1, 2, 3, 4, 5, 6, 7, 8, 9, 10, 11, 12, 13, 14, 15, 16, 17, 18, 19, 20], [(3, none), (30, some 20)], false⟩, ⟨[0], [0, 1, 2, 3, 4, 5, 6, 7, 8, 9, 10, 11, 12, 13, 14, 15, 16, 17, 18, 19, 20, 21], [(30, some 20), (31, some 21)], false⟩, ⟨[0], [0, 1, 2, 3, 4, 5, 6, 7, 8, 9, 10, 11, 12, 13, 14, 15, 16, 17, 18, 19, 20, 21, 22], [(30, some 20), (32, some 22)], false⟩, ⟨[0], [0, 1, 2, 3, 4, 5, 6, 7, 8, 9, 10, 11, 12, 13, 14, 15, 16, 17, 18, 19, 20, 21, 22, 23], [(0, none), (33, some 23)], false⟩, ⟨[0], [0, 1, 2, 3, 4, 5, 6, 7, 8, 9, 10, 11, 12, 13, 14, 15, 16, 17, 18, 19, 20, 21, 22, 23], [(3, none), (33, some 23)], false⟩, ⟨[0], [0, 1, 2, 3, 4, 5, 6, 7, 8, 9, 10, 11, 12, 13, 14, 15, 16, 17, 18, 19, 20, 21, 22, 23, 25], [(33, some 23), (35, some 25)], false⟩, ⟨[0], [0, 1, 2, 3, 4, 5, 6, 7, 8, 9, 10, 11, 12, 13, 14, 15, 16, 17, 18, 19, 20, 21, 22, 23, 24, 25, 26], [(33, some 23), (34, some 24), (36, some 26)], false⟩, ⟨[0], [0, 1, 2, 3, 4, 5, 6, 7, 8, 9, 10, 11, 12, 13, 14, 15, 16, 17, 18, 19, 20, 21, 22, 23, 24, 25, 26, 27], [(33, some 23), (37, some 27)], false⟩, ⟨[0], [0, 1, 2, 3, 4, 5, 6, 7, 8, 9, 10, 11, 12, 13, 14, 15, 16, 17, 18, 19, 20, 21, 22, 23, 24, 25, 26, 27, 28], [(33, some 23), (38, some 28)], false⟩, ⟨[0], [0, 1, 2, 3, 4, 5, 6, 7, 8, 9, 10, 11, 12, 13, 14, 15, 16, 17, 18, 19, 20, 21, 22, 23], [(0, none), (33, some 23)], false⟩, ⟨[0], [0, 1, 2, 3, 4, 5, 6, 7, 8, 9, 10, 11, 12, 13, 14, 15, 16, 17, 18, 19, 20, 21, 22, 23], [(3, none), (33, some 23)], false⟩, ⟨[0], [0, 1, 2, 3, 4, 5, 6, 7, 8, 9, 10, 11, 12, 13, 14, 15, 16, 17, 18, 19, 20, 21, 22, 23, 30, 31], [(33, some 23), (40, some 30), (41, some 31)], false⟩, ⟨[0], [0, 1, 2, 3, 4, 5, 6, 7, 8, 9, 10, 11, 12, 13, 14, 15, 16, 17, 18, 19, 20, 21, 22, 23, 30, 31, 32], [(33, some 23), (42, some 32)], false⟩, ⟨[0], [0, 1, 2, 3, 4, 5, 6, 7, 8, 9, 10, 11, 12, 13, 14, 15, 16, 17, 18, 19, 20, 21, 22, 23, 30, 31, 32, 33], [(33, some 23), (43, some 33)], false⟩, ⟨[], [0, 1, 2, 3, 4, 5, 6, 7, 8, 9, 10, 11, 12, 13, 14, 15, 16, 17, 18, 19, 20, 21, 22, 23, 24, 25, 26, 27, 28, 29, 30, 31, 32, 33, 34], [], false⟩, ⟨[], [0, 1, 2, 3, 4, 5, 6, 7, 8, 9, 10, 11, 12, 13, 14, 15, 16, 17, 18, 19, 20, 21, 22, 23, 24, 25, 26, 27, 28, 29, 30, 31, 32, 33, 34, 35], [], false⟩, ⟨[], [0, 1, 2, 3, 4, 5, 6, 7, 8, 9, 10, 11, 12, 13, 14, 15, 16, 17, 18, 19, 20, 21, 22, 23, 24, 25, 26, 27, 28, 29, 30, 31, 32, 33, 34, 35, 36], [], false⟩] 35 (by kernel_rfl) (by kernel_rfl)
        · refine ⟨?_, ?_, ?_, ?_, ?_, ?_, ?_, ?_, ?_, ?_, ?_, ?_, ?_, ?_, ?_, ?_, ?_, ?_, ?_, ?_, ?_, ?_, ?_, ?_, ?_, ?_, ?_, ?_, ?_, ?_, ?_, ?_, ?_, ?_, ?_, trivial⟩
          · intro tm hr
            simp [AllL, rdV] at hr
            simp [hr, hl, hx, hy, hok, k41]
            exact KD.mk
          · intro tm hr
            simp [AllL, rdV] at hr
            simp [hr, hl, hx, hy, hok, k41]
            exact KD.mk
          · intro tm hr
            simp [AllL, rdV] at hr
            simp [hr, hl, hx, hy, hok, k41]
            exact KD.mk
          · intro tm hr
            simp [AllL, rdV] at hr
            simp [hr, hl, hx, hy, hok, k41]
            exact KD.mk
          · intro tm hr
            simp [AllL, rdV] at hr
            simp [hr, hl, hx, hy, hok, k41]
            exact KD.mk
          · intro tm hr
            simp [AllL, rdV] at hr
            simp [hr, hl, hx, hy, hok, k41]
            exact KD.mk
          · intro tm hr
            simp [AllL, rdV] at hr
            simp [hr, hl, hx, hy, hok, k41]
            exact KD.mk
          · intro tm hr
            simp [AllL, rdV] at hr
            simp [hr, hl, hx, hy, hok, k41]
            exact KD.mk
          · intro tm hr
            simp [AllL, rdV] at hr
            simp [hr, hl, hx, hy, hok, k41]
            exact KD.mk
          · intro tm hr
            simp [AllL, rdV] at hr
            simp [hr, hl, hx, hy, hok, k41]
            exact KD.mk
          · intro tm hr
            simp [AllL, rdV] at hr
            simp [hr, hl, hx, hy, hok, k41]
            exact KD.mk
          · intro tm hr
            simp [AllL, rdV] at hr
            simp [hr, hl, hx, hy, hok, k41]
            exact KD.mk
          · intro tm hr
            simp [AllL, rdV] at hr
            simp [hr, hl, hx, hy, hok, k41]
            exact KD.mk
          · intro tm hr
            simp [AllL, rdV] at hr
            simp [hr, hl, hx, hy, hok, k41]
            exact KD.mk
          · intro tm hr
            simp [AllL, rdV] at hr
            simp [hr, hl, hx, hy, hok, k41]
            exact KD.mk
          · intro tm hr
            simp [AllL, rdV] at hr
            simp [hr, hl, hx, hy, hok, k41]
            exact KD.mk
          · intro tm hr
            simp [AllL, rdV] at hr
            simp [hr, hl, hx, hy, hok, k41]
            exact KD.mk
          · intro tm hr
            simp [AllL, rdV] at hr
            simp [hr, hl, hx, hy, hok, k41]
            exact KD.mk
          · intro tm hr
            simp [AllL, rdV] at hr
            simp [hr, hl, hx, hy, hok, k41]
            exact KD.mk
          · intro tm hr
            simp [AllL, rdV] at hr
            simp [hr, hl, hx, hy, hok, k41]
            exact KD.mk
          · intro tm hr
            simp [AllL, rdV] at hr
            simp [hr, hl, hx, hy, hok, k41]
            exact KD.mk
          · intro tm hr
            simp [AllL, rdV] at hr
            simp [hr, hl, hx, hy, hok, k41]
            exact KD.mk
          · intro tm hr
            simp [AllL, rdV] at hr
            simp [hr, hl, hx, hy, hok, k41]
            exact KD.mk
          · intro tm hr
            simp [AllL, rdV] at hr
            simp [hr, hl, hx, hy, hok, k41]
            exact KD.mk
          · intro tm hr
            simp [AllL, rdV] at hr
            simp [hr, hl, hx, hy, hok, k41]
            exact KD.mk
          · intro tm hr
            simp [AllL, rdV] at hr
            simp [hr, hl, hx, hy, hok, k41]
            exact KD.mk
          · intro tm hr
            simp [AllL, rdV] at hr
            simp [hr, hl, hx, hy, hok, k41]
            exact KD.mk
          · intro tm hr
            simp [AllL, rdV] at hr
            simp [hr, hl, hx, hy, hok, k41]
            exact KD.mk
          · intro tm hr
            simp [AllL, rdV] at hr
            simp [hr, hl, hx, hy, hok, k41]
            exact KD.mk
          · intro tm hr
            simp [AllL, rdV] at hr
            simp [hr, hl, hx, hy, hok, k41]
            exact KD.mk
          · intro tm hr
            simp [AllL, rdV] at hr
            simp [hr, hl, hx, hy, hok, k41]
            exact KD.mk
          · intro tm hr
            simp [AllL, rdV] at hr
            simp [hr, hl, hx, hy, hok, k41]
            exact KD.mk
          · intro tm hr
            simp [AllL, rdV] at hr
            simp [hr, hl, hx, hy, hok, k41]
            exact KD.mk
          · intro tm hr
            simp [AllL, rdV] at hr
            simp [hr, hl, hx, hy, hok, k41]
            exact KD.mk
          · intro tm hr
            simp [AllL, rdV] at hr
            simp [hr, hl, hx, hy, hok, k41]
            exact KD.mk
        · rfl
        · simp [tmD, putD, hl, hx, hy, hok, k41]; rfl
        · simp [hl, hx, hy, hok, k41]
          rfl
        exact ⟨rfl, Weak.keep _ (by simp [hl, hx, hy, hok, k41])⟩
      · by_cases k42 : (300 : Int) < (x.name.size : Int)
        · apply AW.drawnR (V := [_, _, _, _, _, _, _, _, _, _, _, _, _, _, _, _, _, _, _, _, _, _, _, _, _, _, _, _, _, _, _, _, _, _, _]) mixed [⟨[0], [], [(3, none)], false⟩, ⟨[0], [0], [(10, some 0)], false⟩, ⟨[0], [0, 1], [(11, some 1)], false⟩, ⟨[0], [0, 1, 2], [(0, none), (12, some 2)], false⟩, ⟨[0], [0, 1, 2], [(3, none), (12, some 2)], false⟩, ⟨[0], [0, 1, 2, 3, 4], [(12, some 2), (13, some 3), (14, some 4)], false⟩, ⟨[0], [0, 1, 2, 3, 4, 5], [(12, some 2), (15, some 5)], false⟩, ⟨[0], [0, 1, 2, 3, 4, 5, 6], [(12, some 2), (16, some 6)], false⟩, ⟨[0], [0, 1, 2, 3, 4, 5, 6, 7], [(12, some 2), (17, some 7)], false⟩, ⟨[0], [0, 1, 2, 3, 4, 5, 6, 7, 8], [(12, some 2), (18, some 8)], false⟩, ⟨[0], [0, 1, 2, 3, 4, 5, 6, 7, 8, 9], [(12, some 2), (19, some 9)], false⟩, ⟨[0], [0, 1, 2, 3, 4, 5, 6, 7, 8, 9, 10], [(20, some 10)], false⟩, ⟨[0], [0, 1, 2, 3, 4, 5, 6, 7, 8, 9, 10, 11], [(0, none), (21, some 11)], false⟩, ⟨[0], [0, 1, 2, 3, 4, 5, 6, 7, 8, 9, 10, 11], [(3, none), (21, some 11)], false⟩, ⟨[0], [0, 1, 2, 3, 4, 5, 6, 7, 8, 9, 10, 11, 12, 13], [(21, some 11), (22, some 12), (23, some 13)], false⟩, ⟨[0], [0, 1, 2, 3, 4, 5, 6, 7, 8, 9, 10, 11, 12, 13, 14], [(21, some 11), (24, some 14)], false⟩, ⟨[0], [0, 1, 2, 3, 4, 5, 6, 7, 8, 9, 10, 11, 12, 13, 14, 15], [(21, some 11), (25, some 15)], false⟩, ⟨[0], [0, 1, 2, 3, 4, 5, 6, 7, 8, 9, 10, 11, 12, 13, 14, 15, 16], [(21, some 11), (26, some 16)], false⟩, ⟨[0], [0, 1, 2, 3, 4, 5, 6, 7, 8, 9, 10, 11, 12, 13, 14, 15, 16, 17], [(21, some 11), (27, some 17)], false⟩, ⟨[0], [0, 1, 2, 3, 4, 5, 6, 7, 8, 9, 10, 11, 12, 13, 14, 15, 16, 17, 18], [(21, some 11), (28, some 18)], false⟩, ⟨[0], [0, 1, 2, 3, 4, 5, 6, 7, 8, 9, 10, 11, 12, 13, 14, 15, 16, 17, 18, 19], [(29, some 19)], false⟩, ⟨[0], [0, 1, 2, 3, 4, 5, 6, 7, 8, 9, 10, 11, 12, 13, 14, 15, 16, 17, 18, 19, 20], [(3, none), (30, some 20)], false⟩, ⟨[0], [0, 1, 2, 3, 4, 5, 6, 7, 8, 9, 10, 11, 12, 13, 14, 15, 16, 17, 18, 19, 20, 21], [(30, some 20), (31, some 21)], false⟩, ⟨[0], [0, 1, 2, 3, 4, 5, 6, 7, 8, 9, 10, 11, 12, 13, 14, 15, 16, 17, 18, 19, 20, 21, 22], [(30, some 20), (32, some 22)], false⟩, ⟨[0], [0, 1, 2, 3, 4, 5, 6, 7, 8, 9, 10, 11, 12, 13, 14, 15, 16, 17, 18, 19, 20, 21, 22, 23], [(0, none), (33, some 23)], false⟩, ⟨[0], [0, 1, 2, 3, 4, 5, 6, 7, 8, 9, 10, 11, 12, 13, 14, 15, 16, 17, 18, 19, 20, 21, 22, 23], [(3, none), (33, some 23)], false⟩, ⟨[0], [0, 1, 2, 3, 4, 5, 6, 7, 8, 9, 10, 11, 12, 13, 14, 15, 16, 17, 18, 19, 20, 21, 22, 23, 25], [(33, some 23), (35, some 25)], false⟩, ⟨[0], [0, 1, 2, 3, 4, 5, 6, 7, 8, 9, 10, 11, 12, 13, 14, 15, 16, 17, 18, 19, 20, 21, 22, 23, 24, 25, 26], [(33, some 23), (34, some 24), (36, some 26)], false⟩, ⟨[0], [0, 1, 2, 3, 4, 5, 6, 7, 8, 9, 10, 11, 12, 13, 14, 15, 16, 17, 18, 19, 20, 21, 22, 23, 24, 25, 26, 27], [(33, some 23), (37, some 27)], false⟩, ⟨[0], [0, 1, 2, 3, 4, 5, 6, 7, 8, 9, 10, 11, 12, 13, 14, 15, 16, 17, 18, 19, 20, 21, 22, 23, 24, 25, 26, 27, 28], [(33, some 23), (38, some 28)], false⟩, ⟨[0], [0, 1, 2, 3, 4, 5, 6, 7, 8, 9, 10, 11, 12, 13, 14, 15, 16, 17, 18, 19, 20, 21, 22, 23], [(0, none), (33, some 23)], false⟩, ⟨[0], [0, 1, 2, 3, 4, 5, 6, 7, 8, 9, 10, 11, 12, 13, 14, 15, 16, 17, 18, 19, 20, 21, 22, 23], [(3, none), (33, some 23)], false⟩, ⟨[0], [0, 1, 2, 3, 4, 5, 6, 7, 8, 9, 10, 11, 12, 13, 14, 15, 16, 17, 18, 19, 20, 21, 22, 23, 30, 31], [(33, some 23), (40, some 30), (41, some 31)], false⟩, ⟨[0], [0, 1, 2, 3, 4, 5, 6, 7, 8, 9, 10, 11, 12, 13, 14, 15, 16, 17, 18, 19, 20, 21, 22, 23, 30, 31, 32], [(33, some 23), (42, some 32)], false⟩, ⟨[0], [0, 1, 2, 3, 4, 5, 6, 7, 8, 9, 10, 11, 12, 13, 14, 15, 16, 17, 18, 19, 20, 21, 22, 23, 30, 31, 32, 33], [(33, some 23), (43, some 33)], false⟩, ⟨[], [0, 1, 2, 3, 4, 5, 6, 7, 8, 9, 10, 11, 12, 13, 14, 15, 16, 17, 18, 19, 20, 21, 22, 23, 24, 25, 26, 27, 28, 29, 30, 31, 32, 33, 34], [], false⟩, ⟨[], [0, 1, 2, 3, 4, 5, 6, 7, 8, 9, 10, 11, 12, 13, 14, 15, 16, 17, 18, 19, 20, 21, 22, 23, 24, 25, 26, 27, 28, 29, 30, 31, 32, 33, 34, 35], [], false⟩, ⟨[], [0, 1, 2, 3, 4, 5, 6, 7, 8, 9, 10, 11, 12, 13, 14, 15, 16, 17, 18, 19, 20, 21, 22, 23, 24, 25, 26, 27, 28, 29, 30, 31, 32, 33, 34, 35, 36], [], false⟩] 35 (by kernel_rfl) (by kernel_rfl)
          · refine ⟨?_, ?_, ?_, ?_, ?_, ?_, ?_, ?_, ?_, ?_, ?_, ?_, ?_, ?_, ?_, ?_, ?_, ?_, ?_, ?_, ?_, ?_, ?_, ?_, ?_, ?_, ?_, ?_, ?_, ?_, ?_, ?_, ?_, ?_, ?_, trivial⟩
            · intro tm hr
              simp [AllL, rdV] at hr
              simp [hr, hl, hx, hy, hok, k41, k42]
              exact KD.mk
            · intro tm hr
              simp [AllL, rdV] at hr
              simp [hr, hl, hx, hy, hok, k41, k42]
              exact KD.mk
            · intro tm hr
              simp [AllL, rdV] at hr
              simp [hr, hl, hx, hy, hok, k41, k42]
              exact KD.mk
            · intro tm hr
              simp [AllL, rdV] at hr
              simp [hr, hl, hx, hy, hok, k41, k42]
              exact KD.mk
            · intro tm hr
              simp [AllL, rdV] at hr
              simp [hr, hl, hx, hy, hok, k41, k42]
              exact KD.mk
            · intro tm hr
              simp [AllL, rdV] at hr
              simp [hr, hl, hx, hy, hok, k41, k42]
              exact KD.mk
            · intro tm hr
              simp [AllL, rdV] at hr
              simp [hr, hl, hx, hy, hok, k41, k42]
              exact KD.mk
            · intro tm hr
              simp [AllL, rdV] at hr
              simp [hr, hl, hx, hy, hok, k41, k42]
              exact KD.mk
            · intro tm hr
              simp [AllL, rdV] at hr
              simp [hr, hl, hx, hy, hok, k41, k42]
              exact KD.mk
            · intro tm hr
              simp [AllL, rdV] at hr
              simp [hr, hl, hx, hy, hok, k41, k42]
              exact KD.mk
            · intro tm hr
              simp [AllL, rdV] at hr
              simp [hr, hl, hx, hy, hok, k41, k42]
              exact KD.mk
            · intro tm hr
              simp [AllL, rdV] at hr
              simp [hr, hl, hx, hy, hok, k41, k42]
              exact KD.mk
            · intro tm hr
              simp [AllL, rdV] at hr
              simp [hr, hl, hx, hy, hok, k41, k42]
              exact KD.mk
            · intro tm hr
              simp [AllL, rdV] at hr
              simp [hr, hl, hx, hy, hok, k41, k42]
              exact KD.mk
            · intro tm hr
              simp [AllL, rdV] at hr
              simp [hr, hl, hx, hy, hok, k41, k42]
              exact KD.mk
            · intro tm hr
              simp [AllL, rdV] at hr
              simp [hr, hl, hx, hy, hok, k41, k42]
              exact KD.mk
            · intro tm hr
              simp [AllL, rdV] at hr
              simp [hr, hl, hx, hy, hok, k41, k42]
              exact KD.mk
            · intro tm hr
              simp [AllL, rdV] at hr
              simp [hr, hl, hx, hy, hok, k41, k42]
              exact KD.mk
            · intro tm hr
              simp [AllL, rdV] at hr
              simp [hr, hl, hx, hy, hok, k41, k42]
              exact KD.mk
            · intro tm hr
              simp [AllL, rdV] at hr
              simp [hr, hl, hx, hy, hok, k41, k42]
              exact KD.mk
            · intro tm hr
              simp [AllL, rdV] at hr
              simp [hr, hl, hx, hy, hok, k41, k42]
              exact KD.mk
            · intro tm hr
              simp [AllL, rdV] at hr
              simp [hr, hl, hx, hy, hok, k41, k42]
              exact KD.mk
            · intro tm hr
              simp [AllL, rdV] at hr
              simp [hr, hl, hx, hy, hok, k41, k42]
              exact KD.mk
            · intro tm hr
              simp [AllL, rdV] at hr
              simp [hr, hl, hx, hy, hok, k41, k42]
              exact KD.mk
            · intro tm hr
              simp [AllL, rdV] at hr
              simp [hr, hl, hx, hy, hok, k41, k42]
              exact KD.mk
            · intro tm hr
              simp [AllL, rdV] at hr
              simp [hr, hl, hx, hy, hok, k41, k42]
              exact KD.mk
            · intro tm hr
              simp [AllL, rdV] at hr
              simp [hr, hl, hx, hy, hok, k41, k42]
              exact KD.mk
            · intro tm hr
              simp [AllL, rdV] at hr
              simp [hr, hl, hx, hy, hok, k41, k42]
              exact KD.mk
            · intro tm hr
              simp [AllL, rdV] at hr
              simp [hr, hl, hx, hy, hok, k41, k42]
              exact KD.mk
            · intro tm hr
              simp [AllL, rdV] at hr
              simp [hr, hl, hx, hy, hok, k41, k42]
              exact KD.mk
            · intro tm hr
              simp [AllL, rdV] at hr
              simp [hr, hl, hx, hy, hok, k41, k42]
              exact KD.mk
            · intro tm hr
              simp [AllL, rdV] at hr
              simp [hr, hl, hx, hy, hok, k41, k42]
              exact KD.mk
            · intro tm hr
              simp [AllL, rdV] at hr
              simp [hr, hl, hx, hy, hok, k41, k42]
              exact KD.mk
            · intro tm hr
              simp [AllL, rdV] at hr
              simp [hr, hl, hx, hy, hok, k41, k42]
              exact KD.mk
            · intro tm hr
              simp [AllL, rdV] at hr
              simp [hr, hl, hx, hy, hok, k41, k42]
              exact KD.mk
          · rfl
          · simp [tmD, putD, hl, hx, hy, hok, k41, k42]; rfl
          · simp [hl, hx, hy, hok, k41, k42]
            rfl
          exact ⟨rfl, Weak.keep _ (by simp [hl, hx, hy, hok, k41, k42])⟩
        · by_cases k43 : (300 : Int) < (x.val.size : Int)
          · apply AW.drawnR (V := [_, _, _, _, _, _, _, _, _, _, _, _, _, _, _, _, _, _, _, _, _, _, _, _, _, _, _, _, _, _, _, _, _, _, _]) mixed [⟨[0], [], [(3, none)], false⟩, ⟨[0], [0], [(10, some 0)], false⟩, ⟨[0], [0, 1], [(11, some 1)], false⟩, ⟨[0], [0, 1, 2], [(0, none), (12, some 2)], false⟩, ⟨[0], [0, 1, 2], [(3, none), (12, some 2)], false⟩, ⟨[0], [0, 1, 2, 3, 4], [(12, some 2), (13, some 3), (14, some 4)], false⟩, ⟨[0], [0, 1, 2, 3, 4, 5], [(12, some 2), (15, some 5)], false⟩, ⟨[0], [0, 1, 2, 3, 4, 5, 6], [(12, some 2), (16, some 6)], false⟩, ⟨[0], [0, 1, 2, 3, 4, 5, 6, 7], [(12, some 2), (17, some 7)], false⟩, ⟨[0], [0, 1, 2, 3, 4, 5, 6, 7, 8], [(12, some 2), (18, some 8)], false⟩, ⟨[0], [0, 1, 2, 3, 4, 5, 6, 7, 8, 9], [(12, some 2), (19, some 9)], false⟩, ⟨[0], [0, 1, 2, 3, 4, 5, 6, 7, 8, 9, 10], [(20, some 10)], false⟩, ⟨[0], [0, 1, 2, 3, 4, 5, 6, 7, 8, 9, 10, 11], [(0, none), (21, some 11)], false⟩, ⟨[0], [0, 1, 2, 3, 4, 5, 6, 7, 8, 9, 10, 11], [(3, none), (21, some 11)], false⟩, ⟨[0], [0, 1, 2, 3, 4, 5, 6, 7, 8, 9, 10, 11, 12, 13], [(21, some 11), (22, some 12), (23, some 13)], false⟩, ⟨[0], [0, 1, 2, 3, 4, 5, 6, 7, 8, 9, 10, 11, 12, 13, 14], [(21, some 11), (24, some 14)], false⟩, ⟨[0], [0, 1, 2, 3, 4, 5, 6, 7, 8, 9, 10, 11, 12, 13, 14, 15], [(21, some 11), (25, some 15)], false⟩, ⟨[0], [0, 1, 2, 3, 4, 5, 6, 7, 8, 9, 10, 11, 12, 13, 14, 15, 16], [(21, some 11), (26, some 16)], false⟩, ⟨[0], [0, 1, 2, 3, 4, 5, 6, 7, 8, 9, 10, 11, 12, 13, 14, 15, 16, 17], [(21, some 11), (27, some 17)], false⟩, ⟨[0], [0, 1, 2, 3, 4, 5, 6, 7, 8, 9, 10, 11, 12, 13, 14, 15, 16, 17, 18], [(21, some 11), (28, some 18)], false⟩, ⟨[0], [0, 1, 2, 3, 4, 5, 6, 7, 8, 9, 10, 11, 12, 13, 14, 15, 16, 17, 18, 19], [(29, some 19)], false⟩, ⟨[0], [0, 1, 2, 3, 4, 5, 6, 7, 8, 9, 10, 11, 12, 13, 14, 15, 16, 17, 18, 19, 20], [(3, none), (30, some 20)], false⟩, ⟨[0], [0, 1, 2, 3, 4, 5, 6, 7, 8, 9, 10, 11, 12, 13, 14, 15, 16, 17, 18, 19, 20, 21], [(30, some 20), (31, some 21)], false⟩, ⟨[0], [0, 1, 2, 3, 4, 5, 6, 7, 8, 9, 10, 11, 12, 13, 14, 15, 16, 17, 18, 19, 20, 21, 22], [(30, some 20), (32, some 22)], false⟩, ⟨[0], [0, 1, 2, 3, 4, 5, 6, 7, 8, 9, 10, 11, 12, 13, 14, 15, 16, 17, 18, 19, 20, 21, 22, 23], [(0, none), (33, some 23)], false⟩, ⟨[0], [0, 1, 2, 3, 4, 5, 6, 7, 8, 9, 10, 11, 12, 13, 14, 15, 16, 17, 18, 19, 20, 21, 22, 23], [(3, none), (33, some 23)], false⟩, ⟨[0], [0, 1, 2, 3, 4, 5, 6, 7, 8, 9, 10, 11, 12, 13, 14, 15, 16, 17, 18, 19, 20, 21, 22, 23, 25], [(33, some 23), (35, some 25)], false⟩, ⟨[0], [0, 1, 2, 3, 4, 5, 6, 7, 8, 9, 10, 11, 12, 13, 14, 15, 16, 17, 18, 19, 20, 21, 22, 23, 24, 25, 26], [(33, some 23), (34, some 24), (36, some 26)], false⟩, ⟨[0], [0, 1, 2, 3, 4, 5, 6, 7, 8, 9, 10, 11, 12, 13, 14, 15, 16, 17, 18, 19, 20, 21, 22, 23, 24, 25, 26, 27], [(33, some 23), (37, some 27)], false⟩, ⟨[0], [0, 1, 2, 3, 4, 5, 6, 7, 8, 9, 10, 11, 12, 13, 14, 15, 16, 17, 18, 19, 20, 21, 22, 23, 24, 25, 26, 27, 28], [(33, some 23), (38, some 28)], false⟩, ⟨[0], [0, 1, 2, 3, 4, 5, 6, 7, 8, 9, 10, 11, 12, 13, 14, 15, 16, 17, 18, 19, 20, 21, 22, 23], [(0, none), (33, some 23)], false⟩, ⟨[0], [0, 1, 2, 3, 4, 5, 6, 7, 8, 9, 10, 11, 12, 13, 14, 15, 16, 17, 18, 19, 20, 21, 22, 23], [(3, none), (33, some 23)], false⟩, ⟨[0], [0, 1, 2, 3, 4, 5, 6, 7, 8, 9, 10, 11, 12, 13, 14, 15, 16, 17, 18, 19, 20, 21, 22, 23, 30, 31], [(33, some 23), (40, some 30), (41, some 31)], false⟩, ⟨[0], [0, 1, 2, 3, 4, 5, 6, 7, 8, 9, 10, 11, 12, 13, 14, 15, 16, 17, 18, 19, 20, 21, 22, 23, 30, 31, 32], [(33, some 23), (42, some 32)], false⟩, ⟨[0], [0, 1, 2, 3, 4, 5, 6, 7, 8, 9, 10, 11, 12, 13, 14, 15, 16, 17, 18, 19, 20, 21, 22, 23, 30, 31, 32, 33], [(33, some 23), (43, some 33)], false⟩, ⟨[], [0, 1, 2, 3, 4, 5, 6, 7, 8, 9, 10, 11, 12, 13, 14, 15, 16, 17, 18, 19, 20, 21, 22, 23, 24, 25, 26, 27, 28, 29, 30, 31, 32, 33, 34], [], false⟩, ⟨[], [0, 1, 2, 3, 4, 5, 6, 7, 8, 9, 10, 11, 12, 13, 14, 15, 16, 17, 18, 19, 20, 21, 22, 23, 24, 25, 26, 27, 28, 29, 30, 31, 32, 33, 34, 35], [], false⟩, ⟨[], [0, 1, 2, 3, 4, 5, 6, 7, 8, 9, 10, 11, 12, 13, 14, 15, 16, 17, 18, 19, 20, 21, 22, 23, 24, 25, 26, 27, 28, 29, 30, 31, 32, 33, 34, 35, 36], [], false⟩] 35 (by kernel_rfl) (by kernel_rfl)
            · refine ⟨?_, ?_, ?_, ?_, ?_, ?_, ?_, ?_, ?_, ?_, ?_, ?_, ?_, ?_, ?_, ?_, ?_, ?_, ?_, ?_, ?_, ?_, ?_, ?_, ?_, ?_, ?_, ?_, ?_, ?_, ?_, ?_, ?_, ?_, ?_, trivial⟩
              · intro tm hr
                simp [AllL, rdV] at hr
                simp [hr, hl, hx, hy, hok, k41, k42, k43]
                exact KD.mk
              · intro tm hr
                simp [AllL, rdV] at hr
                simp [hr, hl, hx, hy, hok, k41, k42, k43]
                exact KD.mk
              · intro tm hr
                simp [AllL, rdV] at hr
                simp [hr, hl, hx, hy, hok, k41, k42, k43]
                exact KD.mk
              · intro tm hr
                simp [AllL, rdV] at hr
                simp [hr, hl, hx, hy, hok, k41, k42, k43]
                exact KD.mk
              · intro tm hr
                simp [AllL, rdV] at hr
                simp [hr, hl, hx, hy, hok, k41, k42, k43]
                exact KD.mk
              · intro tm hr
                simp [AllL, rdV] at hr
                simp [hr, hl, hx, hy, hok, k41, k42, k43]
                exact KD.mk
              · intro tm hr
                simp [AllL, rdV] at hr
                simp [hr, hl, hx, hy, hok, k41, k42, k43]
                exact KD.mk
              · intro tm hr
                simp [AllL, rdV] at hr
                simp [hr, hl, hx, hy, hok, k41, k42, k43]
                exact KD.mk
              · intro tm hr
                simp [AllL, rdV] at hr
                simp [hr, hl, hx, hy, hok, k41, k42, k43]
                exact KD.mk
              · intro tm hr
                simp [AllL, rdV] at hr
                simp [hr, hl, hx, hy, hok, k41, k42, k43]
                exact KD.mk
              · intro tm hr
                simp [AllL, rdV] at hr
                simp [hr, hl, hx, hy, hok, k41, k42, k43]
                exact KD.mk
              · intro tm hr
                simp [AllL, rdV] at hr
                simp [hr, hl, hx, hy, hok, k41, k42, k43]
                exact KD.mk
              · intro tm hr
                simp [AllL, rdV] at hr
                simp [hr, hl, hx, hy, hok, k41, k42, k43]
                exact KD.mk
              · intro tm hr
                simp [AllL, rdV] at hr
                simp [hr, hl, hx, hy, hok, k41, k42, k43]
                exact KD.mk
              · intro tm hr
                simp [AllL, rdV] at hr
                simp [hr, hl, hx, hy, hok, k41, k42, k43]
                exact KD.mk
              · intro tm hr
                simp [AllL, rdV] at hr
                simp [hr, hl, hx, hy, hok, k41, k42, k43]
                exact KD.mk
              · intro tm hr
                simp [AllL, rdV] at hr
                simp [hr, hl, hx, hy, hok, k41, k42, k43]
                exact KD.mk
              · intro tm hr
                simp [AllL, rdV] at hr
                simp [hr, hl, hx, hy, hok, k41, k42, k43]
                exact KD.mk
              · intro tm hr
                simp [AllL, rdV] at hr
                simp [hr, hl, hx, hy, hok, k41, k42, k43]
                exact KD.mk
              · intro tm hr
                simp [AllL, rdV] at hr
                simp [hr, hl, hx, hy, hok, k41, k42, k43]
                exact KD.mk
              · intro tm hr
                simp [AllL, rdV] at hr
                simp [hr, hl, hx, hy, hok, k41, k42, k43]
                exact KD.mk
              · intro tm hr
                simp [AllL, rdV] at hr
                simp [hr, hl, hx, hy, hok, k41, k42, k43]
                exact KD.mk
              · intro tm hr
                simp [AllL, rdV] at hr
                simp [hr, hl, hx, hy, hok, k41, k42, k43]
                exact KD.mk
              · intro tm hr
                simp [AllL, rdV] at hr
                simp [hr, hl, hx, hy, hok, k41, k42, k43]
                exact KD.mk
              · intro tm hr
                simp [AllL, rdV] at hr
                simp [hr, hl, hx, hy, hok, k41, k42, k43]
                exact KD.mk
              · intro tm hr
                simp [AllL, rdV] at hr
                simp [hr, hl, hx, hy, hok, k41, k42, k43]
                exact KD.mk
              · intro tm hr
                simp [AllL, rdV] at hr
                simp [hr, hl, hx, hy, hok, k41, k42, k43]
                exact KD.mk
              · intro tm hr
                simp [AllL, rdV] at hr
                simp [hr, hl, hx, hy, hok, k41, k42, k43]
                exact KD.mk
              · intro tm hr
                simp [AllL, rdV] at hr
                simp [hr, hl, hx, hy, hok, k41, k42, k43]
                exact KD.mk
              · intro tm hr
                simp [AllL, rdV] at hr
                simp [hr, hl, hx, hy, hok, k41, k42, k43]
                exact KD.mk
              · intro tm hr
                simp [AllL, rdV] at hr
                simp [hr, hl, hx, hy, hok, k41, k42, k43]
                exact KD.mk
              · intro tm hr
                simp [AllL, rdV] at hr
                simp [hr, hl, hx, hy, hok, k41, k42, k43]
                exact KD.mk
              · intro tm hr
                simp [AllL, rdV] at hr
                simp [hr, hl, hx, hy, hok, k41, k42, k43]
                exact KD.mk
              · intro tm hr
                simp [AllL, rdV] at hr
                simp [hr, hl, hx, hy, hok, k41, k42, k43]
                exact KD.mk
              · intro tm hr
                simp [AllL, rdV] at hr
                simp [hr, hl, hx, hy, hok, k41, k42, k43]
                exact KD.mk
            · rfl
            · simp [tmD, putD, hl, hx, hy, hok, k41, k42, k43]; rfl
            · simp [hl, hx, hy, hok, k41, k42, k43]
              rfl
            exact ⟨rfl, Weak.keep _ (by simp [hl, hx, hy, hok, k41, k42, k43])⟩
          · by_cases k44 : ¬ 0 < i
            · have hw' := hw
              have hi0 : ¬ 0 < i := by omega
              apply AW.drawnR (V := [_, _, _, _, _, _, _, _, _, _, _, _, _, _, _, _, _, _, _, _, _, _, _, _, _, _, _, _, _, _, _, _, _, _, _]) mixed [⟨[0], [], [(3, none)], false⟩, ⟨[0], [0], [(10, some 0)], false⟩, ⟨[0], [0, 1], [(11, some 1)], false⟩, ⟨[0], [0, 1, 2], [(0, none), (12, some 2)], false⟩, ⟨[0], [0, 1, 2], [(3, none), (12, some 2)], false⟩, ⟨[0], [0, 1, 2, 3, 4], [(12, some 2), (13, some 3), (14, some 4)], false⟩, ⟨[0], [0, 1, 2, 3, 4, 5], [(12, some 2), (15, some 5)], false⟩, ⟨[0], [0, 1, 2, 3, 4, 5, 6], [(12, some 2), (16, some 6)], false⟩, ⟨[0], [0, 1, 2, 3, 4, 5, 6, 7], [(12, some 2), (17, some 7)], false⟩, ⟨[0], [0, 1, 2, 3, 4, 5, 6, 7, 8], [(12, some 2), (18, some 8)], false⟩, ⟨[0], [0, 1, 2, 3, 4, 5, 6, 7, 8, 9], [(12, some 2), (19, some 9)], false⟩, ⟨[0], [0, 1, 2, 3, 4, 5, 6, 7, 8, 9, 10], [(20, some 10)], false⟩, ⟨[0], [0, 1, 2, 3, 4, 5, 6, 7, 8, 9, 10, 11], [(0, none), (21, some 11)], false⟩, ⟨[0], [0, 1, 2, 3, 4, 5, 6, 7, 8, 9, 10, 11], [(3, none), (21, some 11)], false⟩, ⟨[0], [0, 1, 2, 3, 4, 5, 6, 7, 8, 9, 10, 11, 12, 13], [(21, some 11), (22, some 12), (23, some 13)], false⟩, ⟨[0], [0, 1, 2, 3, 4, 5, 6, 7, 8, 9, 10, 11, 12, 13, 14], [(21, some 11), (24, some 14)], false⟩, ⟨[0], [0, 1, 2, 3, 4, 5, 6, 7, 8, 9, 10, 11, 12, 13, 14, 15], [(21, some 11), (25, some 15)], false⟩, ⟨[0], [0, 1, 2, 3, 4, 5, 6, 7, 8, 9, 10, 11, 12, 13, 14, 15, 16], [(21, some 11), (26, some 16)], false⟩, ⟨[0], [0, 1, 2, 3, 4, 5, 6, 7, 8, 9, 10, 11, 12, 13, 14, 15, 16, 17], [(21, some 11), (27, some 17)], false⟩, ⟨[0], [0, 1, 2, 3, 4, 5, 6, 7, 8, 9, 10, 11, 12, 13, 14, 15, 16, 17, 18], [(21, some 11), (28, some 18)], false⟩, ⟨[0], [0, 1, 2, 3, 4, 5, 6, 7, 8, 9, 10, 11, 12, 13, 14, 15, 16, 17, 18, 19], [(29, some 19)], false⟩, ⟨[0], [0, 1, 2, 3, 4, 5, 6, 7, 8, 9, 10, 11, 12, 13, 14, 15, 16, 17, 18, 19, 20], [(3, none), (30, some 20)], false⟩, ⟨[0], [0, 1, 2, 3, 4, 5, 6, 7, 8, 9, 10, 11, 12, 13, 14, 15, 16, 17, 18, 19, 20, 21], [(30, some 20), (31, some 21)], false⟩, ⟨[0], [0, 1, 2, 3, 4, 5, 6, 7, 8, 9, 10, 11, 12, 13, 14, 15, 16, 17, 18, 19, 20, 21, 22], [(30, some 20), (32, some 22)], false⟩, ⟨[0], [0, 1, 2, 3, 4, 5, 6, 7, 8, 9, 10, 11, 12, 13, 14, 15, 16, 17, 18, 19, 20, 21, 22, 23], [(0, none), (33, some 23)], false⟩, ⟨[0], [0, 1, 2, 3, 4, 5, 6, 7, 8, 9, 10, 11, 12, 13, 14, 15, 16, 17, 18, 19, 20, 21, 22, 23], [(3, none), (33, some 23)], false⟩, ⟨[0], [0, 1, 2, 3, 4, 5, 6, 7, 8, 9, 10, 11, 12, 13, 14, 15, 16, 17, 18, 19, 20, 21, 22, 23, 25], [(33, some 23), (35, some 25)], false⟩, ⟨[0], [0, 1, 2, 3, 4, 5, 6, 7, 8, 9, 10, 11, 12, 13, 14, 15, 16, 17, 18, 19, 20, 21, 22, 23, 24, 25, 26], [(33, some 23), (34, some 24), (36, some 26)], false⟩, ⟨[0], [0, 1, 2, 3, 4, 5, 6, 7, 8, 9, 10, 11, 12, 13, 14, 15, 16, 17, 18, 19, 20, 21, 22, 23, 24, 25, 26, 27], [(33, some 23), (37, some 27)], false⟩, ⟨[0], [0, 1, 2, 3, 4, 5, 6, 7, 8, 9, 10, 11, 12, 13, 14, 15, 16, 17, 18, 19, 20, 21, 22, 23, 24, 25, 26, 27, 28], [(33, some 23), (38, some 28)], false⟩, ⟨[0], [0, 1, 2, 3, 4, 5, 6, 7, 8, 9, 10, 11, 12, 13, 14, 15, 16, 17, 18, 19, 20, 21, 22, 23], [(0, none), (33, some 23)], false⟩, ⟨[0], [0, 1, 2, 3, 4, 5, 6, 7, 8, 9, 10, 11, 12, 13, 14, 15, 16, 17, 18, 19, 20, 21, 22, 23], [(3, none), (33, some 23)], false⟩, ⟨[0], [0, 1, 2, 3, 4, 5, 6, 7, 8, 9, 10, 11, 12, 13, 14, 15, 16, 17, 18, 19, 20, 21, 22, 23, 30, 31], [(33, some 23), (40, some 30), (41, some 31)], false⟩, ⟨[0], [0, 1, 2, 3, 4, 5, 6, 7, 8, 9, 10, 11, 12, 13, 14, 15, 16, 17, 18, 19, 20, 21, 22, 23, 30, 31, 32], [(33, some 23), (42, some 32)], false⟩, ⟨[0], [0, 1, 2, 3, 4, 5, 6, 7, 8, 9, 10, 11, 12, 13, 14, 15, 16, 17, 18, 19, 20, 21, 22, 23, 30, 31, 32, 33], [(33, some 23), (43, some 33)], false⟩, ⟨[], [0, 1, 2, 3, 4, 5, 6, 7, 8, 9, 10, 11, 12, 13, 14, 15, 16, 17, 18, 19, 20, 21, 22, 23, 24, 25, 26, 27, 28, 29, 30, 31, 32, 33, 34], [], false⟩, ⟨[], [0, 1, 2, 3, 4, 5, 6, 7, 8, 9, 10, 11, 12, 13, 14, 15, 16, 17, 18, 19, 20, 21, 22, 23, 24, 25, 26, 27, 28, 29, 30, 31, 32, 33, 34, 35], [], false⟩, ⟨[], [0, 1, 2, 3, 4, 5, 6, 7, 8, 9, 10, 11, 12, 13, 14, 15, 16, 17, 18, 19, 20, 21, 22, 23, 24, 25, 26, 27, 28, 29, 30, 31, 32, 33, 34, 35, 36], [], false⟩] 35 (by kernel_rfl) (by kernel_rfl)
              · refine ⟨?_, ?_, ?_, ?_, ?_, ?_, ?_, ?_, ?_, ?_, ?_, ?_, ?_, ?_, ?_, ?_, ?_, ?_, ?_, ?_, ?_, ?_, ?_, ?_, ?_, ?_, ?_, ?_, ?_, ?_, ?_, ?_, ?_, ?_, ?_, trivial⟩
                · intro tm hr
                  simp [AllL, rdV] at hr
                  simp [hr, hl, hx, hy, hok, hi0, k41, k42, k43, k44]
                  exact KD.mk
                · intro tm hr
                  simp [AllL, rdV] at hr
                  simp [hr, hl, hx, hy, hok, hi0, k41, k42, k43, k44]
                  exact KD.mk
                · intro tm hr
                  simp [AllL, rdV] at hr
                  simp [hr, hl, hx, hy, hok, hi0, k41, k42, k43, k44]
                  exact KD.mk
                · intro tm hr
                  simp [AllL, rdV] at hr
                  simp [hr, hl, hx, hy, hok, hi0, k41, k42, k43, k44]
                  exact KD.mk
                · intro tm hr
                  simp [AllL, rdV] at hr
                  simp [hr, hl, hx, hy, hok, hi0, k41, k42, k43, k44]
                  exact KD.mk
                · intro tm hr
                  simp [AllL, rdV] at hr
                  simp [hr, hl, hx, hy, hok, hi0, k41, k42, k43, k44]
                  exact KD.mk
                · intro tm hr
                  simp [AllL, rdV] at hr
                  simp [hr, hl, hx, hy, hok, hi0, k41, k42, k43, k44]
                  exact KD.mk
                · intro tm hr
                  simp [AllL, rdV] at hr
                  simp [hr, hl, hx, hy, hok, hi0, k41, k42, k43, k44]
                  exact KD.mk
                · intro tm hr
                  simp [AllL, rdV] at hr
                  simp [hr, hl, hx, hy, hok, hi0, k41, k42, k43, k44]
                  exact KD.mk
                · intro tm hr
                  simp [AllL, rdV] at hr
                  simp [hr, hl, hx, hy, hok, hi0, k41, k42, k43, k44]
                  exact KD.mk
                · intro tm hr
                  simp [AllL, rdV] at hr
                  simp [hr, hl, hx, hy, hok, hi0, k41, k42, k43, k44]
                  exact KD.mk
                · intro tm hr
                  simp [AllL, rdV] at hr
                  simp [hr, hl, hx, hy, hok, hi0, k41, k42, k43, k44]
                  exact KD.mk
                · intro tm hr
                  simp [AllL, rdV] at hr
                  simp [hr, hl, hx, hy, hok, hi0, k41, k42, k43, k44]
                  exact KD.mk
                · intro tm hr
                  simp [AllL, rdV] at hr
                  simp [hr, hl, hx, hy, hok, hi0, k41, k42, k43, k44]
                  exact KD.mk
                · intro tm hr
                  simp [AllL, rdV] at hr
                  simp [hr, hl, hx, hy, hok, hi0, k41, k42, k43, k44]
                  exact KD.mk
                · intro tm hr
                  simp [AllL, rdV] at hr
                  simp [hr, hl, hx, hy, hok, hi0, k41, k42, k43, k44]
                  exact KD.mk
                · intro tm hr
                  simp [AllL, rdV] at hr
                  simp [hr, hl, hx, hy, hok, hi0, k41, k42, k43, k44]
                  exact KD.mk
                · intro tm hr
                  simp [AllL, rdV] at hr
                  simp [hr, hl, hx, hy, hok, hi0, k41, k42, k43, k44]
                  exact KD.mk
                · intro tm hr
                  simp [AllL, rdV] at hr
                  simp [hr, hl, hx, hy, hok, hi0, k41, k42, k43, k44]
                  exact KD.mk
                · intro tm hr
                  simp [AllL, rdV] at hr
                  simp [hr, hl, hx, hy, hok, hi0, k41, k42, k43, k44]
                  exact KD.mk
                · intro tm hr
                  simp [AllL, rdV] at hr
                  simp [hr, hl, hx, hy, hok, hi0, k41, k42, k43, k44]
                  exact KD.mk
                · intro tm hr
                  simp [AllL, rdV] at hr
                  simp [hr, hl, hx, hy, hok, hi0, k41, k42, k43, k44]
                  exact KD.mk
                · intro tm hr
                  simp [AllL, rdV] at hr
                  simp [hr, hl, hx, hy, hok, hi0, k41, k42, k43, k44]
                  exact KD.mk
                · intro tm hr
                  simp [AllL, rdV] at hr
                  simp [hr, hl, hx, hy, hok, hi0, k41, k42, k43, k44]
                  exact KD.mk
                · intro tm hr
                  simp [AllL, rdV] at hr
                  simp [hr, hl, hx, hy, hok, hi0, k41, k42, k43, k44]
                  exact KD.mk
                · intro tm hr
                  simp [AllL, rdV] at hr
                  simp [hr, hl, hx, hy, hok, hi0, k41, k42, k43, k44]
                  exact KD.mk
                · intro tm hr
                  simp [AllL, rdV] at hr
                  simp [hr, hl, hx, hy, hok, hi0, k41, k42, k43, k44]
                  exact KD.mk
                · intro tm hr
                  simp [AllL, rdV] at hr
                  simp [hr, hl, hx, hy, hok, hi0, k41, k42, k43, k44]
                  exact KD.mk
                · intro tm hr
                  simp [AllL, rdV] at hr
                  simp [hr, hl, hx, hy, hok, hi0, k41, k42, k43, k44]
                  exact KD.mk
                · intro tm hr
                  simp [AllL, rdV] at hr
                  simp [hr, hl, hx, hy, hok, hi0, k41, k42, k43, k44]
                  exact KD.mk
                · intro tm hr
                  simp [AllL, rdV] at hr
                  simp [hr, hl, hx, hy, hok, hi0, k41, k42, k43, k44]
                  exact KD.mk
                · intro tm hr
                  simp [AllL, rdV] at hr
                  simp [hr, hl, hx, hy, hok, hi0, k41, k42, k43, k44]
                  exact KD.mk
                · intro tm hr
                  simp [AllL, rdV] at hr
                  simp [hr, hl, hx, hy, hok, hi0, k41, k42, k43, k44]
                  exact KD.mk
                · intro tm hr
                  simp [AllL, rdV] at hr
                  simp [hr, hl, hx, hy, hok, hi0, k41, k42, k43, k44]
                  exact KD.mk
                · intro tm hr
                  simp [AllL, rdV] at hr
                  simp [hr, hl, hx, hy, hok, hi0, k41, k42, k43, k44]
                  exact KD.mk
              · rfl
              · simp [tmD, putD, hl, hx, hy, hok, hi0, k41, k42, k43, k44]; rfl
              · simp [hl, hx, hy, hok, hi0, k41, k42, k43, k44]
                rfl
              exact ⟨rfl, Weak.keep _ (by simp [hl, hx, hy, hok, hi0, k41, k42, k43, k44])⟩
            · have hi0 : 0 < i := by omega
              have hw' := hw hi0
              apply AW.drawnR (V := [_, _, _, _, _, _, _, _, _, _, _, _, _, _, _, _, _, _, _, _, _, _, _, _, _, _, _, _, _, _, _, _, _, _, _]) mixed [⟨[0], [], [(3, none)], false⟩, ⟨[0], [0], [(10, some 0)], false⟩, ⟨[0], [0, 1], [(11, some 1)], false⟩, ⟨[0], [0, 1, 2], [(0, none), (12, some 2)], false⟩, ⟨[0], [0, 1, 2], [(3, none), (12, some 2)], false⟩, ⟨[0], [0, 1, 2, 3, 4], [(12, some 2), (13, some 3), (14, some 4)], false⟩, ⟨[0], [0, 1, 2, 3, 4, 5], [(12, some 2), (15, some 5)], false⟩, ⟨[0], [0, 1, 2, 3, 4, 5, 6], [(12, some 2), (16, some 6)], false⟩, ⟨[0], [0, 1, 2, 3, 4, 5, 6, 7], [(12, some 2), (17, some 7)], false⟩, ⟨[0], [0, 1, 2, 3, 4, 5, 6, 7, 8], [(12, some 2), (18, some 8)], false⟩, ⟨[0], [0, 1, 2, 3, 4, 5, 6, 7, 8, 9], [(12, some 2), (19, some 9)], false⟩, ⟨[0], [0, 1, 2, 3, 4, 5, 6, 7, 8, 9, 10], [(20, some 10)], false⟩, ⟨[0], [0, 1, 2, 3, 4, 5, 6, 7, 8, 9, 10, 11], [(0, none), (21, some 11)], false⟩, ⟨[0], [0, 1, 2, 3, 4, 5, 6, 7, 8, 9, 10, 11], [(3, none), (21, some 11)], false⟩, ⟨[0], [0, 1, 2, 3, 4, 5, 6, 7, 8, 9, 10, 11, 12, 13], [(21, some 11), (22, some 12), (23, some 13)], false⟩, ⟨[0], [0, 1, 2, 3, 4, 5, 6, 7, 8, 9, 10, 11, 12, 13, 14], [(21, some 11), (24, some 14)], false⟩, ⟨[0], [0, 1, 2, 3, 4, 5, 6, 7, 8, 9, 10, 11, 12, 13, 14, 15], [(21, some 11), (25, some 15)], false⟩, ⟨[0], [0, 1, 2, 3, 4, 5, 6, 7, 8, 9, 10, 11, 12, 13, 14, 15, 16], [(21, some 11), (26, some 16)], false⟩, ⟨[0], [0, 1, 2, 3, 4, 5, 6, 7, 8, 9, 10, 11, 12, 13, 14, 15, 16, 17], [(21, some 11), (27, some 17)], false⟩, ⟨[0], [0, 1, 2, 3, 4, 5, 6, 7, 8, 9, 10, 11, 12, 13, 14, 15, 16, 17, 18], [(21, some 11), (28, some 18)], false⟩, ⟨[0], [0, 1, 2, 3, 4, 5, 6, 7, 8, 9, 10, 11, 12, 13, 14, 15, 16, 17, 18, 19], [(29, some 19)], false⟩, ⟨[0], [0, 1, 2, 3, 4, 5, 6, 7, 8, 9, 10, 11, 12, 13, 14, 15, 16, 17, 18, 19, 20], [(3, none), (30, some 20)], false⟩, ⟨[0], [0, 1, 2, 3, 4, 5, 6, 7, 8, 9, 10, 11, 12, 13, 14, 15, 16, 17, 18, 19, 20, 21], [(30, some 20), (31, some 21)], false⟩, ⟨[0], [0, 1, 2, 3, 4, 5, 6, 7, 8, 9, 10, 11, 12, 13, 14, 15, 16, 17, 18, 19, 20, 21, 22], [(30, some 20), (32, some 22)], false⟩, ⟨[0], [0, 1, 2, 3, 4, 5, 6, 7, 8, 9, 10, 11, 12, 13, 14, 15, 16, 17, 18, 19, 20, 21, 22, 23], [(0, none), (33, some 23)], false⟩, ⟨[0], [0, 1, 2, 3, 4, 5, 6, 7, 8, 9, 10, 11, 12, 13, 14, 15, 16, 17, 18, 19, 20, 21, 22, 23], [(3, none), (33, some 23)], false⟩, ⟨[0], [0, 1, 2, 3, 4, 5, 6, 7, 8, 9, 10, 11, 12, 13, 14, 15, 16, 17, 18, 19, 20, 21, 22, 23, 25], [(33, some 23), (35, some 25)], false⟩, ⟨[0], [0, 1, 2, 3, 4, 5, 6, 7, 8, 9, 10, 11, 12, 13, 14, 15, 16, 17, 18, 19, 20, 21, 22, 23, 24, 25, 26], [(33, some 23), (34, some 24), (36, some 26)], false⟩, ⟨[0], [0, 1, 2, 3, 4, 5, 6, 7, 8, 9, 10, 11, 12, 13, 14, 15, 16, 17, 18, 19, 20, 21, 22, 23, 24, 25, 26, 27], [(33, some 23), (37, some 27)], false⟩, ⟨[0], [0, 1, 2, 3, 4, 5, 6, 7, 8, 9, 10, 11, 12, 13, 14, 15, 16, 17, 18, 19, 20, 21, 22, 23, 24, 25, 26, 27, 28], [(33, some 23), (38, some 28)], false⟩, ⟨[0], [0, 1, 2, 3, 4, 5, 6, 7, 8, 9, 10, 11, 12, 13, 14, 15, 16, 17, 18, 19, 20, 21, 22, 23], [(0, none), (33, some 23)], false⟩, ⟨[0], [0, 1, 2, 3, 4, 5, 6, 7, 8, 9, 10, 11, 12, 13, 14, 15, 16, 17, 18, 19, 20, 21, 22, 23], [(3, none), (33, some 23)], false⟩, ⟨[0], [0, 1, 2, 3, 4, 5, 6, 7, 8, 9, 10, 11, 12, 13, 14, 15, 16, 17, 18, 19, 20, 21, 22, 23, 30, 31], [(33, some 23), (40, some 30), (41, some 31)], false⟩, ⟨[0], [0, 1, 2, 3, 4, 5, 6, 7, 8, 9, 10, 11, 12, 13, 14, 15, 16, 17, 18, 19, 20, 21, 22, 23, 30, 31, 32], [(33, some 23), (42, some 32)], false⟩, ⟨[0], [0, 1, 2, 3, 4, 5, 6, 7, 8, 9, 10, 11, 12, 13, 14, 15, 16, 17, 18, 19, 20, 21, 22, 23, 30, 31, 32, 33], [(33, some 23), (43, some 33)], false⟩, ⟨[], [0, 1, 2, 3, 4, 5, 6, 7, 8, 9, 10, 11, 12, 13, 14, 15, 16, 17, 18, 19, 20, 21, 22, 23, 24, 25, 26, 27, 28, 29, 30, 31, 32, 33, 34], [], false⟩, ⟨[], [0, 1, 2, 3, 4, 5, 6, 7, 8, 9, 10, 11, 12, 13, 14, 15, 16, 17, 18, 19, 20, 21, 22, 23, 24, 25, 26, 27, 28, 29, 30, 31, 32, 33, 34, 35], [], false⟩, ⟨[], [0, 1, 2, 3, 4, 5, 6, 7, 8, 9, 10, 11, 12, 13, 14, 15, 16, 17, 18, 19, 20, 21, 22, 23, 24, 25, 26, 27, 28, 29, 30, 31, 32, 33, 34, 35, 36], [], false⟩] 35 (by kernel_rfl) (by kernel_rfl)
              · refine ⟨?_, ?_, ?_, ?_, ?_, ?_, ?_, ?_, ?_, ?_, ?_, ?_, ?_, ?_, ?_, ?_, ?_, ?_, ?_, ?_, ?_, ?_, ?_, ?_, ?_, ?_, ?_, ?_, ?_, ?_, ?_, ?_, ?_, ?_, ?_, trivial⟩
                · intro tm hr
                  simp [AllL, rdV] at hr
                  simp [hr, hl, hx, hy, hok, hi0, hw', k41, k42, k43, k44]
                  exact KD.mk
                · intro tm hr
                  simp [AllL, rdV] at hr
                  simp [hr, hl, hx, hy, hok, hi0, hw', k41, k42, k43, k44]
                  exact KD.mk
                · intro tm hr
                  simp [AllL, rdV] at hr
                  simp [hr, hl, hx, hy, hok, hi0, hw', k41, k42, k43, k44]
                  exact KD.mk
                · intro tm hr
                  simp [AllL, rdV] at hr
                  simp [hr, hl, hx, hy, hok, hi0, hw', k41, k42, k43, k44]
                  exact KD.mk
                · intro tm hr
                  simp [AllL, rdV] at hr
                  simp [hr, hl, hx, hy, hok, hi0, hw', k41, k42, k43, k44]
                  exact KD.mk
                · intro tm hr
                  simp [AllL, rdV] at hr
                  simp [hr, hl, hx, hy, hok, hi0, hw', k41, k42, k43, k44]
                  exact KD.mk
                · intro tm hr
                  simp [AllL, rdV] at hr
                  simp [hr, hl, hx, hy, hok, hi0, hw', k41, k42, k43, k44]
                  exact KD.mk
                · intro tm hr
                  simp [AllL, rdV] at hr
                  simp [hr, hl, hx, hy, hok, hi0, hw', k41, k42, k43, k44]
                  exact KD.mk
                · intro tm hr
                  simp [AllL, rdV] at hr
                  simp [hr, hl, hx, hy, hok, hi0, hw', k41, k42, k43, k44]
                  exact KD.mk
                · intro tm hr
                  simp [AllL, rdV] at hr
                  simp [hr, hl, hx, hy, hok, hi0, hw', k41, k42, k43, k44]
                  exact KD.mk
                · intro tm hr
                  simp [AllL, rdV] at hr
                  simp [hr, hl, hx, hy, hok, hi0, hw', k41, k42, k43, k44]
                  exact KD.mk
                · intro tm hr
                  simp [AllL, rdV] at hr
                  simp [hr, hl, hx, hy, hok, hi0, hw', k41, k42, k43, k44]
                  exact KD.mk
                · intro tm hr
                  simp [AllL, rdV] at hr
                  simp [hr, hl, hx, hy, hok, hi0, hw', k41, k42, k43, k44]
                  exact KD.mk
                · intro tm hr
                  simp [AllL, rdV] at hr
                  simp [hr, hl, hx, hy, hok, hi0, hw', k41, k42, k43, k44]
                  exact KD.mk
                · intro tm hr
                  simp [AllL, rdV] at hr
                  simp [hr, hl, hx, hy, hok, hi0, hw', k41, k42, k43, k44]
                  exact KD.mk
                · intro tm hr
                  simp [AllL, rdV] at hr
                  simp [hr, hl, hx, hy, hok, hi0, hw', k41, k42, k43, k44]
                  exact KD.mk
                · intro tm hr
                  simp [AllL, rdV] at hr
                  simp [hr, hl, hx, hy, hok, hi0, hw', k41, k42, k43, k44]
                  exact KD.mk
                · intro tm hr
                  simp [AllL, rdV] at hr
                  simp [hr, hl, hx, hy, hok, hi0, hw', k41, k42, k43, k44]
                  exact KD.mk
                · intro tm hr
                  simp [AllL, rdV] at hr
                  simp [hr, hl, hx, hy, hok, hi0, hw', k41, k42, k43, k44]
                  exact KD.mk
                · intro tm hr
                  simp [AllL, rdV] at hr
                  simp [hr, hl, hx, hy, hok, hi0, hw', k41, k42, k43, k44]
                  exact KD.mk
                · intro tm hr
                  simp [AllL, rdV] at hr
                  simp [hr, hl, hx, hy, hok, hi0, hw', k41, k42, k43, k44]
                  exact KD.mk
                · intro tm hr
                  simp [AllL, rdV] at hr
                  simp [hr, hl, hx, hy, hok, hi0, hw', k41, k42, k43, k44]
                  exact KD.mk
                · intro tm hr
                  simp [AllL, rdV] at hr
                  simp [hr, hl, hx, hy, hok, hi0, hw', k41, k42, k43, k44]
                  exact KD.mk
                · intro tm hr
                  simp [AllL, rdV] at hr
                  simp [hr, hl, hx, hy, hok, hi0, hw', k41, k42, k43, k44]
                  exact KD.mk
                · intro tm hr
                  simp [AllL, rdV] at hr
                  simp [hr, hl, hx, hy, hok, hi0, hw', k41, k42, k43, k44]
                  exact KD.mk
                · intro tm hr
                  simp [AllL, rdV] at hr
                  simp [hr, hl, hx, hy, hok, hi0, hw', k41, k42, k43, k44]
                  exact KD.mk
                · intro tm hr
                  simp [AllL, rdV] at hr
                  simp [hr, hl, hx, hy, hok, hi0, hw', k41, k42, k43, k44]
                  exact KD.mk
                · intro tm hr
                  simp [AllL, rdV] at hr
                  simp [hr, hl, hx, hy, hok, hi0, hw', k41, k42, k43, k44]
                  exact KD.mk
                · intro tm hr
                  simp [AllL, rdV] at hr
                  simp [hr, hl, hx, hy, hok, hi0, hw', k41, k42, k43, k44]
                  exact KD.mk
                · intro tm hr
                  simp [AllL, rdV] at hr
                  simp [hr, hl, hx, hy, hok, hi0, hw', k41, k42, k43, k44]
                  exact KD.mk
                · intro tm hr
                  simp [AllL, rdV] at hr
                  simp [hr, hl, hx, hy, hok, hi0, hw', k41, k42, k43, k44]
                  exact KD.mk
                · intro tm hr
                  simp [AllL, rdV] at hr
                  simp [hr, hl, hx, hy, hok, hi0, hw', k41, k42, k43, k44]
                  exact KD.mk
                · intro tm hr
                  simp [AllL, rdV] at hr
                  simp [hr, hl, hx, hy, hok, hi0, hw', k41, k42, k43, k44]
                  exact KD.mk
                · intro tm hr
                  simp [AllL, rdV] at hr
                  simp [hr, hl, hx, hy, hok, hi0, hw', k41, k42, k43, k44]
                  exact KD.mk
                · intro tm hr
                  simp [AllL, rdV] at hr
                  simp [hr, hl, hx, hy, hok, hi0, hw', k41, k42, k43, k44]
                  exact KD.mk
              · rfl
              · simp [tmD, putD, hl, hx, hy, hok, hi0, hw', k41, k42, k43, k44]; rfl
              · simp [hl, hx, hy, hok, hi0, hw', k41, k42, k43, k44]
                rfl
              exact ⟨rfl, Weak.keep _ (by simp [hl, hx, hy, hok, hi0, hw', k41, k42, k43, k44])⟩
    simp only [List.cons_append, List.nil_append]
    refine AW.cond rfl (fun h4 => ?_) (fun h4 => ?_)
    · simp at h4
      refine AW.step (by simp [hl]; rfl) ?_
      refine AW.ret ?_
      refine Left.plain hnb (by simp [Try.f26, resV, resC, comp, hl]; rfl) rfl rfl ?_
      simp [risingF, all_range_no h2 h4]
    · simp at h4
      refine AW.skip ?_
      simp only [Post.seq, Post.block, if_true]
      refine AW.last (by simp [hl]; rfl) ?_
      simp only [Post.seq, Post.block, if_true]
      refine ⟨i + 1, Weak.keep _ (by simp [i64_succ (show i + 1 ≤ 9223372036854775807 by omega)]), ⟨by omega, all_range_succ g2 h4⟩, by omega⟩
  · try simp at h2
    refine AW.exit ?_
    simp only [Post.seq, Post.block, if_true]
    have hi : i = l.length := by omega
    subst hi
    refine AW.step (by simp [hl]; rfl) ?_
    refine AW.ret ?_
    refine Left.plain hnb (by simp [Try.f26, resV, resC, comp, hl]; rfl) rfl rfl ?_
    simp [risingF, g2]
theorem en_l7rising : Enters Try.prog 26 := enters Try.func26 (by kernel_rfl) rfl
end Go.Proofs.Ytlkhfdccapkcdaa
