/- Walks: lists with one more, with one less. -/
import Derived.Test.YtlkhfdccapkcdaaG4
namespace Go.Proofs.Ytlkhfdccapkcdaa
open Go Go.RowKit
set_option linter.unusedVariables false
set_option linter.unusedSimpArgs false
def insA {α : Type} (l : List α) (i : Nat) (x : α) : List α := l.take i ++ x :: l.drop i
theorem insA_length {α : Type} (l : List α) (i : Nat) (x : α) (h : i ≤ l.length) : (insA l i x).length = l.length + 1 := by
  simp [insA]
  omega
set_option maxRecDepth 8000 in
set_option maxHeartbeats 8000000 in
theorem s_insField (l : List Field) (i : Nat) (x : Field) (hi : i ≤ l.length) (hl : l.length ≤ 1000000000) : Sound Try.prog 76 [.l (.r 0 2 0 l.length), .l (.s (.int .i64 i)), .l (.r 1 2 0 1)] [⟨105, 2, true, none, lvs (encField l)⟩, ⟨105, 2, true, none, lvs (encField [x])⟩] (.l (.r 0 2 0 (l.length + 1))) [some ⟨105, 2, true, none, lvs (encField (insA l i x))⟩, some ⟨105, 2, true, none, lvs (encField [x])⟩] := by
  refine Sound.of_aw (fn := Try.f76) (c := _) Try.func76 rfl (by simp [Try.f76]) fun cx hG hnb => ?_
  rw [show Try.f76.ntmps = 95 from rfl]
  have hn0 : cx.nb = 2 := hnb
  have hlv : (lvs (encField l)).length = l.length * 2 := by rw [lvs_length (encField_sz l)]; simp
  have hw1 := i64_succ (show l.length + 1 ≤ 9223372036854775807 by omega)
  have hlx : (lvs (encField [x])).length = 2 := by rw [lvs_length (encField_sz _)]; simp
  refine AW.step (by simp [hi, hw1]; rfl) ?_
  refine AW.step (by simp [hi, hw1, hlv]; rfl) ?_
  refine AW.step (by simp [hi, hw1]; rfl) ?_
  refine AW.seq ?_
  refine AW.step (by simp [hi, hw1]; rfl) ?_
  refine AW.cond rfl (fun h3 => ?_) (fun h3 => ?_)
  · simp at h3
  · try simp at h3
    refine AW.skip ?_
    simp only [Post.seq, Post.block, if_true]
    refine AW.step (by simp [hi, hw1]; rfl) ?_
    refine AW.seq ?_
    refine AW.step (by simp [hi, hw1]; rfl) ?_
    refine AW.cond rfl (fun h6 => ?_) (fun h6 => ?_)
    · simp at h6
      have hins : insA l i x = l ++ [x] := by simp [insA, show i = l.length by omega]
      apply AW.step
      · simp [hi, hw1]
        refine xapp_push (acc := encField l) (ys := encField [x]) (cap := none) (k := 1) tb_el31 tb_ti105 (by simp) (src_row (e := 105) (cap := none) (by simp) (encField_sz _) (by simp)) (encField_sz _) (by simp) (by simp) (by omega) ?_
        simp [St.grow, obsBut, ← encField_append, ← hins]
        try simp [hi, hw1]
        rfl
      refine AW.ret ?_
      refine Left.of (av := _) (by simp [Try.f76, resV, resC, comp, hi, hw1]; rfl) ?_
      exact LeftV.rows [some 0, some 1] (by simp; omega) (nd_pair (by omega)) rfl rfl (by simp [pickOb, hi, hw1]) (by simp [hi, hw1])
    · simp at h6
      have hil : i < l.length := by omega
      have hin : (i : Int) + (l.length + 1 - i : Nat) = l.length + 1 := by omega
      have hin2 : i + (l.length + 1 - i) = l.length + 1 := by omega
      have hw2 := i64_succ (show i + 1 ≤ 9223372036854775807 by omega)
      refine AW.skip ?_
      simp only [Post.seq, Post.block, if_true]
      refine AW.seq ?_
      apply AW.stepK
      simp [hi, hw1]
      refine xcap_row tb_el31 rfl rfl fun c hc1 _ hc3 => ?_
      simp [hw1]
      unfold KK
      refine AW.cond rfl (fun h8 => ?_) (fun h8 => ?_)
      · simp at h8
        have hcl : c = l.length := by omega
        obtain ⟨es2, he2⟩ : ∃ es2, es2 = (encField l).take i ++ List.replicate (l.length + 1 - i) [.v (.string ⟨#[]⟩), .v (.string ⟨#[]⟩)] := ⟨_, rfl⟩
        have hs2 : ∀ e ∈ es2, e.length = 2 := by
          intro e he
          rw [he2] at he
          rcases List.mem_append.1 he with h | h
          · exact encField_sz l e (List.mem_of_mem_take h)
          · rw [(List.mem_replicate.1 h).2]; rfl
        have hn2 : es2.length = l.length + 1 := by rw [he2]; simp; omega
        have hv2 : (lvs es2).length = (l.length + 1) * 2 := by rw [lvs_length hs2, hn2]
        obtain ⟨es3, he3⟩ : ∃ es3, es3 = es2.take i ++ encField [x] ++ es2.drop (i + 1) := ⟨_, rfl⟩
        have hs3 : ∀ e ∈ es3, e.length = 2 := by
          intro e he
          rw [he3] at he
          simp only [List.mem_append] at he
          rcases he with (h | h) | h
          · exact hs2 e (List.mem_of_mem_take h)
          · exact encField_sz _ e h
          · exact hs2 e (List.mem_of_mem_drop h)
        have hn3 : es3.length = l.length + 1 := by rw [he3]; simp [hn2]; omega
        have hv3 : (lvs es3).length = (l.length + 1) * 2 := by rw [lvs_length hs3, hn3]
        have hend : es3.take (i + 1) ++ ((encField l).drop i).take (l.length - i) = encField (insA l i x) := by
          rw [List.take_of_length_le (l := (encField l).drop i) (by simp)]
          rw [he3, List.take_append_of_le_length (by simp [hn2]; omega), List.take_of_length_le (by simp; omega), he2, List.take_append_of_le_length (by simp; omega)]
          simp [encField, insA, List.take_take]
        apply AW.step
        · simp [hi, hw1, hlv]
          repeat refine ⟨by omega, ?_⟩
          refine xmake_own (zr := [.v (.string ⟨#[]⟩), .v (.string ⟨#[]⟩)]) (es := encField l) tb_el31 tb_ti105 rfl ⟨rfl, rfl, by omega⟩ rfl rfl (encField_sz _) (by simp; omega) (l.length + 1 - i) (by rw [i64_in (by omega) (by omega)]; omega) (by omega) (by omega) (by omega) (by omega) ?_
          simp [hin2]
          try simp [hi, hw1, hlv]
          rfl
        apply AW.step
        · simp [hi, hw1, hv2, ← he2]
          repeat refine ⟨by omega, ?_⟩
          refine xcopy_own tb_el31 tb_ti105 rfl (by simp [hv2]) (by omega) 1 (by omega) (by omega) (src_at (cap := none) rfl (encField_sz [x]) (by simp)) (setAt_mid (fs := encField [x]) hs2 (encField_sz _) (by simp [hn2]; omega)) ?_
          simp [← he3]
          try simp [hi, hw1, hv2, ← he2]
          rfl
        apply AW.drawnP (V := [_, _, _, _, _, _, _, _]) mixed [⟨[0], [], [(9, none)], false⟩, ⟨[0], [], [(1, none)], false⟩, ⟨[0], [], [(7, none)], false⟩, ⟨[0], [1, 2], [(47, some 1), (48, some 2)], false⟩, ⟨[0], [0, 1, 2, 3], [(46, some 0), (49, some 3)], false⟩, ⟨[0], [], [(0, none)], false⟩, ⟨[0], [], [(1, none)], false⟩, ⟨[0], [5, 6], [(51, some 5), (52, some 6)], false⟩, ⟨[], [0, 1, 2, 3, 4, 5, 6, 7], [], false⟩] 8 (by kernel_rfl) (by kernel_rfl)
        · refine ⟨?_, ?_, ?_, ?_, ?_, ?_, ?_, ?_, trivial⟩
          · intro tm hr
            simp [AllL, rdV] at hr
            simp [hr, hi, hw1, hv3, hw2, hlv]
            repeat refine ⟨by omega, ?_⟩
            exact KD.mk
          · intro tm hr
            simp [AllL, rdV] at hr
            simp [hr, hi, hw1, hv3, hw2, hlv]
            repeat refine ⟨by omega, ?_⟩
            exact KD.mk
          · intro tm hr
            simp [AllL, rdV] at hr
            simp [hr, hi, hw1, hv3, hw2, hlv]
            repeat refine ⟨by omega, ?_⟩
            exact KD.mk
          · intro tm hr
            simp [AllL, rdV] at hr
            simp [hr, hi, hw1, hv3, hw2, hlv]
            repeat refine ⟨by omega, ?_⟩
            exact KD.mk
          · intro tm hr
            simp [AllL, rdV] at hr
            simp [hr, hi, hw1, hv3, hw2, hlv]
            repeat refine ⟨by omega, ?_⟩
            exact KD.mk
          · intro tm hr
            simp [AllL, rdV] at hr
            simp [hr, hi, hw1, hv3, hw2, hlv]
            repeat refine ⟨by omega, ?_⟩
            exact KD.mk
          · intro tm hr
            simp [AllL, rdV] at hr
            simp [hr, hi, hw1, hv3, hw2, hlv]
            repeat refine ⟨by omega, ?_⟩
            exact KD.mk
          · intro tm hr
            simp [AllL, rdV] at hr
            simp [hr, hi, hw1, hv3, hw2, hlv]
            repeat refine ⟨by omega, ?_⟩
            exact KD.mk
        · rfl
        · simp [tmD, putD, hi, hw1, hv3, hw2, hlv]; rfl
        · simp [hi, hw1, hv3, hw2, hlv]
          repeat refine ⟨by omega, ?_⟩
          refine xcopy_own tb_el31 tb_ti105 rfl (by simp [hv3]) (by omega) (l.length - i) (by omega) (by omega) (src_at (cap := some c) rfl (encField_sz l) (by simp; omega)) (setAt_end0 (fs := ((encField l).drop i).take (l.length - i)) hs3 (fun e he => encField_sz l e (List.mem_of_mem_drop (List.mem_of_mem_take he))) (by omega) (by simp [hn3]; omega)) ?_
          try simp [hend]
          try simp [hi, hw1, hv3, hw2, hlv]
          rfl
        refine AW.step (by simp [hi, hw1]; rfl) ?_
        refine AW.ret ?_
        refine Left.of (av := _) (by simp [Try.f76, resV, resC, comp, hi, hw1]; rfl) ?_
        exact LeftV.rows [some 2, some 1] (by simp; omega) (nd_pair (by omega)) rfl rfl (by simp [pickOb, hi, hw1]) (by simp [hi, hw1])
      · have hc' : l.length + 1 ≤ c := by
          simp at h8
          omega
        refine AW.room 0 2 rfl rfl rfl (by simp [hlv]; omega) rfl rfl ?_
        have hlv3 : (lvs (encField l) ++ [LV.u, LV.u]).length = (l.length + 1) * 2 := by simp [hlv]; omega
        refine AW.skip ?_
        simp only [Post.seq, Post.block, if_true]
        refine AW.step (by simp [hi, hw1, hlv3, hlv]; (repeat refine ⟨by omega, ?_⟩); rfl) ?_
        refine AW.seq ?_
        apply AW.step
        · simp [hi, hw1, hlv3, hw2]
          repeat refine ⟨by omega, ?_⟩
          refine xcall_overlaps (t := 31) (tb := 4) Try.func111 (by kernel_rfl) (by kernel_rfl) (by kernel_rfl) (by kernel_rfl) tb_el31 tb_ti105 rfl rfl (by omega) (by simp) ?_
          try simp [hi, hw1, hlv3, hw2]
          rfl
        refine AW.cond rfl (fun h14 => ?_) (fun h14 => ?_)
        · try simp at h14
          apply AW.drawnP (V := [_, _, _, _, _, _, _, _]) mixed [⟨[0], [], [(0, none)], false⟩, ⟨[0], [], [(1, none)], false⟩, ⟨[0], [], [(7, none)], false⟩, ⟨[0], [1, 2], [(70, some 1), (71, some 2)], false⟩, ⟨[0], [0, 1, 2, 3], [(69, some 0), (72, some 3)], false⟩, ⟨[0], [], [(0, none)], false⟩, ⟨[0], [], [(1, none)], false⟩, ⟨[0], [5, 6], [(74, some 5), (75, some 6)], false⟩, ⟨[], [0, 1, 2, 3, 4, 5, 6, 7], [], false⟩] 8 (by kernel_rfl) (by kernel_rfl)
          · refine ⟨?_, ?_, ?_, ?_, ?_, ?_, ?_, ?_, trivial⟩
            · intro tm hr
              simp [AllL, rdV] at hr
              simp [hr, hi, hw1, hlv3, hw2]
              repeat refine ⟨by omega, ?_⟩
              exact KD.mk
            · intro tm hr
              simp [AllL, rdV] at hr
              simp [hr, hi, hw1, hlv3, hw2]
              repeat refine ⟨by omega, ?_⟩
              exact KD.mk
            · intro tm hr
              simp [AllL, rdV] at hr
              simp [hr, hi, hw1, hlv3, hw2]
              repeat refine ⟨by omega, ?_⟩
              exact KD.mk
            · intro tm hr
              simp [AllL, rdV] at hr
              simp [hr, hi, hw1, hlv3, hw2]
              repeat refine ⟨by omega, ?_⟩
              exact KD.mk
            · intro tm hr
              simp [AllL, rdV] at hr
              simp [hr, hi, hw1, hlv3, hw2]
              repeat refine ⟨by omega, ?_⟩
              exact KD.mk
            · intro tm hr
              simp [AllL, rdV] at hr
              simp [hr, hi, hw1, hlv3, hw2]
              repeat refine ⟨by omega, ?_⟩
              exact KD.mk
            · intro tm hr
              simp [AllL, rdV] at hr
              simp [hr, hi, hw1, hlv3, hw2]
              repeat refine ⟨by omega, ?_⟩
              exact KD.mk
            · intro tm hr
              simp [AllL, rdV] at hr
              simp [hr, hi, hw1, hlv3, hw2]
              repeat refine ⟨by omega, ?_⟩
              exact KD.mk
          · rfl
          · simp [tmD, putD, hi, hw1, hlv3, hw2]; rfl
          · simp [hi, hw1, hlv3, hw2]
            repeat refine ⟨by omega, ?_⟩
            refine xcopy_own tb_el31 tb_ti105 rfl (by simp [hlv3]) (by omega) (l.length - i) (by omega) (by omega) (src_atP (cap := some c) (us := [.u, .u]) rfl (encField_sz l) (by simp; omega)) (setAt_end (fs := ((encField l).drop i).take (l.length - i)) (encField_sz l) (fun e he => encField_sz l e (List.mem_of_mem_drop (List.mem_of_mem_take he))) (by simp; omega) (by simp; omega)) ?_
            try simp [hi, hw1, hlv3, hw2]
            rfl
          obtain ⟨es4, he4⟩ : ∃ es4, es4 = (encField l).take (i + 1) ++ ((encField l).drop i).take (l.length - i) := ⟨_, rfl⟩
          have hs4 : ∀ e ∈ es4, e.length = 2 := by
            intro e he
            rw [he4] at he
            rcases List.mem_append.1 he with h | h
            · exact encField_sz l e (List.mem_of_mem_take h)
            · exact encField_sz l e (List.mem_of_mem_drop (List.mem_of_mem_take h))
          have hn4 : es4.length = l.length + 1 := by rw [he4]; simp; omega
          have hend : es4.take i ++ encField [x] ++ es4.drop (i + 1) = encField (insA l i x) := by
            have hA : ((encField l).take (i + 1)).length = i + 1 := by simp; omega
            rw [he4, List.drop_left' hA, List.take_append_of_le_length (by omega), List.take_take, Nat.min_eq_left (by omega), List.take_of_length_le (l := (encField l).drop i) (by simp)]
            simp [encField, insA]
          have hv4 : (lvs es4).length = (l.length + 1) * 2 := by rw [lvs_length hs4, hn4]
          simp only [← he4]
          apply AW.step
          · simp [hi, hw1, hv4]
            repeat refine ⟨by omega, ?_⟩
            refine xcopy_own tb_el31 tb_ti105 rfl (by simp [hv4]) (by omega) 1 (by omega) (by omega) (src_at (cap := none) rfl (encField_sz [x]) (by simp)) (setAt_mid (fs := encField [x]) hs4 (encField_sz _) (by rw [hn4, encField_length]; simp; omega)) ?_
            simp [hend]
            try simp [hi, hw1, hv4]
            rfl
          refine AW.step (by simp [hi, hw1]; rfl) ?_
          refine AW.ret ?_
          refine Left.of (av := _) (by simp [Try.f76, resV, resC, comp, hi, hw1]; rfl) ?_
          refine LeftV.shrink 0 ((l.length + 1) * 2) rfl rfl rfl rfl ?_
          have hlf : (lvs (encField (insA l i x))).take ((l.length + 1) * 2) = lvs (encField (insA l i x)) := List.take_of_length_le (by rw [lvs_length (encField_sz _)]; simp [insA_length l i x hi])
          exact LeftV.rows [some 0, some 1] (by simp; omega) (nd_pair (by omega)) rfl rfl (by simp [pickOb, hlf]) (by simp)
        · simp at h14
theorem en_insField : Enters Try.prog 76 := enters Try.func76 (by kernel_rfl) rfl
def delA {α : Type} (l : List α) (i : Nat) : List α := l.take i ++ l.drop (i + 1)
theorem delA_length {α : Type} (l : List α) (i : Nat) (h : i < l.length) : (delA l i).length = l.length - 1 := by
  simp [delA]
  omega
set_option maxRecDepth 8000 in
set_option maxHeartbeats 8000000 in
theorem s_delField (l : List Field) (i : Nat) (hi : i < l.length) (hl : l.length ≤ 1000000000) : Sound Try.prog 77 [.l (.r 0 2 0 l.length), .l (.s (.int .i64 i)), .l (.s (.int .i64 (((i + 1 : Nat) : Int))))] [⟨105, 2, true, none, lvs (encField l)⟩] (.l (.r 0 2 0 (l.length - 1))) [some ⟨105, 2, true, none, lvs (encField (delA l i))⟩] := by
  refine Sound.of_aw (fn := Try.f77) (c := _) Try.func77 rfl (by simp [Try.f77]) fun cx hG hnb => ?_
  rw [show Try.f77.ntmps = 33 from rfl]
  have hn0 : cx.nb = 1 := hnb
  have hlv : (lvs (encField l)).length = l.length * 2 := by rw [lvs_length (encField_sz l)]; simp
  have hn1 : i + (l.length - (i + 1)) = l.length - 1 := by omega
  obtain ⟨es5, he5⟩ : ∃ es5, es5 = (encField l).take i ++ ((encField l).drop (i + 1)).take (l.length - (i + 1)) ++ (encField l).drop (i + (((encField l).drop (i + 1)).take (l.length - (i + 1))).length) := ⟨_, rfl⟩
  have hF : (((encField l).drop (i + 1)).take (l.length - (i + 1))) = (encField l).drop (i + 1) := List.take_of_length_le (by simp)
  have hs5 : ∀ e ∈ es5, e.length = 2 := by
    intro e he
    rw [he5, hF] at he
    simp only [List.mem_append] at he
    rcases he with (h | h) | h
    · exact encField_sz l e (List.mem_of_mem_take h)
    · exact encField_sz l e (List.mem_of_mem_drop h)
    · exact encField_sz l e (List.mem_of_mem_drop h)
  have hn5 : es5.length = l.length := by
    rw [he5, hF]
    simp
    omega
  have hv5 : (lvs es5).length = l.length * 2 := by rw [lvs_length hs5, hn5]
  have hend : es5.take (l.length - 1) = encField (delA l i) := by
    rw [he5, hF, List.take_left' (by simp; omega)]
    simp [encField, delA]
  have hset : setAt (lvs (encField l)) (i * 2) (lvs (((encField l).drop (i + 1)).take (l.length - (i + 1)))) = lvs es5 := by
    rw [he5]
    exact setAt_mid (encField_sz l) (fun e he => encField_sz l e (List.mem_of_mem_drop (List.mem_of_mem_take he))) (by rw [hF]; simp; omega)
  refine AW.step (by simp [hlv]; rfl) ?_
  refine AW.step (by simp [hlv]; (repeat refine ⟨by omega, ?_⟩); rfl) ?_
  refine AW.seq ?_
  refine AW.step (by simp [hlv]; rfl) ?_
  refine AW.cond rfl (fun h2 => ?_) (fun h2 => ?_)
  · simp at h2
    omega
  · try simp at h2
    refine AW.skip ?_
    simp only [Post.seq, Post.block, if_true]
    refine AW.step (by simp [hlv]; rfl) ?_
    apply AW.drawnP (V := [_, _, _, _, _, _]) mixed [⟨[0], [], [(0, none)], false⟩, ⟨[0], [], [(1, none)], false⟩, ⟨[0], [0, 1], [(20, some 0), (21, some 1)], false⟩, ⟨[0], [], [(0, none)], false⟩, ⟨[0], [], [(2, none)], false⟩, ⟨[0], [3, 4], [(23, some 3), (24, some 4)], false⟩, ⟨[], [0, 1, 2, 3, 4, 5], [], false⟩, ⟨[], [0, 1, 2, 3, 4, 5, 6], [], false⟩] 6 (by kernel_rfl) (by kernel_rfl)
    · refine ⟨?_, ?_, ?_, ?_, ?_, ?_, trivial⟩
      · intro tm hr
        simp [AllL, rdV] at hr
        simp [hr, hlv, hn1]
        repeat refine ⟨by omega, ?_⟩
        exact KD.mk
      · intro tm hr
        simp [AllL, rdV] at hr
        simp [hr, hlv, hn1]
        repeat refine ⟨by omega, ?_⟩
        exact KD.mk
      · intro tm hr
        simp [AllL, rdV] at hr
        simp [hr, hlv, hn1]
        repeat refine ⟨by omega, ?_⟩
        exact KD.mk
      · intro tm hr
        simp [AllL, rdV] at hr
        simp [hr, hlv, hn1]
        repeat refine ⟨by omega, ?_⟩
        exact KD.mk
      · intro tm hr
        simp [AllL, rdV] at hr
        simp [hr, hlv, hn1]
        repeat refine ⟨by omega, ?_⟩
        exact KD.mk
      · intro tm hr
        simp [AllL, rdV] at hr
        simp [hr, hlv, hn1]
        repeat refine ⟨by omega, ?_⟩
        exact KD.mk
    · rfl
    · simp [tmD, putD, hlv, hn1]; rfl
    · simp [hlv, hn1]
      repeat refine ⟨by omega, ?_⟩
      refine xapp_in (z := ⟨105, 2, true, none, lvs (encField l)⟩) (q := (l.length - (i + 1), lvs (((encField l).drop (i + 1)).take (l.length - (i + 1))))) tb_el31 tb_ti105 ⟨rfl, by decide, by decide⟩ (src_all (cap := none) rfl (encField_sz l) (by omega) (by simp)) rfl ⟨rfl, rfl, rfl, rfl⟩ (by simp [hlv]; omega) ?_
      simp [hset]
      try simp [hlv, hn1]
      rfl
    refine AW.step (by simp [hlv, hv5, hset]; (repeat refine ⟨by omega, ?_⟩); rfl) ?_
    refine AW.step (by simp [hlv]; rfl) ?_
    refine AW.ret ?_
    refine Left.of (av := _) (by simp [Try.f77, resV, resC, comp, hlv]; rfl) ?_
    refine LeftV.shrink 0 ((l.length - 1) * 2) rfl rfl rfl rfl ?_
    refine LeftV.rows [some 0] (by simp; omega) nd_one rfl rfl ?_ (by simp)
    simp [pickOb, setAt_take, lvs_takeN hs5, hend]
theorem en_delField : Enters Try.prog 77 := enters Try.func77 (by kernel_rfl) rfl
end Go.Proofs.Ytlkhfdccapkcdaa
