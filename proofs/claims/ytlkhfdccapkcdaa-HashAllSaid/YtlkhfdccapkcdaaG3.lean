/- Walks: lists held against one another. -/
import Derived.Test.YtlkhfdccapkcdaaG2
namespace Go.Proofs.Ytlkhfdccapkcdaa
open Go Go.RowKit
set_option linter.unusedVariables false
set_option linter.unusedSimpArgs false
set_option maxRecDepth 8000 in
theorem s_r1Texts (l m : List ByteArray) : Sound Try.prog 31 [.l (.d true 1 ((encS l))), .l (.d true 1 ((encS m)))] [] (.l (.s (.bool ((decide (l = m)))))) [] := by
  refine Sound.of_aw (fn := Try.f31) (c := _) Try.func31 rfl (by simp [Try.f31]) fun cx hG hnb => ?_
  rw [show Try.f31.ntmps = 26 from rfl]
  have hn0 : cx.nb = 0 := hnb
  refine AW.len_d 0 rfl fun hl => ?_
  refine AW.len_d 1 rfl fun hm => ?_
  simp only [encS_length] at hl hm
  refine AW.step (by simp [hl, hm]; rfl) ?_
  refine AW.seq ?_
  refine AW.step (by simp [hl, hm]; rfl) ?_
  refine AW.cond rfl (fun h1 => ?_) (fun h1 => ?_)
  · try simp at h1
    refine AW.step (by simp [hl, hm]; rfl) ?_
    refine AW.ret ?_
    refine Left.plain hnb (by simp [Try.f31, resV, resC, comp, hl, hm]; rfl) rfl rfl ?_
    have : l ≠ m := by
      rintro rfl
      simp at h1
    simp [this]
  · have hlm : l.length = m.length := by
      simp at h1
      omega
    refine AW.skip ?_
    simp only [Post.seq, Post.block, if_true]
    refine AW.seq ?_
    refine AW.step (by simp [hl, hm]; rfl) ?_
    refine AW.block ?_
    refine AW.loopF (α := Nat) [4, 5, 11, 12, 13, 14, 15, 16, 17, 18, 19, 20, 21, 22, 23, 24, 25] (fun i => [(5, .l (.s (.int .i64 i)))]) (fun _ => []) (fun i => i ≤ l.length ∧ l.take i = m.take i) (fun i => l.length - i) 0 (by simp; rfl) (by simp) rfl ⟨Nat.zero_le _, rfl⟩ ?_
    rintro i ⟨g1, g2⟩
    refine AW.seq ?_
    refine AW.step (by simp [hl, hm]; rfl) ?_
    refine AW.cond rfl (fun h4 => ?_) (fun h4 => ?_)
    · simp at h4
      obtain ⟨x, hx⟩ := get_some h4
      obtain ⟨y, hy⟩ := get_some (show i < m.length by omega)
      refine AW.skip ?_
      simp only [Post.seq, Post.block, if_true]
      refine AW.seq ?_
      refine AW.block ?_
      apply AW.drawnP (V := [_, _, _, _, _, _, _, _]) mixed [⟨[0], [], [(0, none)], false⟩, ⟨[0], [], [(5, none)], false⟩, ⟨[0], [0, 1], [(17, some 0), (18, some 1)], false⟩, ⟨[0], [0, 1, 2], [(19, some 2)], false⟩, ⟨[0], [], [(1, none)], false⟩, ⟨[0], [], [(5, none)], false⟩, ⟨[0], [4, 5], [(21, some 4), (22, some 5)], false⟩, ⟨[0], [4, 5, 6], [(23, some 6)], false⟩, ⟨[], [0, 1, 2, 3, 4, 5, 6, 7], [], false⟩] 8 (by kernel_rfl) (by kernel_rfl)
      · refine ⟨?_, ?_, ?_, ?_, ?_, ?_, ?_, ?_, trivial⟩
        · intro tm hr
          simp [AllL, rdV] at hr
          simp [hr, hl, hm, hx, hy]
          exact KD.mk
        · intro tm hr
          simp [AllL, rdV] at hr
          simp [hr, hl, hm, hx, hy]
          exact KD.mk
        · intro tm hr
          simp [AllL, rdV] at hr
          simp [hr, hl, hm, hx, hy]
          exact KD.mk
        · intro tm hr
          simp [AllL, rdV] at hr
          simp [hr, hl, hm, hx, hy]
          exact KD.mk
        · intro tm hr
          simp [AllL, rdV] at hr
          simp [hr, hl, hm, hx, hy]
          exact KD.mk
        · intro tm hr
          simp [AllL, rdV] at hr
          simp [hr, hl, hm, hx, hy]
          exact KD.mk
        · intro tm hr
          simp [AllL, rdV] at hr
          simp [hr, hl, hm, hx, hy]
          exact KD.mk
        · intro tm hr
          simp [AllL, rdV] at hr
          simp [hr, hl, hm, hx, hy]
          exact KD.mk
      · rfl
      · simp [tmD, putD, hl, hm, hx, hy]; rfl
      · simp [hl, hm, hx, hy]
        rfl
      refine AW.cond rfl (fun h6 => ?_) (fun h6 => ?_)
      · try simp at h6
        have hne := ne_of_get hx hy (by rintro rfl; simp at h6)
        refine AW.step (by simp [hl, hm]; rfl) ?_
        refine AW.ret ?_
        refine Left.plain hnb (by simp [Try.f31, resV, resC, comp, hl, hm]; rfl) rfl rfl ?_
        simp [hne]
      · try simp at h6
        refine AW.skip ?_
        simp only [Post.seq, Post.block, if_true]
        refine AW.last (by simp [hl, hm]; rfl) ?_
        simp only [Post.seq, Post.block, if_true]
        refine ⟨i + 1, Weak.keep _ (by simp [i64_succ (show i + 1 ≤ 9223372036854775807 by omega)]), ⟨by omega, (take_eq hx hy g2).2 (by simpa [ByteArray.ext_iff] using h6)⟩, by omega⟩
    · try simp at h4
      refine AW.exit ?_
      simp only [Post.seq, Post.block, if_true]
      have hq : l = m := take_all (by simpa using h4) hlm g2
      refine AW.step (by simp [hl, hm]; rfl) ?_
      refine AW.ret ?_
      refine Left.plain hnb (by simp [Try.f31, resV, resC, comp, hl, hm]; rfl) rfl rfl ?_
      simp [hq]
theorem en_r1Texts : Enters Try.prog 31 := enters Try.func31 (by kernel_rfl) rfl
set_option maxRecDepth 8000 in
theorem s_sameFields (l m : List Field) : Sound Try.prog 23 [.l (.d true 2 ((encField l))), .l (.d true 2 ((encField m)))] [] (.l (.s (.bool ((decide (l = m)))))) [] := by
  refine Sound.of_aw (fn := Try.f23) (c := _) Try.func23 rfl (by simp [Try.f23]) fun cx hG hnb => ?_
  rw [show Try.f23.ntmps = 26 from rfl]
  have hn0 : cx.nb = 0 := hnb
  refine AW.len_d 0 rfl fun hl => ?_
  refine AW.len_d 1 rfl fun hm => ?_
  simp only [encField_length] at hl hm
  refine AW.step (by simp [hl, hm]; rfl) ?_
  refine AW.seq ?_
  refine AW.step (by simp [hl, hm]; rfl) ?_
  refine AW.cond rfl (fun h1 => ?_) (fun h1 => ?_)
  · try simp at h1
    refine AW.step (by simp [hl, hm]; rfl) ?_
    refine AW.ret ?_
    refine Left.plain hnb (by simp [Try.f23, resV, resC, comp, hl, hm]; rfl) rfl rfl ?_
    have : l ≠ m := by
      rintro rfl
      simp at h1
    simp [this]
  · have hlm : l.length = m.length := by
      simp at h1
      omega
    refine AW.skip ?_
    simp only [Post.seq, Post.block, if_true]
    refine AW.seq ?_
    refine AW.step (by simp [hl, hm]; rfl) ?_
    refine AW.block ?_
    refine AW.loopF (α := Nat) [4, 5, 11, 12, 13, 14, 15, 16, 17, 18, 19, 20, 21, 22, 23, 24, 25] (fun i => [(5, .l (.s (.int .i64 i)))]) (fun _ => []) (fun i => i ≤ l.length ∧ l.take i = m.take i) (fun i => l.length - i) 0 (by simp; rfl) (by simp) rfl ⟨Nat.zero_le _, rfl⟩ ?_
    rintro i ⟨g1, g2⟩
    refine AW.seq ?_
    refine AW.step (by simp [hl, hm]; rfl) ?_
    refine AW.cond rfl (fun h4 => ?_) (fun h4 => ?_)
    · simp at h4
      obtain ⟨x, hx⟩ := get_some h4
      obtain ⟨y, hy⟩ := get_some (show i < m.length by omega)
      refine AW.skip ?_
      simp only [Post.seq, Post.block, if_true]
      refine AW.seq ?_
      refine AW.block ?_
      apply AW.drawnP (V := [_, _, _, _, _, _, _, _]) mixed [⟨[0], [], [(0, none)], false⟩, ⟨[0], [], [(5, none)], false⟩, ⟨[0], [0, 1], [(17, some 0), (18, some 1)], false⟩, ⟨[0], [0, 1, 2], [(19, some 2)], false⟩, ⟨[0], [], [(1, none)], false⟩, ⟨[0], [], [(5, none)], false⟩, ⟨[0], [4, 5], [(21, some 4), (22, some 5)], false⟩, ⟨[0], [4, 5, 6], [(23, some 6)], false⟩, ⟨[], [0, 1, 2, 3, 4, 5, 6, 7], [], false⟩] 8 (by kernel_rfl) (by kernel_rfl)
      · refine ⟨?_, ?_, ?_, ?_, ?_, ?_, ?_, ?_, trivial⟩
        · intro tm hr
          simp [AllL, rdV] at hr
          simp [hr, hl, hm, hx, hy]
          exact KD.mk
        · intro tm hr
          simp [AllL, rdV] at hr
          simp [hr, hl, hm, hx, hy]
          exact KD.mk
        · intro tm hr
          simp [AllL, rdV] at hr
          simp [hr, hl, hm, hx, hy]
          exact KD.mk
        · intro tm hr
          simp [AllL, rdV] at hr
          simp [hr, hl, hm, hx, hy]
          exact KD.mk
        · intro tm hr
          simp [AllL, rdV] at hr
          simp [hr, hl, hm, hx, hy]
          exact KD.mk
        · intro tm hr
          simp [AllL, rdV] at hr
          simp [hr, hl, hm, hx, hy]
          exact KD.mk
        · intro tm hr
          simp [AllL, rdV] at hr
          simp [hr, hl, hm, hx, hy]
          exact KD.mk
        · intro tm hr
          simp [AllL, rdV] at hr
          simp [hr, hl, hm, hx, hy]
          exact KD.mk
      · rfl
      · simp [tmD, putD, hl, hm, hx, hy]; rfl
      · simp [hl, hm, hx, hy]
        rfl
      refine AW.cond rfl (fun h6 => ?_) (fun h6 => ?_)
      · try simp at h6
        have hne := ne_of_get hx hy (by rintro rfl; simp at h6)
        refine AW.step (by simp [hl, hm]; rfl) ?_
        refine AW.ret ?_
        refine Left.plain hnb (by simp [Try.f23, resV, resC, comp, hl, hm]; rfl) rfl rfl ?_
        simp [hne]
      · try simp at h6
        refine AW.skip ?_
        simp only [Post.seq, Post.block, if_true]
        refine AW.last (by simp [hl, hm]; rfl) ?_
        simp only [Post.seq, Post.block, if_true]
        refine ⟨i + 1, Weak.keep _ (by simp [i64_succ (show i + 1 ≤ 9223372036854775807 by omega)]), ⟨by omega, (take_eq hx hy g2).2 (by simpa [Field.ext_iff] using h6)⟩, by omega⟩
    · try simp at h4
      refine AW.exit ?_
      simp only [Post.seq, Post.block, if_true]
      have hq : l = m := take_all (by simpa using h4) hlm g2
      refine AW.step (by simp [hl, hm]; rfl) ?_
      refine AW.ret ?_
      refine Left.plain hnb (by simp [Try.f23, resV, resC, comp, hl, hm]; rfl) rfl rfl ?_
      simp [hq]
theorem en_sameFields : Enters Try.prog 23 := enters Try.func23 (by kernel_rfl) rfl
set_option maxRecDepth 8000 in
theorem s_eqString (l m : List ByteArray) : Sound Try.prog 107 [.l (.d true 1 ((encS l))), .l (.d true 1 ((encS m)))] [] (.l (.s (.bool ((decide (l = m)))))) [] := by
  refine Sound.of_aw (fn := Try.f107) (c := _) Try.func107 rfl (by simp [Try.f107]) fun cx hG hnb => ?_
  rw [show Try.f107.ntmps = 26 from rfl]
  have hn0 : cx.nb = 0 := hnb
  refine AW.len_d 0 rfl fun hl => ?_
  refine AW.len_d 1 rfl fun hm => ?_
  simp only [encS_length] at hl hm
  refine AW.step (by simp [hl, hm]; rfl) ?_
  refine AW.seq ?_
  refine AW.step (by simp [hl, hm]; rfl) ?_
  refine AW.cond rfl (fun h1 => ?_) (fun h1 => ?_)
  · try simp at h1
    refine AW.step (by simp [hl, hm]; rfl) ?_
    refine AW.ret ?_
    refine Left.plain hnb (by simp [Try.f107, resV, resC, comp, hl, hm]; rfl) rfl rfl ?_
    have : l ≠ m := by
      rintro rfl
      simp at h1
    simp [this]
  · have hlm : l.length = m.length := by
      simp at h1
      omega
    refine AW.skip ?_
    simp only [Post.seq, Post.block, if_true]
    refine AW.seq ?_
    refine AW.step (by simp [hl, hm]; rfl) ?_
    refine AW.block ?_
    refine AW.loopF (α := Nat) [4, 5, 13, 14, 15, 16, 17, 18, 19, 20, 21, 22, 23, 24, 25] (fun i => [(13, .l (.s (.int .i64 i)))]) (fun _ => []) (fun i => i ≤ l.length ∧ l.take i = m.take i) (fun i => l.length - i) 0 (by simp; rfl) (by simp) rfl ⟨Nat.zero_le _, rfl⟩ ?_
    rintro i ⟨g1, g2⟩
    refine AW.step (by simp [hl, hm]; rfl) ?_
    refine AW.seq ?_
    refine AW.cond rfl (fun h4 => ?_) (fun h4 => ?_)
    · simp at h4
      obtain ⟨x, hx⟩ := get_some h4
      obtain ⟨y, hy⟩ := get_some (show i < m.length by omega)
      refine AW.skip ?_
      simp only [Post.seq, Post.block, if_true]
      refine AW.seq ?_
      refine AW.block ?_
      refine AW.step (by simp [hl, hm]; rfl) ?_
      apply AW.drawnP (V := [_, _, _, _, _, _, _, _]) mixed [⟨[0], [], [(0, none)], false⟩, ⟨[0], [], [(5, none)], false⟩, ⟨[0], [0, 1], [(16, some 0), (17, some 1)], false⟩, ⟨[0], [0, 1, 2], [(18, some 2)], false⟩, ⟨[0], [], [(1, none)], false⟩, ⟨[0], [], [(5, none)], false⟩, ⟨[0], [4, 5], [(20, some 4), (21, some 5)], false⟩, ⟨[0], [4, 5, 6], [(22, some 6)], false⟩, ⟨[], [0, 1, 2, 3, 4, 5, 6, 7], [], false⟩] 8 (by kernel_rfl) (by kernel_rfl)
      · refine ⟨?_, ?_, ?_, ?_, ?_, ?_, ?_, ?_, trivial⟩
        · intro tm hr
          simp [AllL, rdV] at hr
          simp [hr, hl, hm, hx, hy]
          exact KD.mk
        · intro tm hr
          simp [AllL, rdV] at hr
          simp [hr, hl, hm, hx, hy]
          exact KD.mk
        · intro tm hr
          simp [AllL, rdV] at hr
          simp [hr, hl, hm, hx, hy]
          exact KD.mk
        · intro tm hr
          simp [AllL, rdV] at hr
          simp [hr, hl, hm, hx, hy]
          exact KD.mk
        · intro tm hr
          simp [AllL, rdV] at hr
          simp [hr, hl, hm, hx, hy]
          exact KD.mk
        · intro tm hr
          simp [AllL, rdV] at hr
          simp [hr, hl, hm, hx, hy]
          exact KD.mk
        · intro tm hr
          simp [AllL, rdV] at hr
          simp [hr, hl, hm, hx, hy]
          exact KD.mk
        · intro tm hr
          simp [AllL, rdV] at hr
          simp [hr, hl, hm, hx, hy]
          exact KD.mk
      · rfl
      · simp [tmD, putD, hl, hm, hx, hy]; rfl
      · simp [hl, hm, hx, hy]
        rfl
      refine AW.cond rfl (fun h6 => ?_) (fun h6 => ?_)
      · try simp at h6
        have hne := ne_of_get hx hy (by rintro rfl; simp at h6)
        refine AW.step (by simp [hl, hm]; rfl) ?_
        refine AW.ret ?_
        refine Left.plain hnb (by simp [Try.f107, resV, resC, comp, hl, hm]; rfl) rfl rfl ?_
        simp [hne]
      · try simp at h6
        refine AW.skip ?_
        simp only [Post.seq, Post.block, if_true]
        refine AW.last (by simp [hl, hm]; rfl) ?_
        simp only [Post.seq, Post.block, if_true]
        refine ⟨i + 1, Weak.keep _ (by simp [i64_succ (show i + 1 ≤ 9223372036854775807 by omega)]), ⟨by omega, (take_eq hx hy g2).2 (by simpa [ByteArray.ext_iff] using h6)⟩, by omega⟩
    · try simp at h4
      refine AW.exit ?_
      simp only [Post.seq, Post.block, if_true]
      have hq : l = m := take_all (by simpa using h4) hlm g2
      refine AW.step (by simp [hl, hm]; rfl) ?_
      refine AW.ret ?_
      refine Left.plain hnb (by simp [Try.f107, resV, resC, comp, hl, hm]; rfl) rfl rfl ?_
      simp [hq]
theorem en_eqString : Enters Try.prog 107 := enters Try.func107 (by kernel_rfl) rfl
set_option maxRecDepth 8000 in
theorem s_eqField (l m : List Field) : Sound Try.prog 106 [.l (.d true 2 ((encField l))), .l (.d true 2 ((encField m)))] [] (.l (.s (.bool ((decide (l = m)))))) [] := by
  refine Sound.of_aw (fn := Try.f106) (c := _) Try.func106 rfl (by simp [Try.f106]) fun cx hG hnb => ?_
  rw [show Try.f106.ntmps = 26 from rfl]
  have hn0 : cx.nb = 0 := hnb
  refine AW.len_d 0 rfl fun hl => ?_
  refine AW.len_d 1 rfl fun hm => ?_
  simp only [encField_length] at hl hm
  refine AW.step (by simp [hl, hm]; rfl) ?_
  refine AW.seq ?_
  refine AW.step (by simp [hl, hm]; rfl) ?_
  refine AW.cond rfl (fun h1 => ?_) (fun h1 => ?_)
  · try simp at h1
    refine AW.step (by simp [hl, hm]; rfl) ?_
    refine AW.ret ?_
    refine Left.plain hnb (by simp [Try.f106, resV, resC, comp, hl, hm]; rfl) rfl rfl ?_
    have : l ≠ m := by
      rintro rfl
      simp at h1
    simp [this]
  · have hlm : l.length = m.length := by
      simp at h1
      omega
    refine AW.skip ?_
    simp only [Post.seq, Post.block, if_true]
    refine AW.seq ?_
    refine AW.step (by simp [hl, hm]; rfl) ?_
    refine AW.block ?_
    refine AW.loopF (α := Nat) [4, 5, 13, 14, 15, 16, 17, 18, 19, 20, 21, 22, 23, 24, 25] (fun i => [(13, .l (.s (.int .i64 i)))]) (fun _ => []) (fun i => i ≤ l.length ∧ l.take i = m.take i) (fun i => l.length - i) 0 (by simp; rfl) (by simp) rfl ⟨Nat.zero_le _, rfl⟩ ?_
    rintro i ⟨g1, g2⟩
    refine AW.step (by simp [hl, hm]; rfl) ?_
    refine AW.seq ?_
    refine AW.cond rfl (fun h4 => ?_) (fun h4 => ?_)
    · simp at h4
      obtain ⟨x, hx⟩ := get_some h4
      obtain ⟨y, hy⟩ := get_some (show i < m.length by omega)
      refine AW.skip ?_
      simp only [Post.seq, Post.block, if_true]
      refine AW.seq ?_
      refine AW.block ?_
      refine AW.step (by simp [hl, hm]; rfl) ?_
      apply AW.drawnP (V := [_, _, _, _, _, _, _, _]) mixed [⟨[0], [], [(0, none)], false⟩, ⟨[0], [], [(5, none)], false⟩, ⟨[0], [0, 1], [(16, some 0), (17, some 1)], false⟩, ⟨[0], [0, 1, 2], [(18, some 2)], false⟩, ⟨[0], [], [(1, none)], false⟩, ⟨[0], [], [(5, none)], false⟩, ⟨[0], [4, 5], [(20, some 4), (21, some 5)], false⟩, ⟨[0], [4, 5, 6], [(22, some 6)], false⟩, ⟨[], [0, 1, 2, 3, 4, 5, 6, 7], [], false⟩] 8 (by kernel_rfl) (by kernel_rfl)
      · refine ⟨?_, ?_, ?_, ?_, ?_, ?_, ?_, ?_, trivial⟩
        · intro tm hr
          simp [AllL, rdV] at hr
          simp [hr, hl, hm, hx, hy]
          exact KD.mk
        · intro tm hr
          simp [AllL, rdV] at hr
          simp [hr, hl, hm, hx, hy]
          exact KD.mk
        · intro tm hr
          simp [AllL, rdV] at hr
          simp [hr, hl, hm, hx, hy]
          exact KD.mk
        · intro tm hr
          simp [AllL, rdV] at hr
          simp [hr, hl, hm, hx, hy]
          exact KD.mk
        · intro tm hr
          simp [AllL, rdV] at hr
          simp [hr, hl, hm, hx, hy]
          exact KD.mk
        · intro tm hr
          simp [AllL, rdV] at hr
          simp [hr, hl, hm, hx, hy]
          exact KD.mk
        · intro tm hr
          simp [AllL, rdV] at hr
          simp [hr, hl, hm, hx, hy]
          exact KD.mk
        · intro tm hr
          simp [AllL, rdV] at hr
          simp [hr, hl, hm, hx, hy]
          exact KD.mk
      · rfl
      · simp [tmD, putD, hl, hm, hx, hy]; rfl
      · simp [hl, hm, hx, hy]
        rfl
      refine AW.cond rfl (fun h6 => ?_) (fun h6 => ?_)
      · try simp at h6
        have hne := ne_of_get hx hy (by rintro rfl; simp at h6)
        refine AW.step (by simp [hl, hm]; rfl) ?_
        refine AW.ret ?_
        refine Left.plain hnb (by simp [Try.f106, resV, resC, comp, hl, hm]; rfl) rfl rfl ?_
        simp [hne]
      · try simp at h6
        refine AW.skip ?_
        simp only [Post.seq, Post.block, if_true]
        refine AW.last (by simp [hl, hm]; rfl) ?_
        simp only [Post.seq, Post.block, if_true]
        refine ⟨i + 1, Weak.keep _ (by simp [i64_succ (show i + 1 ≤ 9223372036854775807 by omega)]), ⟨by omega, (take_eq hx hy g2).2 (by simpa [Field.ext_iff] using h6)⟩, by omega⟩
    · try simp at h4
      refine AW.exit ?_
      simp only [Post.seq, Post.block, if_true]
      have hq : l = m := take_all (by simpa using h4) hlm g2
      refine AW.step (by simp [hl, hm]; rfl) ?_
      refine AW.ret ?_
      refine Left.plain hnb (by simp [Try.f106, resV, resC, comp, hl, hm]; rfl) rfl rfl ?_
      simp [hq]
theorem en_eqField : Enters Try.prog 106 := enters Try.func106 (by kernel_rfl) rfl
end Go.Proofs.Ytlkhfdccapkcdaa
