/- Walks: the document's fields. -/
import Derived.Test.YtlkhfdccapkcdaaG3
import Derived.Test.YtlkhfdccapkcdaaD2
namespace Go.Proofs.Ytlkhfdccapkcdaa
open Go Go.RowKit
set_option linter.unusedVariables false
set_option linter.unusedSimpArgs false
set_option maxRecDepth 8000 in
set_option maxHeartbeats 8000000 in
theorem s_r5HNames (l : List Field) (hl : l.length ≤ 1000000000) : Sound Try.prog 32 [.l (.d true 2 ((encField l)))] [] (.l (.r 0 1 0 l.length)) [some ⟨9, 1, true, none, lvs (encS (l.map (·.name)))⟩] := by
  refine Sound.of_aw (fn := Try.f32) (c := _) Try.func32 rfl (by simp [Try.f32]) fun cx hG hnb => ?_
  rw [show Try.f32.ntmps = 20 from rfl]
  have hn0 : cx.nb = 0 := hnb
  have hl' : l.length ≤ 140737488355328 := by omega
  refine AW.step (by simp [hl']; rfl) ?_
  refine AW.step (by simp [hl']; rfl) ?_
  refine AW.seq ?_
  refine AW.step (by simp [hl']; rfl) ?_
  refine AW.block ?_
  refine AW.nilRow 3 9 1 0 (by simp) rfl rfl ?_
  refine AW.loopF (α := Nat) [3, 4, 5, 6, 7, 8, 9, 10, 11, 12, 13, 14, 15, 16, 17, 18] (fun i => [(4, .l (.s (.int .i64 i))), (3, .l (.r 0 1 0 i))]) (fun i => [some ⟨9, 1, true, none, lvs (encS ((l.map (·.name)).take i))⟩]) (fun i => i ≤ l.length) (fun i => l.length - i) 0 (by simp; rfl) (by simp) (by simp [lvs]) (Nat.zero_le _) ?_
  intro i g1
  refine AW.seq ?_
  refine AW.step (by simp [hl']; rfl) ?_
  refine AW.cond rfl (fun h3 => ?_) (fun h3 => ?_)
  · simp at h3
    obtain ⟨x, hx⟩ := get_some h3
    have hm : (l.map (·.name))[i]? = some x.name := by simp [hx]
    refine AW.skip ?_
    simp only [Post.seq, Post.block, if_true]
    refine AW.seq ?_
    refine AW.block ?_
    apply AW.last
    · simp [hl', hx]
      refine xapp_push (acc := encS ((l.map (·.name)).take i)) (ys := encS [x.name]) (cap := none) (k := 1) tb_el32 tb_ti9 (by simp) (by simp [encS, lvs]) (encS_sz _) (by simp <;> omega) (by simp) (by omega) ?_
      simp [St.grow, obsBut, lvs_ren, ← encS_append, take_snoc hm]
      try simp [hl', hx]
      rfl
    simp only [Post.seq, Post.block, if_true]
    refine AW.last (by simp [hl']; rfl) ?_
    simp only [Post.seq, Post.block, if_true]
    refine ⟨i + 1, Weak.cut 1 (by omega) (by simp [i64_succ (show i + 1 ≤ 9223372036854775807 by omega)]) (by simp) rfl, by omega, by omega⟩
  · try simp at h3
    refine AW.exit ?_
    simp only [Post.seq, Post.block, if_true]
    have hi : i = l.length := by omega
    subst hi
    have htk : (l.map (·.name)).take l.length = l.map (·.name) := List.take_of_length_le (by simp)
    refine AW.step (by simp [hl']; rfl) ?_
    refine AW.ret ?_
    refine Left.of (av := _) (by simp [Try.f32, resV, resC, comp, hl']; rfl) ?_
    exact LeftV.nowN 1 hn0 (by simp [htk]) (by simp) rfl
theorem en_r5HNames : Enters Try.prog 32 := enters Try.func32 (by kernel_rfl) rfl
set_option maxRecDepth 8000 in
set_option maxHeartbeats 8000000 in
theorem s_r5HVals (l : List Field) (hl : l.length ≤ 1000000000) : Sound Try.prog 34 [.l (.d true 2 ((encField l)))] [] (.l (.r 0 1 0 l.length)) [some ⟨9, 1, true, none, lvs (encS (l.map (·.val)))⟩] := by
  refine Sound.of_aw (fn := Try.f34) (c := _) Try.func34 rfl (by simp [Try.f34]) fun cx hG hnb => ?_
  rw [show Try.f34.ntmps = 20 from rfl]
  have hn0 : cx.nb = 0 := hnb
  have hl' : l.length ≤ 140737488355328 := by omega
  refine AW.step (by simp [hl']; rfl) ?_
  refine AW.step (by simp [hl']; rfl) ?_
  refine AW.seq ?_
  refine AW.step (by simp [hl']; rfl) ?_
  refine AW.block ?_
  refine AW.nilRow 3 9 1 0 (by simp) rfl rfl ?_
  refine AW.loopF (α := Nat) [3, 4, 5, 6, 7, 8, 9, 10, 11, 12, 13, 14, 15, 16, 17, 18] (fun i => [(4, .l (.s (.int .i64 i))), (3, .l (.r 0 1 0 i))]) (fun i => [some ⟨9, 1, true, none, lvs (encS ((l.map (·.val)).take i))⟩]) (fun i => i ≤ l.length) (fun i => l.length - i) 0 (by simp; rfl) (by simp) (by simp [lvs]) (Nat.zero_le _) ?_
  intro i g1
  refine AW.seq ?_
  refine AW.step (by simp [hl']; rfl) ?_
  refine AW.cond rfl (fun h3 => ?_) (fun h3 => ?_)
  · simp at h3
    obtain ⟨x, hx⟩ := get_some h3
    have hm : (l.map (·.val))[i]? = some x.val := by simp [hx]
    refine AW.skip ?_
    simp only [Post.seq, Post.block, if_true]
    refine AW.seq ?_
    refine AW.block ?_
    apply AW.last
    · simp [hl', hx]
      refine xapp_push (acc := encS ((l.map (·.val)).take i)) (ys := encS [x.val]) (cap := none) (k := 1) tb_el32 tb_ti9 (by simp) (by simp [encS, lvs]) (encS_sz _) (by simp <;> omega) (by simp) (by omega) ?_
      simp [St.grow, obsBut, lvs_ren, ← encS_append, take_snoc hm]
      try simp [hl', hx]
      rfl
    simp only [Post.seq, Post.block, if_true]
    refine AW.last (by simp [hl']; rfl) ?_
    simp only [Post.seq, Post.block, if_true]
    refine ⟨i + 1, Weak.cut 1 (by omega) (by simp [i64_succ (show i + 1 ≤ 9223372036854775807 by omega)]) (by simp) rfl, by omega, by omega⟩
  · try simp at h3
    refine AW.exit ?_
    simp only [Post.seq, Post.block, if_true]
    have hi : i = l.length := by omega
    subst hi
    have htk : (l.map (·.val)).take l.length = l.map (·.val) := List.take_of_length_le (by simp)
    refine AW.step (by simp [hl']; rfl) ?_
    refine AW.ret ?_
    refine Left.of (av := _) (by simp [Try.f34, resV, resC, comp, hl']; rfl) ?_
    exact LeftV.nowN 1 hn0 (by simp [htk]) (by simp) rfl
theorem en_r5HVals : Enters Try.prog 34 := enters Try.func34 (by kernel_rfl) rfl
def valOf (o : Option Field) : ByteArray := match o with | some f => f.val | none => ⟨#[]⟩
def hgetF (l : List Field) (name : ByteArray) : Option Field := l.find? fun f => decide (f.name = name)
set_option maxRecDepth 8000 in
set_option maxHeartbeats 8000000 in
theorem s_r5HGet (l : List Field) (name : ByteArray) : Sound Try.prog 28 [.l (.d true 2 ((encField l))), .l (.s (.string name))] [] (.g [.s (.string ((valOf (hgetF l name)))), .s (.bool ((hgetF l name).isSome))]) [] := by
  refine Sound.of_aw (fn := Try.f28) (c := _) Try.func28 rfl (by simp [Try.f28]) fun cx hG hnb => ?_
  rw [show Try.f28.ntmps = 26 from rfl]
  have hn0 : cx.nb = 0 := hnb
  refine AW.len_d 0 rfl fun hl => ?_
  simp only [encField_length] at hl
  refine AW.step (by simp [hl]; rfl) ?_
  refine AW.seq ?_
  refine AW.step (by simp [hl]; rfl) ?_
  refine AW.block ?_
  refine AW.loopF (α := Nat) [5, 6, 7, 8, 9, 10, 11, 12, 13, 14, 15, 16, 17, 18, 19, 20, 21, 22, 23, 24] (fun i => [(4, .l (.p 0 0)), (5, .l (.s (.int .i64 i)))]) (fun _ => [some ⟨51, 2, false, none, [.s (.string ⟨#[]⟩), .s (.bool false)]⟩]) (fun i => i ≤ l.length ∧ (l.take i).find? (fun f => decide (f.name = name)) = none) (fun i => l.length - i) 0 (by simp; rfl) (by simp) rfl ⟨Nat.zero_le _, rfl⟩ ?_
  rintro i ⟨g1, g2⟩
  refine AW.seq ?_
  refine AW.step (by simp [hl]; rfl) ?_
  refine AW.cond rfl (fun h2 => ?_) (fun h2 => ?_)
  · simp at h2
    obtain ⟨x, hx⟩ := get_some h2
    refine AW.skip ?_
    simp only [Post.seq, Post.block, if_true]
    refine AW.seq ?_
    refine AW.block ?_
    refine AW.step (by simp [hl, hx]; rfl) ?_
    refine AW.cond rfl (fun h4 => ?_) (fun h4 => ?_)
    · try simp at h4
      have hf : hgetF l name = some x := find_hit g2 hx (by simpa using h4)
      refine AW.step (by simp [hl, hx]; rfl) ?_
      refine AW.ret ?_
      refine Left.plain hnb (by simp [Try.f28, resV, resC, comp, hl, hx]; rfl) rfl rfl ?_
      simp [hf, valOf]
    · try simp at h4
      refine AW.skip ?_
      simp only [Post.seq, Post.block, if_true]
      refine AW.last (by simp [hl]; rfl) ?_
      simp only [Post.seq, Post.block, if_true]
      refine ⟨i + 1, Weak.keep _ (by simp [i64_succ (show i + 1 ≤ 9223372036854775807 by omega)]), ⟨by omega, find_miss g2 hx (by simpa using h4)⟩, by omega⟩
  · try simp at h2
    refine AW.exit ?_
    simp only [Post.seq, Post.block, if_true]
    have hf : hgetF l name = none := by rwa [List.take_of_length_le (by omega)] at g2
    refine AW.step (by simp [hl]; rfl) ?_
    refine AW.ret ?_
    refine Left.plain hnb (by simp [Try.f28, resV, resC, comp, hl]; rfl) rfl rfl ?_
    simp [hf, valOf]
theorem en_r5HGet : Enters Try.prog 28 := enters Try.func28 (by kernel_rfl) rfl
def hdelF (l : List Field) (name : ByteArray) : List Field := l.filter fun f => !decide (f.name = name)
set_option maxRecDepth 8000 in
set_option maxHeartbeats 8000000 in
theorem s_r5HDel (l : List Field) (name : ByteArray) (hl : l.length ≤ 1000000000) : Sound Try.prog 30 [.l (.d true 2 ((encField l))), .l (.s (.string name))] [] (.l (.r 0 2 0 (hdelF l name).length)) [some ⟨105, 2, true, none, lvs (encField (hdelF l name))⟩] := by
  refine Sound.of_aw (fn := Try.f30) (c := _) Try.func30 rfl (by simp [Try.f30]) fun cx hG hnb => ?_
  rw [show Try.f30.ntmps = 28 from rfl]
  have hn0 : cx.nb = 0 := hnb
  have hl' : l.length ≤ 140737488355328 := by omega
  refine AW.step (by simp [hl']; rfl) ?_
  refine AW.step (by simp [hl']; rfl) ?_
  refine AW.seq ?_
  refine AW.step (by simp [hl']; rfl) ?_
  refine AW.block ?_
  refine AW.nilRow 5 105 2 0 (by simp) rfl rfl ?_
  refine AW.loopF (α := Nat) [5, 6, 7, 8, 9, 10, 11, 12, 13, 14, 15, 16, 17, 18, 19, 20, 21, 22, 23, 24, 25, 26] (fun i => [(6, .l (.s (.int .i64 i))), (5, .l (.r 0 2 0 (hdelF (l.take i) name).length))]) (fun i => [some ⟨105, 2, true, none, lvs (encField (hdelF (l.take i) name))⟩]) (fun i => i ≤ l.length) (fun i => l.length - i) 0 (by simp; rfl) (by simp [hdelF]) (by simp [lvs, hdelF]) (Nat.zero_le _) ?_
  intro i g1
  refine AW.seq ?_
  refine AW.step (by simp [hl']; rfl) ?_
  refine AW.cond rfl (fun h3 => ?_) (fun h3 => ?_)
  · simp at h3
    obtain ⟨x, hx⟩ := get_some h3
    have hle : (hdelF (l.take i) name).length ≤ i := filter_take_le l i
    refine AW.skip ?_
    simp only [Post.seq, Post.block, if_true]
    refine AW.seq ?_
    refine AW.block ?_
    refine AW.step (by simp [hl', hx]; rfl) ?_
    refine AW.cond rfl (fun h5 => ?_) (fun h5 => ?_)
    · have hn : hdelF (l.take (i + 1)) name = hdelF (l.take i) name ++ [x] := filter_yes hx (by simpa using h5)
      apply AW.last
      · simp [hl', hx]
        refine xapp_push (acc := encField (hdelF (l.take i) name)) (ys := encField [x]) (cap := none) (k := 1) tb_el31 tb_ti105 (by simp) (by simp [encField, lvs]) (encField_sz _) (by simp <;> omega) (by simp) (by omega) ?_
        simp [St.grow, obsBut, ← encField_append, ← hn]
        try simp [hl', hx]
        rfl
      simp only [Post.seq, Post.block, if_true]
      refine AW.last (by simp [hl']; rfl) ?_
      simp only [Post.seq, Post.block, if_true]
      refine ⟨i + 1, Weak.cut 1 (by omega) (by simp [i64_succ (show i + 1 ≤ 9223372036854775807 by omega), hn]) (by simp [hn]) rfl, by omega, by omega⟩
    · have hn : hdelF (l.take (i + 1)) name = hdelF (l.take i) name := filter_no hx (by simpa using h5)
      refine AW.skip ?_
      simp only [Post.seq, Post.block, if_true]
      refine AW.last (by simp [hl']; rfl) ?_
      simp only [Post.seq, Post.block, if_true]
      refine ⟨i + 1, Weak.cut 1 (by omega) (by simp [i64_succ (show i + 1 ≤ 9223372036854775807 by omega), hn]) (by simp [hn]) rfl, by omega, by omega⟩
  · try simp at h3
    refine AW.exit ?_
    simp only [Post.seq, Post.block, if_true]
    have hi : i = l.length := by omega
    subst hi
    refine AW.step (by simp [hl']; rfl) ?_
    refine AW.ret ?_
    refine Left.of (av := _) (by simp [Try.f30, resV, resC, comp, hl']; rfl) ?_
    exact LeftV.nowN 1 hn0 (by simp [hl']) (by simp [hl']) rfl
theorem en_r5HDel : Enters Try.prog 30 := enters Try.func30 (by kernel_rfl) rfl
def hsetS1 (name val : ByteArray) (s : List Field × Bool) (f : Field) : List Field × Bool :=
  if s.2 = false ∧ slt f.name name = false then (s.1 ++ [⟨name, val⟩], true) else s
def hsetS (name val : ByteArray) (s : List Field × Bool) (f : Field) : List Field × Bool :=
  if f.name = name then hsetS1 name val s f else ((hsetS1 name val s f).1 ++ [f], (hsetS1 name val s f).2)
theorem hsetS1_le (name val : ByteArray) (s : List Field × Bool) (f : Field) : (hsetS1 name val s f).1.length ≤ s.1.length + 1 := by
  unfold hsetS1
  split <;> simp
def hsetA (l : List Field) (name val : ByteArray) (i : Nat) : List Field × Bool := (l.take i).foldl (hsetS name val) ([], false)
def hsetF (l : List Field) (name val : ByteArray) : List Field := if (hsetA l name val l.length).2 = true then (hsetA l name val l.length).1 else (hsetA l name val l.length).1 ++ [⟨name, val⟩]
set_option maxRecDepth 8000 in
set_option maxHeartbeats 8000000 in
theorem s_r5HSet (l : List Field) (name val : ByteArray) (hl : l.length ≤ 100000000) : Sound Try.prog 29 [.l (.d true 2 ((encField l))), .l (.s (.string name)), .l (.s (.string val))] [] (.l (.r 0 2 0 (hsetF l name val).length)) [some ⟨105, 2, true, none, lvs (encField (hsetF l name val))⟩] := by
  refine Sound.of_aw (fn := Try.f29) (c := _) Try.func29 rfl (by simp [Try.f29]) fun cx hG hnb => ?_
  rw [show Try.f29.ntmps = 56 from rfl]
  have hn0 : cx.nb = 0 := hnb
  have hl' : l.length ≤ 140737488355328 := by omega
  refine AW.step (by simp [hl']; rfl) ?_
  refine AW.step (by simp [hl']; rfl) ?_
  refine AW.step (by simp [hl']; rfl) ?_
  refine AW.seq ?_
  refine AW.step (by simp [hl']; rfl) ?_
  refine AW.block ?_
  refine AW.nilRow 7 105 2 0 (by simp) rfl rfl ?_
  refine AW.loopF (α := Nat) [7, 8, 9, 10, 11, 12, 13, 14, 15, 16, 17, 18, 19, 20, 21, 22, 23, 24, 25, 26, 27, 28, 29, 30, 31, 32, 33, 34, 35, 36, 37, 38, 39, 40, 41, 42, 43, 44, 45, 46] (fun i => [(9, .l (.s (.int .i64 i))), (8, .l (.s (.bool (hsetA l name val i).2))), (7, .l (.r 0 2 0 (hsetA l name val i).1.length))]) (fun i => [some ⟨105, 2, true, none, lvs (encField (hsetA l name val i).1)⟩]) (fun i => i ≤ l.length ∧ (hsetA l name val i).1.length ≤ 2 * i) (fun i => l.length - i) 0 (by simp; rfl) (by simp [hsetA]) (by simp [lvs, hsetA]) ⟨Nat.zero_le _, by simp [hsetA]⟩ ?_
  rintro i ⟨g1, g2⟩
  refine AW.seq ?_
  refine AW.step (by simp [hl']; rfl) ?_
  refine AW.cond rfl (fun h4 => ?_) (fun h4 => ?_)
  · simp at h4
    obtain ⟨x, hx⟩ := get_some h4
    have hn : hsetA l name val (i + 1) = hsetS name val (hsetA l name val i) x := foldl_take _ _ hx
    generalize hsetA l name val i = a at *
    refine AW.skip ?_
    simp only [Post.seq, Post.block, if_true]
    refine AW.seq ?_
    refine AW.block ?_
    refine AW.joinF [7, 8, 16, 17, 18, 19, 20, 21, 22, 23, 24, 25, 26, 27, 28, 29, 30, 31, 32] [(8, .l (.s (.bool (hsetS1 name val a x).2))), (7, .l (.r 0 2 0 (hsetS1 name val a x).1.length))] [some ⟨105, 2, true, none, lvs (encField (hsetS1 name val a x).1)⟩] (by simp; rfl) ?_ ?_
    · refine AW.stepU [(26, .l (.s (.bool (!a.2 && !slt x.name name))))] ?_ ?_
      · obtain ⟨a1, a2⟩ := a
        cases a2 <;> simp [hx] <;> exact KU.mk (by simp)
      simp only [List.cons_append, List.nil_append]
      refine AW.cond rfl (fun h6 => ?_) (fun h6 => ?_)
      · simp at h6
        have hs : hsetS1 name val a x = (a.1 ++ [⟨name, val⟩], true) := if_pos h6
        apply AW.step
        · simp [hl']
          refine xapp_push (acc := encField (a.1)) (ys := encField [⟨name, val⟩]) (cap := none) (k := 1) tb_el31 tb_ti105 (by simp) (by simp [encField, lvs]) (encField_sz _) (by simp <;> omega) (by simp) (by omega) ?_
          simp [St.grow, obsBut, ← encField_append]
          try simp [hl']
          rfl
        refine AW.last (by simp [hl', hs]; rfl) ?_
        simp only [Post.seq, Post.block, if_true]
        exact Weak.cut 1 (by omega) (by simp [hs]) (by simp [hs]) rfl
      · have hs : hsetS1 name val a x = a := if_neg (by simpa using h6)
        refine AW.skip ?_
        simp only [Post.seq, Post.block, if_true]
        exact Weak.cut 1 (by omega) (by simp [hs]) (by simp [hs]) rfl
    simp only [List.cons_append, List.nil_append]
    have hle := hsetS1_le name val a x
    refine AW.step (by simp [hl', hx]; rfl) ?_
    refine AW.cond rfl (fun h9 => ?_) (fun h9 => ?_)
    · have hn2 := hn.trans (if_neg (by simpa using h9))
      apply AW.last
      · simp [hl', hx]
        refine xapp_push (acc := encField ((hsetS1 name val a x).1)) (ys := encField [x]) (cap := none) (k := 1) tb_el31 tb_ti105 (by simp) (by simp [encField, lvs]) (encField_sz _) (by simp <;> omega) (by simp) (by omega) ?_
        simp [St.grow, obsBut, ← encField_append]
        try simp [hl', hx]
        rfl
      simp only [Post.seq, Post.block, if_true]
      refine AW.last (by simp [hl']; rfl) ?_
      simp only [Post.seq, Post.block, if_true]
      refine ⟨i + 1, Weak.cut 1 (by omega) (by simp [i64_succ (show i + 1 ≤ 9223372036854775807 by omega), hn2]) (by simp [hn2]) rfl, ⟨by omega, by simp [hn2]; omega⟩, by omega⟩
    · have hn2 := hn.trans (if_pos (by simpa using h9))
      refine AW.skip ?_
      simp only [Post.seq, Post.block, if_true]
      refine AW.last (by simp [hl']; rfl) ?_
      simp only [Post.seq, Post.block, if_true]
      refine ⟨i + 1, Weak.cut 1 (by omega) (by simp [i64_succ (show i + 1 ≤ 9223372036854775807 by omega), hn2]) (by simp [hn2]) rfl, ⟨by omega, by simp [hn2]; omega⟩, by omega⟩
  · try simp at h4
    refine AW.exit ?_
    simp only [Post.seq, Post.block, if_true]
    refine AW.seq ?_
    have hi : i = l.length := by omega
    subst hi
    refine AW.step (by simp [hl']; rfl) ?_
    refine AW.cond rfl (fun h11 => ?_) (fun h11 => ?_)
    · simp at h11
      have hf : hsetF l name val = (hsetA l name val l.length).1 ++ [⟨name, val⟩] := if_neg (by simp [h11])
      apply AW.last
      · simp [hl']
        refine xapp_push (acc := encField ((hsetA l name val l.length).1)) (ys := encField [⟨name, val⟩]) (cap := none) (k := 1) tb_el31 tb_ti105 (by simp) (by simp [encField, lvs]) (encField_sz _) (by simp <;> omega) (by simp) (by omega) ?_
        simp [St.grow, obsBut, ← encField_append, ← hf]
        try simp [hl']
        rfl
      simp only [Post.seq, Post.block, if_true]
      refine AW.step (by simp [hl']; rfl) ?_
      refine AW.ret ?_
      refine Left.of (av := _) (by simp [Try.f29, resV, resC, comp, hl']; rfl) ?_
      first
        | exact LeftV.nowN 1 hn0 (by simp [hf]) (by simp [hf]) rfl
    · simp at h11
      have hf : hsetF l name val = (hsetA l name val l.length).1 := if_pos h11
      refine AW.skip ?_
      simp only [Post.seq, Post.block, if_true]
      refine AW.step (by simp [hl']; rfl) ?_
      refine AW.ret ?_
      refine Left.of (av := _) (by simp [Try.f29, resV, resC, comp, hl']; rfl) ?_
      first
        | exact LeftV.nowN 1 hn0 (by simp [hf]) (by simp [hf]) rfl
theorem en_r5HSet : Enters Try.prog 29 := enters Try.func29 (by kernel_rfl) rfl
theorem hsetA_le (l : List Field) (name val : ByteArray) : ∀ i, (hsetA l name val i).1.length ≤ 2 * i := by
  intro i
  induction i with
  | zero => simp [hsetA]
  | succ i ih =>
    rcases Nat.lt_or_ge i l.length with h | h
    · obtain ⟨x, hx⟩ := get_some h
      have hn : hsetA l name val (i + 1) = hsetS name val (hsetA l name val i) x := foldl_take _ _ hx
      have h1 := hsetS1_le name val (hsetA l name val i) x
      rw [hn]
      unfold hsetS
      split <;> simp <;> omega
    · have : hsetA l name val (i + 1) = hsetA l name val i := by
        unfold hsetA
        rw [List.take_of_length_le (by omega), List.take_of_length_le h]
      rw [this]
      omega
theorem hsetF_le (l : List Field) (name val : ByteArray) : (hsetF l name val).length ≤ 2 * l.length + 1 := by
  have := hsetA_le l name val l.length
  unfold hsetF
  split <;> simp <;> omega
theorem z_r5HSet (l : List Field) (name val : ByteArray) (hl : l.length ≤ 100000000) : Sound Try.prog 29 [.l (.d true 2 (encField l)), .l (.s (.string name)), .l (.s (.string val))] [] (.l (.d false 2 (encField (hsetF l name val)))) [] :=
  (s_r5HSet l name val hl).frz (by simp) (by omega) (encField_sz _) (by have := hsetF_le l name val; omega)
theorem z_r5HDel (l : List Field) (name : ByteArray) (hl : l.length ≤ 1000000000) : Sound Try.prog 30 [.l (.d true 2 (encField l)), .l (.s (.string name))] [] (.l (.d false 2 (encField (hdelF l name)))) [] :=
  (s_r5HDel l name hl).frz (by simp) (by omega) (encField_sz _) (by have : (hdelF l name).length ≤ l.length := List.length_filter_le _ _; omega)
theorem z_r5HNames (l : List Field) (hl : l.length ≤ 1000000000) : Sound Try.prog 32 [.l (.d true 2 (encField l))] [] (.l (.d false 1 (encS (l.map (·.name))))) [] :=
  (s_r5HNames l hl).frz (by simp) (by omega) (encS_sz _) (by omega)
theorem z_r5HVals (l : List Field) (hl : l.length ≤ 1000000000) : Sound Try.prog 34 [.l (.d true 2 (encField l))] [] (.l (.d false 1 (encS (l.map (·.val))))) [] :=
  (s_r5HVals l hl).frz (by simp) (by omega) (encS_sz _) (by omega)
end Go.Proofs.Ytlkhfdccapkcdaa
