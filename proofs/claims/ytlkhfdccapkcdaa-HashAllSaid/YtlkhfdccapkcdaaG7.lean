/- Walks: names and values of fields. -/
import Derived.Test.YtlkhfdccapkcdaaG6
namespace Go.Proofs.Ytlkhfdccapkcdaa
open Go Go.RowKit
set_option linter.unusedVariables false
set_option linter.unusedSimpArgs false
set_option maxRecDepth 8000 in
set_option maxHeartbeats 8000000 in
theorem s_hNames1 (x : Field) : Sound Try.prog 80 [.g [.s (.string x.name), .s (.string x.val)]] [] (.l (.s (.string x.name))) [] := by
  refine Sound.of_aw (fn := Try.f80) (c := _) Try.func80 rfl (by simp [Try.f80]) fun cx hG hnb => ?_
  rw [show Try.f80.ntmps = 5 from rfl]
  have hn0 : cx.nb = 0 := hnb
  refine AW.step (by simp; rfl) ?_
  refine AW.step (by simp; rfl) ?_
  refine AW.ret ?_
  refine Left.plain hnb (by simp [Try.f80, resV, resC, comp]; rfl) rfl rfl ?_
  simp
theorem en_hNames1 : Enters Try.prog 80 := enters Try.func80 (by kernel_rfl) rfl
set_option maxRecDepth 8000 in
set_option maxHeartbeats 8000000 in
theorem s_hVals1 (x : Field) : Sound Try.prog 81 [.g [.s (.string x.name), .s (.string x.val)]] [] (.l (.s (.string x.val))) [] := by
  refine Sound.of_aw (fn := Try.f81) (c := _) Try.func81 rfl (by simp [Try.f81]) fun cx hG hnb => ?_
  rw [show Try.f81.ntmps = 5 from rfl]
  have hn0 : cx.nb = 0 := hnb
  refine AW.step (by simp; rfl) ?_
  refine AW.step (by simp; rfl) ?_
  refine AW.ret ?_
  refine Left.plain hnb (by simp [Try.f81, resV, resC, comp]; rfl) rfl rfl ?_
  simp
theorem en_hVals1 : Enters Try.prog 81 := enters Try.func81 (by kernel_rfl) rfl
set_option maxRecDepth 8000 in
set_option maxHeartbeats 8000000 in
theorem s_aNamesC (l : List Field) (hl : l.length ≤ 1000000000) : Sound Try.prog 113 [.l (.s (.slice none 0 0)), .l (.f 114 [0, 1])] [⟨31, 1, false, none, [.d false 2 (encField l)]⟩, ⟨116, 1, false, none, [.s (.func (.func 80) #[] #[])]⟩] (.l (.r 2 1 0 l.length)) [some ⟨31, 1, false, none, [.d false 2 (encField l)]⟩, some ⟨116, 1, false, none, [.s (.func (.func 80) #[] #[])]⟩, some ⟨9, 1, true, none, lvs (encS (l.map (·.name)))⟩] := by
  refine Sound.of_aw (fn := Try.f113) (c := _) Try.func113 rfl (by simp [Try.f113]) fun cx hG hnb => ?_
  rw [show Try.f113.ntmps = 13 from rfl]
  have hn0 : cx.nb = 2 := hnb
  have hl' : l.length ≤ 140737488355328 := by omega
  refine AW.step (by simp [hl']; rfl) ?_
  refine AW.seq ?_
  refine AW.nilCell 2 0 9 1 3 rfl rfl rfl rfl rfl ?_
  refine AW.step (by simp [hl']; rfl) ?_
  refine AW.block ?_
  refine AW.rangeG rfl Try.func114 (by kernel_rfl) rfl (by decide) rfl rfl fun cxI yl hnI hY => ?_
  have hnI0 : cxI.nb = 2 := hnI.trans hn0
  simp only [initTm, List.map_cons, List.map_nil]
  refine AW.step (by simp [hl']; rfl) ?_
  refine AW.block ?_
  refine AW.loopG (α := Nat) [5, 8, 9, 10, 11, 12, 13, 14, 15, 16, 17, 18] [5, 8, 9, 10, 11] (fun i => [(8, .l (.s (.int .i64 i)))]) (fun _ => []) (fun i => [some ⟨31, 1, false, none, [.d false 2 (encField l)]⟩, some ⟨116, 1, false, none, [.s (.func (.func 80) #[] #[])]⟩, some ⟨32, 1, false, none, [.r 3 1 0 i]⟩, some ⟨9, 1, true, none, lvs (encS ((l.map (·.name)).take i))⟩]) (fun i => i ≤ l.length) (fun i => l.length - i) 0 (by simp; rfl) (by simp; rfl) (by simp) (by simp) (by simp [lvs]) (Nat.zero_le _) ?_
  intro i g1
  refine AW.step (by simp [hl']; rfl) ?_
  refine AW.seq ?_
  refine AW.cond rfl (fun hi1 => ?_) (fun hi1 => ?_)
  · simp at hi1
    obtain ⟨x, hx⟩ := get_some hi1
    have hm : (l.map (·.name))[i]? = some x.name := by simp [hx]
    refine AW.skip ?_
    simp only [Post.seq, Post.block, if_true]
    refine AW.seq ?_
    refine AW.block ?_
    refine AW.step (by simp [hl', hx]; rfl) ?_
    apply AW.yieldG hY 4 rfl rfl rfl
    · simp [hl']
      refine xcall_plain en_hNames1 (s_hNames1 x) rfl ⟨.same rfl, trivial⟩ ?_
      try simp [hl']
      rfl
    · rfl
    · trivial
    · rfl
    · rfl
    · simp [puts]; rfl
    intro cxR hnR
    have hnR0 : cxR.nb = 2 := hnR.trans hnI0
    refine AW.last (by simp [hl']; rfl) ?_
    refine ⟨rfl, ?_⟩
    refine AW.block ?_
    apply AW.last
    · simp [hl']
      refine xapp_push (acc := encS ((l.map (·.name)).take i)) (ys := encS [x.name]) (cap := none) (k := 1) tb_el32 tb_ti9 (by simp) (by simp [encS, lvs]) (encS_sz _) (by simp <;> omega) (by simp) (by omega) ?_
      simp [St.grow, obsBut, ← encS_append, take_snoc hm]
      try simp [hl']
      rfl
    refine ⟨_, _, rfl, ?_⟩
    simp [hl']
    unfold KK
    refine AW.cond rfl (fun hi3 => ?_) (fun hi3 => ?_)
    · simp at hi3
    · try simp at hi3
      refine AW.skip ?_
      simp only [Post.seq, Post.block, if_true]
      refine AW.last (by simp [hl']; rfl) ?_
      simp only [Post.seq, Post.block, if_true]
      refine ⟨i + 1, Weak.cutG 4 (by omega) (by simp [i64_succ (show i + 1 ≤ 9223372036854775807 by omega)]) (by simp) (by simp) rfl, by omega, by omega⟩
  · have hi : i = l.length := by
      simp at hi1
      omega
    subst hi
    have htk : (l.map (·.name)).take l.length = l.map (·.name) := List.take_of_length_le (by simp)
    refine AW.exit ?_
    refine ⟨_, _, rfl, ?_⟩
    simp only [Post.seq, Post.block, if_true]
    refine AW.step (by simp [hl']; rfl) ?_
    refine AW.ret ?_
    refine Left.of (av := _) (by simp [Try.f113, resV, resC, comp, hl']; rfl) ?_
    exact LeftV.mix 2 [some 0, some 1, some 3] hn0 rfl (by decide) rfl (by simp [pickOb, htk]) (by simp)
theorem en_appSeqStr : Enters Try.prog 113 := enters Try.func113 (by kernel_rfl) rfl
set_option maxRecDepth 8000 in
set_option maxHeartbeats 8000000 in
theorem s_aValsC (l : List Field) (hl : l.length ≤ 1000000000) : Sound Try.prog 113 [.l (.s (.slice none 0 0)), .l (.f 114 [0, 1])] [⟨31, 1, false, none, [.d false 2 (encField l)]⟩, ⟨116, 1, false, none, [.s (.func (.func 81) #[] #[])]⟩] (.l (.r 2 1 0 l.length)) [some ⟨31, 1, false, none, [.d false 2 (encField l)]⟩, some ⟨116, 1, false, none, [.s (.func (.func 81) #[] #[])]⟩, some ⟨9, 1, true, none, lvs (encS (l.map (·.val)))⟩] := by
  refine Sound.of_aw (fn := Try.f113) (c := _) Try.func113 rfl (by simp [Try.f113]) fun cx hG hnb => ?_
  rw [show Try.f113.ntmps = 13 from rfl]
  have hn0 : cx.nb = 2 := hnb
  have hl' : l.length ≤ 140737488355328 := by omega
  refine AW.step (by simp [hl']; rfl) ?_
  refine AW.seq ?_
  refine AW.nilCell 2 0 9 1 3 rfl rfl rfl rfl rfl ?_
  refine AW.step (by simp [hl']; rfl) ?_
  refine AW.block ?_
  refine AW.rangeG rfl Try.func114 (by kernel_rfl) rfl (by decide) rfl rfl fun cxI yl hnI hY => ?_
  have hnI0 : cxI.nb = 2 := hnI.trans hn0
  simp only [initTm, List.map_cons, List.map_nil]
  refine AW.step (by simp [hl']; rfl) ?_
  refine AW.block ?_
  refine AW.loopG (α := Nat) [5, 8, 9, 10, 11, 12, 13, 14, 15, 16, 17, 18] [5, 8, 9, 10, 11] (fun i => [(8, .l (.s (.int .i64 i)))]) (fun _ => []) (fun i => [some ⟨31, 1, false, none, [.d false 2 (encField l)]⟩, some ⟨116, 1, false, none, [.s (.func (.func 81) #[] #[])]⟩, some ⟨32, 1, false, none, [.r 3 1 0 i]⟩, some ⟨9, 1, true, none, lvs (encS ((l.map (·.val)).take i))⟩]) (fun i => i ≤ l.length) (fun i => l.length - i) 0 (by simp; rfl) (by simp; rfl) (by simp) (by simp) (by simp [lvs]) (Nat.zero_le _) ?_
  intro i g1
  refine AW.step (by simp [hl']; rfl) ?_
  refine AW.seq ?_
  refine AW.cond rfl (fun hi1 => ?_) (fun hi1 => ?_)
  · simp at hi1
    obtain ⟨x, hx⟩ := get_some hi1
    have hm : (l.map (·.val))[i]? = some x.val := by simp [hx]
    refine AW.skip ?_
    simp only [Post.seq, Post.block, if_true]
    refine AW.seq ?_
    refine AW.block ?_
    refine AW.step (by simp [hl', hx]; rfl) ?_
    apply AW.yieldG hY 4 rfl rfl rfl
    · simp [hl']
      refine xcall_plain en_hVals1 (s_hVals1 x) rfl ⟨.same rfl, trivial⟩ ?_
      try simp [hl']
      rfl
    · rfl
    · trivial
    · rfl
    · rfl
    · simp [puts]; rfl
    intro cxR hnR
    have hnR0 : cxR.nb = 2 := hnR.trans hnI0
    refine AW.last (by simp [hl']; rfl) ?_
    refine ⟨rfl, ?_⟩
    refine AW.block ?_
    apply AW.last
    · simp [hl']
      refine xapp_push (acc := encS ((l.map (·.val)).take i)) (ys := encS [x.val]) (cap := none) (k := 1) tb_el32 tb_ti9 (by simp) (by simp [encS, lvs]) (encS_sz _) (by simp <;> omega) (by simp) (by omega) ?_
      simp [St.grow, obsBut, ← encS_append, take_snoc hm]
      try simp [hl']
      rfl
    refine ⟨_, _, rfl, ?_⟩
    simp [hl']
    unfold KK
    refine AW.cond rfl (fun hi3 => ?_) (fun hi3 => ?_)
    · simp at hi3
    · try simp at hi3
      refine AW.skip ?_
      simp only [Post.seq, Post.block, if_true]
      refine AW.last (by simp [hl']; rfl) ?_
      simp only [Post.seq, Post.block, if_true]
      refine ⟨i + 1, Weak.cutG 4 (by omega) (by simp [i64_succ (show i + 1 ≤ 9223372036854775807 by omega)]) (by simp) (by simp) rfl, by omega, by omega⟩
  · have hi : i = l.length := by
      simp at hi1
      omega
    subst hi
    have htk : (l.map (·.val)).take l.length = l.map (·.val) := List.take_of_length_le (by simp)
    refine AW.exit ?_
    refine ⟨_, _, rfl, ?_⟩
    simp only [Post.seq, Post.block, if_true]
    refine AW.step (by simp [hl']; rfl) ?_
    refine AW.ret ?_
    refine Left.of (av := _) (by simp [Try.f113, resV, resC, comp, hl']; rfl) ?_
    exact LeftV.mix 2 [some 0, some 1, some 3] hn0 rfl (by decide) rfl (by simp [pickOb, htk]) (by simp)
set_option maxRecDepth 8000 in
set_option maxHeartbeats 8000000 in
theorem s_hEach (l : List Field) (f : Nat) : Sound Try.prog 79 [.l (.d false 2 ((encField l))), .l (.s (.func (.func f) #[] #[]))] [] (.l (.f 114 [0, 1])) [some ⟨31, 1, false, none, [.d false 2 (encField l)]⟩, some ⟨116, 1, false, none, [.s (.func (.func f) #[] #[])]⟩] := by
  refine Sound.of_aw (fn := Try.f79) (c := _) Try.func79 rfl (by simp [Try.f79]) fun cx hG hnb => ?_
  rw [show Try.f79.ntmps = 6 from rfl]
  have hn0 : cx.nb = 0 := hnb
  refine AW.step (by simp; rfl) ?_
  refine AW.step (by simp; rfl) ?_
  refine AW.ret ?_
  refine Left.of (av := _) (by simp [Try.f79, resV, resC, comp]; rfl) ?_
  exact LeftV.nowN 2 hn0 (by simp) (by simp) rfl
theorem en_hEach : Enters Try.prog 79 := enters Try.func79 (by kernel_rfl) rfl
set_option maxRecDepth 8000 in
set_option maxHeartbeats 8000000 in
theorem s_cNamesC (l : List Field) (hl : l.length ≤ 1000000000) : Sound Try.prog 78 [.l (.f 114 [0, 1])] [⟨31, 1, false, none, [.d false 2 (encField l)]⟩, ⟨116, 1, false, none, [.s (.func (.func 80) #[] #[])]⟩] (.l (.r 2 1 0 l.length)) [some ⟨31, 1, false, none, [.d false 2 (encField l)]⟩, some ⟨116, 1, false, none, [.s (.func (.func 80) #[] #[])]⟩, some ⟨9, 1, true, none, lvs (encS (l.map (·.name)))⟩] := by
  refine Sound.of_aw (fn := Try.f78) (c := _) Try.func78 rfl (by simp [Try.f78]) fun cx hG hnb => ?_
  rw [show Try.f78.ntmps = 5 from rfl]
  have hn0 : cx.nb = 2 := hnb
  refine AW.step (by simp; rfl) ?_
  apply AW.step
  · simp
    refine xcall_obs [0, 1] en_appSeqStr (s_aNamesC l hl) (by simp) (by simp [pickOb]) rfl rfl (by simp) ⟨.l (.s _), .l (.fn (by simp)), trivial⟩ ?_
    try simp
    rfl
  refine AW.ret ?_
  refine Left.of (av := _) (by simp [Try.f78, resV, resC, comp]; rfl) ?_
  exact LeftV.mix 2 [some 0, some 1, some 2] hn0 rfl (by decide) rfl (by simp [pickOb]) (by simp)
theorem en_collectStr : Enters Try.prog 78 := enters Try.func78 (by kernel_rfl) rfl
set_option maxRecDepth 8000 in
set_option maxHeartbeats 8000000 in
theorem s_hNames (l : List Field) (hl : l.length ≤ 1000000000) : Sound Try.prog 27 [.l (.d false 2 ((encField l)))] [] (.l (.r 0 1 0 l.length)) [some ⟨9, 1, true, none, lvs (encS (l.map (·.name)))⟩] := by
  refine Sound.of_aw (fn := Try.f27) (c := _) Try.func27 rfl (by simp [Try.f27]) fun cx hG hnb => ?_
  rw [show Try.f27.ntmps = 6 from rfl]
  have hn0 : cx.nb = 0 := hnb
  refine AW.step (by simp; rfl) ?_
  apply AW.step
  · simp
    refine xcall_new en_hEach (s_hEach l 80) rfl rfl ⟨.same rfl, .same rfl, trivial⟩ ?_
    try simp
    refine xcall_obs [0, 1] en_collectStr (s_cNamesC l hl) (by simp) (by simp [pickOb]) rfl rfl (by simp) ⟨.l (.fn (by simp)), trivial⟩ ?_
    try simp
    rfl
  refine AW.ret ?_
  refine Left.of (av := _) (by simp [Try.f27, resV, resC, comp]; rfl) ?_
  exact LeftV.mix 0 [some 2] hn0 rfl (by decide) rfl (by simp [pickOb]) (by simp)
theorem en_hNames : Enters Try.prog 27 := enters Try.func27 (by kernel_rfl) rfl
theorem z_hNames (l : List Field) (hl : l.length ≤ 1000000000) : Sound Try.prog 27 [.l (.d false 2 (encField l))] [] (.l (.d false 1 (encS (l.map (·.name))))) [] :=
  (s_hNames l hl).frz (by simp) (by omega) (encS_sz _) (by omega)
set_option maxRecDepth 8000 in
set_option maxHeartbeats 8000000 in
theorem s_cValsC (l : List Field) (hl : l.length ≤ 1000000000) : Sound Try.prog 78 [.l (.f 114 [0, 1])] [⟨31, 1, false, none, [.d false 2 (encField l)]⟩, ⟨116, 1, false, none, [.s (.func (.func 81) #[] #[])]⟩] (.l (.r 2 1 0 l.length)) [some ⟨31, 1, false, none, [.d false 2 (encField l)]⟩, some ⟨116, 1, false, none, [.s (.func (.func 81) #[] #[])]⟩, some ⟨9, 1, true, none, lvs (encS (l.map (·.val)))⟩] := by
  refine Sound.of_aw (fn := Try.f78) (c := _) Try.func78 rfl (by simp [Try.f78]) fun cx hG hnb => ?_
  rw [show Try.f78.ntmps = 5 from rfl]
  have hn0 : cx.nb = 2 := hnb
  refine AW.step (by simp; rfl) ?_
  apply AW.step
  · simp
    refine xcall_obs [0, 1] en_appSeqStr (s_aValsC l hl) (by simp) (by simp [pickOb]) rfl rfl (by simp) ⟨.l (.s _), .l (.fn (by simp)), trivial⟩ ?_
    try simp
    rfl
  refine AW.ret ?_
  refine Left.of (av := _) (by simp [Try.f78, resV, resC, comp]; rfl) ?_
  exact LeftV.mix 2 [some 0, some 1, some 2] hn0 rfl (by decide) rfl (by simp [pickOb]) (by simp)
set_option maxRecDepth 8000 in
set_option maxHeartbeats 8000000 in
theorem s_hVals (l : List Field) (hl : l.length ≤ 1000000000) : Sound Try.prog 33 [.l (.d false 2 ((encField l)))] [] (.l (.r 0 1 0 l.length)) [some ⟨9, 1, true, none, lvs (encS (l.map (·.val)))⟩] := by
  refine Sound.of_aw (fn := Try.f33) (c := _) Try.func33 rfl (by simp [Try.f33]) fun cx hG hnb => ?_
  rw [show Try.f33.ntmps = 6 from rfl]
  have hn0 : cx.nb = 0 := hnb
  refine AW.step (by simp; rfl) ?_
  apply AW.step
  · simp
    refine xcall_new en_hEach (s_hEach l 81) rfl rfl ⟨.same rfl, .same rfl, trivial⟩ ?_
    try simp
    refine xcall_obs [0, 1] en_collectStr (s_cValsC l hl) (by simp) (by simp [pickOb]) rfl rfl (by simp) ⟨.l (.fn (by simp)), trivial⟩ ?_
    try simp
    rfl
  refine AW.ret ?_
  refine Left.of (av := _) (by simp [Try.f33, resV, resC, comp]; rfl) ?_
  exact LeftV.mix 0 [some 2] hn0 rfl (by decide) rfl (by simp [pickOb]) (by simp)
theorem en_hVals : Enters Try.prog 33 := enters Try.func33 (by kernel_rfl) rfl
theorem z_hVals (l : List Field) (hl : l.length ≤ 1000000000) : Sound Try.prog 33 [.l (.d false 2 (encField l))] [] (.l (.d false 1 (encS (l.map (·.val))))) [] :=
  (s_hVals l hl).frz (by simp) (by omega) (encS_sz _) (by omega)
end Go.Proofs.Ytlkhfdccapkcdaa
