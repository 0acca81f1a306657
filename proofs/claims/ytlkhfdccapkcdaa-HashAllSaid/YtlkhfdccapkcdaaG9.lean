/- Walks: HashAll. -/
import Derived.Test.YtlkhfdccapkcdaaL1
namespace Go.Proofs.Ytlkhfdccapkcdaa
open Go Go.RowKit
set_option linter.unusedVariables false
set_option linter.unusedSimpArgs false
theorem set_nil (name val : ByteArray) : setF [] name val = [⟨name, val⟩] := by
  have h : seekField [] name = 0 := by simp [seekField, bs]
  have h2 : hasField [] name = false := by simp [hasField]
  simp [setF, h, h2, insA]
set_option maxRecDepth 8000 in
set_option maxHeartbeats 8000000 in
theorem s_l7awake : Sound Try.prog 20 [] [] (.l (.s (.bool true))) [] := by
  refine Sound.of_aw (fn := Try.f20) (c := _) Try.func20 rfl (by simp [Try.f20]) fun cx hG hnb => ?_
  rw [show Try.f20.ntmps = 18 from rfl]
  have hn0 : cx.nb = 0 := hnb
  refine AW.step (by simp; rfl) ?_
  apply AW.step
  · simp [set_nil]
    refine xcall_plain en_hSet (z_hSet [] _ _ (by simp)) rfl ⟨.nil _ _, .same rfl, .same rfl, trivial⟩ ?_
    try simp [set_nil]
    rfl
  apply AW.step
  · simp
    refine xcall_plain en_hNames (z_hNames [] (by simp)) rfl ⟨.nil _ _, trivial⟩ ?_
    try simp
    rfl
  refine AW.ret ?_
  refine Left.plain hnb (by simp [Try.f20, resV, resC, comp]; rfl) rfl rfl ?_
  simp
theorem en_l7awake : Enters Try.prog 20 := enters Try.func20 (by kernel_rfl) rfl
set_option maxRecDepth 8000 in
set_option maxHeartbeats 8000000 in
theorem s_HashAll (l : List Field) (name val : ByteArray) : Sound Try.prog 6 [.l (.d false 2 ((encField l))), .l (.s (.string name)), .l (.s (.string val))] [] (.l (.s (.bool true))) [] := by
  refine Sound.of_aw (fn := Try.f6) (c := _) Try.func6 rfl (by simp [Try.f6]) fun cx hG hnb => ?_
  rw [show Try.f6.ntmps = 89 from rfl]
  have hn0 : cx.nb = 0 := hnb
  refine AW.len_d 0 rfl fun hl => ?_
  simp only [encField_length] at hl
  refine AW.step (by simp [hl]; rfl) ?_
  refine AW.seq ?_
  refine AW.joinR [11, 12, 13, 14, 15, 16, 17, 18, 19, 20, 21, 22, 23] [(23, .l (.s (.bool (!risingF l || decide ((300 : Int) < name.size) || decide ((300 : Int) < val.size)))))] (by simp; rfl) ?_ ?_
  · by_cases k11 : risingF l = false
    · apply AW.last
      · simp [hl, k11]
        refine xcall_plain en_l7rising (s_l7rising _) rfl ⟨.d _ _ _, trivial⟩ ?_
        try simp [hl, k11]
        rfl
      exact ⟨rfl, Weak.keep _ (by simp [hl, k11])⟩
    · by_cases k12 : (300 : Int) < (name.size : Int)
      · apply AW.last
        · simp [hl, k11, k12]
          refine xcall_plain en_l7rising (s_l7rising _) rfl ⟨.d _ _ _, trivial⟩ ?_
          try simp [hl, k11, k12]
          rfl
        exact ⟨rfl, Weak.keep _ (by simp [hl, k11, k12])⟩
      · by_cases k13 : (300 : Int) < (val.size : Int)
        · apply AW.last
          · simp [hl, k11, k12, k13]
            refine xcall_plain en_l7rising (s_l7rising _) rfl ⟨.d _ _ _, trivial⟩ ?_
            try simp [hl, k11, k12, k13]
            rfl
          exact ⟨rfl, Weak.keep _ (by simp [hl, k11, k12, k13])⟩
        · apply AW.last
          · simp [hl, k11, k12, k13]
            refine xcall_plain en_l7rising (s_l7rising _) rfl ⟨.d _ _ _, trivial⟩ ?_
            try simp [hl, k11, k12, k13]
            rfl
          exact ⟨rfl, Weak.keep _ (by simp [hl, k11, k12, k13])⟩
  simp only [List.cons_append, List.nil_append]
  refine AW.cond rfl (fun h1 => ?_) (fun h1 => ?_)
  · try simp at h1
    apply AW.step
    · simp [hl]
      refine xcall_plain en_l7awake (s_l7awake) rfl trivial ?_
      try simp [hl]
      rfl
    refine AW.ret ?_
    refine Left.plain hnb (by simp [Try.f6, resV, resC, comp, hl]; rfl) rfl rfl ?_
    simp [hl]
  · simp at h1
    obtain ⟨⟨hr, h2⟩, h3⟩ := h1
    have hlen := rising_len hr
    obtain ⟨g1, g2⟩ := get_same hr name
    rw [g1, List.getD_eq_getElem?_getD] at g2
    have g3 := set_same hr name val
    have g4 := del_same hr name
    refine AW.skip ?_
    simp only [Post.seq, Post.block, if_true]
    apply AW.step
    · simp [hl]
      refine xapp_grow (q := (l.length, lvs (encField l))) (z := ⟨105, 2, true, none, []⟩) tb_el31 tb_ti105 (by simp) (by simp [encField_lvsA, ← lvs_eq]) (by simp) (by simp) (by simp) (by simp; omega) ?_
      simp [St.grow, obsBut]
      try simp [hl]
      rfl
    apply AW.step
    · simp [hl]
      refine xcall_plain en_hGet (s_hGet _ _) rfl ⟨.d _ _ _, .same rfl, trivial⟩ ?_
      try simp [hl]
      rfl
    apply AW.step
    · simp [hl]
      refine xcall_plain en_r5HGet (s_r5HGet _ _) rfl ⟨.d _ _ _, .same rfl, trivial⟩ ?_
      try simp [hl]
      rfl
    apply AW.step
    · simp [hl, g1, g2, g3, g4]
      refine xcall_plain en_hSet (z_hSet l name val (by omega)) rfl ⟨.d _ _ _, .same rfl, .same rfl, trivial⟩ ?_
      try simp [hl, g1, g2, g3, g4]
      refine xcall_plain en_r5HSet (z_r5HSet l name val (by omega)) rfl ⟨.d _ _ _, .same rfl, .same rfl, trivial⟩ ?_
      try simp [hl, g1, g2, g3, g4]
      refine xcall_plain en_sameFields (s_sameFields _ _) rfl ⟨.d _ _ _, .d _ _ _, trivial⟩ ?_
      try simp [hl, g1, g2, g3, g4]
      refine xcall_plain en_hDel (z_hDel l name (by omega)) rfl ⟨.d _ _ _, .same rfl, trivial⟩ ?_
      try simp [hl, g1, g2, g3, g4]
      refine xcall_plain en_r5HDel (z_r5HDel l name (by omega)) rfl ⟨.d _ _ _, .same rfl, trivial⟩ ?_
      try simp [hl, g1, g2, g3, g4]
      refine xcall_plain en_sameFields (s_sameFields _ _) rfl ⟨.d _ _ _, .d _ _ _, trivial⟩ ?_
      try simp [hl, g1, g2, g3, g4]
      refine xcall_plain en_hNames (z_hNames l (by omega)) rfl ⟨.same rfl, trivial⟩ ?_
      try simp [hl, g1, g2, g3, g4]
      refine xcall_plain en_r5HNames (z_r5HNames l (by omega)) rfl ⟨.d _ _ _, trivial⟩ ?_
      try simp [hl, g1, g2, g3, g4]
      refine xcall_plain en_r1Texts (s_r1Texts _ _) rfl ⟨.d _ _ _, .d _ _ _, trivial⟩ ?_
      try simp [hl, g1, g2, g3, g4]
      refine xcall_plain en_hVals (z_hVals l (by omega)) rfl ⟨.same rfl, trivial⟩ ?_
      try simp [hl, g1, g2, g3, g4]
      refine xcall_plain en_r5HVals (z_r5HVals l (by omega)) rfl ⟨.d _ _ _, trivial⟩ ?_
      try simp [hl, g1, g2, g3, g4]
      refine xcall_plain en_r1Texts (s_r1Texts _ _) rfl ⟨.d _ _ _, .d _ _ _, trivial⟩ ?_
      try simp [hl, g1, g2, g3, g4]
      refine xcall_plain en_sameFields (s_sameFields l l) rfl ⟨.d _ _ _, .rowd (by simp) rfl (by omega) (encField_sz l) (by simp) (by omega), trivial⟩ ?_
      try simp [hl, g1, g2, g3, g4]
      refine xcall_plain en_l7awake (s_l7awake) rfl trivial ?_
      try simp [hl, g1, g2, g3, g4]
      rfl
    refine AW.ret ?_
    refine Left.plain hnb (by simp [Try.f6, resV, resC, comp, hl, g1, g2, g3, g4]; rfl) rfl rfl ?_
    simp [hl, g1, g2, g3, g4]
theorem en_HashAll : Enters Try.prog 6 := enters Try.func6 (by kernel_rfl) rfl
end Go.Proofs.Ytlkhfdccapkcdaa
