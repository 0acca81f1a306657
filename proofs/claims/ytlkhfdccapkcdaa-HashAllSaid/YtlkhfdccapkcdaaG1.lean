/- Walks: texts compared, sought by halves; fields compared. -/
import Derived.Test.YtlkhfdccapkcdaaD1
import Derived.Test.YtlkhfdccapkcdaaProg
namespace Go.Proofs.Ytlkhfdccapkcdaa
open Go Go.RowKit
set_option linter.unusedVariables false
set_option linter.unusedSimpArgs false
set_option maxRecDepth 8000 in
set_option maxHeartbeats 8000000 in
theorem s_cmpStr (a b : ByteArray) : Sound Try.prog 127 [.l (.s (.string a)), .l (.s (.string b))] [] (.l (.s (.int .i64 ((cmpB a b))))) [] := by
  refine Sound.of_aw (fn := Try.f127) (c := _) Try.func127 rfl (by simp [Try.f127]) fun cx hG hnb => ?_
  rw [show Try.f127.ntmps = 8 from rfl]
  have hn0 : cx.nb = 0 := hnb
  refine AW.step (by simp; rfl) ?_
  apply AW.step
  · simp
    refine xcall_cmp Try.func138 (by kernel_rfl) (by kernel_rfl) (by kernel_rfl) (by kernel_rfl) ?_
    try simp
    rfl
  refine AW.ret ?_
  refine Left.plain hnb (by simp [Try.f127, resV, resC, comp]; rfl) rfl rfl ?_
  simp
theorem en_cmpStr : Enters Try.prog 127 := enters Try.func127 (by kernel_rfl) rfl
set_option maxRecDepth 8000 in
set_option maxHeartbeats 8000000 in
theorem s_strCompare (a b : ByteArray) : Sound Try.prog 110 [.l (.s (.string a)), .l (.s (.string b))] [] (.l (.s (.int .i64 ((cmpB a b))))) [] := by
  refine Sound.of_aw (fn := Try.f110) (c := _) Try.func110 rfl (by simp [Try.f110]) fun cx hG hnb => ?_
  rw [show Try.f110.ntmps = 8 from rfl]
  have hn0 : cx.nb = 0 := hnb
  refine AW.step (by simp; rfl) ?_
  apply AW.step
  · simp
    refine xcall_plain en_cmpStr (s_cmpStr _ _) rfl ⟨.same rfl, .same rfl, trivial⟩ ?_
    try simp
    rfl
  refine AW.ret ?_
  refine Left.plain hnb (by simp [Try.f110, resV, resC, comp]; rfl) rfl rfl ?_
  simp
theorem en_strCompare : Enters Try.prog 110 := enters Try.func110 (by kernel_rfl) rfl
set_option maxRecDepth 8000 in
set_option maxHeartbeats 8000000 in
theorem s_hFind1 (x : Field) (c : ByteArray) : Sound Try.prog 109 [.g [.s (.string x.name), .s (.string x.val)], .l (.s (.string c))] [] (.l (.s (.int .i64 ((cmpB x.name c))))) [] := by
  refine Sound.of_aw (fn := Try.f109) (c := _) Try.func109 rfl (by simp [Try.f109]) fun cx hG hnb => ?_
  rw [show Try.f109.ntmps = 9 from rfl]
  have hn0 : cx.nb = 0 := hnb
  refine AW.step (by simp; rfl) ?_
  apply AW.step
  · simp
    refine xcall_plain en_strCompare (s_strCompare _ _) rfl ⟨.same rfl, .same rfl, trivial⟩ ?_
    try simp
    rfl
  refine AW.ret ?_
  refine Left.plain hnb (by simp [Try.f109, resV, resC, comp]; rfl) rfl rfl ?_
  simp
theorem en_hFind1 : Enters Try.prog 109 := enters Try.func109 (by kernel_rfl) rfl
set_option maxRecDepth 8000 in
set_option maxHeartbeats 8000000 in
theorem s_spFind1 (x : Pair) (c : ByteArray) : Sound Try.prog 121 [.g [.s (.string x.key), .s (.int .i64 x.item.kind), .s (.string x.item.s), .d true 2 (encField x.item.f), .d true 1 (encS x.item.l), .s (.int .i64 x.item.exp)], .l (.s (.string c))] [] (.l (.s (.int .i64 ((cmpB x.key c))))) [] := by
  refine Sound.of_aw (fn := Try.f121) (c := _) Try.func121 rfl (by simp [Try.f121]) fun cx hG hnb => ?_
  rw [show Try.f121.ntmps = 9 from rfl]
  have hn0 : cx.nb = 0 := hnb
  refine AW.step (by simp; rfl) ?_
  apply AW.step
  · simp
    refine xcall_plain en_strCompare (s_strCompare _ _) rfl ⟨.same rfl, .same rfl, trivial⟩ ?_
    try simp
    rfl
  refine AW.ret ?_
  refine Left.plain hnb (by simp [Try.f121, resV, resC, comp]; rfl) rfl rfl ?_
  simp
theorem en_spFind1 : Enters Try.prog 121 := enters Try.func121 (by kernel_rfl) rfl
def underField (l : List Field) (name : ByteArray) (i : Nat) : Bool := decide (cmpB (l.getD i default).name name < 0)
def seekField (l : List Field) (name : ByteArray) : Nat := bs (underField l name) 0 l.length
def hasField (l : List Field) (name : ByteArray) : Bool := decide (seekField l name < l.length ∧ cmpB (l.getD (seekField l name) default).name name = 0)
theorem seekField_le (l : List Field) (name : ByteArray) : seekField l name ≤ l.length := (bs_le _ _ _ (Nat.zero_le _)).1
theorem hasField_at (l : List Field) (name : ByteArray) (h : hasField l name = true) : ∃ x, l[seekField l name]? = some x := by
  simp [hasField] at h
  exact ⟨_, List.getElem?_eq_getElem h.1⟩
set_option maxRecDepth 8000 in
set_option maxHeartbeats 8000000 in
theorem s_bsField (l : List Field) (name : ByteArray) : Sound Try.prog 108 [.l (.d true 2 ((encField l))), .l (.s (.string name)), .l (.s (.func (.func 109) #[] #[]))] [] (.t [(false, [.s (.int .i64 ((seekField l name)))]), (false, [.s (.bool ((hasField l name)))])]) [] := by
  refine Sound.of_aw (fn := Try.f108) (c := _) Try.func108 rfl (by simp [Try.f108]) fun cx hG hnb => ?_
  rw [show Try.f108.ntmps = 49 from rfl]
  have hn0 : cx.nb = 0 := hnb
  refine AW.len_d 0 rfl fun hl => ?_
  simp only [encField_length] at hl
  refine AW.step (by simp [hl]; rfl) ?_
  refine AW.step (by simp [hl]; rfl) ?_
  refine AW.step (by simp [hl]; rfl) ?_
  refine AW.seq ?_
  refine AW.block ?_
  refine AW.loopF (α := Nat × Nat) [9, 10, 11, 15, 16, 17, 18, 19, 20, 21, 22, 23, 24, 25, 26, 27, 28, 29, 30, 31, 32, 33, 34] (fun x => [(9, .l (.s (.int .i64 x.1))), (10, .l (.s (.int .i64 x.2)))]) (fun _ => []) (fun x => x.2 ≤ l.length ∧ x.1 ≤ x.2 ∧ bs (underField l name) x.1 x.2 = seekField l name) (fun x => x.2 - x.1) (0, l.length) (by simp; rfl) (by simp) rfl ⟨Nat.le_refl _, Nat.zero_le _, rfl⟩ ?_
  rintro ⟨lo, hi⟩ ⟨g1, g2, g3⟩
  simp only at g1 g2 g3 ⊢
  refine AW.seq ?_
  refine AW.step (by simp [hl]; rfl) ?_
  refine AW.cond rfl (fun h3 => ?_) (fun h3 => ?_)
  · try simp at h3
    refine AW.skip ?_
    simp only [Post.seq, Post.block, if_true]
    refine AW.block ?_
    have hm := mid lo hi (by omega)
    obtain ⟨m, hmd⟩ : ∃ m, m = (lo + hi) / 2 := ⟨_, rfl⟩
    have hlt : lo < hi := by omega
    rw [← hmd] at hm
    obtain ⟨x, hx⟩ : ∃ x, l[m]? = some x := ⟨_, List.getElem?_eq_getElem (show m < l.length by omega)⟩
    have hbs : bs (underField l name) lo hi = if underField l name m then bs (underField l name) (m + 1) hi else bs (underField l name) lo m := by
      rw [bs, dif_pos hlt, hmd]
    refine AW.step (by simp [hl, hm]; rfl) ?_
    apply AW.step
    · simp [hl, hx]
      refine xcall_plain en_hFind1 (s_hFind1 x _) rfl ⟨.same rfl, .same rfl, trivial⟩ ?_
      try simp [hl, hx]
      rfl
    refine AW.cond rfl (fun h5 => ?_) (fun h5 => ?_)
    · try simp at h5
      refine AW.last (by simp [hl, i64_succ (show m + 1 ≤ 9223372036854775807 by omega)]; rfl) ?_
      simp only [Post.seq, Post.block, if_true]
      first
        | exact ⟨(m + 1, hi), Weak.keep _ (by simp), ⟨g1, by simp; omega, by rw [← g3, hbs, if_pos (by simpa [underField, hx] using h5)]⟩, by simp; omega⟩
        | exact ⟨(lo, m), Weak.keep _ (by simp), ⟨by simp; omega, by simp; omega, by rw [← g3, hbs, if_neg (by simpa [underField, hx] using h5)]⟩, by simp; omega⟩
    · try simp at h5
      refine AW.last (by simp [hl]; rfl) ?_
      simp only [Post.seq, Post.block, if_true]
      first
        | exact ⟨(m + 1, hi), Weak.keep _ (by simp), ⟨g1, by simp; omega, by rw [← g3, hbs, if_pos (by simpa [underField, hx] using h5)]⟩, by simp; omega⟩
        | exact ⟨(lo, m), Weak.keep _ (by simp), ⟨by simp; omega, by simp; omega, by rw [← g3, hbs, if_neg (by simpa [underField, hx] using h5)]⟩, by simp; omega⟩
  · try simp at h3
    refine AW.exit ?_
    simp only [Post.seq, Post.block, if_true]
    have hi0 : seekField l name = lo := by rw [← g3, bs, dif_neg (by omega)]
    by_cases hlt : lo < l.length
    · obtain ⟨x, hx⟩ : ∃ x, l[lo]? = some x := ⟨_, List.getElem?_eq_getElem hlt⟩
      apply AW.step
      · simp [show decide (lo < l.length) = true by simpa using hlt, hx]
        refine xcall_plain en_hFind1 (s_hFind1 x _) rfl ⟨.same rfl, .same rfl, trivial⟩ ?_
        simp
        rfl
      refine AW.ret (Left.plain hnb (by simp [Try.f108, resV, resC, comp]; rfl) rfl rfl ?_)
      have hd : l.getD lo default = x := by simp [List.getD_eq_getElem?_getD, hx]
      simp only [hi0, hasField, hd]
      simp [hlt]
    · apply AW.step
      · simp [hlt]
        rfl
      refine AW.ret (Left.plain hnb (by simp [Try.f108, resV, resC, comp]; rfl) rfl rfl ?_)
      simp [hi0, hasField, hlt]
theorem en_bsField : Enters Try.prog 108 := enters Try.func108 (by kernel_rfl) rfl
set_option maxRecDepth 8000 in
set_option maxHeartbeats 8000000 in
theorem s_hFind (l : List Field) (name : ByteArray) : Sound Try.prog 74 [.l (.d true 2 ((encField l))), .l (.s (.string name))] [] (.t [(false, [.s (.int .i64 ((seekField l name)))]), (false, [.s (.bool ((hasField l name)))])]) [] := by
  refine Sound.of_aw (fn := Try.f74) (c := _) Try.func74 rfl (by simp [Try.f74]) fun cx hG hnb => ?_
  rw [show Try.f74.ntmps = 11 from rfl]
  have hn0 : cx.nb = 0 := hnb
  refine AW.step (by simp; rfl) ?_
  apply AW.step
  · simp
    refine xcall_plain en_bsField (s_bsField _ _) rfl ⟨.d _ _ _, .same rfl, .same rfl, trivial⟩ ?_
    try simp
    rfl
  refine AW.ret ?_
  refine Left.plain hnb (by simp [Try.f74, resV, resC, comp]; rfl) rfl rfl ?_
  simp
theorem en_hFind : Enters Try.prog 74 := enters Try.func74 (by kernel_rfl) rfl
def underPair (l : List Pair) (name : ByteArray) (i : Nat) : Bool := decide (cmpB (l.getD i default).key name < 0)
def seekPair (l : List Pair) (name : ByteArray) : Nat := bs (underPair l name) 0 l.length
def hasPair (l : List Pair) (name : ByteArray) : Bool := decide (seekPair l name < l.length ∧ cmpB (l.getD (seekPair l name) default).key name = 0)
theorem seekPair_le (l : List Pair) (name : ByteArray) : seekPair l name ≤ l.length := (bs_le _ _ _ (Nat.zero_le _)).1
theorem hasPair_at (l : List Pair) (name : ByteArray) (h : hasPair l name = true) : ∃ x, l[seekPair l name]? = some x := by
  simp [hasPair] at h
  exact ⟨_, List.getElem?_eq_getElem h.1⟩
set_option maxRecDepth 8000 in
set_option maxHeartbeats 8000000 in
theorem s_bsPair (l : List Pair) (name : ByteArray) : Sound Try.prog 120 [.l (.d true 6 ((encPair l))), .l (.s (.string name)), .l (.s (.func (.func 121) #[] #[]))] [] (.t [(false, [.s (.int .i64 ((seekPair l name)))]), (false, [.s (.bool ((hasPair l name)))])]) [] := by
  refine Sound.of_aw (fn := Try.f120) (c := _) Try.func120 rfl (by simp [Try.f120]) fun cx hG hnb => ?_
  rw [show Try.f120.ntmps = 49 from rfl]
  have hn0 : cx.nb = 0 := hnb
  refine AW.len_d 0 rfl fun hl => ?_
  simp only [encPair_length] at hl
  refine AW.step (by simp [hl]; rfl) ?_
  refine AW.step (by simp [hl]; rfl) ?_
  refine AW.step (by simp [hl]; rfl) ?_
  refine AW.seq ?_
  refine AW.block ?_
  refine AW.loopF (α := Nat × Nat) [9, 10, 11, 15, 16, 17, 18, 19, 20, 21, 22, 23, 24, 25, 26, 27, 28, 29, 30, 31, 32, 33, 34] (fun x => [(9, .l (.s (.int .i64 x.1))), (10, .l (.s (.int .i64 x.2)))]) (fun _ => []) (fun x => x.2 ≤ l.length ∧ x.1 ≤ x.2 ∧ bs (underPair l name) x.1 x.2 = seekPair l name) (fun x => x.2 - x.1) (0, l.length) (by simp; rfl) (by simp) rfl ⟨Nat.le_refl _, Nat.zero_le _, rfl⟩ ?_
  rintro ⟨lo, hi⟩ ⟨g1, g2, g3⟩
  simp only at g1 g2 g3 ⊢
  refine AW.seq ?_
  refine AW.step (by simp [hl]; rfl) ?_
  refine AW.cond rfl (fun h3 => ?_) (fun h3 => ?_)
  · try simp at h3
    refine AW.skip ?_
    simp only [Post.seq, Post.block, if_true]
    refine AW.block ?_
    have hm := mid lo hi (by omega)
    obtain ⟨m, hmd⟩ : ∃ m, m = (lo + hi) / 2 := ⟨_, rfl⟩
    have hlt : lo < hi := by omega
    rw [← hmd] at hm
    obtain ⟨x, hx⟩ : ∃ x, l[m]? = some x := ⟨_, List.getElem?_eq_getElem (show m < l.length by omega)⟩
    have hbs : bs (underPair l name) lo hi = if underPair l name m then bs (underPair l name) (m + 1) hi else bs (underPair l name) lo m := by
      rw [bs, dif_pos hlt, hmd]
    refine AW.step (by simp [hl, hm]; rfl) ?_
    apply AW.step
    · simp [hl, hx]
      refine xcall_plain en_spFind1 (s_spFind1 x _) rfl ⟨.g ⟨.s _,.s _,.s _,.al _ _ _,.al _ _ _,.s _,trivial⟩, .same rfl, trivial⟩ ?_
      try simp [hl, hx]
      rfl
    refine AW.cond rfl (fun h5 => ?_) (fun h5 => ?_)
    · try simp at h5
      refine AW.last (by simp [hl, i64_succ (show m + 1 ≤ 9223372036854775807 by omega)]; rfl) ?_
      simp only [Post.seq, Post.block, if_true]
      first
        | exact ⟨(m + 1, hi), Weak.keep _ (by simp), ⟨g1, by simp; omega, by rw [← g3, hbs, if_pos (by simpa [underPair, hx] using h5)]⟩, by simp; omega⟩
        | exact ⟨(lo, m), Weak.keep _ (by simp), ⟨by simp; omega, by simp; omega, by rw [← g3, hbs, if_neg (by simpa [underPair, hx] using h5)]⟩, by simp; omega⟩
    · try simp at h5
      refine AW.last (by simp [hl]; rfl) ?_
      simp only [Post.seq, Post.block, if_true]
      first
        | exact ⟨(m + 1, hi), Weak.keep _ (by simp), ⟨g1, by simp; omega, by rw [← g3, hbs, if_pos (by simpa [underPair, hx] using h5)]⟩, by simp; omega⟩
        | exact ⟨(lo, m), Weak.keep _ (by simp), ⟨by simp; omega, by simp; omega, by rw [← g3, hbs, if_neg (by simpa [underPair, hx] using h5)]⟩, by simp; omega⟩
  · try simp at h3
    refine AW.exit ?_
    simp only [Post.seq, Post.block, if_true]
    have hi0 : seekPair l name = lo := by rw [← g3, bs, dif_neg (by omega)]
    by_cases hlt : lo < l.length
    · obtain ⟨x, hx⟩ : ∃ x, l[lo]? = some x := ⟨_, List.getElem?_eq_getElem hlt⟩
      apply AW.step
      · simp [show decide (lo < l.length) = true by simpa using hlt, hx]
        refine xcall_plain en_spFind1 (s_spFind1 x _) rfl ⟨.g ⟨.s _,.s _,.s _,.al _ _ _,.al _ _ _,.s _,trivial⟩, .same rfl, trivial⟩ ?_
        simp
        rfl
      refine AW.ret (Left.plain hnb (by simp [Try.f120, resV, resC, comp]; rfl) rfl rfl ?_)
      have hd : l.getD lo default = x := by simp [List.getD_eq_getElem?_getD, hx]
      simp only [hi0, hasPair, hd]
      simp [hlt]
    · apply AW.step
      · simp [hlt]
        rfl
      refine AW.ret (Left.plain hnb (by simp [Try.f120, resV, resC, comp]; rfl) rfl rfl ?_)
      simp [hi0, hasPair, hlt]
theorem en_bsPair : Enters Try.prog 120 := enters Try.func120 (by kernel_rfl) rfl
set_option maxRecDepth 8000 in
set_option maxHeartbeats 8000000 in
theorem s_spFind (l : List Pair) (name : ByteArray) : Sound Try.prog 93 [.l (.d true 6 ((encPair l))), .l (.s (.string name))] [] (.t [(false, [.s (.int .i64 ((seekPair l name)))]), (false, [.s (.bool ((hasPair l name)))])]) [] := by
  refine Sound.of_aw (fn := Try.f93) (c := _) Try.func93 rfl (by simp [Try.f93]) fun cx hG hnb => ?_
  rw [show Try.f93.ntmps = 11 from rfl]
  have hn0 : cx.nb = 0 := hnb
  refine AW.step (by simp; rfl) ?_
  apply AW.step
  · simp
    refine xcall_plain en_bsPair (s_bsPair _ _) rfl ⟨.d _ _ _, .same rfl, .same rfl, trivial⟩ ?_
    try simp
    rfl
  refine AW.ret ?_
  refine Left.plain hnb (by simp [Try.f93, resV, resC, comp]; rfl) rfl rfl ?_
  simp
theorem en_spFind : Enters Try.prog 93 := enters Try.func93 (by kernel_rfl) rfl
set_option maxRecDepth 8000 in
set_option maxHeartbeats 8000000 in
theorem s_hGet (l : List Field) (name : ByteArray) : Sound Try.prog 22 [.l (.d true 2 ((encField l))), .l (.s (.string name))] [] (.t [(false, [.s (.string ((bif hasField l name then (l.getD (seekField l name) default).val else ⟨#[]⟩)))]), (false, [.s (.bool ((hasField l name)))])]) [] := by
  refine Sound.of_aw (fn := Try.f22) (c := _) Try.func22 rfl (by simp [Try.f22]) fun cx hG hnb => ?_
  rw [show Try.f22.ntmps = 21 from rfl]
  have hn0 : cx.nb = 0 := hnb
  refine AW.step (by simp; rfl) ?_
  apply AW.step
  · simp
    refine xcall_plain en_hFind (s_hFind _ _) rfl ⟨.d _ _ _, .same rfl, trivial⟩ ?_
    try simp
    rfl
  refine AW.seq ?_
  refine AW.step (by simp; rfl) ?_
  refine AW.cond rfl (fun h2 => ?_) (fun h2 => ?_)
  · try simp at h2
    refine AW.step (by simp; rfl) ?_
    refine AW.ret ?_
    refine Left.plain hnb (by simp [Try.f22, resV, resC, comp]; rfl) rfl rfl ?_
    simp [h2]
  · have hf : hasField l name = true := by simpa using h2
    obtain ⟨x, hx⟩ := hasField_at l name hf
    refine AW.skip ?_
    simp only [Post.seq, Post.block, if_true]
    refine AW.step (by simp [hx]; rfl) ?_
    refine AW.ret ?_
    refine Left.plain hnb (by simp [Try.f22, resV, resC, comp, hx]; rfl) rfl rfl ?_
    simp [hf, hx]
theorem en_hGet : Enters Try.prog 22 := enters Try.func22 (by kernel_rfl) rfl
end Go.Proofs.Ytlkhfdccapkcdaa
