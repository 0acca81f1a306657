/- Part 4 of the proof. -/
import Derived.Test.YtlkhfdccapkcdaaPc3
import Derived.Test.YtlkhfdccapkcdaaRows
import Derived.ProofKit
/- Walks: HashRuns. -/
namespace Go.Proofs.Ytlkhfdccapkcdaa
open Go Go.RowKit
set_option linter.unusedVariables false
set_option linter.unusedSimpArgs false
theorem lvs_encS (l : List ByteArray) : lvs (encS l) = l.map fun s => LV.s (.string s) := by
  induction l with
  | nil => rfl
  | cons x l ih => rw [encS_cons, List.map_cons, ← ih]; rfl
theorem lvs_encS_length (l : List ByteArray) : (lvs (encS l)).length = l.length := by simp [lvs_encS]
theorem lvs_encS_at {l : List ByteArray} {k : Nat} {h : ByteArray} (hk : l[k]? = some h) (hl : k < (lvs (encS l)).length) : (lvs (encS l))[k] = .s (.string h) := by
  have := List.getElem?_eq_getElem hl
  rw [← Option.some.injEq, ← this]
  simp [lvs_encS, hk]
theorem lvs_encS_get {l : List ByteArray} {k : Nat} {h : ByteArray} (hk : l[k]? = some h) : (lvs (encS l))[k]? = some (.s (.string h)) := by simp [lvs_encS, hk]
theorem setAt_one {α : Type} : ∀ (l : List α) (k : Nat) (v : α), k < l.length → setAt l k [v] = l.set k v
  | [], k, v, h => by simp at h
  | a :: l, 0, v, h => by simp [setAt]
  | a :: l, k + 1, v, h => by
    have := setAt_one l k v (by simpa using h)
    simp [setAt, this]
theorem setAt_encS {l : List ByteArray} {k : Nat} (v : ByteArray) (h : k < l.length) : setAt (lvs (encS l)) k [.s (.string v)] = lvs (encS (l.set k v)) := by
  rw [setAt_one _ _ _ (by rw [lvs_encS_length]; exact h), lvs_encS, lvs_encS, List.map_set]
theorem set_encS {l : List ByteArray} (k : Nat) (v : ByteArray) : (lvs (encS l)).set k (.s (.string v)) = lvs (encS (l.set k v)) := by
  rw [lvs_encS, lvs_encS, List.map_set]
def kabyte (k : Nat) : UInt8 := UInt8.ofNat (97 + k)
def ka (k : Nat) : ByteArray := ⟨#[kabyte k]⟩
theorem ka_inj : ∀ a < 16, ∀ b < 16, ka a = ka b → a = b := by decide
theorem ka_byte {k : Nat} (h : k < 16) : UInt8.ofNat (IntKind.u8.wrap (IntKind.i64.wrap (97 + (k : Int)))).toNat = kabyte k := by
  unfold kabyte
  congr 1
  rw [i64_in (by omega) (by omega), wrap_u8]
  omega
/-- Fields that may be: all small. -/
def Small (l : List Field) : Prop := ∀ f ∈ l, f.name.size ≤ 300 ∧ f.val.size ≤ 300
theorem small_set {l : List Field} (h : Srt l) (hs : Small l) {n v : ByteArray} (hn : n.size ≤ 300) (hv : v.size ≤ 300) : Small (setF l n v) := by
  obtain ⟨A, B, C, rfl, -, -, -, e, -⟩ := srt_shape h n v
  rw [e]
  intro f hf
  rcases List.mem_append.1 hf with hf | hf
  · exact hs f (by simp [hf])
  · rcases List.mem_cons.1 hf with rfl | hf
    · exact ⟨hn, hv⟩
    · exact hs f (by simp [hf])
theorem small_del {l : List Field} (h : Srt l) (hs : Small l) (n : ByteArray) : Small (delF l n) := by
  obtain ⟨A, B, C, rfl, -, -, -, -, e, -⟩ := srt_shape h n ⟨#[]⟩
  rw [e]
  intro f hf
  rcases List.mem_append.1 hf with hf | hf
  · exact hs f (by simp [hf])
  · exact hs f (by simp [hf])
theorem rising_of {l : List Field} (h : Srt l) (hs : Small l) (hl : l.length ≤ 101) : risingF l = true := by
  refine List.all_eq_true.2 fun i hi => ?_
  have hi' : i < l.length := List.mem_range.1 hi
  obtain ⟨x, hx⟩ := get_some hi'
  obtain ⟨y, hy⟩ := get_some (show i - 1 < l.length by omega)
  simp only [okF, hx, hy]
  have h1 := hs x (List.mem_of_getElem? hx)
  have h2 : 0 < i → slt y.name x.name = true := fun h0 => by
    have e1 := List.pairwise_iff_getElem.1 h (i - 1) i (by omega) hi' (by omega)
    rwa [(List.getElem?_eq_some_iff.1 hx).2, (List.getElem?_eq_some_iff.1 hy).2] at e1
  simp
  refine ⟨⟨⟨by omega, by omega⟩, by omega⟩, ?_⟩
  rcases Nat.eq_zero_or_pos i with h0 | h0
  · exact .inl h0
  · exact .inr (h2 h0)
/-- What the law's own list says of the fields. -/
structure Told (l : List Field) (has : List ByteArray) : Prop where
  srt : Srt l
  small : Small l
  len : has.length = 16
  look : ∀ k h, has[k]? = some h → lookF l (ka k) = if h = ⟨#[]⟩ then none else some ⟨ka k, h⟩
def stepL (l : List Field) (k : Nat) (x : Int) (v : ByteArray) : List Field := if 160 ≤ x then delF l (ka k) else setF l (ka k) v
def stepH (has : List ByteArray) (k : Nat) (x : Int) (v : ByteArray) : List ByteArray := if 160 ≤ x then has.set k ⟨#[]⟩ else has.set k v
theorem Told.del {l : List Field} {has : List ByteArray} (t : Told l has) {k : Nat} (hk : k < 16) : Told (delF l (ka k)) (has.set k ⟨#[]⟩) := by
  refine ⟨srt_del t.srt _, small_del t.srt t.small _, by simp [t.len], fun j h hj => ?_⟩
  have hj16 : j < 16 := by have := (List.getElem?_eq_some_iff.1 hj).1; simp [t.len] at this; exact this
  rw [look_del t.srt]
  by_cases e : j = k
  · subst e
    rw [List.getElem?_set_self (by rw [t.len]; omega)] at hj
    cases hj
    simp
  · rw [List.getElem?_set_ne (fun h => e h.symm)] at hj
    rw [if_neg (fun h => e (ka_inj j hj16 k hk h)), t.look j h hj]
theorem Told.set {l : List Field} {has : List ByteArray} (t : Told l has) {k : Nat} (hk : k < 16) {v : ByteArray} (hv : 0 < v.size ∧ v.size ≤ 300) : Told (setF l (ka k) v) (has.set k v) := by
  refine ⟨srt_set t.srt _ _, small_set t.srt t.small (by show 1 ≤ 300; omega) hv.2, by simp [t.len], fun j h hj => ?_⟩
  have hj16 : j < 16 := by have := (List.getElem?_eq_some_iff.1 hj).1; simp [t.len] at this; exact this
  rw [look_set t.srt]
  by_cases e : j = k
  · subst e
    rw [List.getElem?_set_self (by rw [t.len]; omega)] at hj
    cases hj
    have : v ≠ ⟨#[]⟩ := by rintro rfl; exact absurd hv.1 (by decide)
    simp [this]
  · rw [List.getElem?_set_ne (fun h => e h.symm)] at hj
    rw [if_neg (fun h => e (ka_inj j hj16 k hk h)), t.look j h hj]
theorem Told.len_del {l : List Field} {has : List ByteArray} (t : Told l has) {k : Nat} {h : ByteArray} (hk : has[k]? = some h) : (delF l (ka k)).length = (if h = ⟨#[]⟩ then l.length else l.length - 1) ∧ (h ≠ ⟨#[]⟩ → 0 < l.length) := by
  have h1 := @Go.Proofs.Ytlkhfdccapkcdaa.len_del l t.srt (ka k)
  rw [t.look k h hk] at h1
  by_cases e : h = ⟨#[]⟩
  · rw [if_pos e] at h1 ⊢
    exact ⟨by simpa using h1, fun h => absurd e h⟩
  · rw [if_neg e] at h1 ⊢
    refine ⟨by simpa using h1, fun _ => ?_⟩
    have := (look_some ((t.look k h hk).trans (if_neg e))).1
    exact List.length_pos_of_mem this
theorem Told.len_set {l : List Field} {has : List ByteArray} (t : Told l has) {k : Nat} {h : ByteArray} (hk : has[k]? = some h) (v : ByteArray) : (setF l (ka k) v).length = if h = ⟨#[]⟩ then l.length + 1 else l.length := by
  have h1 := @Go.Proofs.Ytlkhfdccapkcdaa.len_set l t.srt (ka k) v
  rw [t.look k h hk] at h1
  by_cases e : h = ⟨#[]⟩
  · rw [if_pos e] at h1 ⊢
    simpa using h1
  · rw [if_neg e] at h1 ⊢
    simpa using h1
theorem Told.get {l : List Field} {has : List ByteArray} (t : Told l has) {k : Nat} {h : ByteArray} (hk : has[k]? = some h) : hasField l (ka k) = !decide (h = ⟨#[]⟩) ∧ (bif hasField l (ka k) then (l.getD (seekField l (ka k)) default).val else ⟨#[]⟩) = h := by
  obtain ⟨h1, h2⟩ := has_look t.srt (ka k)
  rw [h2, h1, t.look k h hk]
  by_cases e : h = ⟨#[]⟩
  · subst e; simp [valOf]
  · simp [e, valOf]
theorem told_nil : Told [] (List.replicate 16 ⟨#[]⟩) := by
  refine ⟨srt_nil, fun f hf => by simp at hf, by simp, fun k h hk => ?_⟩
  have := List.eq_of_mem_replicate (List.mem_of_getElem? hk)
  subst this
  simp [lookF]
set_option maxRecDepth 8000 in
set_option maxHeartbeats 8000000 in
theorem s_HashRuns (ns : List Int) (rns : ∀ x ∈ ns, 0 ≤ x ∧ x ≤ 255) : Sound Try.prog 5 [.l (.d false 1 ((encU ns)))] [] (.l (.s (.bool true))) [] := by
  refine Sound.of_aw (fn := Try.f5) (c := _) Try.func5 rfl (by simp [Try.f5]) fun cx hG hnb => ?_
  rw [show Try.f5.ntmps = 118 from rfl]
  have hn0 : cx.nb = 0 := hnb
  refine AW.len_d 0 rfl fun hl => ?_
  simp only [encU_length] at hl
  refine AW.step (by simp [hl]; rfl) ?_
  refine AW.seq ?_
  refine AW.step (by simp [hl]; rfl) ?_
  refine AW.cond rfl (fun h1 => ?_) (fun h1 => ?_)
  · try simp at h1
    apply AW.step
    · simp [hl]
      refine xcall_plain en_l7awake (s_l7awake) rfl trivial ?_
      try simp [hl]
      rfl
    refine AW.ret ?_
    refine Left.plain hnb (by simp [Try.f5, resV, resC, comp, hl]; rfl) rfl rfl ?_
    simp [hl]
  · simp at h1
    refine AW.skip ?_
    simp only [Post.seq, Post.block, if_true]
    refine AW.step (by simp [hl]; rfl) ?_
    refine AW.step (by simp [hl]; rfl) ?_
    refine AW.step (by simp [hl]; rfl) ?_
    refine AW.seq ?_
    refine AW.step (by simp [hl]; rfl) ?_
    refine AW.block ?_
    refine AW.nilD 3 2 (by simp) ?_
    refine AW.loopF (α := Nat × List Field × List ByteArray) [2, 3, 5, 6, 7, 8, 17, 18, 19, 20, 21, 22, 23, 24, 25, 26, 27, 28, 29, 30, 31, 32, 33, 34, 35, 36, 37, 38, 39, 40, 41, 42, 43, 44, 45, 46, 47, 48, 49, 50, 51, 52, 53, 54, 55, 56, 57, 58, 59, 60, 61, 62, 63, 64, 65, 66, 67, 68, 69, 70, 71, 72, 73, 74, 75, 76, 77, 78, 79, 80, 81, 82, 83, 84, 85, 86, 87] (fun a => [(6, .l (.s (.int .i64 a.1))), (3, .l (.d false 2 (encField a.2.1))), (5, .l (.s (.int .i64 a.2.1.length)))]) (fun a => [some ⟨9, 1, true, none, lvs (encS a.2.2)⟩]) (fun a => a.1 ≤ ns.length ∧ a.2.1.length ≤ a.1 ∧ Told a.2.1 a.2.2) (fun a => ns.length - a.1) (0, [], List.replicate 16 ⟨#[]⟩) (by simp; rfl) (by simp) (by simp [repZ, lvs_encS]) ⟨Nat.zero_le _, Nat.le_refl _, told_nil⟩ ?_
    rintro ⟨i, l, has⟩ ⟨g1, g2, td⟩
    simp only at g1 g2 td
    refine AW.seq ?_
    refine AW.step (by simp [hl]; rfl) ?_
    refine AW.cond rfl (fun h7 => ?_) (fun h7 => ?_)
    · simp at h7
      obtain ⟨x, hx⟩ := get_some h7
      have rx := rns x (List.mem_of_getElem? hx)
      obtain ⟨k, hk⟩ : ∃ k : Nat, k = x.toNat % 16 := ⟨_, rfl⟩
      have hk16 : k < 16 := by omega
      have hk15 : k ≤ 15 := by omega
      have hx1 : IntKind.i64.wrap x = x := i64_in (by omega) (by omega)
      have hx2 : x.tmod 16 = (k : Int) := by rw [Int.tmod_eq_emod_of_nonneg (by omega)]; omega
      have hkl : k < has.length := by rw [td.len]; exact hk16
      obtain ⟨h, hh⟩ := get_some hkl
      have hcell := lvs_encS_get hh
      have hcl := lvs_encS_length has
      have hka := ka_byte hk16
      obtain ⟨hd1, hd2⟩ := td.len_del hh
      have hs1 := td.len_set hh (digText ((i : Int) + 1))
      have hdt := digText_size ((i : Int) + 1)
      have tdD := td.del hk16
      have tdS := td.set hk16 (v := digText ((i : Int) + 1)) ⟨hdt.1, by omega⟩
      have hdl := delF_le l (ka k)
      have hsl := setF_le l (ka k) (digText ((i : Int) + 1))
      have hiw := i64_succ (show i + 1 ≤ 9223372036854775807 by omega)
      refine AW.skip ?_
      simp only [Post.seq, Post.block, if_true]
      refine AW.seq ?_
      refine AW.block ?_
      refine AW.step (by simp [hl, hx, hx1, hx2]; rfl) ?_
      refine AW.step (by simp [hl, hka]; rfl) ?_
      obtain ⟨L, hL⟩ : ∃ L, L = stepL l k x (digText ((i : Int) + 1)) := ⟨_, rfl⟩
      obtain ⟨H, hH⟩ : ∃ H, H = stepH has k x (digText ((i : Int) + 1)) := ⟨_, rfl⟩
      refine AW.joinF [3, 5, 34, 35, 36, 37, 38, 39, 40, 41, 42, 43, 44, 45, 46, 47, 48, 49, 50, 51, 52, 53, 54, 55, 56, 57, 58, 59, 60, 61, 62, 63, 64, 65, 66, 67, 68, 69, 70, 71] [(3, .l (.d false 2 (encField L))), (5, .l (.s (.int .i64 L.length)))] [some ⟨9, 1, true, none, lvs (encS H)⟩, some ⟨5, 1, true, none, [.s (.int .u8 (IntKind.u8.wrap (IntKind.i64.wrap (97 + (k : Int)))))]⟩] (by simp; rfl) ?_ ?_
      · refine AW.step (by simp [hl, hx]; rfl) ?_
        refine AW.cond rfl (fun h11 => ?_) (fun h11 => ?_)
        · simp at h11
          have hL' : L = delF l (ka k) := hL.trans (if_pos h11)
          have hH' : H = has.set k ⟨#[]⟩ := hH.trans (if_pos h11)
          refine AW.joinF [5, 39, 40, 41, 42, 43, 44, 45] [(5, .l (.s (.int .i64 L.length)))] [some ⟨9, 1, true, none, lvs (encS has)⟩, some ⟨5, 1, true, none, [.s (.int .u8 (IntKind.u8.wrap (IntKind.i64.wrap (97 + (k : Int)))))]⟩] (by simp; rfl) ?_ ?_
          · refine AW.step (by simp [hl, lvs_encS_at hh, hcl, td.len, hk16, hk15]; rfl) ?_
            refine AW.cond rfl (fun h12 => ?_) (fun h12 => ?_)
            · simp at h12
              have hn : IntKind.i64.wrap ((l.length : Int) - 1) = (L.length : Int) := by rw [i64_in (by omega) (by omega), hL', hd1, if_neg h12]; have := hd2 h12; omega
              refine AW.last (by simp [hl]; rfl) ?_
              simp only [Post.seq, Post.block, if_true]
              exact Weak.cut 2 (by omega) (by simp [hn]) (by simp) rfl
            · simp at h12
              have hn : l.length = L.length := by rw [hL', hd1, if_pos h12]
              refine AW.skip ?_
              simp only [Post.seq, Post.block, if_true]
              exact Weak.cut 2 (by omega) (by simp [hn]) (by simp) rfl
          simp only [List.cons_append, List.nil_append]
          refine AW.step (by simp [hl, hcl, td.len, hk16, hk15, set_encS]; rfl) ?_
          apply AW.last
          · simp [hl]
            refine xcall_plain en_hDel (z_hDel l (ka k) (by omega)) rfl ⟨.d _ _ _, .same rfl, trivial⟩ ?_
            try simp [hl]
            rfl
          simp only [Post.seq, Post.block, if_true]
          exact Weak.cut 2 (by omega) (by simp [hL']) (by simp [hH']) rfl
        · simp at h11
          have hno : ¬ 160 ≤ x := by omega
          have hL' : L = setF l (ka k) (digText ((i : Int) + 1)) := hL.trans (if_neg hno)
          have hH' : H = has.set k (digText ((i : Int) + 1)) := hH.trans (if_neg hno)
          refine AW.joinF [5, 52, 53, 54, 55, 56, 57, 58] [(5, .l (.s (.int .i64 L.length)))] [some ⟨9, 1, true, none, lvs (encS has)⟩, some ⟨5, 1, true, none, [.s (.int .u8 (IntKind.u8.wrap (IntKind.i64.wrap (97 + (k : Int)))))]⟩] (by simp; rfl) ?_ ?_
          · refine AW.step (by simp [hl, lvs_encS_at hh, hcl, td.len, hk16, hk15]; rfl) ?_
            refine AW.cond rfl (fun h16 => ?_) (fun h16 => ?_)
            · simp at h16
              have hn : IntKind.i64.wrap ((l.length : Int) + 1) = (L.length : Int) := by rw [i64_in (by omega) (by omega), hL', hs1, if_pos h16]; omega
              refine AW.last (by simp [hl]; rfl) ?_
              simp only [Post.seq, Post.block, if_true]
              exact Weak.cut 2 (by omega) (by simp [hn]) (by simp) rfl
            · simp at h16
              have hn : l.length = L.length := by rw [hL', hs1, if_neg h16]
              refine AW.skip ?_
              simp only [Post.seq, Post.block, if_true]
              exact Weak.cut 2 (by omega) (by simp [hn]) (by simp) rfl
          simp only [List.cons_append, List.nil_append]
          apply AW.step
          · simp [hl, hcl, td.len, hk16, hk15, set_encS, hiw]
            refine xcall_plain en_r1Digits (s_r1Digits _ (by omega)) rfl ⟨.same rfl, trivial⟩ ?_
            try simp [hl, hcl, td.len, hk16, hk15, set_encS, hiw]
            rfl
          apply AW.last
          · simp [hl, lvs_encS_at (show (has.set k (digText ((i : Int) + 1)))[k]? = some (digText ((i : Int) + 1)) by rw [List.getElem?_set_self hkl]), lvs_encS_length, td.len, hk16, hk15]
            refine xcall_plain en_hSet (z_hSet l (ka k) (digText ((i : Int) + 1)) (by omega)) rfl ⟨.d _ _ _, .same rfl, .same rfl, trivial⟩ ?_
            try simp [hl, lvs_encS_at (show (has.set k (digText ((i : Int) + 1)))[k]? = some (digText ((i : Int) + 1)) by rw [List.getElem?_set_self hkl]), lvs_encS_length, td.len, hk16, hk15]
            rfl
          simp only [Post.seq, Post.block, if_true]
          exact Weak.cut 2 (by omega) (by simp [hL']) (by simp [hH']) rfl
      simp only [List.cons_append, List.nil_append]
      have tdN : Told L H := by
        rw [hL, hH]
        unfold stepL stepH
        split
        · exact tdD
        · exact tdS
      have hLl : L.length ≤ i + 1 := by
        rw [hL]
        unfold stepL
        split <;> omega
      have hr := rising_of tdN.srt tdN.small (by omega)
      have hLb : L.length ≤ 140737488355328 := by omega
      apply AW.step
      · simp [hl, hr, hLb]
        refine xcall_plain en_l7rising (s_l7rising _) rfl ⟨.d _ _ _, trivial⟩ ?_
        try simp [hl, hr, hLb]
        refine xcall_plain en_hNames (z_hNames L (by omega)) rfl ⟨.same rfl, trivial⟩ ?_
        try simp [hl, hr, hLb]
        rfl
      refine AW.cond rfl (fun h20 => ?_) (fun h20 => ?_)
      · simp at h20
      · try simp at h20
        refine AW.skip ?_
        simp only [Post.seq, Post.block, if_true]
        refine AW.last (by simp [hl]; rfl) ?_
        simp only [Post.seq, Post.block, if_true]
        refine ⟨(i + 1, L, H), Weak.cut 1 (by omega) (by simp [hiw]) (by simp) rfl, ⟨by simp only; omega, by simp only; omega, tdN⟩, by simp only; omega⟩
    · try simp at h7
      refine AW.exit ?_
      simp only [Post.seq, Post.block, if_true]
      refine AW.seq ?_
      refine AW.step (by simp [hl]; rfl) ?_
      refine AW.block ?_
      refine AW.loopF (α := Nat) [2, 9, 10, 11, 88, 89, 90, 91, 92, 93, 94, 95, 96, 97, 98, 99, 100, 101, 102, 103, 104, 105, 106, 107, 108, 109, 110, 111, 112, 113, 114, 115, 116] (fun k => [(9, .l (.s (.int .i64 k)))]) (fun _ => [some ⟨9, 1, true, none, lvs (encS has)⟩]) (fun k => k ≤ 16) (fun k => 16 - k) 0 (by simp; rfl) (by simp) (by simp) (Nat.zero_le _) ?_
      intro k hk
      refine AW.seq ?_
      refine AW.step (by simp [hl]; rfl) ?_
      refine AW.cond rfl (fun h23 => ?_) (fun h23 => ?_)
      · simp at h23
        have hk16 : k < 16 := by omega
        have hk15 : k ≤ 15 := by omega
        have hkl : k < has.length := by rw [td.len]; exact hk16
        obtain ⟨h, hh⟩ := get_some hkl
        have hcell := lvs_encS_get hh
        have hcl := lvs_encS_length has
        have hka := ka_byte hk16
        obtain ⟨e1, e2⟩ := td.get hh
        rw [List.getD_eq_getElem?_getD] at e2
        refine AW.skip ?_
        simp only [Post.seq, Post.block, if_true]
        refine AW.seq ?_
        refine AW.block ?_
        apply AW.step
        · simp [hl, hka, e2]
          refine xcall_plain en_hGet (s_hGet l (ka k)) rfl ⟨.d _ _ _, .same rfl, trivial⟩ ?_
          try simp [hl, hka, e2]
          rfl
        refine AW.step (by simp [hl, e1, lvs_encS_at hh, hcl, td.len, hk16, hk15]; rfl) ?_
        refine AW.cond rfl (fun h26 => ?_) (fun h26 => ?_)
        · simp at h26
        · try simp at h26
          refine AW.skip ?_
          simp only [Post.seq, Post.block, if_true]
          refine AW.last (by simp [hl]; rfl) ?_
          simp only [Post.seq, Post.block, if_true]
          refine ⟨k + 1, Weak.cut 1 (by omega) (by simp [i64_succ (show k + 1 ≤ 9223372036854775807 by omega)]) (by simp) rfl, by omega, by omega⟩
      · try simp at h23
        refine AW.exit ?_
        simp only [Post.seq, Post.block, if_true]
        apply AW.step
        · simp [hl]
          refine xcall_plain en_l7awake (s_l7awake) rfl trivial ?_
          try simp [hl]
          rfl
        refine AW.ret ?_
        refine Left.plain hnb (by simp [Try.f5, resV, resC, comp, hl]; rfl) rfl rfl ?_
        simp [hl]
theorem en_HashRuns : Enters Try.prog 5 := enters Try.func5 (by kernel_rfl) rfl
end Go.Proofs.Ytlkhfdccapkcdaa
/- What is read as data of the program's structs. -/
namespace Go.Proofs.Ytlkhfdccapkcdaa
open Go Go.RowKit
set_option linter.unusedVariables false
set_option linter.unusedSimpArgs false
set_option linter.constructorNameAsVariable false
set_option maxRecDepth 100000
section
variable {P : Program} {n t : Nat} {ts : List T}
theorem WfT.bool (hu : P.underlying t = some .bool) (h : WfT P (n + 1) t ts) : ∃ b, ts = [.v (.bool b)] := by rw [WfT, hu] at h; exact h
theorem WfT.int {k : IntKind} (hu : P.underlying t = some (.int k)) (h : WfT P (n + 1) t ts) : ∃ i, ts = [.v (.int k i)] ∧ (Lit.int k i).wf = true := by rw [WfT, hu] at h; exact h
theorem WfT.str (hu : P.underlying t = some .string) (h : WfT P (n + 1) t ts) : ∃ s, ts = [.v (.string s)] ∧ s.size ≤ maxLen := by rw [WfT, hu] at h; exact h
theorem WfT.slice {e : Nat} (hu : P.underlying t = some (.slice e)) (h : WfT P (n + 1) t ts) : ∃ es, ts = [.sl (P.cellsOf e) es] ∧ es.length * P.bytesOf e ≤ reachBytes ∧ ∀ x ∈ es, WfT P n e x := by rw [WfT, hu] at h; exact h
theorem WfT.struct {fs : Array Go.Field} (hu : P.underlying t = some (.struct fs)) (h : WfT P (n + 1) t ts) : ∃ ps : List (List T), ts = ps.flatten ∧ All2 (fun p f => WfT P n f p) ps (fs.toList.map (·.type)) := by rw [WfT, hu] at h; exact h
end
theorem All2.cons_r {α β : Type} {R : α → β → Prop} {l : List α} {b : β} {bs : List β} (h : All2 R l (b :: bs)) : ∃ x xs, l = x :: xs ∧ R x b ∧ All2 R xs bs := by
  cases l with
  | nil => exact h.elim
  | cons x xs => exact ⟨x, xs, rfl, h⟩
theorem All2.nil_r {α β : Type} {R : α → β → Prop} {l : List α} (h : All2 R l ([] : List β)) : l = [] := by
  cases l with
  | nil => rfl
  | cons x xs => exact h.elim
def rngI (i : Int) : Prop := -9223372036854775808 ≤ i ∧ i ≤ 9223372036854775807
theorem wf_rngI {i : Int} (h : (Lit.int .i64 i).wf = true) : rngI i := by
  have h' := (Bool.and_eq_true _ _ ▸ h : _ ∧ _)
  have h1 := of_decide_eq_true h'.1
  have h2 := of_decide_eq_true h'.2
  exact ⟨h1, h2⟩
theorem wf_list {α : Type} {enc : List α → List (List T)} {R : List T → Prop} {rng : α → Prop} (hn : enc [] = []) (hc : ∀ x l, enc (x :: l) = enc [x] ++ enc l) (h1 : ∀ e, R e → ∃ x, enc [x] = [e] ∧ rng x) :
    ∀ es, (∀ x ∈ es, R x) → ∃ l, es = enc l ∧ ∀ x ∈ l, rng x
  | [], _ => ⟨[], hn.symm, fun x h => by cases h⟩
  | e :: es, h => by
    obtain ⟨x, hx, rx⟩ := h1 e (h e (by simp))
    obtain ⟨l, rfl, rl⟩ := wf_list hn hc h1 es fun y hy => h y (by simp [hy])
    refine ⟨x :: l, by rw [hc, hx]; rfl, ?_⟩
    intro y hy
    rcases List.mem_cons.1 hy with rfl | hy
    · exact rx
    · exact rl y hy
theorem wf_S (n : Nat) (e : List T) (h : WfT Try.prog (n + 1) 9 e) : ∃ x : ByteArray, encS [x] = [e] ∧ True := by
  obtain ⟨f, rfl, -⟩ := WfT.str (t := 9) Try.underlying9 h
  exact ⟨f, rfl, trivial⟩
theorem wf_Ss {n : Nat} {es : List (List T)} (h : ∀ x ∈ es, WfT Try.prog (n + 1) 9 x) : ∃ l : List ByteArray, es = encS l ∧ ∀ x ∈ l, True :=
  wf_list (enc := encS) (R := fun e => WfT Try.prog (n + 1) 9 e) (rng := fun _ => True) rfl (fun _ _ => rfl) (@wf_S n) es h
/-- Bytes. -/
def rngU (i : Int) : Prop := 0 ≤ i ∧ i ≤ 255
theorem wf_rngU {i : Int} (h : (Lit.int .u8 i).wf = true) : rngU i := by
  have h' := (Bool.and_eq_true _ _ ▸ h : _ ∧ _)
  exact ⟨of_decide_eq_true h'.1, of_decide_eq_true h'.2⟩
theorem wf_U (n : Nat) (e : List T) (h : WfT Try.prog (n + 1) 5 e) : ∃ x : Int, encU [x] = [e] ∧ rngU x := by
  obtain ⟨f, rfl, h2⟩ := WfT.int (t := 5) Try.underlying5 h
  have h' := (Bool.and_eq_true _ _ ▸ h2 : _ ∧ _)
  have h1 := of_decide_eq_true h'.1
  have h2 := of_decide_eq_true h'.2
  exact ⟨f, rfl, h1, h2⟩
theorem wf_Us {n : Nat} {es : List (List T)} (h : ∀ x ∈ es, WfT Try.prog (n + 1) 5 x) : ∃ l : List Int, es = encU l ∧ ∀ x ∈ l, rngU x :=
  wf_list (enc := encU) (R := fun e => WfT Try.prog (n + 1) 5 e) (rng := rngU) rfl (fun _ _ => rfl) (@wf_U n) es h
def rngField (x : Field) : Prop := True
theorem wf_Field (n : Nat) (e : List T) (h : WfT Try.prog (n + 2) 105 e) : ∃ x : Field, encField [x] = [e] ∧ rngField x := by
  obtain ⟨q0, rfl, w0⟩ := WfT.struct (t := 105) Try.underlying105 h
  obtain ⟨p0, q1, rfl, g0, w1⟩ := All2.cons_r w0
  obtain ⟨p1, q2, rfl, g1, w2⟩ := All2.cons_r w1
  obtain rfl := All2.nil_r w2
  obtain ⟨f0, rfl, -⟩ := WfT.str (t := 9) Try.underlying9 g0
  obtain ⟨f1, rfl, -⟩ := WfT.str (t := 9) Try.underlying9 g1
  exact ⟨⟨f0, f1⟩, rfl, trivial⟩
theorem wf_Fields {n : Nat} {es : List (List T)} (h : ∀ x ∈ es, WfT Try.prog (n + 2) 105 x) : ∃ l : List Field, es = encField l ∧ ∀ x ∈ l, rngField x :=
  wf_list (enc := encField) (R := fun e => WfT Try.prog (n + 2) 105 e) (rng := rngField) rfl (fun _ _ => rfl) (@wf_Field n) es h
def rngItem (x : Item) : Prop := (rngI x.kind) ∧ (∀ y ∈ x.f, rngField y) ∧ (rngI x.exp)
theorem wf_Item (n : Nat) (e : List T) (h : WfT Try.prog (n + 4) 34 e) : ∃ x : Item, encItem [x] = [e] ∧ rngItem x := by
  obtain ⟨q0, rfl, w0⟩ := WfT.struct (t := 34) Try.underlying34 h
  obtain ⟨p0, q1, rfl, g0, w1⟩ := All2.cons_r w0
  obtain ⟨p1, q2, rfl, g1, w2⟩ := All2.cons_r w1
  obtain ⟨p2, q3, rfl, g2, w3⟩ := All2.cons_r w2
  obtain ⟨p3, q4, rfl, g3, w4⟩ := All2.cons_r w3
  obtain ⟨p4, q5, rfl, g4, w5⟩ := All2.cons_r w4
  obtain rfl := All2.nil_r w5
  obtain ⟨f0, rfl, v0⟩ := WfT.int (t := 3) Try.underlying3 g0
  have r0 := wf_rngI v0
  obtain ⟨f1, rfl, -⟩ := WfT.str (t := 9) Try.underlying9 g1
  obtain ⟨es2, rfl, -, k2⟩ := WfT.slice (t := 31) Try.underlying31 g2
  obtain ⟨f2, rfl, r2⟩ := wf_Fields k2
  obtain ⟨es3, rfl, -, k3⟩ := WfT.slice (t := 32) Try.underlying32 g3
  obtain ⟨f3, rfl, r3⟩ := wf_Ss k3
  obtain ⟨f4, rfl, v4⟩ := WfT.int (t := 3) Try.underlying3 g4
  have r4 := wf_rngI v4
  exact ⟨⟨f0, f1, f2, f3, f4⟩, rfl, ⟨r0, r2, r4⟩⟩
theorem wf_Items {n : Nat} {es : List (List T)} (h : ∀ x ∈ es, WfT Try.prog (n + 4) 34 x) : ∃ l : List Item, es = encItem l ∧ ∀ x ∈ l, rngItem x :=
  wf_list (enc := encItem) (R := fun e => WfT Try.prog (n + 4) 34 e) (rng := rngItem) rfl (fun _ _ => rfl) (@wf_Item n) es h
def rngPair (x : Pair) : Prop := (rngItem x.item)
theorem wf_Pair (n : Nat) (e : List T) (h : WfT Try.prog (n + 5) 125 e) : ∃ x : Pair, encPair [x] = [e] ∧ rngPair x := by
  obtain ⟨q0, rfl, w0⟩ := WfT.struct (t := 125) Try.underlying125 h
  obtain ⟨p0, q1, rfl, g0, w1⟩ := All2.cons_r w0
  obtain ⟨p1, q2, rfl, g1, w2⟩ := All2.cons_r w1
  obtain rfl := All2.nil_r w2
  obtain ⟨f0, rfl, -⟩ := WfT.str (t := 9) Try.underlying9 g0
  obtain ⟨f1, e1, r1⟩ := wf_Item _ _ g1
  have e1 := (List.cons.inj e1).1
  subst e1
  exact ⟨⟨f0, f1⟩, rfl, r1⟩
theorem wf_Pairs {n : Nat} {es : List (List T)} (h : ∀ x ∈ es, WfT Try.prog (n + 5) 125 x) : ∃ l : List Pair, es = encPair l ∧ ∀ x ∈ l, rngPair x :=
  wf_list (enc := encPair) (R := fun e => WfT Try.prog (n + 5) 125 e) (rng := rngPair) rfl (fun _ _ => rfl) (@wf_Pair n) es h
def rngEffect (x : Effect) : Prop := (rngItem x.item)
theorem wf_Effect (n : Nat) (e : List T) (h : WfT Try.prog (n + 5) 36 e) : ∃ x : Effect, encEffect [x] = [e] ∧ rngEffect x := by
  obtain ⟨q0, rfl, w0⟩ := WfT.struct (t := 36) Try.underlying36 h
  obtain ⟨p0, q1, rfl, g0, w1⟩ := All2.cons_r w0
  obtain ⟨p1, q2, rfl, g1, w2⟩ := All2.cons_r w1
  obtain ⟨p2, q3, rfl, g2, w3⟩ := All2.cons_r w2
  obtain rfl := All2.nil_r w3
  obtain ⟨f0, rfl, -⟩ := WfT.str (t := 9) Try.underlying9 g0
  obtain ⟨f1, rfl⟩ := WfT.bool (t := 4) Try.underlying4 g1
  obtain ⟨f2, e2, r2⟩ := wf_Item _ _ g2
  have e2 := (List.cons.inj e2).1
  subst e2
  exact ⟨⟨f0, f1, f2⟩, rfl, r2⟩
theorem wf_Effects {n : Nat} {es : List (List T)} (h : ∀ x ∈ es, WfT Try.prog (n + 5) 36 x) : ∃ l : List Effect, es = encEffect l ∧ ∀ x ∈ l, rngEffect x :=
  wf_list (enc := encEffect) (R := fun e => WfT Try.prog (n + 5) 36 e) (rng := rngEffect) rfl (fun _ _ => rfl) (@wf_Effect n) es h
def rngRid (x : Rid) : Prop := (rngI x.node) ∧ (rngI x.epoch)
theorem wf_Rid (n : Nat) (e : List T) (h : WfT Try.prog (n + 2) 27 e) : ∃ x : Rid, encRid [x] = [e] ∧ rngRid x := by
  obtain ⟨q0, rfl, w0⟩ := WfT.struct (t := 27) Try.underlying27 h
  obtain ⟨p0, q1, rfl, g0, w1⟩ := All2.cons_r w0
  obtain ⟨p1, q2, rfl, g1, w2⟩ := All2.cons_r w1
  obtain rfl := All2.nil_r w2
  obtain ⟨f0, rfl, v0⟩ := WfT.int (t := 3) Try.underlying3 g0
  have r0 := wf_rngI v0
  obtain ⟨f1, rfl, v1⟩ := WfT.int (t := 3) Try.underlying3 g1
  have r1 := wf_rngI v1
  exact ⟨⟨f0, f1⟩, rfl, ⟨r0, r1⟩⟩
theorem wf_Rids {n : Nat} {es : List (List T)} (h : ∀ x ∈ es, WfT Try.prog (n + 2) 27 x) : ∃ l : List Rid, es = encRid l ∧ ∀ x ∈ l, rngRid x :=
  wf_list (enc := encRid) (R := fun e => WfT Try.prog (n + 2) 27 e) (rng := rngRid) rfl (fun _ _ => rfl) (@wf_Rid n) es h
def rngFeed (x : Feed) : Prop := (rngRid x.rid) ∧ (rngI x.off) ∧ (∀ y ∈ x.back, rngEffect y) ∧ (rngRid x.prev) ∧ (rngI x.upto)
theorem wf_Feed (n : Nat) (e : List T) (h : WfT Try.prog (n + 7) 29 e) : ∃ x : Feed, encFeed [x] = [e] ∧ rngFeed x := by
  obtain ⟨q0, rfl, w0⟩ := WfT.struct (t := 29) Try.underlying29 h
  obtain ⟨p0, q1, rfl, g0, w1⟩ := All2.cons_r w0
  obtain ⟨p1, q2, rfl, g1, w2⟩ := All2.cons_r w1
  obtain ⟨p2, q3, rfl, g2, w3⟩ := All2.cons_r w2
  obtain ⟨p3, q4, rfl, g3, w4⟩ := All2.cons_r w3
  obtain ⟨p4, q5, rfl, g4, w5⟩ := All2.cons_r w4
  obtain rfl := All2.nil_r w5
  obtain ⟨f0, e0, r0⟩ := wf_Rid _ _ g0
  have e0 := (List.cons.inj e0).1
  subst e0
  obtain ⟨f1, rfl, v1⟩ := WfT.int (t := 3) Try.underlying3 g1
  have r1 := wf_rngI v1
  obtain ⟨es2, rfl, -, k2⟩ := WfT.slice (t := 24) Try.underlying24 g2
  obtain ⟨f2, rfl, r2⟩ := wf_Effects k2
  obtain ⟨f3, e3, r3⟩ := wf_Rid _ _ g3
  have e3 := (List.cons.inj e3).1
  subst e3
  obtain ⟨f4, rfl, v4⟩ := WfT.int (t := 3) Try.underlying3 g4
  have r4 := wf_rngI v4
  exact ⟨⟨f0, f1, f2, f3, f4⟩, rfl, ⟨r0, r1, r2, r3, r4⟩⟩
theorem wf_Feeds {n : Nat} {es : List (List T)} (h : ∀ x ∈ es, WfT Try.prog (n + 7) 29 x) : ∃ l : List Feed, es = encFeed l ∧ ∀ x ∈ l, rngFeed x :=
  wf_list (enc := encFeed) (R := fun e => WfT Try.prog (n + 7) 29 e) (rng := rngFeed) rfl (fun _ _ => rfl) (@wf_Feed n) es h
end Go.Proofs.Ytlkhfdccapkcdaa
/- What all rows need. -/
namespace Go.Proofs.Ytlkhfdccapkcdaa
open Go Go.RowKit
open Go.ChangeShapes Go.WideShapes Go.ChangeAt Go.RowKit
theorem Try.own : ownKnob Try.prog.godebug = none := by kernel_rfl
theorem Try.laidOut : laidOutB Try.prog = true := by kernel_rfl
end Go.Proofs.Ytlkhfdccapkcdaa
