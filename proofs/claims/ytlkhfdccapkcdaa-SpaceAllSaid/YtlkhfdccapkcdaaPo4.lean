/- Part 4 of the proof. -/
import Derived.Test.YtlkhfdccapkcdaaPo3
/- Walks, printed: space_find_1, slices_BinarySearchFunc_string, space_find, item_Copy, space_Raw, space_find_1_tf, slices_BinarySearchFunc_string_tfk121, space_find_tf, -/
namespace Go.Proofs.Ytlkhfdccapkcdaa
open Go Go.RowKit
set_option linter.unusedVariables false
set_option linter.unusedSimpArgs false
def space_find_1_sh (n : Nat) (a0 : Pair) (a1 : ByteArray) : Option Int :=
lt (cmpB a0.key a1) fun v1 =>
some v1
set_option maxRecDepth 8000 in
set_option maxHeartbeats 8000000 in
theorem s_space_find_1 {n : Nat} {a0 : Pair} {a1 : ByteArray} {r : Int} (h : space_find_1_sh n a0 a1 = some r) : Sound Try.prog 121 [.g [.s (.string a0.key), .s (.int .i64 a0.item.kind), .s (.string a0.item.s), .d false 2 (encField a0.item.f), .d false 1 (encS a0.item.l), .s (.int .i64 a0.item.exp)], .l (.s (.string a1))] [] (.l (.s (.int .i64 r))) [] := by
 unfold space_find_1_sh at h
 refine Sound.of_aw (fn := Try.f121) (c := _) Try.func121 rfl (by simp [Try.f121]) fun cx hG hnb => ?_
 rw [show Try.f121.ntmps = 9 from rfl]
 have hn0 : cx.nb = 0 := hnb
 simp only [st0_mk, initTm, List.map_cons, List.map_nil]
 apply AW.step
 ·simp
  intros; rfl
 replace h := ltE h; obtain ⟨v1, e1, h⟩ := h
 apply AW.step
 ·simp [← e1]
  intros
  refine xcall_plain en_strCompare (s_strCompare a0.key a1) rfl ⟨.same rfl, .same rfl, trivial⟩ ?_
  try simp [← e1]
  intros; rfl
 obtain rfl := Option.some.inj h
 refine AW.ret ?_
 refine Left.plain hnb (by simp [Try.f121, resV, resC, comp]; rfl) rfl rfl ?_
 simp
theorem en_space_find_1 : Enters Try.prog 121 := enters Try.func121 (by kernel_rfl) rfl
def slices_BinarySearchFunc_string_sh (n : Nat) (a0 : List Pair) (a1 : ByteArray) : Option (Int × Bool) :=
lt (lenI a0) fun v1 =>
bn (iter n (fun (y2 : Int × Int) =>
lt (ltI y2.1 y2.2) fun v5 =>
ite' v5 (lt (addI .i64 y2.1 y2.2) fun v6 =>
lt (cvI .u64 v6) fun v7 =>
bn (shrI .u64 v7 1) fun v8 =>
lt (cvI .i64 v8) fun v9 =>
bn (nth a0 v9) fun v10 =>
bn (space_find_1_sh n v10 a1) fun v11 =>
lt (ltI v11 0) fun v12 =>
ite' v12 (lt (addI .i64 v9 1) fun v13 =>
some (.inl (v13, y2.2))) (some (.inl (y2.1, v9)))) (some (.inr y2.1))) (0, v1)) fun (y3 : Int) =>
bn (lt (ltI y3 v1) fun v15 =>
ite' v15 (bn (nth a0 y3) fun v16 =>
bn (space_find_1_sh n v16 a1) fun v17 =>
lt (eqI v17 0) fun v18 =>
some (v18)) (some (false))) fun (y14 : Bool) =>
some (y3, y14)
set_option maxRecDepth 8000 in
set_option maxHeartbeats 8000000 in
theorem s_slices_BinarySearchFunc_string {n : Nat} {a0 : List Pair} {a1 : ByteArray} {r : Int × Bool} (h : slices_BinarySearchFunc_string_sh n a0 a1 = some r) : Sound Try.prog 120 [.l (.d false 6 (encPair a0)), .l (.s (.string a1)), .l (.s (.func (.func 121) #[] #[]))] [] (.t [(false, [.s (.int .i64 r.1)]), (false, [.s (.bool r.2)])]) [] := by
 unfold slices_BinarySearchFunc_string_sh at h
 refine Sound.of_aw (fn := Try.f120) (c := _) Try.func120 rfl (by simp [Try.f120]) fun cx hG hnb => ?_
 rw [show Try.f120.ntmps = 49 from rfl]
 have hn0 : cx.nb = 0 := hnb
 simp only [st0_mk, initTm, List.map_cons, List.map_nil]
 apply AW.step
 ·simp
  intros; rfl
 replace h := ltE h; obtain ⟨v1, e1, h⟩ := h
 apply AW.step
 ·simp [lenI_cast e1]
  intros; rfl
 apply AW.step
 ·simp
  intros; rfl
 refine AW.seq ?_
 refine AW.block ?_
 replace h := bnE h; obtain ⟨y3, g3, h⟩ := h
 refine AW.iterP g3 (mk := fun gh ls q => (⟨[(0, .l (.d false 6 (encPair a0))), (1, .l (.s (.string a1))), (2, .l (.s (.func (.func 121) #[] #[]))), (8, .l (.s (.int .i64 v1))), (9, .l (.s (.int .i64 q.1))), (10, .l (.s (.int .i64 q.2)))], [], 49, gh, ls⟩ : St)) (N := fun gh ls => (xP 0 (cx := cx) (fun q => (⟨[(0, .l (.d false 6 (encPair a0))), (1, .l (.s (.string a1))), (2, .l (.s (.func (.func 121) #[] #[]))), (8, .l (.s (.int .i64 v1))), (9, .l (.s (.int .i64 q)))], [], 49, gh, ls⟩ : St)))) ?_ noX ?_ ?_
 ·refine Weak.mixN [] hn0 (by decide) ?_ ?_ rfl
  all_goals first | (simp [inv_cons, inv_nil, pickOb]; done) | rfl
 ·clear h; intro y2 y4 h
  refine AW.seq ?_
  replace h := ltE h; obtain ⟨v5, e5, h⟩ := h
  apply AW.step
  ·simp [← e5]
   intros; rfl
  cases v5 with
  | true =>
   replace h := iteT rfl h
   refine AW.cond_true (by simp) ?_
   refine AW.skip ?_
   try simp only [sp_l, sp_r, Post.seq, Post.block, Nat.reduceEqDiff, reduceIte, Nat.zero_ne_one, Nat.one_ne_zero]
   try simp only [sp_l, sp_r, Post.seq, Post.block, Nat.reduceEqDiff, reduceIte, Nat.zero_ne_one, Nat.one_ne_zero]
   refine AW.block ?_
   replace h := ltE h; obtain ⟨v6, e6, h⟩ := h
   replace h := ltE h; obtain ⟨v7, e7, h⟩ := h
   replace h := bnE h; obtain ⟨v8, e8, h⟩ := h
   replace h := ltE h; obtain ⟨v9, e9, h⟩ := h
   apply AW.step
   ·simp [← e6, ← e7, e8, ← e9]
    intros; rfl
   replace h := bnE h; obtain ⟨v10, e10, h⟩ := h
   replace h := bnE h; obtain ⟨v11, e11, h⟩ := h
   replace h := ltE h; obtain ⟨v12, e12, h⟩ := h
   apply AW.step
   ·simp [nth_d e10, ← e12]
    intros
    refine xcall_plain en_space_find_1 (s_space_find_1 e11) rfl ⟨.same rfl, .same rfl, trivial⟩ ?_
    try simp [nth_d e10, ← e12]
    intros; rfl
   cases v12 with
   | true =>
    replace h := iteT rfl h
    refine AW.cond_true (by simp) ?_
    replace h := ltE h; obtain ⟨v13, e13, h⟩ := h
    apply AW.last
    ·simp [← e13]
     intros; rfl
    obtain rfl := Option.some.inj h
    refine nP_i ?_
    refine Weak.mixN [] hn0 (by decide) ?_ ?_ rfl
    all_goals first | (simp [inv_cons, inv_nil, pickOb]; done) | rfl
   | false =>
    replace h := iteF rfl h
    refine AW.cond_false (by simp) ?_
    apply AW.last
    ·simp
     intros; rfl
    obtain rfl := Option.some.inj h
    refine nP_i ?_
    refine Weak.mixN [] hn0 (by decide) ?_ ?_ rfl
    all_goals first | (simp [inv_cons, inv_nil, pickOb]; done) | rfl
  | false =>
   replace h := iteF rfl h
   refine AW.cond_false (by simp) ?_
   refine AW.exit ?_
   try simp only [sp_l, sp_r, Post.seq, Post.block, Nat.reduceEqDiff, reduceIte, Nat.zero_ne_one, Nat.one_ne_zero]
   obtain rfl := Option.some.inj h
   refine xP_i ?_
   refine Weak.mixN [] hn0 (by decide) ?_ ?_ rfl
   all_goals first | (simp [inv_cons, inv_nil, pickOb]; done) | rfl
 ·rintro e s hp
  obtain ⟨rfl, hw⟩ := hp
  refine ⟨_, hw, ?_⟩
  try simp only [sp_l, sp_r, Post.seq, Post.block, Nat.reduceEqDiff, reduceIte, Nat.zero_ne_one, Nat.one_ne_zero]
  replace h := bnE h; obtain ⟨y14, g14, h⟩ := h
  refine AW.flow (p := fun gh ls => (nP (cx := cx) (fun q => (⟨[(6, .l (.s (.int .i64 y3))), (7, .l (.s (.bool q)))], [], 49, gh, ls⟩ : St))) y14) ?_ ?_
  ·replace h := g14; clear g14
   replace h := ltE h; obtain ⟨v15, e15, h⟩ := h
   cases v15 with
   | true =>
    replace h := iteT rfl h
    replace h := bnE h; obtain ⟨v16, e16, h⟩ := h
    replace h := bnE h; obtain ⟨v17, e17, h⟩ := h
    replace h := ltE h; obtain ⟨v18, e18, h⟩ := h
    apply AW.last
    ·simp [← e15, nth_d e16, ← e18]
     intros
     refine xcall_plain en_space_find_1 (s_space_find_1 e17) rfl ⟨.same rfl, .same rfl, trivial⟩ ?_
     try simp [← e15, nth_d e16, ← e18]
     intros; rfl
    obtain rfl := Option.some.inj h
    refine nP_i ?_
    refine Weak.mixN [] hn0 (by decide) ?_ ?_ rfl
    all_goals first | (simp [inv_cons, inv_nil, pickOb]; done) | rfl
   | false =>
    replace h := iteF rfl h
    apply AW.last
    ·simp [← e15]
     intros; rfl
    obtain rfl := Option.some.inj h
    refine nP_i ?_
    refine Weak.mixN [] hn0 (by decide) ?_ ?_ rfl
    all_goals first | (simp [inv_cons, inv_nil, pickOb]; done) | rfl
  ·rintro e s hp
   obtain ⟨rfl, hw⟩ := hp
   refine ⟨_, hw, ?_⟩
   try simp only [sp_l, sp_r, Post.seq, Post.block, Nat.reduceEqDiff, reduceIte, Nat.zero_ne_one, Nat.one_ne_zero]
   obtain rfl := Option.some.inj h
   refine AW.ret ?_
   refine Left.plain hnb (by simp [Try.f120, resV, resC, comp]; rfl) rfl rfl ?_
   simp
theorem en_slices_BinarySearchFunc_string : Enters Try.prog 120 := enters Try.func120 (by kernel_rfl) rfl
def space_find_sh (n : Nat) (a0 : List Pair) (a1 : ByteArray) : Option (Int × Bool) :=
bn (slices_BinarySearchFunc_string_sh n a0 a1) fun v1 =>
some (v1.1, v1.2)
set_option maxRecDepth 8000 in
set_option maxHeartbeats 8000000 in
theorem s_space_find {n : Nat} {a0 : List Pair} {a1 : ByteArray} {r : Int × Bool} (h : space_find_sh n a0 a1 = some r) : Sound Try.prog 93 [.l (.d false 6 (encPair a0)), .l (.s (.string a1))] [] (.t [(false, [.s (.int .i64 r.1)]), (false, [.s (.bool r.2)])]) [] := by
 unfold space_find_sh at h
 refine Sound.of_aw (fn := Try.f93) (c := _) Try.func93 rfl (by simp [Try.f93]) fun cx hG hnb => ?_
 rw [show Try.f93.ntmps = 11 from rfl]
 have hn0 : cx.nb = 0 := hnb
 simp only [st0_mk, initTm, List.map_cons, List.map_nil]
 apply AW.step
 ·simp
  intros; rfl
 replace h := bnE h; obtain ⟨v1, e1, h⟩ := h
 apply AW.step
 ·simp
  intros
  refine xcall_plain en_slices_BinarySearchFunc_string (s_slices_BinarySearchFunc_string e1) rfl ⟨.same rfl, .same rfl, .same rfl, trivial⟩ ?_
  try simp
  intros; rfl
 obtain rfl := Option.some.inj h
 refine AW.ret ?_
 refine Left.plain hnb (by simp [Try.f93, resV, resC, comp]; rfl) rfl rfl ?_
 simp
theorem en_space_find : Enters Try.prog 93 := enters Try.func93 (by kernel_rfl) rfl
def item_Copy_sh (n : Nat) (a0 : Item) : Option Item :=
chk (small 32 a0.f) <|
chk (small 16 a0.l) <|
chk (room a0.f.length 1) <|
chk (room a0.l.length 1) <|
some a0
set_option maxRecDepth 8000 in
set_option maxHeartbeats 8000000 in
theorem s_item_Copy {n : Nat} {a0 : Item} {r : Item} (h : item_Copy_sh n a0 = some r) : Sound Try.prog 94 [.g [.s (.int .i64 a0.kind), .s (.string a0.s), .d false 2 (encField a0.f), .d false 1 (encS a0.l), .s (.int .i64 a0.exp)]] [] (.g [.s (.int .i64 r.kind), .s (.string r.s), .d false 2 (encField r.f), .d false 1 (encS r.l), .s (.int .i64 r.exp)]) [] := by
 unfold item_Copy_sh at h
 refine Sound.of_aw (fn := Try.f94) (c := _) Try.func94 rfl (by simp [Try.f94]) fun cx hG hnb => ?_
 rw [show Try.f94.ntmps = 12 from rfl]
 have hn0 : cx.nb = 0 := hnb
 simp only [st0_mk, initTm, List.map_cons, List.map_nil]
 apply AW.step
 ·simp
  intros; rfl
 replace h := chkE h; obtain ⟨e1, h⟩ := h
 replace h := chkE h; obtain ⟨e2, h⟩ := h
 apply AW.drawnE (V := [_, _, _, _, _, _, _]) (M := [[some ⟨34, 5, false, none, [.s (.int .i64 a0.kind), .s (.string a0.s), .d false 2 (encField a0.f), .d false 1 (encS a0.l), .s (.int .i64 a0.exp)]⟩, some ⟨34, 5, false, none, [.s (.int .i64 0), .s (.string ⟨#[]⟩), .s (.slice none 0 0), .s (.slice none 0 0), .s (.int .i64 0)]⟩], [some ⟨34, 5, false, none, [.s (.int .i64 a0.kind), .s (.string a0.s), .d false 2 (encField a0.f), .d false 1 (encS a0.l), .s (.int .i64 a0.exp)]⟩, some ⟨34, 5, false, none, [.s (.int .i64 0), .s (.string ⟨#[]⟩), .s (.slice none 0 0), .s (.slice none 0 0), .s (.int .i64 0)]⟩, some ⟨105, 2, true, none, lvs (encField a0.f)⟩], [some ⟨34, 5, false, none, [.s (.int .i64 a0.kind), .s (.string a0.s), .d false 2 (encField a0.f), .d false 1 (encS a0.l), .s (.int .i64 a0.exp)]⟩, some ⟨34, 5, false, none, [.s (.int .i64 0), .s (.string ⟨#[]⟩), .s (.slice none 0 0), .s (.slice none 0 0), .s (.int .i64 0)]⟩, some ⟨105, 2, true, none, lvs (encField a0.f)⟩, some ⟨9, 1, true, none, lvs (encS a0.l)⟩]]) mixed [⟨[0], [], [(1, none)], false⟩, ⟨[0], [0], [(3, some 0)], false⟩, ⟨[0], [0, 1], [(4, some 1)], true⟩, ⟨[0, 1], [], [(1, none)], false⟩, ⟨[0, 1], [3], [(6, some 3)], false⟩, ⟨[1], [0, 1, 2, 3, 4], [(7, some 4)], true⟩, ⟨[1, 2], [0, 1, 2, 3, 4], [(1, none)], false⟩, ⟨[], [0, 1, 2, 3, 4, 5, 6], [], false⟩, ⟨[], [0, 1, 2, 3, 4, 5, 6, 7], [], false⟩, ⟨[], [0, 1, 2, 3, 4, 5, 6, 7, 8], [], false⟩] 7 2 (by kernel_rfl) (by kernel_rfl)
 ·rfl
 ·refine ⟨?_, ?_, ?_, ⟨?_, ?_⟩, ⟨?_, ?_⟩, ?_, ⟨?_, ?_⟩, trivial⟩
  ·intro tm hr
   simp [AllL, rdV] at hr
   simp [hr, outR]
   intros; first | exact KD.mk | exact KD.mkN
  ·intro tm hr
   simp [AllL, rdV] at hr
   simp [hr, outR]
   intros; first | exact KD.mk | exact KD.mkN
  ·intro tm hr
   simp [AllL, rdV] at hr
   simp [hr, outR]
   intros
   refine xcall_new en_cl_Field (s_cl_Field a0.f (small_d e1)) rfl (by simp) ⟨.d _ _ _, trivial⟩ ?_
   try simp [outR]
   intros; first | exact KD.mk | exact KD.mkN
  ·intro tm hr
   simp [AllL, rdV] at hr
   simp [hr, outR]
   intros; first | exact KD.mk | exact KD.mkN
  ·intro tm hr
   simp [AllL, rdV] at hr
   simp [hr, outR]
   intros; first | exact KD.mk | exact KD.mkN
  ·intro tm hr
   simp [AllL, rdV] at hr
   simp [hr, outR]
   intros; first | exact KD.mk | exact KD.mkN
  ·intro tm hr
   simp [AllL, rdV] at hr
   simp [hr, outR]
   intros; first | exact KD.mk | exact KD.mkN
  ·intro tm hr
   simp [AllL, rdV] at hr
   simp [hr, outR]
   intros
   refine xcall_new en_cl_S (s_cl_S a0.l (small_d e2)) rfl (by simp) ⟨.d _ _ _, trivial⟩ ?_
   try simp [outR]
   intros; first | exact KD.mk | exact KD.mkN
  ·intro tm hr
   simp [AllL, rdV] at hr
   simp [hr, outR]
   intros; first | exact KD.mk | exact KD.mkN
  ·intro tm hr
   simp [AllL, rdV] at hr
   simp [hr, outR]
   intros; first | exact KD.mk | exact KD.mkN
 ·rfl
 ·simp [tmD, putD, outR]; rfl
 ·simp [outR]
  intros; rfl
 apply AW.step
 ·simp
  intros; rfl
 replace h := chkE h; obtain ⟨e3, h⟩ := h
 refine AW.frzRow 2 (ty := 105) (cap := none) (sz := 2) (es := encField a0.f) (by simp) (by omega) (encField_sz _) (by first | exact (room_d e3).2 | simpa using (room_d e3).2 | simp) (by simp [Tm.frz, AV.frz, LV.frz]; rfl) (by simp [Ob.frz, LV.frz]; rfl) rfl ?_
 replace h := chkE h; obtain ⟨e4, h⟩ := h
 refine AW.frzRow 3 (ty := 9) (cap := none) (sz := 1) (es := encS a0.l) (by simp) (by omega) (encS_sz _) (by first | exact (room_d e4).2 | simpa using (room_d e4).2 | simp) (by simp [Tm.frz, AV.frz, LV.frz]; rfl) (by simp [Ob.frz, LV.frz]; rfl) rfl ?_
 obtain rfl := Option.some.inj h
 refine AW.ret ?_
 refine Left.plain hnb (by simp [Try.f94, resV, resC, comp]; rfl) rfl rfl ?_
 simp
theorem en_item_Copy : Enters Try.prog 94 := enters Try.func94 (by kernel_rfl) rfl
def space_Raw_sh (n : Nat) (a0 : List Pair) (a1 : ByteArray) : Option (Item × Bool) :=
bn (space_find_sh n a0 a1) fun v1 =>
lt (notB v1.2) fun v2 =>
ite' v2 (some ((⟨0, ⟨#[]⟩, [], [], 0⟩ : Item), false)) (bn (nth a0 v1.1) fun v3 =>
bn (item_Copy_sh n v3.item) fun v4 =>
some (v4, true))
set_option maxRecDepth 8000 in
set_option maxHeartbeats 8000000 in
theorem s_space_Raw {n : Nat} {a0 : List Pair} {a1 : ByteArray} {r : Item × Bool} (h : space_Raw_sh n a0 a1 = some r) : Sound Try.prog 55 [.l (.d false 6 (encPair a0)), .l (.s (.string a1))] [] (.t [(true, [.s (.int .i64 r.1.kind), .s (.string r.1.s), .d false 2 (encField r.1.f), .d false 1 (encS r.1.l), .s (.int .i64 r.1.exp)]), (false, [.s (.bool r.2)])]) [] := by
 unfold space_Raw_sh at h
 refine Sound.of_aw (fn := Try.f55) (c := _) Try.func55 rfl (by simp [Try.f55]) fun cx hG hnb => ?_
 rw [show Try.f55.ntmps = 23 from rfl]
 have hn0 : cx.nb = 0 := hnb
 simp only [st0_mk, initTm, List.map_cons, List.map_nil]
 apply AW.step
 ·simp
  intros; rfl
 replace h := bnE h; obtain ⟨v1, e1, h⟩ := h
 apply AW.step
 ·simp
  intros
  refine xcall_plain en_space_find (s_space_find e1) rfl ⟨.same rfl, .same rfl, trivial⟩ ?_
  try simp
  intros; rfl
 refine AW.seq ?_
 replace h := ltE h; obtain ⟨v2, e2, h⟩ := h
 apply AW.step
 ·simp [← e2]
  intros; rfl
 cases v2 with
 | true =>
  replace h := iteT rfl h
  refine AW.cond_true (by simp) ?_
  apply AW.step
  ·simp
   intros; rfl
  refine AW.nilCellD 0 2 2 rfl rfl rfl rfl ?_
  refine AW.nilCellD 0 3 1 rfl rfl rfl rfl ?_
  obtain rfl := Option.some.inj h
  refine AW.ret ?_
  refine Left.plain hnb (by simp [Try.f55, resV, resC, comp]; rfl) rfl rfl ?_
  simp
 | false =>
  replace h := iteF rfl h
  refine AW.cond_false (by simp) ?_
  refine AW.skip ?_
  try simp only [sp_l, sp_r, Post.seq, Post.block, Nat.reduceEqDiff, reduceIte, Nat.zero_ne_one, Nat.one_ne_zero]
  try simp only [sp_l, sp_r, Post.seq, Post.block, Nat.reduceEqDiff, reduceIte, Nat.zero_ne_one, Nat.one_ne_zero]
  replace h := bnE h; obtain ⟨v3, e3, h⟩ := h
  replace h := bnE h; obtain ⟨v4, e4, h⟩ := h
  apply AW.step
  ·simp [nth_d e3]
   intros
   refine xcall_plain en_item_Copy (s_item_Copy e4) rfl ⟨.same rfl, trivial⟩ ?_
   try simp [nth_d e3]
   intros; rfl
  obtain rfl := Option.some.inj h
  refine AW.ret ?_
  refine Left.plain hnb (by simp [Try.f55, resV, resC, comp]; rfl) rfl rfl ?_
  simp
theorem en_space_Raw : Enters Try.prog 55 := enters Try.func55 (by kernel_rfl) rfl
def space_find_1_tf_sh (n : Nat) (a0 : Pair) (a1 : ByteArray) : Option Int :=
lt (cmpB a0.key a1) fun v1 =>
some v1
set_option maxRecDepth 8000 in
set_option maxHeartbeats 8000000 in
theorem s_space_find_1_tf {n : Nat} {a0 : Pair} {a1 : ByteArray} {r : Int} (h : space_find_1_tf_sh n a0 a1 = some r) : Sound Try.prog 121 [.g [.s (.string a0.key), .s (.int .i64 a0.item.kind), .s (.string a0.item.s), .d true 2 (encField a0.item.f), .d true 1 (encS a0.item.l), .s (.int .i64 a0.item.exp)], .l (.s (.string a1))] [] (.l (.s (.int .i64 r))) [] := by
 unfold space_find_1_tf_sh at h
 refine Sound.of_aw (fn := Try.f121) (c := _) Try.func121 rfl (by simp [Try.f121]) fun cx hG hnb => ?_
 rw [show Try.f121.ntmps = 9 from rfl]
 have hn0 : cx.nb = 0 := hnb
 simp only [st0_mk, initTm, List.map_cons, List.map_nil]
 apply AW.step
 ·simp
  intros; rfl
 replace h := ltE h; obtain ⟨v1, e1, h⟩ := h
 apply AW.step
 ·simp [← e1]
  intros
  refine xcall_plain en_strCompare (s_strCompare a0.key a1) rfl ⟨.same rfl, .same rfl, trivial⟩ ?_
  try simp [← e1]
  intros; rfl
 obtain rfl := Option.some.inj h
 refine AW.ret ?_
 refine Left.plain hnb (by simp [Try.f121, resV, resC, comp]; rfl) rfl rfl ?_
 simp
theorem en_space_find_1_tf : Enters Try.prog 121 := enters Try.func121 (by kernel_rfl) rfl
def slices_BinarySearchFunc_string_tfk121_sh (n : Nat) (a0 : List Pair) (a1 : ByteArray) : Option (Int × Bool) :=
lt (lenI a0) fun v1 =>
bn (iter n (fun (y2 : Int × Int) =>
lt (ltI y2.1 y2.2) fun v5 =>
ite' v5 (lt (addI .i64 y2.1 y2.2) fun v6 =>
lt (cvI .u64 v6) fun v7 =>
bn (shrI .u64 v7 1) fun v8 =>
lt (cvI .i64 v8) fun v9 =>
bn (nth a0 v9) fun v10 =>
bn (space_find_1_tf_sh n v10 a1) fun v11 =>
lt (ltI v11 0) fun v12 =>
ite' v12 (lt (addI .i64 v9 1) fun v13 =>
some (.inl (v13, y2.2))) (some (.inl (y2.1, v9)))) (some (.inr y2.1))) (0, v1)) fun (y3 : Int) =>
bn (lt (ltI y3 v1) fun v15 =>
ite' v15 (bn (nth a0 y3) fun v16 =>
bn (space_find_1_tf_sh n v16 a1) fun v17 =>
lt (eqI v17 0) fun v18 =>
some (v18)) (some (false))) fun (y14 : Bool) =>
some (y3, y14)
set_option maxRecDepth 8000 in
set_option maxHeartbeats 8000000 in
theorem s_slices_BinarySearchFunc_string_tfk121 {n : Nat} {a0 : List Pair} {a1 : ByteArray} {r : Int × Bool} (h : slices_BinarySearchFunc_string_tfk121_sh n a0 a1 = some r) : Sound Try.prog 120 [.l (.d true 6 (encPair a0)), .l (.s (.string a1)), .l (.s (.func (.func 121) #[] #[]))] [] (.t [(false, [.s (.int .i64 r.1)]), (false, [.s (.bool r.2)])]) [] := by
 unfold slices_BinarySearchFunc_string_tfk121_sh at h
 refine Sound.of_aw (fn := Try.f120) (c := _) Try.func120 rfl (by simp [Try.f120]) fun cx hG hnb => ?_
 rw [show Try.f120.ntmps = 49 from rfl]
 have hn0 : cx.nb = 0 := hnb
 simp only [st0_mk, initTm, List.map_cons, List.map_nil]
 apply AW.step
 ·simp
  intros; rfl
 replace h := ltE h; obtain ⟨v1, e1, h⟩ := h
 apply AW.step
 ·simp [lenI_cast e1]
  intros; rfl
 apply AW.step
 ·simp
  intros; rfl
 refine AW.seq ?_
 refine AW.block ?_
 replace h := bnE h; obtain ⟨y3, g3, h⟩ := h
 refine AW.iterP g3 (mk := fun gh ls q => (⟨[(0, .l (.d true 6 (encPair a0))), (1, .l (.s (.string a1))), (2, .l (.s (.func (.func 121) #[] #[]))), (8, .l (.s (.int .i64 v1))), (9, .l (.s (.int .i64 q.1))), (10, .l (.s (.int .i64 q.2)))], [], 49, gh, ls⟩ : St)) (N := fun gh ls => (xP 0 (cx := cx) (fun q => (⟨[(0, .l (.d true 6 (encPair a0))), (1, .l (.s (.string a1))), (2, .l (.s (.func (.func 121) #[] #[]))), (8, .l (.s (.int .i64 v1))), (9, .l (.s (.int .i64 q)))], [], 49, gh, ls⟩ : St)))) ?_ noX ?_ ?_
 ·refine Weak.mixN [] hn0 (by decide) ?_ ?_ rfl
  all_goals first | (simp [inv_cons, inv_nil, pickOb]; done) | rfl
 ·clear h; intro y2 y4 h
  refine AW.seq ?_
  replace h := ltE h; obtain ⟨v5, e5, h⟩ := h
  apply AW.step
  ·simp [← e5]
   intros; rfl
  cases v5 with
  | true =>
   replace h := iteT rfl h
   refine AW.cond_true (by simp) ?_
   refine AW.skip ?_
   try simp only [sp_l, sp_r, Post.seq, Post.block, Nat.reduceEqDiff, reduceIte, Nat.zero_ne_one, Nat.one_ne_zero]
   try simp only [sp_l, sp_r, Post.seq, Post.block, Nat.reduceEqDiff, reduceIte, Nat.zero_ne_one, Nat.one_ne_zero]
   refine AW.block ?_
   replace h := ltE h; obtain ⟨v6, e6, h⟩ := h
   replace h := ltE h; obtain ⟨v7, e7, h⟩ := h
   replace h := bnE h; obtain ⟨v8, e8, h⟩ := h
   replace h := ltE h; obtain ⟨v9, e9, h⟩ := h
   apply AW.step
   ·simp [← e6, ← e7, e8, ← e9]
    intros; rfl
   replace h := bnE h; obtain ⟨v10, e10, h⟩ := h
   replace h := bnE h; obtain ⟨v11, e11, h⟩ := h
   replace h := ltE h; obtain ⟨v12, e12, h⟩ := h
   apply AW.step
   ·simp [nth_d e10, ← e12]
    intros
    refine xcall_plain en_space_find_1_tf (s_space_find_1_tf e11) rfl ⟨.g ⟨.s _, .s _, .s _, .al _ _ _, .al _ _ _, .s _, trivial⟩, .same rfl, trivial⟩ ?_
    try simp [nth_d e10, ← e12]
    intros; rfl
   cases v12 with
   | true =>
    replace h := iteT rfl h
    refine AW.cond_true (by simp) ?_
    replace h := ltE h; obtain ⟨v13, e13, h⟩ := h
    apply AW.last
    ·simp [← e13]
     intros; rfl
    obtain rfl := Option.some.inj h
    refine nP_i ?_
    refine Weak.mixN [] hn0 (by decide) ?_ ?_ rfl
    all_goals first | (simp [inv_cons, inv_nil, pickOb]; done) | rfl
   | false =>
    replace h := iteF rfl h
    refine AW.cond_false (by simp) ?_
    apply AW.last
    ·simp
     intros; rfl
    obtain rfl := Option.some.inj h
    refine nP_i ?_
    refine Weak.mixN [] hn0 (by decide) ?_ ?_ rfl
    all_goals first | (simp [inv_cons, inv_nil, pickOb]; done) | rfl
  | false =>
   replace h := iteF rfl h
   refine AW.cond_false (by simp) ?_
   refine AW.exit ?_
   try simp only [sp_l, sp_r, Post.seq, Post.block, Nat.reduceEqDiff, reduceIte, Nat.zero_ne_one, Nat.one_ne_zero]
   obtain rfl := Option.some.inj h
   refine xP_i ?_
   refine Weak.mixN [] hn0 (by decide) ?_ ?_ rfl
   all_goals first | (simp [inv_cons, inv_nil, pickOb]; done) | rfl
 ·rintro e s hp
  obtain ⟨rfl, hw⟩ := hp
  refine ⟨_, hw, ?_⟩
  try simp only [sp_l, sp_r, Post.seq, Post.block, Nat.reduceEqDiff, reduceIte, Nat.zero_ne_one, Nat.one_ne_zero]
  replace h := bnE h; obtain ⟨y14, g14, h⟩ := h
  refine AW.flow (p := fun gh ls => (nP (cx := cx) (fun q => (⟨[(6, .l (.s (.int .i64 y3))), (7, .l (.s (.bool q)))], [], 49, gh, ls⟩ : St))) y14) ?_ ?_
  ·replace h := g14; clear g14
   replace h := ltE h; obtain ⟨v15, e15, h⟩ := h
   cases v15 with
   | true =>
    replace h := iteT rfl h
    replace h := bnE h; obtain ⟨v16, e16, h⟩ := h
    replace h := bnE h; obtain ⟨v17, e17, h⟩ := h
    replace h := ltE h; obtain ⟨v18, e18, h⟩ := h
    apply AW.last
    ·simp [← e15, nth_d e16, ← e18]
     intros
     refine xcall_plain en_space_find_1_tf (s_space_find_1_tf e17) rfl ⟨.g ⟨.s _, .s _, .s _, .al _ _ _, .al _ _ _, .s _, trivial⟩, .same rfl, trivial⟩ ?_
     try simp [← e15, nth_d e16, ← e18]
     intros; rfl
    obtain rfl := Option.some.inj h
    refine nP_i ?_
    refine Weak.mixN [] hn0 (by decide) ?_ ?_ rfl
    all_goals first | (simp [inv_cons, inv_nil, pickOb]; done) | rfl
   | false =>
    replace h := iteF rfl h
    apply AW.last
    ·simp [← e15]
     intros; rfl
    obtain rfl := Option.some.inj h
    refine nP_i ?_
    refine Weak.mixN [] hn0 (by decide) ?_ ?_ rfl
    all_goals first | (simp [inv_cons, inv_nil, pickOb]; done) | rfl
  ·rintro e s hp
   obtain ⟨rfl, hw⟩ := hp
   refine ⟨_, hw, ?_⟩
   try simp only [sp_l, sp_r, Post.seq, Post.block, Nat.reduceEqDiff, reduceIte, Nat.zero_ne_one, Nat.one_ne_zero]
   obtain rfl := Option.some.inj h
   refine AW.ret ?_
   refine Left.plain hnb (by simp [Try.f120, resV, resC, comp]; rfl) rfl rfl ?_
   simp
theorem en_slices_BinarySearchFunc_string_tfk121 : Enters Try.prog 120 := enters Try.func120 (by kernel_rfl) rfl
def space_find_tf_sh (n : Nat) (a0 : List Pair) (a1 : ByteArray) : Option (Int × Bool) :=
bn (slices_BinarySearchFunc_string_tfk121_sh n a0 a1) fun v1 =>
some (v1.1, v1.2)
set_option maxRecDepth 8000 in
set_option maxHeartbeats 8000000 in
theorem s_space_find_tf {n : Nat} {a0 : List Pair} {a1 : ByteArray} {r : Int × Bool} (h : space_find_tf_sh n a0 a1 = some r) : Sound Try.prog 93 [.l (.d true 6 (encPair a0)), .l (.s (.string a1))] [] (.t [(false, [.s (.int .i64 r.1)]), (false, [.s (.bool r.2)])]) [] := by
 unfold space_find_tf_sh at h
 refine Sound.of_aw (fn := Try.f93) (c := _) Try.func93 rfl (by simp [Try.f93]) fun cx hG hnb => ?_
 rw [show Try.f93.ntmps = 11 from rfl]
 have hn0 : cx.nb = 0 := hnb
 simp only [st0_mk, initTm, List.map_cons, List.map_nil]
 apply AW.step
 ·simp
  intros; rfl
 replace h := bnE h; obtain ⟨v1, e1, h⟩ := h
 apply AW.step
 ·simp
  intros
  refine xcall_plain en_slices_BinarySearchFunc_string_tfk121 (s_slices_BinarySearchFunc_string_tfk121 e1) rfl ⟨.d _ _ _, .same rfl, .same rfl, trivial⟩ ?_
  try simp
  intros; rfl
 obtain rfl := Option.some.inj h
 refine AW.ret ?_
 refine Left.plain hnb (by simp [Try.f93, resV, resC, comp]; rfl) rfl rfl ?_
 simp
theorem en_space_find_tf : Enters Try.prog 93 := enters Try.func93 (by kernel_rfl) rfl
def space_Apply_sh (n : Nat) (a0 : List Pair) (a1 : List Effect) : Option (List Pair) :=
chk (small 96 a0) <|
lt (lenI a0) fun v2 =>
bn (iter n (fun (y3 : Int × List Pair) =>
lt (ltI y3.1 v2) fun v6 =>
ite' v6 (bn (nth y3.2 y3.1) fun v7 =>
bn (item_Copy_sh n v7.item) fun v9 =>
lt (y3.2.set y3.1.toNat (⟨v7.key, v9⟩ : Pair)) fun v11 =>
lt (addI .i64 y3.1 1) fun v13 =>
some (.inl (v13, v11))) (some (.inr y3.2))) (0, a0)) fun (y4 : List Pair) =>
lt (lenI a1) fun v14 =>
bn (iter n (fun (y15 : Int × List Pair) =>
lt (ltI y15.1 v14) fun v18 =>
ite' v18 (bn (bn (nth a1 y15.1) fun v20 =>
chk (room y15.2.length 1) <|
bn (space_find_tf_sh n y15.2 v20.key) fun v22 =>
bn (lt (v22.2) fun v24 =>
ite' v24 (some ((true, v20.gone))) (some ((false, false)))) fun (y23 : Bool × Bool) =>
lt (y23.2) fun v25 =>
ite' v25 (lt (addI .i64 v22.1 1) fun v26 =>
chk (delB y15.2 v22.1 v26) <|
lt (delL y15.2 v22.1.toNat) fun v28 =>
some (v28)) (lt (y23.1) fun v29 =>
ite' v29 (bn (item_Copy_sh n v20.item) fun v30 =>
bn (nth y15.2 v22.1) fun v31 =>
lt (y15.2.set v22.1.toNat (⟨v31.key, v30⟩ : Pair)) fun v33 =>
some (v33)) (lt (notB v20.gone) fun v35 =>
ite' v35 (bn (item_Copy_sh n v20.item) fun v36 =>
chk (insB y15.2 v22.1) <|
lt (insL y15.2 v22.1.toNat (⟨v20.key, v36⟩ : Pair)) fun v38 =>
some (v38)) (some (y15.2))))) fun (y19 : List Pair) =>
lt (addI .i64 y15.1 1) fun v39 =>
some (.inl (v39, y19))) (some (.inr y15.2))) (0, y4)) fun (y16 : List Pair) =>
chk (room y16.length 1) <|
some y16
set_option maxRecDepth 8000 in
set_option maxHeartbeats 8000000 in
theorem s_space_Apply {n : Nat} {a0 : List Pair} {a1 : List Effect} {r : List Pair} (h : space_Apply_sh n a0 a1 = some r) : Sound Try.prog 56 [.l (.d false 6 (encPair a0)), .l (.d false 7 (encEffect a1))] [] (.l (.d false 6 (encPair r))) [] := by
 unfold space_Apply_sh at h
 refine Sound.of_aw (fn := Try.f56) (c := _) Try.func56 rfl (by simp [Try.f56]) fun cx hG hnb => ?_
 rw [show Try.f56.ntmps = 78 from rfl]
 have hn0 : cx.nb = 0 := hnb
 simp only [st0_mk, initTm, List.map_cons, List.map_nil]
 apply AW.step
 ·simp
  intros; rfl
 replace h := chkE h; obtain ⟨e1, h⟩ := h
 apply AW.step
 ·simp [outR]
  intros
  refine xcall_new en_cl_Pair (s_cl_Pair a0 (small_d e1)) rfl (by simp) ⟨.same rfl, trivial⟩ ?_
  try simp [outR]
  intros; rfl
 refine AW.seq ?_
 replace h := ltE h; obtain ⟨v2, e2, h⟩ := h
 apply AW.step
 ·simp [lenI_cast e2]
  intros; rfl
 refine AW.block ?_
 replace h := bnE h; obtain ⟨y4, g4, h⟩ := h
 refine AW.iterP g4 (mk := fun gh ls q => (⟨[(1, .l (.d false 7 (encEffect a1))), (5, .l (.r 0 6 0 q.2.length)), (14, .l (.s (.int .i64 v2))), (15, .l (.s (.int .i64 q.1)))], [some ⟨125, 6, true, none, lvs (encPair q.2)⟩], 78, gh, ls⟩ : St)) (N := fun gh ls => (xP 0 (cx := cx) (fun q => (⟨[(1, .l (.d false 7 (encEffect a1))), (5, .l (.r 0 6 0 q.length))], [some ⟨125, 6, true, none, lvs (encPair q)⟩], 78, gh, ls⟩ : St)))) ?_ noX ?_ ?_
 ·refine Weak.mixN [some 0] hn0 (by decide) ?_ ?_ rfl
  all_goals first | (simp [inv_cons, inv_nil, pickOb]; done) | rfl
 ·clear h; intro y3 y5 h
  replace h := ltE h; obtain ⟨v6, e6, h⟩ := h
  apply AW.step
  ·simp [← e6]
   intros; rfl
  refine AW.seq ?_
  cases v6 with
  | true =>
   replace h := iteT rfl h
   refine AW.cond_true (by simp) ?_
   refine AW.skip ?_
   try simp only [sp_l, sp_r, Post.seq, Post.block, Nat.reduceEqDiff, reduceIte, Nat.zero_ne_one, Nat.one_ne_zero]
   try simp only [sp_l, sp_r, Post.seq, Post.block, Nat.reduceEqDiff, reduceIte, Nat.zero_ne_one, Nat.one_ne_zero]
   refine AW.seq ?_
   refine AW.block ?_
   apply AW.step
   ·simp
    intros; rfl
   replace h := bnE h; obtain ⟨v7, e7, h⟩ := h
   have f8 := nth_lt e7
   try simp [nth_d e7] at f8
   replace h := bnE h; obtain ⟨v9, e9, h⟩ := h
   have f10 := nth_lt e7
   try simp [nth_d e7, f8, encPair_seg (nth_d e7).2 (j := 1) (k := 5) (by decide), encPair_fitj (nth_d e7).2 (j := 1) (m := 5) (by decide), lvs1] at f10
   replace h := ltE h; obtain ⟨v11, e11, h⟩ := h
   have f12 := encPair_put (nth_d e7).2 e11 (j := 1) (cs := [.s (.int .i64 v9.kind), .s (.string v9.s), .d false 2 (encField v9.f), .d false 1 (encS v9.l), .s (.int .i64 v9.exp)]) (by simp) rfl
   try simp at f12
   apply AW.last
   ·simp [nth_d e7, f8, encPair_seg (nth_d e7).2 (j := 1) (k := 5) (by decide), encPair_fitj (nth_d e7).2 (j := 1) (m := 5) (by decide), lvs1, f10, f12]
    intros
    refine xcall_plain en_item_Copy (s_item_Copy e9) rfl ⟨.same rfl, trivial⟩ ?_
    try simp [nth_d e7, f8, encPair_seg (nth_d e7).2 (j := 1) (k := 5) (by decide), encPair_fitj (nth_d e7).2 (j := 1) (m := 5) (by decide), lvs1, f10, f12]
    intros; rfl
   try simp only [sp_l, sp_r, Post.seq, Post.block, Nat.reduceEqDiff, reduceIte, Nat.zero_ne_one, Nat.one_ne_zero]
   replace h := ltE h; obtain ⟨v13, e13, h⟩ := h
   apply AW.last
   ·simp [← e13]
    intros; rfl
   obtain rfl := Option.some.inj h
   refine nP_i ?_
   refine Weak.mixN [some 0] hn0 (by decide) ?_ ?_ rfl
   all_goals first | (simp [inv_cons, inv_nil, pickOb, set_len e11]; done) | rfl
  | false =>
   replace h := iteF rfl h
   refine AW.cond_false (by simp) ?_
   refine AW.exit ?_
   try simp only [sp_l, sp_r, Post.seq, Post.block, Nat.reduceEqDiff, reduceIte, Nat.zero_ne_one, Nat.one_ne_zero]
   obtain rfl := Option.some.inj h
   refine xP_i ?_
   refine Weak.mixN [some 0] hn0 (by decide) ?_ ?_ rfl
   all_goals first | (simp [inv_cons, inv_nil, pickOb]; done) | rfl
 ·rintro e s hp
  obtain ⟨rfl, hw⟩ := hp
  refine ⟨_, hw, ?_⟩
  try simp only [sp_l, sp_r, Post.seq, Post.block, Nat.reduceEqDiff, reduceIte, Nat.zero_ne_one, Nat.one_ne_zero]
  refine AW.seq ?_
  replace h := ltE h; obtain ⟨v14, e14, h⟩ := h
  apply AW.step
  ·simp [lenI_cast e14]
   intros; rfl
  refine AW.block ?_
  replace h := bnE h; obtain ⟨y16, g16, h⟩ := h
  refine AW.iterP g16 (mk := fun gh ls q => (⟨[(5, .l (.r 0 6 0 q.2.length)), (29, .l (.d false 7 (encEffect a1))), (30, .l (.s (.int .i64 v14))), (31, .l (.s (.int .i64 q.1)))], [some ⟨125, 6, true, none, lvs (encPair q.2)⟩], 78, gh, ls⟩ : St)) (N := fun gh ls => (xP 2 (cx := cx) (fun q => (⟨[(5, .l (.r 0 6 0 q.length))], [some ⟨125, 6, true, none, lvs (encPair q)⟩], 78, gh, ls⟩ : St)))) ?_ noX ?_ ?_
  ·refine Weak.mixN [some 0] hn0 (by decide) ?_ ?_ rfl
   all_goals first | (simp [inv_cons, inv_nil, pickOb]; done) | rfl
  ·clear h; intro y15 y17 h
   replace h := ltE h; obtain ⟨v18, e18, h⟩ := h
   apply AW.step
   ·simp [← e18]
    intros; rfl
   refine AW.seq ?_
   cases v18 with
   | true =>
    replace h := iteT rfl h
    refine AW.cond_true (by simp) ?_
    refine AW.skip ?_
    try simp only [sp_l, sp_r, Post.seq, Post.block, Nat.reduceEqDiff, reduceIte, Nat.zero_ne_one, Nat.one_ne_zero]
    try simp only [sp_l, sp_r, Post.seq, Post.block, Nat.reduceEqDiff, reduceIte, Nat.zero_ne_one, Nat.one_ne_zero]
    replace h := bnE h; obtain ⟨y19, g19, h⟩ := h
    refine AW.flow (p := fun gh ls => (nP (cx := cx) (fun q => (⟨[(5, .l (.r 0 6 0 q.length)), (29, .l (.d false 7 (encEffect a1))), (30, .l (.s (.int .i64 v14))), (31, .l (.s (.int .i64 y15.1)))], [some ⟨125, 6, true, none, lvs (encPair q)⟩], 78, gh, ls⟩ : St))) y19) ?_ ?_
    ·replace h := g19; clear g19
     refine AW.block ?_
     replace h := bnE h; obtain ⟨v20, e20, h⟩ := h
     apply AW.step
     ·simp [nth_d e20]
      intros; rfl
     replace h := chkE h; obtain ⟨e21, h⟩ := h
     replace h := bnE h; obtain ⟨v22, e22, h⟩ := h
     apply AW.step
     ·simp
      intros
      refine xcall_plain en_space_find_tf (s_space_find_tf e22) rfl ⟨.rowd (by simp) rfl (by omega) (encPair_sz _) (by simp) (by first | exact (room_d e21).2 | simpa using (room_d e21).2 | simp), .same rfl, trivial⟩ ?_
      try simp
      intros; rfl
     refine AW.block ?_
     replace h := bnE h; obtain ⟨y23, g23, h⟩ := h
     refine AW.flow (p := fun gh ls => (nP (cx := cx) (fun q => (⟨[(5, .l (.r 0 6 0 y15.2.length)), (8, .l (.p 1 0)), (9, .l (.s (.int .i64 v22.1))), (10, .l (.s (.bool q.1))), (29, .l (.d false 7 (encEffect a1))), (30, .l (.s (.int .i64 v14))), (31, .l (.s (.int .i64 y15.1))), (42, .l (.s (.bool q.2)))], [some ⟨125, 6, true, none, lvs (encPair y15.2)⟩, some ⟨36, 7, false, none, [.s (.string v20.key), .s (.bool v20.gone), .s (.int .i64 v20.item.kind), .s (.string v20.item.s), .d false 2 (encField v20.item.f), .d false 1 (encS v20.item.l), .s (.int .i64 v20.item.exp)]⟩], 78, gh, ls⟩ : St))) y23) ?_ ?_
     ·replace h := g23; clear g23
      replace h := ltE h; obtain ⟨v24, e24, h⟩ := h
      cases v24 with
      | true =>
       replace h := iteT rfl h
       apply AW.last
       ·simp [← e24]
        intros; rfl
       obtain rfl := Option.some.inj h
       refine nP_i ?_
       refine Weak.mixN [some 0, some 1] hn0 (by decide) ?_ ?_ rfl
       all_goals first | (simp [inv_cons, inv_nil, pickOb]; done) | rfl
      | false =>
       replace h := iteF rfl h
       apply AW.last
       ·simp [← e24]
        intros; rfl
       obtain rfl := Option.some.inj h
       refine nP_i ?_
       refine Weak.mixN [some 0, some 1] hn0 (by decide) ?_ ?_ rfl
       all_goals first | (simp [inv_cons, inv_nil, pickOb]; done) | rfl
     ·rintro e s hp
      obtain ⟨rfl, hw⟩ := hp
      refine ⟨_, hw, ?_⟩
      try simp only [sp_l, sp_r, Post.seq, Post.block, Nat.reduceEqDiff, reduceIte, Nat.zero_ne_one, Nat.one_ne_zero]
      replace h := ltE h; obtain ⟨v25, e25, h⟩ := h
      rw [← e25]
      cases v25 with
      | true =>
       replace h := iteT rfl h
       refine AW.cond_true (by simp) ?_
       replace h := ltE h; obtain ⟨v26, e26, h⟩ := h
       replace h := chkE h; obtain ⟨e27, h⟩ := h
       replace h := ltE h; obtain ⟨v28, e28, h⟩ := h
       apply AW.last
       ·simp [← e26, obAfter, outR, keptR, inv_cons, inv_nil, ← e28, delL_len e27 e28]
        intros
        refine xcall_rowsN [0] [2] ⟨_, rfl, rfl, rfl, rfl⟩ en_de_Pair (sd_Pair y15.2 v22.1 v26 e27) (by decide) rfl rfl (by simp [pickOb]) rfl rfl rfl (by simp) (by simp) ⟨.l (.own (by simp [inv_cons, inv_nil])), .l (.s _), .l (.s _), trivial⟩ ?_
        try simp [← e26, obAfter, outR, keptR, inv_cons, inv_nil, ← e28, delL_len e27 e28]
        intros; rfl
       obtain rfl := Option.some.inj h
       refine nP_i ?_
       refine Weak.mixN [some 2] hn0 (by decide) ?_ ?_ rfl
       all_goals first | (simp [inv_cons, inv_nil, pickOb]; done) | rfl
      | false =>
       replace h := iteF rfl h
       refine AW.cond_false (by simp) ?_
       apply AW.step
       ·simp
        intros; rfl
       replace h := ltE h; obtain ⟨v29, e29, h⟩ := h
       rw [← e29]
       cases v29 with
       | true =>
        replace h := iteT rfl h
        refine AW.cond_true (by simp) ?_
        replace h := bnE h; obtain ⟨v30, e30, h⟩ := h
        replace h := bnE h; obtain ⟨v31, e31, h⟩ := h
        have f32 := nth_lt e31
        try simp [nth_d e31] at f32
        replace h := ltE h; obtain ⟨v33, e33, h⟩ := h
        have f34 := encPair_put (nth_d e31).2 e33 (j := 1) (cs := [.s (.int .i64 v30.kind), .s (.string v30.s), .d false 2 (encField v30.f), .d false 1 (encS v30.l), .s (.int .i64 v30.exp)]) (by simp) rfl
        try simp at f34
        apply AW.last
        ·simp [nth_d e31, f32, encPair_fitj (nth_d e31).2 (j := 1) (m := 5) (by decide), f34]
         intros
         refine xcall_plain en_item_Copy (s_item_Copy e30) rfl ⟨.same rfl, trivial⟩ ?_
         try simp [nth_d e31, f32, encPair_fitj (nth_d e31).2 (j := 1) (m := 5) (by decide), f34]
         intros; rfl
        obtain rfl := Option.some.inj h
        refine nP_i ?_
        refine Weak.mixN [some 0] hn0 (by decide) ?_ ?_ rfl
        all_goals first | (simp [inv_cons, inv_nil, pickOb, set_len e33]; done) | rfl
       | false =>
        replace h := iteF rfl h
        refine AW.cond_false (by simp) ?_
        replace h := ltE h; obtain ⟨v35, e35, h⟩ := h
        apply AW.step
        ·simp [← e35]
         intros; rfl
        cases v35 with
        | true =>
         replace h := iteT rfl h
         refine AW.cond_true (by simp) ?_
         replace h := bnE h; obtain ⟨v36, e36, h⟩ := h
         replace h := chkE h; obtain ⟨e37, h⟩ := h
         replace h := ltE h; obtain ⟨v38, e38, h⟩ := h
         apply AW.drawnF (V := [_, _, _, _, _, _, _, _, _]) (M := [[some ⟨125, 6, true, none, lvs (encPair y15.2)⟩, some ⟨36, 7, false, none, [.s (.string v20.key), .s (.bool v20.gone), .s (.int .i64 v20.item.kind), .s (.string v20.item.s), .d false 2 (encField v20.item.f), .d false 1 (encS v20.item.l), .s (.int .i64 v20.item.exp)]⟩], [some ⟨125, 6, true, none, lvs (encPair y15.2)⟩, some ⟨36, 7, false, none, [.s (.string v20.key), .s (.bool v20.gone), .s (.int .i64 v20.item.kind), .s (.string v20.item.s), .d false 2 (encField v20.item.f), .d false 1 (encS v20.item.l), .s (.int .i64 v20.item.exp)]⟩, some ⟨125, 6, true, none, [.s (.string v20.key), .s (.int .i64 v36.kind), .s (.string v36.s), .d false 2 (encField v36.f), .d false 1 (encS v36.l), .s (.int .i64 v36.exp)]⟩]]) mixed [⟨[0, 1], [], [(5, none)], false⟩, ⟨[0, 1], [], [(9, none)], false⟩, ⟨[0], [], [(8, none)], false⟩, ⟨[0], [2], [(68, some 2)], false⟩, ⟨[0], [], [(8, none)], false⟩, ⟨[0], [4], [(70, some 4)], false⟩, ⟨[0], [4, 5], [(71, some 5)], false⟩, ⟨[0], [2, 3, 4, 5, 6], [(69, some 3), (72, some 6)], false⟩, ⟨[0], [2, 3, 4, 5, 6, 7], [(73, some 7)], true⟩, ⟨[], [0, 1, 2, 3, 4, 5, 6, 7, 8], [], false⟩, ⟨[], [0, 1, 2, 3, 4, 5, 6, 7, 8, 9], [], false⟩] 9 1 (by kernel_rfl) (by kernel_rfl)
         ·rfl
         ·refine ⟨⟨?_, ?_⟩, ⟨?_, ?_⟩, ?_, ?_, ?_, ?_, ?_, ?_, ?_, trivial⟩
          ·intro tm hr
           simp [AllL, rdV] at hr
           simp [hr, obAfter, outR, keptR, inv_cons, inv_nil, ← e38, insL_len e37 e38]
           intros; first | exact KD.mk | exact KD.mkN
          ·intro tm hr
           simp [AllL, rdV] at hr
           simp [hr, obAfter, outR, keptR, inv_cons, inv_nil, ← e38, insL_len e37 e38]
           intros; first | exact KD.mk | exact KD.mkN
          ·intro tm hr
           simp [AllL, rdV] at hr
           simp [hr, obAfter, outR, keptR, inv_cons, inv_nil, ← e38, insL_len e37 e38]
           intros; first | exact KD.mk | exact KD.mkN
          ·intro tm hr
           simp [AllL, rdV] at hr
           simp [hr, obAfter, outR, keptR, inv_cons, inv_nil, ← e38, insL_len e37 e38]
           intros; first | exact KD.mk | exact KD.mkN
          ·intro tm hr
           simp [AllL, rdV] at hr
           simp [hr, obAfter, outR, keptR, inv_cons, inv_nil, ← e38, insL_len e37 e38]
           intros; first | exact KD.mk | exact KD.mkN
          ·intro tm hr
           simp [AllL, rdV] at hr
           simp [hr, obAfter, outR, keptR, inv_cons, inv_nil, ← e38, insL_len e37 e38]
           intros; first | exact KD.mk | exact KD.mkN
          ·intro tm hr
           simp [AllL, rdV] at hr
           simp [hr, obAfter, outR, keptR, inv_cons, inv_nil, ← e38, insL_len e37 e38]
           intros; first | exact KD.mk | exact KD.mkN
          ·intro tm hr
           simp [AllL, rdV] at hr
           simp [hr, obAfter, outR, keptR, inv_cons, inv_nil, ← e38, insL_len e37 e38]
           intros; first | exact KD.mk | exact KD.mkN
          ·intro tm hr
           simp [AllL, rdV] at hr
           simp [hr, obAfter, outR, keptR, inv_cons, inv_nil, ← e38, insL_len e37 e38]
           intros
           refine xcall_plain en_item_Copy (s_item_Copy e36) rfl ⟨.same rfl, trivial⟩ ?_
           try simp [obAfter, outR, keptR, inv_cons, inv_nil, ← e38, insL_len e37 e38]
           intros; first | exact KD.mk | exact KD.mkN
          ·intro tm hr
           simp [AllL, rdV] at hr
           simp [hr, obAfter, outR, keptR, inv_cons, inv_nil, ← e38, insL_len e37 e38]
           intros; first | exact KD.mk | exact KD.mkN
          ·intro tm hr
           simp [AllL, rdV] at hr
           simp [hr, obAfter, outR, keptR, inv_cons, inv_nil, ← e38, insL_len e37 e38]
           intros
           refine xrow_own ?_
           try simp [obAfter, outR, keptR, inv_cons, inv_nil, ← e38, insL_len e37 e38]
           intros; first | exact KD.mk | exact KD.mkN
         ·rfl
         ·simp [tmD, putD, obAfter, outR, keptR, inv_cons, inv_nil, ← e38, insL_len e37 e38]; rfl
         ·simp [obAfter, outR, keptR, inv_cons, inv_nil, ← e38, insL_len e37 e38]
          intros
          refine xcall_rowsN [0, 2] [3, 4] ⟨_, rfl, rfl, _, rfl, rfl, rfl, rfl⟩ en_in_Pair (si_Pair y15.2 v22.1 (⟨v20.key, v36⟩ : Pair) e37) (by decide) rfl rfl (by simp [pickOb, lvs_encPair1]) rfl rfl rfl (by simp) (by simp) ⟨.l (.own (by simp [inv_cons, inv_nil])), .l (.s _), .l (.own (by simp [inv_cons, inv_nil])), trivial⟩ ?_
          try simp [obAfter, outR, keptR, inv_cons, inv_nil, ← e38, insL_len e37 e38]
          intros; rfl
         obtain rfl := Option.some.inj h
         refine nP_i ?_
         refine Weak.mixN [some 3] hn0 (by decide) ?_ ?_ rfl
         all_goals first | (simp [inv_cons, inv_nil, pickOb]; done) | rfl
        | false =>
         replace h := iteF rfl h
         refine AW.cond_false (by simp) ?_
         refine AW.skip ?_
         try simp only [sp_l, sp_r, Post.seq, Post.block, Nat.reduceEqDiff, reduceIte, Nat.zero_ne_one, Nat.one_ne_zero]
         obtain rfl := Option.some.inj h
         refine nP_i ?_
         refine Weak.mixN [some 0] hn0 (by decide) ?_ ?_ rfl
         all_goals first | (simp [inv_cons, inv_nil, pickOb]; done) | rfl
    ·rintro e s hp
     obtain ⟨rfl, hw⟩ := hp
     refine ⟨_, hw, ?_⟩
     try simp only [sp_l, sp_r, Post.seq, Post.block, Nat.reduceEqDiff, reduceIte, Nat.zero_ne_one, Nat.one_ne_zero]
     replace h := ltE h; obtain ⟨v39, e39, h⟩ := h
     apply AW.last
     ·simp [← e39]
      intros; rfl
     obtain rfl := Option.some.inj h
     refine nP_i ?_
     refine Weak.mixN [some 0] hn0 (by decide) ?_ ?_ rfl
     all_goals first | (simp [inv_cons, inv_nil, pickOb]; done) | rfl
   | false =>
    replace h := iteF rfl h
    refine AW.cond_false (by simp) ?_
    refine AW.exit ?_
    try simp only [sp_l, sp_r, Post.seq, Post.block, Nat.reduceEqDiff, reduceIte, Nat.zero_ne_one, Nat.one_ne_zero]
    obtain rfl := Option.some.inj h
    refine xP_i ?_
    refine Weak.mixN [some 0] hn0 (by decide) ?_ ?_ rfl
    all_goals first | (simp [inv_cons, inv_nil, pickOb]; done) | rfl
  ·rintro e s hp
   obtain ⟨rfl, hw⟩ := hp
   refine ⟨_, hw, ?_⟩
   try simp only [sp_l, sp_r, Post.seq, Post.block, Nat.reduceEqDiff, reduceIte, Nat.zero_ne_one, Nat.one_ne_zero]
   apply AW.step
   ·simp
    intros; rfl
   replace h := chkE h; obtain ⟨e40, h⟩ := h
   refine AW.frzRow 0 (ty := 125) (cap := none) (sz := 6) (es := encPair y16) (by simp) (by omega) (encPair_sz _) (by first | exact (room_d e40).2 | simpa using (room_d e40).2 | simp) (by simp [Tm.frz, AV.frz, LV.frz]; rfl) (by simp [Ob.frz, LV.frz]; rfl) rfl ?_
   obtain rfl := Option.some.inj h
   refine AW.ret ?_
   refine Left.plain hnb (by simp [Try.f56, resV, resC, comp]; rfl) rfl rfl ?_
   simp
theorem en_space_Apply : Enters Try.prog 56 := enters Try.func56 (by kernel_rfl) rfl
def item_Alive_sh (n : Nat) (a0 : Item) (a1 : Int) : Option Bool :=
bn (lt (eqI a0.exp 0) fun v2 =>
ite' v2 (some (true)) (lt (gtI a0.exp a1) fun v3 =>
some (v3))) fun (y1 : Bool) =>
some y1
set_option maxRecDepth 8000 in
set_option maxHeartbeats 8000000 in
theorem s_item_Alive {n : Nat} {a0 : Item} {a1 : Int} {r : Bool} (h : item_Alive_sh n a0 a1 = some r) : Sound Try.prog 98 [.g [.s (.int .i64 a0.kind), .s (.string a0.s), .d false 2 (encField a0.f), .d false 1 (encS a0.l), .s (.int .i64 a0.exp)], .l (.s (.int .i64 a1))] [] (.l (.s (.bool r))) [] := by
 unfold item_Alive_sh at h
 refine Sound.of_aw (fn := Try.f98) (c := _) Try.func98 rfl (by simp [Try.f98]) fun cx hG hnb => ?_
 rw [show Try.f98.ntmps = 14 from rfl]
 have hn0 : cx.nb = 0 := hnb
 simp only [st0_mk, initTm, List.map_cons, List.map_nil]
 apply AW.step
 ·simp
  intros; rfl
 replace h := bnE h; obtain ⟨y1, g1, h⟩ := h
 refine AW.flow (p := fun gh ls => (nP (cx := cx) (fun q => (⟨[(4, .l (.s (.bool q)))], [], 14, gh, ls⟩ : St))) y1) ?_ ?_
 ·replace h := g1; clear g1
  replace h := ltE h; obtain ⟨v2, e2, h⟩ := h
  cases v2 with
  | true =>
   replace h := iteT rfl h
   apply AW.last
   ·simp [← e2]
    intros; rfl
   obtain rfl := Option.some.inj h
   refine nP_i ?_
   refine Weak.mixN [] hn0 (by decide) ?_ ?_ rfl
   all_goals first | (simp [inv_cons, inv_nil, pickOb]; done) | rfl
  | false =>
   replace h := iteF rfl h
   replace h := ltE h; obtain ⟨v3, e3, h⟩ := h
   apply AW.last
   ·simp [← e2, ← e3]
    intros; rfl
   obtain rfl := Option.some.inj h
   refine nP_i ?_
   refine Weak.mixN [] hn0 (by decide) ?_ ?_ rfl
   all_goals first | (simp [inv_cons, inv_nil, pickOb]; done) | rfl
 ·rintro e s hp
  obtain ⟨rfl, hw⟩ := hp
  refine ⟨_, hw, ?_⟩
  try simp only [sp_l, sp_r, Post.seq, Post.block, Nat.reduceEqDiff, reduceIte, Nat.zero_ne_one, Nat.one_ne_zero]
  obtain rfl := Option.some.inj h
  refine AW.ret ?_
  refine Left.plain hnb (by simp [Try.f98, resV, resC, comp]; rfl) rfl rfl ?_
  simp
theorem en_item_Alive : Enters Try.prog 98 := enters Try.func98 (by kernel_rfl) rfl
def space_Get_sh (n : Nat) (a0 : List Pair) (a1 : ByteArray) (a2 : Int) : Option (Item × Bool) :=
bn (space_Raw_sh n a0 a1) fun v1 =>
bn (lt (notB v1.2) fun v3 =>
ite' v3 (some (true)) (bn (item_Alive_sh n v1.1 a2) fun v4 =>
lt (notB v4) fun v5 =>
some (v5))) fun (y2 : Bool) =>
lt (y2) fun v6 =>
ite' v6 (some ((⟨0, ⟨#[]⟩, [], [], 0⟩ : Item), false)) (some (v1.1, true))
set_option maxRecDepth 8000 in
set_option maxHeartbeats 8000000 in
theorem s_space_Get {n : Nat} {a0 : List Pair} {a1 : ByteArray} {a2 : Int} {r : Item × Bool} (h : space_Get_sh n a0 a1 a2 = some r) : Sound Try.prog 57 [.l (.d false 6 (encPair a0)), .l (.s (.string a1)), .l (.s (.int .i64 a2))] [] (.t [(true, [.s (.int .i64 r.1.kind), .s (.string r.1.s), .d false 2 (encField r.1.f), .d false 1 (encS r.1.l), .s (.int .i64 r.1.exp)]), (false, [.s (.bool r.2)])]) [] := by
 unfold space_Get_sh at h
 refine Sound.of_aw (fn := Try.f57) (c := _) Try.func57 rfl (by simp [Try.f57]) fun cx hG hnb => ?_
 rw [show Try.f57.ntmps = 26 from rfl]
 have hn0 : cx.nb = 0 := hnb
 simp only [st0_mk, initTm, List.map_cons, List.map_nil]
 apply AW.step
 ·simp
  intros; rfl
 replace h := bnE h; obtain ⟨v1, e1, h⟩ := h
 apply AW.step
 ·simp
  intros
  refine xcall_plain en_space_Raw (s_space_Raw e1) rfl ⟨.same rfl, .same rfl, trivial⟩ ?_
  try simp
  intros; rfl
 refine AW.seq ?_
 replace h := bnE h; obtain ⟨y2, g2, h⟩ := h
 refine AW.flow (p := fun gh ls => (nP (cx := cx) (fun q => (⟨[(6, .l (.p 0 0)), (8, .l (.p 1 0)), (23, .l (.s (.bool q)))], [some ⟨34, 5, false, none, [.s (.int .i64 0), .s (.string ⟨#[]⟩), .s (.slice none 0 0), .s (.slice none 0 0), .s (.int .i64 0)]⟩, some ⟨34, 5, false, none, [.s (.int .i64 v1.1.kind), .s (.string v1.1.s), .d false 2 (encField v1.1.f), .d false 1 (encS v1.1.l), .s (.int .i64 v1.1.exp)]⟩], 26, gh, ls⟩ : St))) y2) ?_ ?_
 ·replace h := g2; clear g2
  replace h := ltE h; obtain ⟨v3, e3, h⟩ := h
  cases v3 with
  | true =>
   replace h := iteT rfl h
   apply AW.last
   ·simp [← e3]
    intros; rfl
   obtain rfl := Option.some.inj h
   refine nP_i ?_
   refine Weak.mixN [some 0, some 1] hn0 (by decide) ?_ ?_ rfl
   all_goals first | (simp [inv_cons, inv_nil, pickOb]; done) | rfl
  | false =>
   replace h := iteF rfl h
   replace h := bnE h; obtain ⟨v4, e4, h⟩ := h
   replace h := ltE h; obtain ⟨v5, e5, h⟩ := h
   apply AW.last
   ·simp [← e3, ← e5]
    intros
    refine xcall_plain en_item_Alive (s_item_Alive e4) rfl ⟨.same rfl, .same rfl, trivial⟩ ?_
    try simp [← e3, ← e5]
    intros; rfl
   obtain rfl := Option.some.inj h
   refine nP_i ?_
   refine Weak.mixN [some 0, some 1] hn0 (by decide) ?_ ?_ rfl
   all_goals first | (simp [inv_cons, inv_nil, pickOb]; done) | rfl
 ·rintro e s hp
  obtain ⟨rfl, hw⟩ := hp
  refine ⟨_, hw, ?_⟩
  try simp only [sp_l, sp_r, Post.seq, Post.block, Nat.reduceEqDiff, reduceIte, Nat.zero_ne_one, Nat.one_ne_zero]
  replace h := ltE h; obtain ⟨v6, e6, h⟩ := h
  rw [← e6]
  cases v6 with
  | true =>
   replace h := iteT rfl h
   refine AW.cond_true (by simp) ?_
   apply AW.step
   ·simp
    intros; rfl
   refine AW.nilCellD 0 2 2 rfl rfl rfl rfl ?_
   refine AW.nilCellD 0 3 1 rfl rfl rfl rfl ?_
   obtain rfl := Option.some.inj h
   refine AW.ret ?_
   refine Left.plain hnb (by simp [Try.f57, resV, resC, comp]; rfl) rfl rfl ?_
   simp
  | false =>
   replace h := iteF rfl h
   refine AW.cond_false (by simp) ?_
   refine AW.skip ?_
   try simp only [sp_l, sp_r, Post.seq, Post.block, Nat.reduceEqDiff, reduceIte, Nat.zero_ne_one, Nat.one_ne_zero]
   try simp only [sp_l, sp_r, Post.seq, Post.block, Nat.reduceEqDiff, reduceIte, Nat.zero_ne_one, Nat.one_ne_zero]
   apply AW.step
   ·simp
    intros; rfl
   obtain rfl := Option.some.inj h
   refine AW.ret ?_
   refine Left.plain hnb (by simp [Try.f57, resV, resC, comp]; rfl) rfl rfl ?_
   simp
theorem en_space_Get : Enters Try.prog 57 := enters Try.func57 (by kernel_rfl) rfl
def space_All_sh (n : Nat) (a0 : List Pair) : Option (List Effect) :=
lt (lenI a0) fun v1 =>
bn (iter n (fun (y2 : Int × List Effect) =>
lt (ltI y2.1 v1) fun v5 =>
ite' v5 (bn (nth a0 y2.1) fun v6 =>
bn (item_Copy_sh n v6.item) fun v7 =>
chk (room (y2.2.length + 1) 104) <|
lt (y2.2 ++ [(⟨v6.key, false, v7⟩ : Effect)]) fun v9 =>
lt (addI .i64 y2.1 1) fun v10 =>
some (.inl (v10, v9))) (some (.inr y2.2))) (0, [])) fun (y3 : List Effect) =>
chk (room y3.length 1) <|
some y3
set_option maxRecDepth 8000 in
set_option maxHeartbeats 8000000 in
theorem s_space_All {n : Nat} {a0 : List Pair} {r : List Effect} (h : space_All_sh n a0 = some r) : Sound Try.prog 61 [.l (.d false 6 (encPair a0))] [] (.l (.d false 7 (encEffect r))) [] := by
 unfold space_All_sh at h
 refine Sound.of_aw (fn := Try.f61) (c := _) Try.func61 rfl (by simp [Try.f61]) fun cx hG hnb => ?_
 rw [show Try.f61.ntmps = 23 from rfl]
 have hn0 : cx.nb = 0 := hnb
 simp only [st0_mk, initTm, List.map_cons, List.map_nil]
 apply AW.step
 ·simp
  intros; rfl
 apply AW.step
 ·simp
  intros; rfl
 refine AW.seq ?_
 replace h := ltE h; obtain ⟨v1, e1, h⟩ := h
 apply AW.step
 ·simp [lenI_cast e1]
  intros; rfl
 refine AW.block ?_
 replace h := bnE h; obtain ⟨y3, g3, h⟩ := h
 refine AW.iterP g3 (mk := fun gh ls q => (⟨[(3, .l (.r 0 7 0 q.2.length)), (6, .l (.d false 6 (encPair a0))), (7, .l (.s (.int .i64 v1))), (8, .l (.s (.int .i64 q.1)))], [some ⟨36, 7, true, none, lvs (encEffect q.2)⟩], 23, gh, ls⟩ : St)) (N := fun gh ls => (xP 0 (cx := cx) (fun q => (⟨[(3, .l (.r 0 7 0 q.length))], [some ⟨36, 7, true, none, lvs (encEffect q)⟩], 23, gh, ls⟩ : St)))) ?_ noX ?_ ?_
 ·refine W.nilRow 3 36 7 0 (by simp) rfl rfl ?_
  refine Weak.mixN [some 0] hn0 (by decide) ?_ ?_ rfl
  all_goals first | (simp [inv_cons, inv_nil, pickOb]; done) | rfl
 ·clear h; intro y2 y4 h
  replace h := ltE h; obtain ⟨v5, e5, h⟩ := h
  apply AW.step
  ·simp [← e5]
   intros; rfl
  refine AW.seq ?_
  cases v5 with
  | true =>
   replace h := iteT rfl h
   refine AW.cond_true (by simp) ?_
   refine AW.skip ?_
   try simp only [sp_l, sp_r, Post.seq, Post.block, Nat.reduceEqDiff, reduceIte, Nat.zero_ne_one, Nat.one_ne_zero]
   try simp only [sp_l, sp_r, Post.seq, Post.block, Nat.reduceEqDiff, reduceIte, Nat.zero_ne_one, Nat.one_ne_zero]
   refine AW.seq ?_
   refine AW.block ?_
   replace h := bnE h; obtain ⟨v6, e6, h⟩ := h
   apply AW.step
   ·simp [nth_d e6]
    intros; rfl
   replace h := bnE h; obtain ⟨v7, e7, h⟩ := h
   replace h := chkE h; obtain ⟨e8, h⟩ := h
   replace h := ltE h; obtain ⟨v9, e9, h⟩ := h
   apply AW.drawnF (V := [_, _, _, _, _, _, _, _]) (M := [[some ⟨36, 7, true, none, lvs (encEffect y2.2)⟩, some ⟨125, 6, false, none, [.s (.string v6.key), .s (.int .i64 v6.item.kind), .s (.string v6.item.s), .d false 2 (encField v6.item.f), .d false 1 (encS v6.item.l), .s (.int .i64 v6.item.exp)]⟩], [some ⟨36, 7, true, none, lvs (encEffect y2.2)⟩, some ⟨125, 6, false, none, [.s (.string v6.key), .s (.int .i64 v6.item.kind), .s (.string v6.item.s), .d false 2 (encField v6.item.f), .d false 1 (encS v6.item.l), .s (.int .i64 v6.item.exp)]⟩, some ⟨36, 7, true, none, [.s (.string v6.key), .s (.bool false), .s (.int .i64 v7.kind), .s (.string v7.s), .d false 2 (encField v7.f), .d false 1 (encS v7.l), .s (.int .i64 v7.exp)]⟩]]) mixed [⟨[0, 1], [], [(3, none)], false⟩, ⟨[0], [], [(5, none)], false⟩, ⟨[0], [1], [(13, some 1)], false⟩, ⟨[0], [], [(5, none)], false⟩, ⟨[0], [3], [(15, some 3)], false⟩, ⟨[0], [3, 4], [(16, some 4)], false⟩, ⟨[0], [1, 2, 3, 4, 5], [(14, some 2), (17, some 5)], false⟩, ⟨[0], [1, 2, 3, 4, 5, 6], [(18, some 6)], true⟩, ⟨[], [0, 1, 2, 3, 4, 5, 6, 7], [], false⟩, ⟨[], [0, 1, 2, 3, 4, 5, 6, 7, 8], [], false⟩] 8 1 (by kernel_rfl) (by kernel_rfl)
   ·rfl
   ·refine ⟨⟨?_, ?_⟩, ?_, ?_, ?_, ?_, ?_, ?_, ?_, trivial⟩
    ·intro tm hr
     simp [AllL, rdV] at hr
     simp [hr, ← encEffect_append, ← e9, app_len1 e9]
     intros; first | exact KD.mk | exact KD.mkN
    ·intro tm hr
     simp [AllL, rdV] at hr
     simp [hr, ← encEffect_append, ← e9, app_len1 e9]
     intros; first | exact KD.mk | exact KD.mkN
    ·intro tm hr
     simp [AllL, rdV] at hr
     simp [hr, ← encEffect_append, ← e9, app_len1 e9]
     intros; first | exact KD.mk | exact KD.mkN
    ·intro tm hr
     simp [AllL, rdV] at hr
     simp [hr, ← encEffect_append, ← e9, app_len1 e9]
     intros; first | exact KD.mk | exact KD.mkN
    ·intro tm hr
     simp [AllL, rdV] at hr
     simp [hr, ← encEffect_append, ← e9, app_len1 e9]
     intros; first | exact KD.mk | exact KD.mkN
    ·intro tm hr
     simp [AllL, rdV] at hr
     simp [hr, ← encEffect_append, ← e9, app_len1 e9]
     intros; first | exact KD.mk | exact KD.mkN
    ·intro tm hr
     simp [AllL, rdV] at hr
     simp [hr, ← encEffect_append, ← e9, app_len1 e9]
     intros
     refine xcall_plain en_item_Copy (s_item_Copy e7) rfl ⟨.same rfl, trivial⟩ ?_
     try simp [← encEffect_append, ← e9, app_len1 e9]
     intros; first | exact KD.mk | exact KD.mkN
    ·intro tm hr
     simp [AllL, rdV] at hr
     simp [hr, ← encEffect_append, ← e9, app_len1 e9]
     intros; first | exact KD.mk | exact KD.mkN
    ·intro tm hr
     simp [AllL, rdV] at hr
     simp [hr, ← encEffect_append, ← e9, app_len1 e9]
     intros
     refine xrow_own ?_
     try simp [← encEffect_append, ← e9, app_len1 e9]
     intros; first | exact KD.mk | exact KD.mkN
   ·rfl
   ·simp [tmD, putD, ← encEffect_append, ← e9, app_len1 e9]; rfl
   ·simp [← encEffect_append, ← e9, app_len1 e9]
    intros
    refine xapp_pushN (acc := encEffect y2.2) (ys := encEffect [(⟨v6.key, false, v7⟩ : Effect)]) (cap := none) (k := 1) tb_el24 tb_ti36 (by simp) (by simp [encEffect, lvs]) (encEffect_sz _) (by simp) (by simp) (by simpa using (room_d e8).1) ?_
    try simp [← encEffect_append, ← e9, app_len1 e9]
    intros; rfl
   try simp only [sp_l, sp_r, Post.seq, Post.block, Nat.reduceEqDiff, reduceIte, Nat.zero_ne_one, Nat.one_ne_zero]
   replace h := ltE h; obtain ⟨v10, e10, h⟩ := h
   apply AW.last
   ·simp [← e10]
    intros; rfl
   obtain rfl := Option.some.inj h
   refine nP_i ?_
   refine Weak.mixN [some 3] hn0 (by decide) ?_ ?_ rfl
   all_goals first | (simp [inv_cons, inv_nil, pickOb, lvs_encEffect1]; done) | rfl
  | false =>
   replace h := iteF rfl h
   refine AW.cond_false (by simp) ?_
   refine AW.exit ?_
   try simp only [sp_l, sp_r, Post.seq, Post.block, Nat.reduceEqDiff, reduceIte, Nat.zero_ne_one, Nat.one_ne_zero]
   obtain rfl := Option.some.inj h
   refine xP_i ?_
   refine Weak.mixN [some 0] hn0 (by decide) ?_ ?_ rfl
   all_goals first | (simp [inv_cons, inv_nil, pickOb]; done) | rfl
 ·rintro e s hp
  obtain ⟨rfl, hw⟩ := hp
  refine ⟨_, hw, ?_⟩
  try simp only [sp_l, sp_r, Post.seq, Post.block, Nat.reduceEqDiff, reduceIte, Nat.zero_ne_one, Nat.one_ne_zero]
  apply AW.step
  ·simp
   intros; rfl
  replace h := chkE h; obtain ⟨e11, h⟩ := h
  refine AW.frzRow 0 (ty := 36) (cap := none) (sz := 7) (es := encEffect y3) (by simp) (by omega) (encEffect_sz _) (by first | exact (room_d e11).2 | simpa using (room_d e11).2 | simp) (by simp [Tm.frz, AV.frz, LV.frz]; rfl) (by simp [Ob.frz, LV.frz]; rfl) rfl ?_
  obtain rfl := Option.some.inj h
  refine AW.ret ?_
  refine Left.plain hnb (by simp [Try.f61, resV, resC, comp]; rfl) rfl rfl ?_
  simp
theorem en_space_All : Enters Try.prog 61 := enters Try.func61 (by kernel_rfl) rfl
def slices_Equal_api_Field_sh (n : Nat) (a0 : List Field) (a1 : List Field) : Option Bool :=
lt (lenI a0) fun v1 =>
lt (lenI a1) fun v2 =>
lt (neI v1 v2) fun v3 =>
ite' v3 (some false) (bn (iter n (fun (y4 : Int) =>
lt (ltI y4 v1) fun v7 =>
ite' v7 (bn (nth a0 y4) fun v8 =>
bn (nth a1 y4) fun v9 =>
lt (notB (andB (eqS v8.name v9.name) (andB (eqS v8.val v9.val) true))) fun v10 =>
ite' v10 (some (.inr (.inr false))) (lt (addI .i64 y4 1) fun v11 =>
some (.inl v11))) (some (.inr (.inl ())))) 0) fun (y5 : Unit ⊕ Bool) =>
sm y5 (fun y12 => some true) (fun y13 => some y13))
set_option maxRecDepth 8000 in
set_option maxHeartbeats 8000000 in
theorem s_slices_Equal_api_Field {n : Nat} {a0 : List Field} {a1 : List Field} {r : Bool} (h : slices_Equal_api_Field_sh n a0 a1 = some r) : Sound Try.prog 106 [.l (.d false 2 (encField a0)), .l (.d false 2 (encField a1))] [] (.l (.s (.bool r))) [] := by
 unfold slices_Equal_api_Field_sh at h
 refine Sound.of_aw (fn := Try.f106) (c := _) Try.func106 rfl (by simp [Try.f106]) fun cx hG hnb => ?_
 rw [show Try.f106.ntmps = 26 from rfl]
 have hn0 : cx.nb = 0 := hnb
 simp only [st0_mk, initTm, List.map_cons, List.map_nil]
 apply AW.step
 ·simp
  intros; rfl
 refine AW.seq ?_
 replace h := ltE h; obtain ⟨v1, e1, h⟩ := h
 replace h := ltE h; obtain ⟨v2, e2, h⟩ := h
 replace h := ltE h; obtain ⟨v3, e3, h⟩ := h
 apply AW.step
 ·simp [lenI_cast e1, lenI_cast e2, ← e3]
  intros; rfl
 cases v3 with
 | true =>
  replace h := iteT rfl h
  refine AW.cond_true (by simp) ?_
  apply AW.step
  ·simp
   intros; rfl
  obtain rfl := Option.some.inj h
  refine AW.ret ?_
  refine Left.plain hnb (by simp [Try.f106, resV, resC, comp]; rfl) rfl rfl ?_
  simp
 | false =>
  replace h := iteF rfl h
  refine AW.cond_false (by simp) ?_
  refine AW.skip ?_
  try simp only [sp_l, sp_r, Post.seq, Post.block, Nat.reduceEqDiff, reduceIte, Nat.zero_ne_one, Nat.one_ne_zero]
  try simp only [sp_l, sp_r, Post.seq, Post.block, Nat.reduceEqDiff, reduceIte, Nat.zero_ne_one, Nat.one_ne_zero]
  refine AW.seq ?_
  apply AW.step
  ·simp [lenI_cast e1]
   intros; rfl
  refine AW.block ?_
  replace h := bnE h; obtain ⟨y5, g5, h⟩ := h
  refine AW.iterP g5 (mk := fun gh ls q => (⟨[(0, .l (.d false 2 (encField a0))), (1, .l (.d false 2 (encField a1))), (12, .l (.s (.int .i64 v1))), (13, .l (.s (.int .i64 q)))], [], 26, gh, ls⟩ : St)) (N := fun gh ls => (sp (xP 0 (cx := cx) (fun _ => (⟨[], [], 26, gh, ls⟩ : St))) (rP (cx := cx) (P := Try.prog) Try.f106 (fun q => .l (.s (.bool q))) (fun q => [])))) ?_ (noS noX noR) ?_ ?_
  ·refine Weak.mixN [] hn0 (by decide) ?_ ?_ rfl
   all_goals first | (simp [inv_cons, inv_nil, pickOb]; done) | rfl
  ·clear h; intro y4 y6 h
   replace h := ltE h; obtain ⟨v7, e7, h⟩ := h
   apply AW.step
   ·simp [← e7]
    intros; rfl
   refine AW.seq ?_
   cases v7 with
   | true =>
    replace h := iteT rfl h
    refine AW.cond_true (by simp) ?_
    refine AW.skip ?_
    try simp only [sp_l, sp_r, Post.seq, Post.block, Nat.reduceEqDiff, reduceIte, Nat.zero_ne_one, Nat.one_ne_zero]
    try simp only [sp_l, sp_r, Post.seq, Post.block, Nat.reduceEqDiff, reduceIte, Nat.zero_ne_one, Nat.one_ne_zero]
    refine AW.seq ?_
    refine AW.block ?_
    apply AW.step
    ·simp
     intros; rfl
    replace h := bnE h; obtain ⟨v8, e8, h⟩ := h
    replace h := bnE h; obtain ⟨v9, e9, h⟩ := h
    replace h := ltE h; obtain ⟨v10, e10, h⟩ := h
    apply AW.drawnP (V := [_, _, _, _, _, _, _, _]) mixed [⟨[0], [], [(0, none)], false⟩, ⟨[0], [], [(5, none)], false⟩, ⟨[0], [0, 1], [(16, some 0), (17, some 1)], false⟩, ⟨[0], [0, 1, 2], [(18, some 2)], false⟩, ⟨[0], [], [(1, none)], false⟩, ⟨[0], [], [(5, none)], false⟩, ⟨[0], [4, 5], [(20, some 4), (21, some 5)], false⟩, ⟨[0], [4, 5, 6], [(22, some 6)], false⟩, ⟨[], [0, 1, 2, 3, 4, 5, 6, 7], [], false⟩] 8 (by kernel_rfl) (by kernel_rfl)
    ·refine ⟨?_, ?_, ?_, ?_, ?_, ?_, ?_, ?_, trivial⟩
     ·intro tm hr
      simp [AllL, rdV] at hr
      simp [hr, nth_d e8, nth_d e9, ← e10]
      intros; first | exact KD.mk | exact KD.mkN
     ·intro tm hr
      simp [AllL, rdV] at hr
      simp [hr, nth_d e8, nth_d e9, ← e10]
      intros; first | exact KD.mk | exact KD.mkN
     ·intro tm hr
      simp [AllL, rdV] at hr
      simp [hr, nth_d e8, nth_d e9, ← e10]
      intros; first | exact KD.mk | exact KD.mkN
     ·intro tm hr
      simp [AllL, rdV] at hr
      simp [hr, nth_d e8, nth_d e9, ← e10]
      intros; first | exact KD.mk | exact KD.mkN
     ·intro tm hr
      simp [AllL, rdV] at hr
      simp [hr, nth_d e8, nth_d e9, ← e10]
      intros; first | exact KD.mk | exact KD.mkN
     ·intro tm hr
      simp [AllL, rdV] at hr
      simp [hr, nth_d e8, nth_d e9, ← e10]
      intros; first | exact KD.mk | exact KD.mkN
     ·intro tm hr
      simp [AllL, rdV] at hr
      simp [hr, nth_d e8, nth_d e9, ← e10]
      intros; first | exact KD.mk | exact KD.mkN
     ·intro tm hr
      simp [AllL, rdV] at hr
      simp [hr, nth_d e8, nth_d e9, ← e10]
      intros; first | exact KD.mk | exact KD.mkN
    ·rfl
    ·simp [tmD, putD, nth_d e8, nth_d e9, ← e10]; rfl
    ·simp [nth_d e8, nth_d e9, ← e10]
     intros; rfl
    cases v10 with
    | true =>
     replace h := iteT rfl h
     refine AW.cond_true (by simp) ?_
     apply AW.step
     ·simp
      intros; rfl
     obtain rfl := Option.some.inj h
     refine AW.ret ?_
     try simp only [sp_l, sp_r, Post.seq, Post.block, Nat.reduceEqDiff, reduceIte, Nat.zero_ne_one, Nat.one_ne_zero]
     refine rP_i ?_
     refine Left.plain hnb (by simp [Try.f106, resV, resC, comp]; rfl) rfl rfl ?_
     simp
    | false =>
     replace h := iteF rfl h
     refine AW.cond_false (by simp) ?_
     refine AW.skip ?_
     try simp only [sp_l, sp_r, Post.seq, Post.block, Nat.reduceEqDiff, reduceIte, Nat.zero_ne_one, Nat.one_ne_zero]
     try simp only [sp_l, sp_r, Post.seq, Post.block, Nat.reduceEqDiff, reduceIte, Nat.zero_ne_one, Nat.one_ne_zero]
     replace h := ltE h; obtain ⟨v11, e11, h⟩ := h
     apply AW.last
     ·simp [← e11]
      intros; rfl
     obtain rfl := Option.some.inj h
     refine nP_i ?_
     refine Weak.mixN [] hn0 (by decide) ?_ ?_ rfl
     all_goals first | (simp [inv_cons, inv_nil, pickOb]; done) | rfl
   | false =>
    replace h := iteF rfl h
    refine AW.cond_false (by simp) ?_
    refine AW.exit ?_
    try simp only [sp_l, sp_r, Post.seq, Post.block, Nat.reduceEqDiff, reduceIte, Nat.zero_ne_one, Nat.one_ne_zero]
    obtain rfl := Option.some.inj h
    try simp only [sp_l, sp_r]
    refine xP_i ?_
    refine Weak.mixN [] hn0 (by decide) ?_ ?_ rfl
    all_goals first | (simp [inv_cons, inv_nil, pickOb]; done) | rfl
  ·rintro e s hp
   rcases y5 with y12 | y13
   ·replace h := smL h
    obtain ⟨rfl, hw⟩ := hp
    refine ⟨_, hw, ?_⟩
    try simp only [sp_l, sp_r, Post.seq, Post.block, Nat.reduceEqDiff, reduceIte, Nat.zero_ne_one, Nat.one_ne_zero]
    apply AW.step
    ·simp
     intros; rfl
    obtain rfl := Option.some.inj h
    refine AW.ret ?_
    refine Left.plain hnb (by simp [Try.f106, resV, resC, comp]; rfl) rfl rfl ?_
    simp
   ·replace h := smR h
    obtain ⟨rfl, hl⟩ := hp
    refine ⟨_, Weak.refl _, ?_⟩
    obtain rfl := Option.some.inj h
    exact hl
theorem en_slices_Equal_api_Field : Enters Try.prog 106 := enters Try.func106 (by kernel_rfl) rfl
def slices_Equal_string_sh (n : Nat) (a0 : List ByteArray) (a1 : List ByteArray) : Option Bool :=
lt (lenI a0) fun v1 =>
lt (lenI a1) fun v2 =>
lt (neI v1 v2) fun v3 =>
ite' v3 (some false) (bn (iter n (fun (y4 : Int) =>
lt (ltI y4 v1) fun v7 =>
ite' v7 (bn (nth a0 y4) fun v8 =>
bn (nth a1 y4) fun v9 =>
lt (neS v8 v9) fun v10 =>
ite' v10 (some (.inr (.inr false))) (lt (addI .i64 y4 1) fun v11 =>
some (.inl v11))) (some (.inr (.inl ())))) 0) fun (y5 : Unit ⊕ Bool) =>
sm y5 (fun y12 => some true) (fun y13 => some y13))
set_option maxRecDepth 8000 in
set_option maxHeartbeats 8000000 in
theorem s_slices_Equal_string {n : Nat} {a0 : List ByteArray} {a1 : List ByteArray} {r : Bool} (h : slices_Equal_string_sh n a0 a1 = some r) : Sound Try.prog 107 [.l (.d false 1 (encS a0)), .l (.d false 1 (encS a1))] [] (.l (.s (.bool r))) [] := by
 unfold slices_Equal_string_sh at h
 refine Sound.of_aw (fn := Try.f107) (c := _) Try.func107 rfl (by simp [Try.f107]) fun cx hG hnb => ?_
 rw [show Try.f107.ntmps = 26 from rfl]
 have hn0 : cx.nb = 0 := hnb
 simp only [st0_mk, initTm, List.map_cons, List.map_nil]
 apply AW.step
 ·simp
  intros; rfl
 refine AW.seq ?_
 replace h := ltE h; obtain ⟨v1, e1, h⟩ := h
 replace h := ltE h; obtain ⟨v2, e2, h⟩ := h
 replace h := ltE h; obtain ⟨v3, e3, h⟩ := h
 apply AW.step
 ·simp [lenI_cast e1, lenI_cast e2, ← e3]
  intros; rfl
 cases v3 with
 | true =>
  replace h := iteT rfl h
  refine AW.cond_true (by simp) ?_
  apply AW.step
  ·simp
   intros; rfl
  obtain rfl := Option.some.inj h
  refine AW.ret ?_
  refine Left.plain hnb (by simp [Try.f107, resV, resC, comp]; rfl) rfl rfl ?_
  simp
 | false =>
  replace h := iteF rfl h
  refine AW.cond_false (by simp) ?_
  refine AW.skip ?_
  try simp only [sp_l, sp_r, Post.seq, Post.block, Nat.reduceEqDiff, reduceIte, Nat.zero_ne_one, Nat.one_ne_zero]
  try simp only [sp_l, sp_r, Post.seq, Post.block, Nat.reduceEqDiff, reduceIte, Nat.zero_ne_one, Nat.one_ne_zero]
  refine AW.seq ?_
  apply AW.step
  ·simp [lenI_cast e1]
   intros; rfl
  refine AW.block ?_
  replace h := bnE h; obtain ⟨y5, g5, h⟩ := h
  refine AW.iterP g5 (mk := fun gh ls q => (⟨[(0, .l (.d false 1 (encS a0))), (1, .l (.d false 1 (encS a1))), (12, .l (.s (.int .i64 v1))), (13, .l (.s (.int .i64 q)))], [], 26, gh, ls⟩ : St)) (N := fun gh ls => (sp (xP 0 (cx := cx) (fun _ => (⟨[], [], 26, gh, ls⟩ : St))) (rP (cx := cx) (P := Try.prog) Try.f107 (fun q => .l (.s (.bool q))) (fun q => [])))) ?_ (noS noX noR) ?_ ?_
  ·refine Weak.mixN [] hn0 (by decide) ?_ ?_ rfl
   all_goals first | (simp [inv_cons, inv_nil, pickOb]; done) | rfl
  ·clear h; intro y4 y6 h
   replace h := ltE h; obtain ⟨v7, e7, h⟩ := h
   apply AW.step
   ·simp [← e7]
    intros; rfl
   refine AW.seq ?_
   cases v7 with
   | true =>
    replace h := iteT rfl h
    refine AW.cond_true (by simp) ?_
    refine AW.skip ?_
    try simp only [sp_l, sp_r, Post.seq, Post.block, Nat.reduceEqDiff, reduceIte, Nat.zero_ne_one, Nat.one_ne_zero]
    try simp only [sp_l, sp_r, Post.seq, Post.block, Nat.reduceEqDiff, reduceIte, Nat.zero_ne_one, Nat.one_ne_zero]
    refine AW.seq ?_
    refine AW.block ?_
    apply AW.step
    ·simp
     intros; rfl
    replace h := bnE h; obtain ⟨v8, e8, h⟩ := h
    replace h := bnE h; obtain ⟨v9, e9, h⟩ := h
    replace h := ltE h; obtain ⟨v10, e10, h⟩ := h
    apply AW.drawnP (V := [_, _, _, _, _, _, _, _]) mixed [⟨[0], [], [(0, none)], false⟩, ⟨[0], [], [(5, none)], false⟩, ⟨[0], [0, 1], [(16, some 0), (17, some 1)], false⟩, ⟨[0], [0, 1, 2], [(18, some 2)], false⟩, ⟨[0], [], [(1, none)], false⟩, ⟨[0], [], [(5, none)], false⟩, ⟨[0], [4, 5], [(20, some 4), (21, some 5)], false⟩, ⟨[0], [4, 5, 6], [(22, some 6)], false⟩, ⟨[], [0, 1, 2, 3, 4, 5, 6, 7], [], false⟩] 8 (by kernel_rfl) (by kernel_rfl)
    ·refine ⟨?_, ?_, ?_, ?_, ?_, ?_, ?_, ?_, trivial⟩
     ·intro tm hr
      simp [AllL, rdV] at hr
      simp [hr, nth_d e8, nth_d e9, ← e10]
      intros; first | exact KD.mk | exact KD.mkN
     ·intro tm hr
      simp [AllL, rdV] at hr
      simp [hr, nth_d e8, nth_d e9, ← e10]
      intros; first | exact KD.mk | exact KD.mkN
     ·intro tm hr
      simp [AllL, rdV] at hr
      simp [hr, nth_d e8, nth_d e9, ← e10]
      intros; first | exact KD.mk | exact KD.mkN
     ·intro tm hr
      simp [AllL, rdV] at hr
      simp [hr, nth_d e8, nth_d e9, ← e10]
      intros; first | exact KD.mk | exact KD.mkN
     ·intro tm hr
      simp [AllL, rdV] at hr
      simp [hr, nth_d e8, nth_d e9, ← e10]
      intros; first | exact KD.mk | exact KD.mkN
     ·intro tm hr
      simp [AllL, rdV] at hr
      simp [hr, nth_d e8, nth_d e9, ← e10]
      intros; first | exact KD.mk | exact KD.mkN
     ·intro tm hr
      simp [AllL, rdV] at hr
      simp [hr, nth_d e8, nth_d e9, ← e10]
      intros; first | exact KD.mk | exact KD.mkN
     ·intro tm hr
      simp [AllL, rdV] at hr
      simp [hr, nth_d e8, nth_d e9, ← e10]
      intros; first | exact KD.mk | exact KD.mkN
    ·rfl
    ·simp [tmD, putD, nth_d e8, nth_d e9, ← e10]; rfl
    ·simp [nth_d e8, nth_d e9, ← e10]
     intros; rfl
    cases v10 with
    | true =>
     replace h := iteT rfl h
     refine AW.cond_true (by simp) ?_
     apply AW.step
     ·simp
      intros; rfl
     obtain rfl := Option.some.inj h
     refine AW.ret ?_
     try simp only [sp_l, sp_r, Post.seq, Post.block, Nat.reduceEqDiff, reduceIte, Nat.zero_ne_one, Nat.one_ne_zero]
     refine rP_i ?_
     refine Left.plain hnb (by simp [Try.f107, resV, resC, comp]; rfl) rfl rfl ?_
     simp
    | false =>
     replace h := iteF rfl h
     refine AW.cond_false (by simp) ?_
     refine AW.skip ?_
     try simp only [sp_l, sp_r, Post.seq, Post.block, Nat.reduceEqDiff, reduceIte, Nat.zero_ne_one, Nat.one_ne_zero]
     try simp only [sp_l, sp_r, Post.seq, Post.block, Nat.reduceEqDiff, reduceIte, Nat.zero_ne_one, Nat.one_ne_zero]
     replace h := ltE h; obtain ⟨v11, e11, h⟩ := h
     apply AW.last
     ·simp [← e11]
      intros; rfl
     obtain rfl := Option.some.inj h
     refine nP_i ?_
     refine Weak.mixN [] hn0 (by decide) ?_ ?_ rfl
     all_goals first | (simp [inv_cons, inv_nil, pickOb]; done) | rfl
   | false =>
    replace h := iteF rfl h
    refine AW.cond_false (by simp) ?_
    refine AW.exit ?_
    try simp only [sp_l, sp_r, Post.seq, Post.block, Nat.reduceEqDiff, reduceIte, Nat.zero_ne_one, Nat.one_ne_zero]
    obtain rfl := Option.some.inj h
    try simp only [sp_l, sp_r]
    refine xP_i ?_
    refine Weak.mixN [] hn0 (by decide) ?_ ?_ rfl
    all_goals first | (simp [inv_cons, inv_nil, pickOb]; done) | rfl
  ·rintro e s hp
   rcases y5 with y12 | y13
   ·replace h := smL h
    obtain ⟨rfl, hw⟩ := hp
    refine ⟨_, hw, ?_⟩
    try simp only [sp_l, sp_r, Post.seq, Post.block, Nat.reduceEqDiff, reduceIte, Nat.zero_ne_one, Nat.one_ne_zero]
    apply AW.step
    ·simp
     intros; rfl
    obtain rfl := Option.some.inj h
    refine AW.ret ?_
    refine Left.plain hnb (by simp [Try.f107, resV, resC, comp]; rfl) rfl rfl ?_
    simp
   ·replace h := smR h
    obtain ⟨rfl, hl⟩ := hp
    refine ⟨_, Weak.refl _, ?_⟩
    obtain rfl := Option.some.inj h
    exact hl
theorem en_slices_Equal_string : Enters Try.prog 107 := enters Try.func107 (by kernel_rfl) rfl
def item_Same_sh (n : Nat) (a0 : Item) (a1 : Item) : Option Bool :=
bn (lt (eqI a0.kind a1.kind) fun v2 =>
ite' v2 (lt (eqS a0.s a1.s) fun v3 =>
ite' v3 (lt (eqI a0.exp a1.exp) fun v4 =>
ite' v4 (bn (slices_Equal_api_Field_sh n a0.f a1.f) fun v5 =>
ite' v5 (bn (slices_Equal_string_sh n a0.l a1.l) fun v6 =>
some (v6)) (some (false))) (some (false))) (some (false))) (some (false))) fun (y1 : Bool) =>
some y1
set_option maxRecDepth 8000 in
set_option maxHeartbeats 8000000 in
theorem s_item_Same {n : Nat} {a0 : Item} {a1 : Item} {r : Bool} (h : item_Same_sh n a0 a1 = some r) : Sound Try.prog 72 [.g [.s (.int .i64 a0.kind), .s (.string a0.s), .d false 2 (encField a0.f), .d false 1 (encS a0.l), .s (.int .i64 a0.exp)], .g [.s (.int .i64 a1.kind), .s (.string a1.s), .d false 2 (encField a1.f), .d false 1 (encS a1.l), .s (.int .i64 a1.exp)]] [] (.l (.s (.bool r))) [] := by
 unfold item_Same_sh at h
 refine Sound.of_aw (fn := Try.f72) (c := _) Try.func72 rfl (by simp [Try.f72]) fun cx hG hnb => ?_
 rw [show Try.f72.ntmps = 38 from rfl]
 have hn0 : cx.nb = 0 := hnb
 simp only [st0_mk, initTm, List.map_cons, List.map_nil]
 apply AW.step
 ·simp
  intros; rfl
 replace h := bnE h; obtain ⟨y1, g1, h⟩ := h
 refine AW.flow (p := fun gh ls => (nP (cx := cx) (fun q => (⟨[(4, .l (.s (.bool q)))], [], 38, gh, ls⟩ : St))) y1) ?_ ?_
 ·replace h := g1; clear g1
  replace h := ltE h; obtain ⟨v2, e2, h⟩ := h
  cases v2 with
  | true =>
   replace h := iteT rfl h
   replace h := ltE h; obtain ⟨v3, e3, h⟩ := h
   cases v3 with
   | true =>
    replace h := iteT rfl h
    replace h := ltE h; obtain ⟨v4, e4, h⟩ := h
    cases v4 with
    | true =>
     replace h := iteT rfl h
     replace h := bnE h; obtain ⟨v5, e5, h⟩ := h
     cases v5 with
     | true =>
      replace h := iteT rfl h
      replace h := bnE h; obtain ⟨v6, e6, h⟩ := h
      apply AW.last
      ·simp [← e2, ← e3, ← e4]
       intros
       refine xcall_plain en_slices_Equal_api_Field (s_slices_Equal_api_Field e5) rfl ⟨.same rfl, .same rfl, trivial⟩ ?_
       try simp [← e2, ← e3, ← e4]
       intros
       refine xcall_plain en_slices_Equal_string (s_slices_Equal_string e6) rfl ⟨.same rfl, .same rfl, trivial⟩ ?_
       try simp [← e2, ← e3, ← e4]
       intros; rfl
      obtain rfl := Option.some.inj h
      refine nP_i ?_
      refine Weak.mixN [] hn0 (by decide) ?_ ?_ rfl
      all_goals first | (simp [inv_cons, inv_nil, pickOb]; done) | rfl
     | false =>
      replace h := iteF rfl h
      apply AW.last
      ·simp [← e2, ← e3, ← e4]
       intros
       refine xcall_plain en_slices_Equal_api_Field (s_slices_Equal_api_Field e5) rfl ⟨.same rfl, .same rfl, trivial⟩ ?_
       try simp [← e2, ← e3, ← e4]
       intros; rfl
      obtain rfl := Option.some.inj h
      refine nP_i ?_
      refine Weak.mixN [] hn0 (by decide) ?_ ?_ rfl
      all_goals first | (simp [inv_cons, inv_nil, pickOb]; done) | rfl
    | false =>
     replace h := iteF rfl h
     apply AW.last
     ·simp [← e2, ← e3, ← e4]
      intros; rfl
     obtain rfl := Option.some.inj h
     refine nP_i ?_
     refine Weak.mixN [] hn0 (by decide) ?_ ?_ rfl
     all_goals first | (simp [inv_cons, inv_nil, pickOb]; done) | rfl
   | false =>
    replace h := iteF rfl h
    apply AW.last
    ·simp [← e2, ← e3]
     intros; rfl
    obtain rfl := Option.some.inj h
    refine nP_i ?_
    refine Weak.mixN [] hn0 (by decide) ?_ ?_ rfl
    all_goals first | (simp [inv_cons, inv_nil, pickOb]; done) | rfl
  | false =>
   replace h := iteF rfl h
   apply AW.last
   ·simp [← e2]
    intros; rfl
   obtain rfl := Option.some.inj h
   refine nP_i ?_
   refine Weak.mixN [] hn0 (by decide) ?_ ?_ rfl
   all_goals first | (simp [inv_cons, inv_nil, pickOb]; done) | rfl
 ·rintro e s hp
  obtain ⟨rfl, hw⟩ := hp
  refine ⟨_, hw, ?_⟩
  try simp only [sp_l, sp_r, Post.seq, Post.block, Nat.reduceEqDiff, reduceIte, Nat.zero_ne_one, Nat.one_ne_zero]
  obtain rfl := Option.some.inj h
  refine AW.ret ?_
  refine Left.plain hnb (by simp [Try.f72, resV, resC, comp]; rfl) rfl rfl ?_
  simp
theorem en_item_Same : Enters Try.prog 72 := enters Try.func72 (by kernel_rfl) rfl
def space_Same_1_sh (n : Nat) (a0 : Pair) (a1 : Pair) : Option Bool :=
bn (lt (eqS a0.key a1.key) fun v2 =>
ite' v2 (bn (item_Same_sh n a0.item a1.item) fun v3 =>
some (v3)) (some (false))) fun (y1 : Bool) =>
some y1
set_option maxRecDepth 8000 in
set_option maxHeartbeats 8000000 in
theorem s_space_Same_1 {n : Nat} {a0 : Pair} {a1 : Pair} {r : Bool} (h : space_Same_1_sh n a0 a1 = some r) : Sound Try.prog 100 [.g [.s (.string a0.key), .s (.int .i64 a0.item.kind), .s (.string a0.item.s), .d false 2 (encField a0.item.f), .d false 1 (encS a0.item.l), .s (.int .i64 a0.item.exp)], .g [.s (.string a1.key), .s (.int .i64 a1.item.kind), .s (.string a1.item.s), .d false 2 (encField a1.item.f), .d false 1 (encS a1.item.l), .s (.int .i64 a1.item.exp)]] [] (.l (.s (.bool r))) [] := by
 unfold space_Same_1_sh at h
 refine Sound.of_aw (fn := Try.f100) (c := _) Try.func100 rfl (by simp [Try.f100]) fun cx hG hnb => ?_
 rw [show Try.f100.ntmps = 17 from rfl]
 have hn0 : cx.nb = 0 := hnb
 simp only [st0_mk, initTm, List.map_cons, List.map_nil]
 apply AW.step
 ·simp
  intros; rfl
 replace h := bnE h; obtain ⟨y1, g1, h⟩ := h
 refine AW.flow (p := fun gh ls => (nP (cx := cx) (fun q => (⟨[(4, .l (.s (.bool q)))], [], 17, gh, ls⟩ : St))) y1) ?_ ?_
 ·replace h := g1; clear g1
  replace h := ltE h; obtain ⟨v2, e2, h⟩ := h
  cases v2 with
  | true =>
   replace h := iteT rfl h
   replace h := bnE h; obtain ⟨v3, e3, h⟩ := h
   apply AW.last
   ·simp [← e2]
    intros
    refine xcall_plain en_item_Same (s_item_Same e3) rfl ⟨.same rfl, .same rfl, trivial⟩ ?_
    try simp [← e2]
    intros; rfl
   obtain rfl := Option.some.inj h
   refine nP_i ?_
   refine Weak.mixN [] hn0 (by decide) ?_ ?_ rfl
   all_goals first | (simp [inv_cons, inv_nil, pickOb]; done) | rfl
  | false =>
   replace h := iteF rfl h
   apply AW.last
   ·simp [← e2]
    intros; rfl
   obtain rfl := Option.some.inj h
   refine nP_i ?_
   refine Weak.mixN [] hn0 (by decide) ?_ ?_ rfl
   all_goals first | (simp [inv_cons, inv_nil, pickOb]; done) | rfl
 ·rintro e s hp
  obtain ⟨rfl, hw⟩ := hp
  refine ⟨_, hw, ?_⟩
  try simp only [sp_l, sp_r, Post.seq, Post.block, Nat.reduceEqDiff, reduceIte, Nat.zero_ne_one, Nat.one_ne_zero]
  obtain rfl := Option.some.inj h
  refine AW.ret ?_
  refine Left.plain hnb (by simp [Try.f100, resV, resC, comp]; rfl) rfl rfl ?_
  simp
theorem en_space_Same_1 : Enters Try.prog 100 := enters Try.func100 (by kernel_rfl) rfl
def slices_EqualFunc_api_Pair_sh (n : Nat) (a0 : List Pair) (a1 : List Pair) : Option Bool :=
lt (lenI a0) fun v1 =>
lt (lenI a1) fun v2 =>
lt (neI v1 v2) fun v3 =>
ite' v3 (some false) (bn (iter n (fun (y4 : Int) =>
lt (ltI y4 v1) fun v7 =>
ite' v7 (bn (nth a0 y4) fun v8 =>
bn (nth a1 y4) fun v9 =>
bn (space_Same_1_sh n v8 v9) fun v10 =>
lt (notB v10) fun v11 =>
ite' v11 (some (.inr (.inr false))) (lt (addI .i64 y4 1) fun v12 =>
some (.inl v12))) (some (.inr (.inl ())))) 0) fun (y5 : Unit ⊕ Bool) =>
sm y5 (fun y13 => some true) (fun y14 => some y14))
set_option maxRecDepth 8000 in
set_option maxHeartbeats 8000000 in
theorem s_slices_EqualFunc_api_Pair {n : Nat} {a0 : List Pair} {a1 : List Pair} {r : Bool} (h : slices_EqualFunc_api_Pair_sh n a0 a1 = some r) : Sound Try.prog 99 [.l (.d false 6 (encPair a0)), .l (.d false 6 (encPair a1)), .l (.s (.func (.func 100) #[] #[]))] [] (.l (.s (.bool r))) [] := by
 unfold slices_EqualFunc_api_Pair_sh at h
 refine Sound.of_aw (fn := Try.f99) (c := _) Try.func99 rfl (by simp [Try.f99]) fun cx hG hnb => ?_
 rw [show Try.f99.ntmps = 32 from rfl]
 have hn0 : cx.nb = 0 := hnb
 simp only [st0_mk, initTm, List.map_cons, List.map_nil]
 apply AW.step
 ·simp
  intros; rfl
 refine AW.seq ?_
 replace h := ltE h; obtain ⟨v1, e1, h⟩ := h
 replace h := ltE h; obtain ⟨v2, e2, h⟩ := h
 replace h := ltE h; obtain ⟨v3, e3, h⟩ := h
 apply AW.step
 ·simp [lenI_cast e1, lenI_cast e2, ← e3]
  intros; rfl
 cases v3 with
 | true =>
  replace h := iteT rfl h
  refine AW.cond_true (by simp) ?_
  apply AW.step
  ·simp
   intros; rfl
  obtain rfl := Option.some.inj h
  refine AW.ret ?_
  refine Left.plain hnb (by simp [Try.f99, resV, resC, comp]; rfl) rfl rfl ?_
  simp
 | false =>
  replace h := iteF rfl h
  refine AW.cond_false (by simp) ?_
  refine AW.skip ?_
  try simp only [sp_l, sp_r, Post.seq, Post.block, Nat.reduceEqDiff, reduceIte, Nat.zero_ne_one, Nat.one_ne_zero]
  try simp only [sp_l, sp_r, Post.seq, Post.block, Nat.reduceEqDiff, reduceIte, Nat.zero_ne_one, Nat.one_ne_zero]
  refine AW.seq ?_
  apply AW.step
  ·simp [lenI_cast e1]
   intros; rfl
  refine AW.block ?_
  replace h := bnE h; obtain ⟨y5, g5, h⟩ := h
  refine AW.iterP g5 (mk := fun gh ls q => (⟨[(1, .l (.d false 6 (encPair a1))), (2, .l (.s (.func (.func 100) #[] #[]))), (15, .l (.d false 6 (encPair a0))), (16, .l (.s (.int .i64 v1))), (17, .l (.s (.int .i64 q)))], [], 32, gh, ls⟩ : St)) (N := fun gh ls => (sp (xP 0 (cx := cx) (fun _ => (⟨[], [], 32, gh, ls⟩ : St))) (rP (cx := cx) (P := Try.prog) Try.f99 (fun q => .l (.s (.bool q))) (fun q => [])))) ?_ (noS noX noR) ?_ ?_
  ·refine Weak.mixN [] hn0 (by decide) ?_ ?_ rfl
   all_goals first | (simp [inv_cons, inv_nil, pickOb]; done) | rfl
  ·clear h; intro y4 y6 h
   replace h := ltE h; obtain ⟨v7, e7, h⟩ := h
   apply AW.step
   ·simp [← e7]
    intros; rfl
   refine AW.seq ?_
   cases v7 with
   | true =>
    replace h := iteT rfl h
    refine AW.cond_true (by simp) ?_
    refine AW.skip ?_
    try simp only [sp_l, sp_r, Post.seq, Post.block, Nat.reduceEqDiff, reduceIte, Nat.zero_ne_one, Nat.one_ne_zero]
    try simp only [sp_l, sp_r, Post.seq, Post.block, Nat.reduceEqDiff, reduceIte, Nat.zero_ne_one, Nat.one_ne_zero]
    refine AW.seq ?_
    refine AW.block ?_
    replace h := bnE h; obtain ⟨v8, e8, h⟩ := h
    apply AW.step
    ·simp [nth_d e8]
     intros; rfl
    replace h := bnE h; obtain ⟨v9, e9, h⟩ := h
    apply AW.step
    ·simp [nth_d e9]
     intros; rfl
    replace h := bnE h; obtain ⟨v10, e10, h⟩ := h
    replace h := ltE h; obtain ⟨v11, e11, h⟩ := h
    apply AW.step
    ·simp [← e11]
     intros
     refine xcall_plain en_space_Same_1 (s_space_Same_1 e10) rfl ⟨.same rfl, .same rfl, trivial⟩ ?_
     try simp [← e11]
     intros; rfl
    cases v11 with
    | true =>
     replace h := iteT rfl h
     refine AW.cond_true (by simp) ?_
     apply AW.step
     ·simp
      intros; rfl
     obtain rfl := Option.some.inj h
     refine AW.ret ?_
     try simp only [sp_l, sp_r, Post.seq, Post.block, Nat.reduceEqDiff, reduceIte, Nat.zero_ne_one, Nat.one_ne_zero]
     refine rP_i ?_
     refine Left.plain hnb (by simp [Try.f99, resV, resC, comp]; rfl) rfl rfl ?_
     simp
    | false =>
     replace h := iteF rfl h
     refine AW.cond_false (by simp) ?_
     refine AW.skip ?_
     try simp only [sp_l, sp_r, Post.seq, Post.block, Nat.reduceEqDiff, reduceIte, Nat.zero_ne_one, Nat.one_ne_zero]
     try simp only [sp_l, sp_r, Post.seq, Post.block, Nat.reduceEqDiff, reduceIte, Nat.zero_ne_one, Nat.one_ne_zero]
     replace h := ltE h; obtain ⟨v12, e12, h⟩ := h
     apply AW.last
     ·simp [← e12]
      intros; rfl
     obtain rfl := Option.some.inj h
     refine nP_i ?_
     refine Weak.mixN [] hn0 (by decide) ?_ ?_ rfl
     all_goals first | (simp [inv_cons, inv_nil, pickOb]; done) | rfl
   | false =>
    replace h := iteF rfl h
    refine AW.cond_false (by simp) ?_
    refine AW.exit ?_
    try simp only [sp_l, sp_r, Post.seq, Post.block, Nat.reduceEqDiff, reduceIte, Nat.zero_ne_one, Nat.one_ne_zero]
    obtain rfl := Option.some.inj h
    try simp only [sp_l, sp_r]
    refine xP_i ?_
    refine Weak.mixN [] hn0 (by decide) ?_ ?_ rfl
    all_goals first | (simp [inv_cons, inv_nil, pickOb]; done) | rfl
  ·rintro e s hp
   rcases y5 with y13 | y14
   ·replace h := smL h
    obtain ⟨rfl, hw⟩ := hp
    refine ⟨_, hw, ?_⟩
    try simp only [sp_l, sp_r, Post.seq, Post.block, Nat.reduceEqDiff, reduceIte, Nat.zero_ne_one, Nat.one_ne_zero]
    apply AW.step
    ·simp
     intros; rfl
    obtain rfl := Option.some.inj h
    refine AW.ret ?_
    refine Left.plain hnb (by simp [Try.f99, resV, resC, comp]; rfl) rfl rfl ?_
    simp
   ·replace h := smR h
    obtain ⟨rfl, hl⟩ := hp
    refine ⟨_, Weak.refl _, ?_⟩
    obtain rfl := Option.some.inj h
    exact hl
theorem en_slices_EqualFunc_api_Pair : Enters Try.prog 99 := enters Try.func99 (by kernel_rfl) rfl
def space_Same_sh (n : Nat) (a0 : List Pair) (a1 : List Pair) : Option Bool :=
bn (slices_EqualFunc_api_Pair_sh n a0 a1) fun v1 =>
some v1
set_option maxRecDepth 8000 in
set_option maxHeartbeats 8000000 in
theorem s_space_Same {n : Nat} {a0 : List Pair} {a1 : List Pair} {r : Bool} (h : space_Same_sh n a0 a1 = some r) : Sound Try.prog 60 [.l (.d false 6 (encPair a0)), .l (.d false 6 (encPair a1))] [] (.l (.s (.bool r))) [] := by
 unfold space_Same_sh at h
 refine Sound.of_aw (fn := Try.f60) (c := _) Try.func60 rfl (by simp [Try.f60]) fun cx hG hnb => ?_
 rw [show Try.f60.ntmps = 8 from rfl]
 have hn0 : cx.nb = 0 := hnb
 simp only [st0_mk, initTm, List.map_cons, List.map_nil]
 apply AW.step
 ·simp
  intros; rfl
 replace h := bnE h; obtain ⟨v1, e1, h⟩ := h
 apply AW.step
 ·simp
  intros
  refine xcall_plain en_slices_EqualFunc_api_Pair (s_slices_EqualFunc_api_Pair e1) rfl ⟨.same rfl, .same rfl, .same rfl, trivial⟩ ?_
  try simp
  intros; rfl
 obtain rfl := Option.some.inj h
 refine AW.ret ?_
 refine Left.plain hnb (by simp [Try.f60, resV, resC, comp]; rfl) rfl rfl ?_
 simp
theorem en_space_Same : Enters Try.prog 60 := enters Try.func60 (by kernel_rfl) rfl
def space_keys_sh (n : Nat) (a0 : List Pair) (a1 : Int) : Option (List Pair × Int) :=
some (a0, a1)
set_option maxRecDepth 8000 in
set_option maxHeartbeats 8000000 in
theorem s_space_keys {n : Nat} {a0 : List Pair} {a1 : Int} {r : List Pair × Int} (h : space_keys_sh n a0 a1 = some r) : Sound Try.prog 92 [.l (.d false 6 (encPair a0)), .l (.s (.int .i64 a1))] [] (.l (.f 118 [0, 1])) [some ⟨56, 1, false, none, [.d false 6 (encPair r.1)]⟩, some ⟨3, 1, false, none, [.s (.int .i64 r.2)]⟩] := by
 unfold space_keys_sh at h
 refine Sound.of_aw (fn := Try.f92) (c := _) Try.func92 rfl (by simp [Try.f92]) fun cx hG hnb => ?_
 rw [show Try.f92.ntmps = 6 from rfl]
 have hn0 : cx.nb = 0 := hnb
 simp only [st0_mk, initTm, List.map_cons, List.map_nil]
 apply AW.step
 ·simp
  intros; rfl
 apply AW.step
 ·simp
  intros; rfl
 obtain rfl := Option.some.inj h
 refine AW.ret ?_
 refine Left.of (av := _) (by simp [Try.f92, resV, resC, comp]; rfl) ?_
 exact LeftV.mix 0 [some 0, some 1] hn0 rfl (by decide) rfl (by simp [pickOb, inv_cons, inv_nil]) (by simp [inv_cons, inv_nil])
theorem en_space_keys : Enters Try.prog 92 := enters Try.func92 (by kernel_rfl) rfl
def stringslite_IndexByte_sh (n : Nat) (a0 : ByteArray) (a1 : Int) : Option Int :=
lt (idxB a0 a1) fun v1 =>
some v1
set_option maxRecDepth 8000 in
set_option maxHeartbeats 8000000 in
theorem s_stringslite_IndexByte {n : Nat} {a0 : ByteArray} {a1 : Int} {r : Int} (h : stringslite_IndexByte_sh n a0 a1 = some r) : Sound Try.prog 146 [.l (.s (.string a0)), .l (.s (.int .u8 a1))] [] (.l (.s (.int .i64 r))) [] := by
 unfold stringslite_IndexByte_sh at h
 refine Sound.of_aw (fn := Try.f146) (c := _) Try.func146 rfl (by simp [Try.f146]) fun cx hG hnb => ?_
 rw [show Try.f146.ntmps = 8 from rfl]
 have hn0 : cx.nb = 0 := hnb
 simp only [st0_mk, initTm, List.map_cons, List.map_nil]
 apply AW.step
 ·simp
  intros; rfl
 replace h := ltE h; obtain ⟨v1, e1, h⟩ := h
 apply AW.step
 ·simp [← e1]
  intros
  refine xcall_idxB Try.func150 (by kernel_rfl) (by kernel_rfl) (by kernel_rfl) (by kernel_rfl) ?_
  try simp [← e1]
  intros; rfl
 obtain rfl := Option.some.inj h
 refine AW.ret ?_
 refine Left.plain hnb (by simp [Try.f146, resV, resC, comp]; rfl) rfl rfl ?_
 simp
theorem en_stringslite_IndexByte : Enters Try.prog 146 := enters Try.func146 (by kernel_rfl) rfl
def stringslite_Index_sh (n : Nat) (a0 : ByteArray) : Option Int :=
lt (eqS ⟨#[123]⟩ a0) fun v1 =>
ite' v1 (some 0) (bn (stringslite_IndexByte_sh n a0 123) fun v2 =>
some v2)
set_option maxRecDepth 8000 in
set_option maxHeartbeats 8000000 in
theorem s_stringslite_Index {n : Nat} {a0 : ByteArray} {r : Int} (h : stringslite_Index_sh n a0 = some r) : Sound Try.prog 145 [.l (.s (.string a0)), .l (.s (.string ⟨#[123]⟩))] [] (.l (.s (.int .i64 r))) [] := by
 unfold stringslite_Index_sh at h
 refine Sound.of_aw (fn := Try.f145) (c := _) Try.func145 rfl (by simp [Try.f145]) fun cx hG hnb => ?_
 rw [show Try.f145.ntmps = 143 from rfl]
 have hn0 : cx.nb = 0 := hnb
 simp only [st0_mk, initTm, List.map_cons, List.map_nil]
 apply AW.step
 ·simp
  intros; rfl
 apply AW.step
 ·simp [(show lenS ⟨#[123]⟩ = 1 from rfl)]
  intros; rfl
 refine AW.seq ?_
 refine AW.block ?_
 replace h := ltE h; obtain ⟨v1, e1, h⟩ := h
 apply AW.step
 ·simp [(show eqI 1 0 = false from rfl), ← e1]
  intros; rfl
 cases v1 with
 | true =>
  replace h := iteT rfl h
  refine AW.cond_true (by simp) ?_
  apply AW.step
  ·simp
   intros; rfl
  obtain rfl := Option.some.inj h
  refine AW.ret ?_
  refine Left.plain hnb (by simp [Try.f145, resV, resC, comp]; rfl) rfl rfl ?_
  simp
 | false =>
  replace h := iteF rfl h
  refine AW.cond_false (by simp) ?_
  apply AW.step
  ·simp [(show eqI 1 1 = true from rfl)]
   intros; rfl
  refine AW.cond_true (by simp) ?_
  replace h := bnE h; obtain ⟨v2, e2, h⟩ := h
  apply AW.step
  ·simp [(show (0 : Nat) < ByteArray.size ⟨#[123]⟩ by decide), (show bAt ⟨#[123]⟩ 0 = 123 from rfl)]
   intros
   refine xcall_plain en_stringslite_IndexByte (s_stringslite_IndexByte e2) rfl ⟨.same rfl, .same rfl, trivial⟩ ?_
   try simp [(show (0 : Nat) < ByteArray.size ⟨#[123]⟩ by decide), (show bAt ⟨#[123]⟩ 0 = 123 from rfl)]
   intros; rfl
  obtain rfl := Option.some.inj h
  refine AW.ret ?_
  refine Left.plain hnb (by simp [Try.f145, resV, resC, comp]; rfl) rfl rfl ?_
  simp
theorem en_stringslite_Index : Enters Try.prog 145 := enters Try.func145 (by kernel_rfl) rfl
def stringslite_Cut_sh (n : Nat) (a0 : ByteArray) : Option (ByteArray × ByteArray × Bool) :=
bn (stringslite_Index_sh n a0) fun v1 =>
lt (geI v1 0) fun v2 =>
ite' v2 (bn (segSh a0 v1) fun v3 =>
lt (addI .i64 v1 1) fun v5 =>
bn (segSl a0 v5) fun v6 =>
some (v3, v6, true)) (some (a0, ⟨#[]⟩, false))
set_option maxRecDepth 8000 in
set_option maxHeartbeats 8000000 in
theorem s_stringslite_Cut {n : Nat} {a0 : ByteArray} {r : ByteArray × ByteArray × Bool} (h : stringslite_Cut_sh n a0 = some r) : Sound Try.prog 144 [.l (.s (.string a0)), .l (.s (.string ⟨#[123]⟩))] [] (.t [(false, [.s (.string r.1)]), (false, [.s (.string r.2.1)]), (false, [.s (.bool r.2.2)])]) [] := by
 unfold stringslite_Cut_sh at h
 refine Sound.of_aw (fn := Try.f144) (c := _) Try.func144 rfl (by simp [Try.f144]) fun cx hG hnb => ?_
 rw [show Try.f144.ntmps = 23 from rfl]
 have hn0 : cx.nb = 0 := hnb
 simp only [st0_mk, initTm, List.map_cons, List.map_nil]
 apply AW.step
 ·simp
  intros; rfl
 refine AW.seq ?_
 replace h := bnE h; obtain ⟨v1, e1, h⟩ := h
 apply AW.step
 ·simp
  intros
  refine xcall_plain en_stringslite_Index (s_stringslite_Index e1) rfl ⟨.same rfl, .same rfl, trivial⟩ ?_
  try simp
  intros; rfl
 replace h := ltE h; obtain ⟨v2, e2, h⟩ := h
 apply AW.step
 ·simp [← e2]
  intros; rfl
 cases v2 with
 | true =>
  replace h := iteT rfl h
  refine AW.cond_true (by simp) ?_
  replace h := bnE h; obtain ⟨v3, e3, h⟩ := h
  have f4 := segSh_d e3
  try simp at f4
  replace h := ltE h; obtain ⟨v5, e5, h⟩ := h
  replace h := bnE h; obtain ⟨v6, e6, h⟩ := h
  have f7 := segSl_d e6
  try simp [f4, (show lenS ⟨#[123]⟩ = 1 from rfl), ← e5] at f7
  apply AW.drawnP (V := [_, _, _, _, _, _, _, _, _, _]) mixed [⟨[0], [], [(0, none)], false⟩, ⟨[0], [], [(7, none)], false⟩, ⟨[0], [0, 1], [(13, some 0), (14, some 1)], false⟩, ⟨[0], [], [(0, none)], false⟩, ⟨[0], [], [(7, none)], false⟩, ⟨[0], [], [(1, none)], false⟩, ⟨[0], [5], [(18, some 5)], false⟩, ⟨[0], [4, 5, 6], [(17, some 4), (19, some 6)], false⟩, ⟨[0], [3, 4, 5, 6, 7], [(16, some 3), (20, some 7)], false⟩, ⟨[0], [0, 1, 2], [(15, some 2)], false⟩, ⟨[], [0, 1, 2, 3, 4, 5, 6, 7, 8, 9], [], false⟩, ⟨[], [0, 1, 2, 3, 4, 5, 6, 7, 8, 9, 10], [], false⟩] 10 (by kernel_rfl) (by kernel_rfl)
  ·refine ⟨?_, ?_, ?_, ?_, ?_, ?_, ?_, ?_, ?_, ?_, trivial⟩
   ·intro tm hr
    simp [AllL, rdV] at hr
    simp [hr, f4, (show lenS ⟨#[123]⟩ = 1 from rfl), ← e5, f7]
    intros; first | exact KD.mk | exact KD.mkN
   ·intro tm hr
    simp [AllL, rdV] at hr
    simp [hr, f4, (show lenS ⟨#[123]⟩ = 1 from rfl), ← e5, f7]
    intros; first | exact KD.mk | exact KD.mkN
   ·intro tm hr
    simp [AllL, rdV] at hr
    simp [hr, f4, (show lenS ⟨#[123]⟩ = 1 from rfl), ← e5, f7]
    intros; first | exact KD.mk | exact KD.mkN
   ·intro tm hr
    simp [AllL, rdV] at hr
    simp [hr, f4, (show lenS ⟨#[123]⟩ = 1 from rfl), ← e5, f7]
    intros; first | exact KD.mk | exact KD.mkN
   ·intro tm hr
    simp [AllL, rdV] at hr
    simp [hr, f4, (show lenS ⟨#[123]⟩ = 1 from rfl), ← e5, f7]
    intros; first | exact KD.mk | exact KD.mkN
   ·intro tm hr
    simp [AllL, rdV] at hr
    simp [hr, f4, (show lenS ⟨#[123]⟩ = 1 from rfl), ← e5, f7]
    intros; first | exact KD.mk | exact KD.mkN
   ·intro tm hr
    simp [AllL, rdV] at hr
    simp [hr, f4, (show lenS ⟨#[123]⟩ = 1 from rfl), ← e5, f7]
    intros; first | exact KD.mk | exact KD.mkN
   ·intro tm hr
    simp [AllL, rdV] at hr
    simp [hr, f4, (show lenS ⟨#[123]⟩ = 1 from rfl), ← e5, f7]
    intros; first | exact KD.mk | exact KD.mkN
   ·intro tm hr
    simp [AllL, rdV] at hr
    simp [hr, f4, (show lenS ⟨#[123]⟩ = 1 from rfl), ← e5, f7]
    intros; first | exact KD.mk | exact KD.mkN
   ·intro tm hr
    simp [AllL, rdV] at hr
    simp [hr, f4, (show lenS ⟨#[123]⟩ = 1 from rfl), ← e5, f7]
    intros; first | exact KD.mk | exact KD.mkN
  ·rfl
  ·simp [tmD, putD, f4, (show lenS ⟨#[123]⟩ = 1 from rfl), ← e5, f7]; rfl
  ·simp [f4, (show lenS ⟨#[123]⟩ = 1 from rfl), ← e5, f7]
   intros; rfl
  obtain rfl := Option.some.inj h
  refine AW.ret ?_
  refine Left.plain hnb (by simp [Try.f144, resV, resC, comp]; rfl) rfl rfl ?_
  simp
 | false =>
  replace h := iteF rfl h
  refine AW.cond_false (by simp) ?_
  refine AW.skip ?_
  try simp only [sp_l, sp_r, Post.seq, Post.block, Nat.reduceEqDiff, reduceIte, Nat.zero_ne_one, Nat.one_ne_zero]
  try simp only [sp_l, sp_r, Post.seq, Post.block, Nat.reduceEqDiff, reduceIte, Nat.zero_ne_one, Nat.one_ne_zero]
  apply AW.step
  ·simp
   intros; rfl
  obtain rfl := Option.some.inj h
  refine AW.ret ?_
  refine Left.plain hnb (by simp [Try.f144, resV, resC, comp]; rfl) rfl rfl ?_
  simp
theorem en_stringslite_Cut : Enters Try.prog 144 := enters Try.func144 (by kernel_rfl) rfl
def strings_Cut_sh (n : Nat) (a0 : ByteArray) : Option (ByteArray × ByteArray × Bool) :=
bn (stringslite_Cut_sh n a0) fun v1 =>
some (v1.1, v1.2.1, v1.2.2)
set_option maxRecDepth 8000 in
set_option maxHeartbeats 8000000 in
theorem s_strings_Cut {n : Nat} {a0 : ByteArray} {r : ByteArray × ByteArray × Bool} (h : strings_Cut_sh n a0 = some r) : Sound Try.prog 140 [.l (.s (.string a0)), .l (.s (.string ⟨#[123]⟩))] [] (.t [(false, [.s (.string r.1)]), (false, [.s (.string r.2.1)]), (false, [.s (.bool r.2.2)])]) [] := by
 unfold strings_Cut_sh at h
 refine Sound.of_aw (fn := Try.f140) (c := _) Try.func140 rfl (by simp [Try.f140]) fun cx hG hnb => ?_
 rw [show Try.f140.ntmps = 13 from rfl]
 have hn0 : cx.nb = 0 := hnb
 simp only [st0_mk, initTm, List.map_cons, List.map_nil]
 apply AW.step
 ·simp
  intros; rfl
 replace h := bnE h; obtain ⟨v1, e1, h⟩ := h
 apply AW.step
 ·simp
  intros
  refine xcall_plain en_stringslite_Cut (s_stringslite_Cut e1) rfl ⟨.same rfl, .same rfl, trivial⟩ ?_
  try simp
  intros; rfl
 obtain rfl := Option.some.inj h
 refine AW.ret ?_
 refine Left.plain hnb (by simp [Try.f140, resV, resC, comp]; rfl) rfl rfl ?_
 simp
theorem en_strings_Cut : Enters Try.prog 140 := enters Try.func140 (by kernel_rfl) rfl
def stringslite_Index_fx_sh (n : Nat) (a0 : ByteArray) : Option Int :=
lt (eqS ⟨#[125]⟩ a0) fun v1 =>
ite' v1 (some 0) (bn (stringslite_IndexByte_sh n a0 125) fun v2 =>
some v2)
set_option maxRecDepth 8000 in
set_option maxHeartbeats 8000000 in
theorem s_stringslite_Index_fx {n : Nat} {a0 : ByteArray} {r : Int} (h : stringslite_Index_fx_sh n a0 = some r) : Sound Try.prog 145 [.l (.s (.string a0)), .l (.s (.string ⟨#[125]⟩))] [] (.l (.s (.int .i64 r))) [] := by
 unfold stringslite_Index_fx_sh at h
 refine Sound.of_aw (fn := Try.f145) (c := _) Try.func145 rfl (by simp [Try.f145]) fun cx hG hnb => ?_
 rw [show Try.f145.ntmps = 143 from rfl]
 have hn0 : cx.nb = 0 := hnb
 simp only [st0_mk, initTm, List.map_cons, List.map_nil]
 apply AW.step
 ·simp
  intros; rfl
 apply AW.step
 ·simp [(show lenS ⟨#[125]⟩ = 1 from rfl)]
  intros; rfl
 refine AW.seq ?_
 refine AW.block ?_
 replace h := ltE h; obtain ⟨v1, e1, h⟩ := h
 apply AW.step
 ·simp [(show eqI 1 0 = false from rfl), ← e1]
  intros; rfl
 cases v1 with
 | true =>
  replace h := iteT rfl h
  refine AW.cond_true (by simp) ?_
  apply AW.step
  ·simp
   intros; rfl
  obtain rfl := Option.some.inj h
  refine AW.ret ?_
  refine Left.plain hnb (by simp [Try.f145, resV, resC, comp]; rfl) rfl rfl ?_
  simp
 | false =>
  replace h := iteF rfl h
  refine AW.cond_false (by simp) ?_
  apply AW.step
  ·simp [(show eqI 1 1 = true from rfl)]
   intros; rfl
  refine AW.cond_true (by simp) ?_
  replace h := bnE h; obtain ⟨v2, e2, h⟩ := h
  apply AW.step
  ·simp [(show (0 : Nat) < ByteArray.size ⟨#[125]⟩ by decide), (show bAt ⟨#[125]⟩ 0 = 125 from rfl)]
   intros
   refine xcall_plain en_stringslite_IndexByte (s_stringslite_IndexByte e2) rfl ⟨.same rfl, .same rfl, trivial⟩ ?_
   try simp [(show (0 : Nat) < ByteArray.size ⟨#[125]⟩ by decide), (show bAt ⟨#[125]⟩ 0 = 125 from rfl)]
   intros; rfl
  obtain rfl := Option.some.inj h
  refine AW.ret ?_
  refine Left.plain hnb (by simp [Try.f145, resV, resC, comp]; rfl) rfl rfl ?_
  simp
theorem en_stringslite_Index_fx : Enters Try.prog 145 := enters Try.func145 (by kernel_rfl) rfl
def stringslite_Cut_fx_sh (n : Nat) (a0 : ByteArray) : Option (ByteArray × ByteArray × Bool) :=
bn (stringslite_Index_fx_sh n a0) fun v1 =>
lt (geI v1 0) fun v2 =>
ite' v2 (bn (segSh a0 v1) fun v3 =>
lt (addI .i64 v1 1) fun v5 =>
bn (segSl a0 v5) fun v6 =>
some (v3, v6, true)) (some (a0, ⟨#[]⟩, false))
set_option maxRecDepth 8000 in
set_option maxHeartbeats 8000000 in
theorem s_stringslite_Cut_fx {n : Nat} {a0 : ByteArray} {r : ByteArray × ByteArray × Bool} (h : stringslite_Cut_fx_sh n a0 = some r) : Sound Try.prog 144 [.l (.s (.string a0)), .l (.s (.string ⟨#[125]⟩))] [] (.t [(false, [.s (.string r.1)]), (false, [.s (.string r.2.1)]), (false, [.s (.bool r.2.2)])]) [] := by
 unfold stringslite_Cut_fx_sh at h
 refine Sound.of_aw (fn := Try.f144) (c := _) Try.func144 rfl (by simp [Try.f144]) fun cx hG hnb => ?_
 rw [show Try.f144.ntmps = 23 from rfl]
 have hn0 : cx.nb = 0 := hnb
 simp only [st0_mk, initTm, List.map_cons, List.map_nil]
 apply AW.step
 ·simp
  intros; rfl
 refine AW.seq ?_
 replace h := bnE h; obtain ⟨v1, e1, h⟩ := h
 apply AW.step
 ·simp
  intros
  refine xcall_plain en_stringslite_Index_fx (s_stringslite_Index_fx e1) rfl ⟨.same rfl, .same rfl, trivial⟩ ?_
  try simp
  intros; rfl
 replace h := ltE h; obtain ⟨v2, e2, h⟩ := h
 apply AW.step
 ·simp [← e2]
  intros; rfl
 cases v2 with
 | true =>
  replace h := iteT rfl h
  refine AW.cond_true (by simp) ?_
  replace h := bnE h; obtain ⟨v3, e3, h⟩ := h
  have f4 := segSh_d e3
  try simp at f4
  replace h := ltE h; obtain ⟨v5, e5, h⟩ := h
  replace h := bnE h; obtain ⟨v6, e6, h⟩ := h
  have f7 := segSl_d e6
  try simp [f4, (show lenS ⟨#[125]⟩ = 1 from rfl), ← e5] at f7
  apply AW.drawnP (V := [_, _, _, _, _, _, _, _, _, _]) mixed [⟨[0], [], [(0, none)], false⟩, ⟨[0], [], [(7, none)], false⟩, ⟨[0], [0, 1], [(13, some 0), (14, some 1)], false⟩, ⟨[0], [], [(0, none)], false⟩, ⟨[0], [], [(7, none)], false⟩, ⟨[0], [], [(1, none)], false⟩, ⟨[0], [5], [(18, some 5)], false⟩, ⟨[0], [4, 5, 6], [(17, some 4), (19, some 6)], false⟩, ⟨[0], [3, 4, 5, 6, 7], [(16, some 3), (20, some 7)], false⟩, ⟨[0], [0, 1, 2], [(15, some 2)], false⟩, ⟨[], [0, 1, 2, 3, 4, 5, 6, 7, 8, 9], [], false⟩, ⟨[], [0, 1, 2, 3, 4, 5, 6, 7, 8, 9, 10], [], false⟩] 10 (by kernel_rfl) (by kernel_rfl)
  ·refine ⟨?_, ?_, ?_, ?_, ?_, ?_, ?_, ?_, ?_, ?_, trivial⟩
   ·intro tm hr
    simp [AllL, rdV] at hr
    simp [hr, f4, (show lenS ⟨#[125]⟩ = 1 from rfl), ← e5, f7]
    intros; first | exact KD.mk | exact KD.mkN
   ·intro tm hr
    simp [AllL, rdV] at hr
    simp [hr, f4, (show lenS ⟨#[125]⟩ = 1 from rfl), ← e5, f7]
    intros; first | exact KD.mk | exact KD.mkN
   ·intro tm hr
    simp [AllL, rdV] at hr
    simp [hr, f4, (show lenS ⟨#[125]⟩ = 1 from rfl), ← e5, f7]
    intros; first | exact KD.mk | exact KD.mkN
   ·intro tm hr
    simp [AllL, rdV] at hr
    simp [hr, f4, (show lenS ⟨#[125]⟩ = 1 from rfl), ← e5, f7]
    intros; first | exact KD.mk | exact KD.mkN
   ·intro tm hr
    simp [AllL, rdV] at hr
    simp [hr, f4, (show lenS ⟨#[125]⟩ = 1 from rfl), ← e5, f7]
    intros; first | exact KD.mk | exact KD.mkN
   ·intro tm hr
    simp [AllL, rdV] at hr
    simp [hr, f4, (show lenS ⟨#[125]⟩ = 1 from rfl), ← e5, f7]
    intros; first | exact KD.mk | exact KD.mkN
   ·intro tm hr
    simp [AllL, rdV] at hr
    simp [hr, f4, (show lenS ⟨#[125]⟩ = 1 from rfl), ← e5, f7]
    intros; first | exact KD.mk | exact KD.mkN
   ·intro tm hr
    simp [AllL, rdV] at hr
    simp [hr, f4, (show lenS ⟨#[125]⟩ = 1 from rfl), ← e5, f7]
    intros; first | exact KD.mk | exact KD.mkN
   ·intro tm hr
    simp [AllL, rdV] at hr
    simp [hr, f4, (show lenS ⟨#[125]⟩ = 1 from rfl), ← e5, f7]
    intros; first | exact KD.mk | exact KD.mkN
   ·intro tm hr
    simp [AllL, rdV] at hr
    simp [hr, f4, (show lenS ⟨#[125]⟩ = 1 from rfl), ← e5, f7]
    intros; first | exact KD.mk | exact KD.mkN
  ·rfl
  ·simp [tmD, putD, f4, (show lenS ⟨#[125]⟩ = 1 from rfl), ← e5, f7]; rfl
  ·simp [f4, (show lenS ⟨#[125]⟩ = 1 from rfl), ← e5, f7]
   intros; rfl
  obtain rfl := Option.some.inj h
  refine AW.ret ?_
  refine Left.plain hnb (by simp [Try.f144, resV, resC, comp]; rfl) rfl rfl ?_
  simp
 | false =>
  replace h := iteF rfl h
  refine AW.cond_false (by simp) ?_
  refine AW.skip ?_
  try simp only [sp_l, sp_r, Post.seq, Post.block, Nat.reduceEqDiff, reduceIte, Nat.zero_ne_one, Nat.one_ne_zero]
  try simp only [sp_l, sp_r, Post.seq, Post.block, Nat.reduceEqDiff, reduceIte, Nat.zero_ne_one, Nat.one_ne_zero]
  apply AW.step
  ·simp
   intros; rfl
  obtain rfl := Option.some.inj h
  refine AW.ret ?_
  refine Left.plain hnb (by simp [Try.f144, resV, resC, comp]; rfl) rfl rfl ?_
  simp
theorem en_stringslite_Cut_fx : Enters Try.prog 144 := enters Try.func144 (by kernel_rfl) rfl
def strings_Cut_fx_sh (n : Nat) (a0 : ByteArray) : Option (ByteArray × ByteArray × Bool) :=
bn (stringslite_Cut_fx_sh n a0) fun v1 =>
some (v1.1, v1.2.1, v1.2.2)
set_option maxRecDepth 8000 in
set_option maxHeartbeats 8000000 in
theorem s_strings_Cut_fx {n : Nat} {a0 : ByteArray} {r : ByteArray × ByteArray × Bool} (h : strings_Cut_fx_sh n a0 = some r) : Sound Try.prog 140 [.l (.s (.string a0)), .l (.s (.string ⟨#[125]⟩))] [] (.t [(false, [.s (.string r.1)]), (false, [.s (.string r.2.1)]), (false, [.s (.bool r.2.2)])]) [] := by
 unfold strings_Cut_fx_sh at h
 refine Sound.of_aw (fn := Try.f140) (c := _) Try.func140 rfl (by simp [Try.f140]) fun cx hG hnb => ?_
 rw [show Try.f140.ntmps = 13 from rfl]
 have hn0 : cx.nb = 0 := hnb
 simp only [st0_mk, initTm, List.map_cons, List.map_nil]
 apply AW.step
 ·simp
  intros; rfl
 replace h := bnE h; obtain ⟨v1, e1, h⟩ := h
 apply AW.step
 ·simp
  intros
  refine xcall_plain en_stringslite_Cut_fx (s_stringslite_Cut_fx e1) rfl ⟨.same rfl, .same rfl, trivial⟩ ?_
  try simp
  intros; rfl
 obtain rfl := Option.some.inj h
 refine AW.ret ?_
 refine Left.plain hnb (by simp [Try.f140, resV, resC, comp]; rfl) rfl rfl ?_
 simp
theorem en_strings_Cut_fx : Enters Try.prog 140 := enters Try.func140 (by kernel_rfl) rfl
def slot_Tag_sh (n : Nat) (a0 : ByteArray) : Option ByteArray :=
bn (strings_Cut_sh n a0) fun v1 =>
bn (strings_Cut_fx_sh n v1.2.1) fun v2 =>
bn (lt (v1.2.2) fun v4 =>
ite' v4 (lt (v2.2.2) fun v5 =>
ite' v5 (lt (neS v2.1 ⟨#[]⟩) fun v6 =>
some (v6)) (some (false))) (some (false))) fun (y3 : Bool) =>
lt (y3) fun v7 =>
ite' v7 (some v2.1) (some a0)
set_option maxRecDepth 8000 in
set_option maxHeartbeats 8000000 in
theorem s_slot_Tag {n : Nat} {a0 : ByteArray} {r : ByteArray} (h : slot_Tag_sh n a0 = some r) : Sound Try.prog 131 [.l (.s (.string a0))] [] (.l (.s (.string r))) [] := by
 unfold slot_Tag_sh at h
 refine Sound.of_aw (fn := Try.f131) (c := _) Try.func131 rfl (by simp [Try.f131]) fun cx hG hnb => ?_
 rw [show Try.f131.ntmps = 31 from rfl]
 have hn0 : cx.nb = 0 := hnb
 simp only [st0_mk, initTm, List.map_cons, List.map_nil]
 apply AW.step
 ·simp
  intros; rfl
 replace h := bnE h; obtain ⟨v1, e1, h⟩ := h
 apply AW.step
 ·simp
  intros
  refine xcall_plain en_strings_Cut (s_strings_Cut e1) rfl ⟨.same rfl, .same rfl, trivial⟩ ?_
  try simp
  intros; rfl
 replace h := bnE h; obtain ⟨v2, e2, h⟩ := h
 apply AW.step
 ·simp
  intros
  refine xcall_plain en_strings_Cut_fx (s_strings_Cut_fx e2) rfl ⟨.same rfl, .same rfl, trivial⟩ ?_
  try simp
  intros; rfl
 refine AW.seq ?_
 replace h := bnE h; obtain ⟨y3, g3, h⟩ := h
 refine AW.flow (p := fun gh ls => (nP (cx := cx) (fun q => (⟨[(0, .l (.s (.string a0))), (6, .l (.s (.string v2.1))), (28, .l (.s (.bool q)))], [], 31, gh, ls⟩ : St))) y3) ?_ ?_
 ·replace h := g3; clear g3
  replace h := ltE h; obtain ⟨v4, e4, h⟩ := h
  cases v4 with
  | true =>
   replace h := iteT rfl h
   replace h := ltE h; obtain ⟨v5, e5, h⟩ := h
   cases v5 with
   | true =>
    replace h := iteT rfl h
    replace h := ltE h; obtain ⟨v6, e6, h⟩ := h
    apply AW.last
    ·simp [← e4, ← e5, ← e6]
     intros; rfl
    obtain rfl := Option.some.inj h
    refine nP_i ?_
    refine Weak.mixN [] hn0 (by decide) ?_ ?_ rfl
    all_goals first | (simp [inv_cons, inv_nil, pickOb]; done) | rfl
   | false =>
    replace h := iteF rfl h
    apply AW.last
    ·simp [← e4, ← e5]
     intros; rfl
    obtain rfl := Option.some.inj h
    refine nP_i ?_
    refine Weak.mixN [] hn0 (by decide) ?_ ?_ rfl
    all_goals first | (simp [inv_cons, inv_nil, pickOb]; done) | rfl
  | false =>
   replace h := iteF rfl h
   apply AW.last
   ·simp [← e4]
    intros; rfl
   obtain rfl := Option.some.inj h
   refine nP_i ?_
   refine Weak.mixN [] hn0 (by decide) ?_ ?_ rfl
   all_goals first | (simp [inv_cons, inv_nil, pickOb]; done) | rfl
 ·rintro e s hp
  obtain ⟨rfl, hw⟩ := hp
  refine ⟨_, hw, ?_⟩
  try simp only [sp_l, sp_r, Post.seq, Post.block, Nat.reduceEqDiff, reduceIte, Nat.zero_ne_one, Nat.one_ne_zero]
  replace h := ltE h; obtain ⟨v7, e7, h⟩ := h
  rw [← e7]
  cases v7 with
  | true =>
   replace h := iteT rfl h
   refine AW.cond_true (by simp) ?_
   apply AW.step
   ·simp
    intros; rfl
   obtain rfl := Option.some.inj h
   refine AW.ret ?_
   refine Left.plain hnb (by simp [Try.f131, resV, resC, comp]; rfl) rfl rfl ?_
   simp
  | false =>
   replace h := iteF rfl h
   refine AW.cond_false (by simp) ?_
   refine AW.skip ?_
   try simp only [sp_l, sp_r, Post.seq, Post.block, Nat.reduceEqDiff, reduceIte, Nat.zero_ne_one, Nat.one_ne_zero]
   try simp only [sp_l, sp_r, Post.seq, Post.block, Nat.reduceEqDiff, reduceIte, Nat.zero_ne_one, Nat.one_ne_zero]
   apply AW.step
   ·simp
    intros; rfl
   obtain rfl := Option.some.inj h
   refine AW.ret ?_
   refine Left.plain hnb (by simp [Try.f131, resV, resC, comp]; rfl) rfl rfl ?_
   simp
theorem en_slot_Tag : Enters Try.prog 131 := enters Try.func131 (by kernel_rfl) rfl
def slot_Crc_sh (n : Nat) (a0 : List Int) : Option Int :=
lt (lenI a0) fun v1 =>
bn (iter n (fun (y2 : Int × Int) =>
lt (ltI y2.2 v1) fun v5 =>
ite' v5 (bn (nth a0 y2.2) fun v6 =>
lt (cvI .u16 v6) fun v7 =>
bn (shlI .u16 v7 8) fun v8 =>
lt (xorI .u16 y2.1 v8) fun v9 =>
bn (iter n (fun (y10 : Int × Int) =>
lt (ltI y10.2 8) fun v13 =>
ite' v13 (bn (shrI .u16 y10.1 15) fun v14 =>
bn (shlI .u16 y10.1 1) fun v15 =>
lt (mulI .u16 4129 v14) fun v16 =>
lt (xorI .u16 v15 v16) fun v17 =>
lt (addI .i64 y10.2 1) fun v18 =>
some (.inl (v17, v18))) (some (.inr y10.1))) (v9, 0)) fun (y11 : Int) =>
lt (addI .i64 y2.2 1) fun v19 =>
some (.inl (y11, v19))) (some (.inr y2.1))) (0, 0)) fun (y3 : Int) =>
lt (cvI .i64 y3) fun v20 =>
some v20
set_option maxRecDepth 8000 in
set_option maxHeartbeats 8000000 in
theorem s_slot_Crc {n : Nat} {a0 : List Int} {r : Int} (h : slot_Crc_sh n a0 = some r) : Sound Try.prog 130 [.l (.d false 1 (encU a0))] [] (.l (.s (.int .i64 r))) [] := by
 unfold slot_Crc_sh at h
 refine Sound.of_aw (fn := Try.f130) (c := _) Try.func130 rfl (by simp [Try.f130]) fun cx hG hnb => ?_
 rw [show Try.f130.ntmps = 31 from rfl]
 have hn0 : cx.nb = 0 := hnb
 simp only [st0_mk, initTm, List.map_cons, List.map_nil]
 apply AW.step
 ·simp
  intros; rfl
 apply AW.step
 ·simp
  intros; rfl
 refine AW.seq ?_
 replace h := ltE h; obtain ⟨v1, e1, h⟩ := h
 apply AW.step
 ·simp [lenI_cast e1]
  intros; rfl
 refine AW.block ?_
 replace h := bnE h; obtain ⟨y3, g3, h⟩ := h
 refine AW.iterP g3 (mk := fun gh ls q => (⟨[(3, .l (.s (.int .u16 q.1))), (7, .l (.d false 1 (encU a0))), (8, .l (.s (.int .i64 v1))), (9, .l (.s (.int .i64 q.2)))], [], 31, gh, ls⟩ : St)) (N := fun gh ls => (xP 0 (cx := cx) (fun q => (⟨[(3, .l (.s (.int .u16 q)))], [], 31, gh, ls⟩ : St)))) ?_ noX ?_ ?_
 ·refine Weak.mixN [] hn0 (by decide) ?_ ?_ rfl
  all_goals first | (simp [inv_cons, inv_nil, pickOb]; done) | rfl
 ·clear h; intro y2 y4 h
  replace h := ltE h; obtain ⟨v5, e5, h⟩ := h
  apply AW.step
  ·simp [← e5]
   intros; rfl
  refine AW.seq ?_
  cases v5 with
  | true =>
   replace h := iteT rfl h
   refine AW.cond_true (by simp) ?_
   refine AW.skip ?_
   try simp only [sp_l, sp_r, Post.seq, Post.block, Nat.reduceEqDiff, reduceIte, Nat.zero_ne_one, Nat.one_ne_zero]
   try simp only [sp_l, sp_r, Post.seq, Post.block, Nat.reduceEqDiff, reduceIte, Nat.zero_ne_one, Nat.one_ne_zero]
   refine AW.seq ?_
   refine AW.block ?_
   replace h := bnE h; obtain ⟨v6, e6, h⟩ := h
   apply AW.step
   ·simp [nth_d e6]
    intros; rfl
   replace h := ltE h; obtain ⟨v7, e7, h⟩ := h
   replace h := bnE h; obtain ⟨v8, e8, h⟩ := h
   replace h := ltE h; obtain ⟨v9, e9, h⟩ := h
   apply AW.step
   ·simp [← e7, e8, ← e9]
    intros; rfl
   apply AW.step
   ·simp
    intros; rfl
   refine AW.block ?_
   replace h := bnE h; obtain ⟨y11, g11, h⟩ := h
   refine AW.iterP g11 (mk := fun gh ls q => (⟨[(3, .l (.s (.int .u16 q.1))), (7, .l (.d false 1 (encU a0))), (8, .l (.s (.int .i64 v1))), (9, .l (.s (.int .i64 y2.2))), (18, .l (.s (.int .i64 q.2)))], [], 31, gh, ls⟩ : St)) (N := fun gh ls => (xP 2 (cx := cx) (fun q => (⟨[(3, .l (.s (.int .u16 q))), (7, .l (.d false 1 (encU a0))), (8, .l (.s (.int .i64 v1))), (9, .l (.s (.int .i64 y2.2)))], [], 31, gh, ls⟩ : St)))) ?_ noX ?_ ?_
   ·refine Weak.mixN [] hn0 (by decide) ?_ ?_ rfl
    all_goals first | (simp [inv_cons, inv_nil, pickOb]; done) | rfl
   ·clear h; intro y10 y12 h
    replace h := ltE h; obtain ⟨v13, e13, h⟩ := h
    apply AW.step
    ·simp [← e13]
     intros; rfl
    refine AW.seq ?_
    cases v13 with
    | true =>
     replace h := iteT rfl h
     refine AW.cond_true (by simp) ?_
     refine AW.skip ?_
     try simp only [sp_l, sp_r, Post.seq, Post.block, Nat.reduceEqDiff, reduceIte, Nat.zero_ne_one, Nat.one_ne_zero]
     try simp only [sp_l, sp_r, Post.seq, Post.block, Nat.reduceEqDiff, reduceIte, Nat.zero_ne_one, Nat.one_ne_zero]
     refine AW.seq ?_
     refine AW.block ?_
     replace h := bnE h; obtain ⟨v14, e14, h⟩ := h
     apply AW.step
     ·simp [e14]
      intros; rfl
     replace h := bnE h; obtain ⟨v15, e15, h⟩ := h
     replace h := ltE h; obtain ⟨v16, e16, h⟩ := h
     replace h := ltE h; obtain ⟨v17, e17, h⟩ := h
     apply AW.last
     ·simp [e15, ← e16, ← e17]
      intros; rfl
     try simp only [sp_l, sp_r, Post.seq, Post.block, Nat.reduceEqDiff, reduceIte, Nat.zero_ne_one, Nat.one_ne_zero]
     replace h := ltE h; obtain ⟨v18, e18, h⟩ := h
     apply AW.last
     ·simp [← e18]
      intros; rfl
     obtain rfl := Option.some.inj h
     refine nP_i ?_
     refine Weak.mixN [] hn0 (by decide) ?_ ?_ rfl
     all_goals first | (simp [inv_cons, inv_nil, pickOb]; done) | rfl
    | false =>
     replace h := iteF rfl h
     refine AW.cond_false (by simp) ?_
     refine AW.exit ?_
     try simp only [sp_l, sp_r, Post.seq, Post.block, Nat.reduceEqDiff, reduceIte, Nat.zero_ne_one, Nat.one_ne_zero]
     obtain rfl := Option.some.inj h
     refine xP_i ?_
     refine Weak.mixN [] hn0 (by decide) ?_ ?_ rfl
     all_goals first | (simp [inv_cons, inv_nil, pickOb]; done) | rfl
   ·rintro e s hp
    obtain ⟨rfl, hw⟩ := hp
    refine ⟨_, hw, ?_⟩
    try simp only [sp_l, sp_r, Post.seq, Post.block, Nat.reduceEqDiff, reduceIte, Nat.zero_ne_one, Nat.one_ne_zero]
    replace h := ltE h; obtain ⟨v19, e19, h⟩ := h
    apply AW.last
    ·simp [← e19]
     intros; rfl
    obtain rfl := Option.some.inj h
    refine nP_i ?_
    refine Weak.mixN [] hn0 (by decide) ?_ ?_ rfl
    all_goals first | (simp [inv_cons, inv_nil, pickOb]; done) | rfl
  | false =>
   replace h := iteF rfl h
   refine AW.cond_false (by simp) ?_
   refine AW.exit ?_
   try simp only [sp_l, sp_r, Post.seq, Post.block, Nat.reduceEqDiff, reduceIte, Nat.zero_ne_one, Nat.one_ne_zero]
   obtain rfl := Option.some.inj h
   refine xP_i ?_
   refine Weak.mixN [] hn0 (by decide) ?_ ?_ rfl
   all_goals first | (simp [inv_cons, inv_nil, pickOb]; done) | rfl
 ·rintro e s hp
  obtain ⟨rfl, hw⟩ := hp
  refine ⟨_, hw, ?_⟩
  try simp only [sp_l, sp_r, Post.seq, Post.block, Nat.reduceEqDiff, reduceIte, Nat.zero_ne_one, Nat.one_ne_zero]
  replace h := ltE h; obtain ⟨v20, e20, h⟩ := h
  apply AW.step
  ·simp [← e20]
   intros; rfl
  obtain rfl := Option.some.inj h
  refine AW.ret ?_
  refine Left.plain hnb (by simp [Try.f130, resV, resC, comp]; rfl) rfl rfl ?_
  simp
theorem en_slot_Crc : Enters Try.prog 130 := enters Try.func130 (by kernel_rfl) rfl
def slot_Of_sh (n : Nat) (a0 : ByteArray) : Option Int :=
bn (slot_Tag_sh n a0) fun v1 =>
chk (room v1.size 1) <|
lt (bytesI v1) fun v3 =>
bn (slot_Crc_sh n v3) fun v4 =>
bn (remI .i64 v4 16384) fun v5 =>
some v5
set_option maxRecDepth 8000 in
set_option maxHeartbeats 8000000 in
theorem s_slot_Of {n : Nat} {a0 : ByteArray} {r : Int} (h : slot_Of_sh n a0 = some r) : Sound Try.prog 119 [.l (.s (.string a0))] [] (.l (.s (.int .i64 r))) [] := by
 unfold slot_Of_sh at h
 refine Sound.of_aw (fn := Try.f119) (c := _) Try.func119 rfl (by simp [Try.f119]) fun cx hG hnb => ?_
 rw [show Try.f119.ntmps = 8 from rfl]
 have hn0 : cx.nb = 0 := hnb
 simp only [st0_mk, initTm, List.map_cons, List.map_nil]
 apply AW.step
 ·simp
  intros; rfl
 replace h := bnE h; obtain ⟨v1, e1, h⟩ := h
 replace h := chkE h; obtain ⟨e2, h⟩ := h
 replace h := ltE h; obtain ⟨v3, e3, h⟩ := h
 replace h := bnE h; obtain ⟨v4, e4, h⟩ := h
 replace h := bnE h; obtain ⟨v5, e5, h⟩ := h
 apply AW.step
 ·simp [(room_d e2).2, ← e3, e5]
  intros
  refine xcall_plain en_slot_Tag (s_slot_Tag e1) rfl ⟨.same rfl, trivial⟩ ?_
  try simp [(room_d e2).2, ← e3, e5]
  intros
  refine xcall_plain en_slot_Crc (s_slot_Crc e4) rfl ⟨.same rfl, trivial⟩ ?_
  try simp [(room_d e2).2, ← e3, e5]
  intros; rfl
 obtain rfl := Option.some.inj h
 refine AW.ret ?_
 refine Left.plain hnb (by simp [Try.f119, resV, resC, comp]; rfl) rfl rfl ?_
 simp
theorem en_slot_Of : Enters Try.prog 119 := enters Try.func119 (by kernel_rfl) rfl
def slices_AppendSeq_string_sh (n : Nat) (b1_0 : List Pair) (b1_1 : Int) : Option (List ByteArray) :=
bn (lt (lenI b1_0) fun v2 =>
bn (iter n (fun (y3 : Int × List ByteArray) =>
lt (ltI y3.1 v2) fun v6 =>
ite' v6 (bn (nth b1_0 y3.1) fun v7 =>
bn (slot_Of_sh n v7.key) fun v8 =>
lt (eqI v8 b1_1) fun v9 =>
ite' v9 (chk (room (y3.2.length + 1) 16) <|
lt (y3.2 ++ [v7.key]) fun v11 =>
lt (addI .i64 y3.1 1) fun v12 =>
some (.inl (v12, v11))) (lt (addI .i64 y3.1 1) fun v13 =>
some (.inl (v13, y3.2)))) (some (.inr y3.2))) (0, [])) fun (y4 : List ByteArray) =>
some (y4)) fun (y1 : List ByteArray) =>
chk (room y1.length 1) <|
some y1
set_option maxRecDepth 8000 in
set_option maxHeartbeats 8000000 in
theorem s_slices_AppendSeq_string {n : Nat} {b1_0 : List Pair} {b1_1 : Int} {r : List ByteArray} (h : slices_AppendSeq_string_sh n b1_0 b1_1 = some r) : Sound Try.prog 113 [.l (.s (.slice none 0 0)), .l (.f 118 [0, 1])] [⟨56, 1, false, none, [.d false 6 (encPair b1_0)]⟩, ⟨3, 1, false, none, [.s (.int .i64 b1_1)]⟩] (.l (.d false 1 (encS r))) [some ⟨56, 1, false, none, [.d false 6 (encPair b1_0)]⟩, some ⟨3, 1, false, none, [.s (.int .i64 b1_1)]⟩] := by
 unfold slices_AppendSeq_string_sh at h
 refine Sound.of_aw (fn := Try.f113) (c := _) Try.func113 rfl (by simp [Try.f113]) fun cx hG hnb => ?_
 rw [show Try.f113.ntmps = 13 from rfl]
 have hn0 : cx.nb = 2 := hnb
 simp only [st0_mk, initTm, List.map_cons, List.map_nil]
 apply AW.step
 ·simp
  intros; rfl
 replace h := bnE h; obtain ⟨y1, g1, h⟩ := h
 refine AW.flow (p := fun gh ls => (nP (cx := cx) (fun q => (⟨[(2, .l (.p 2 0))], [some ⟨56, 1, false, none, [.d false 6 (encPair b1_0)]⟩, some ⟨3, 1, false, none, [.s (.int .i64 b1_1)]⟩, some ⟨32, 1, false, none, [.r 3 1 0 q.length]⟩, some ⟨9, 1, true, none, lvs (encS q)⟩], 13, gh, ls⟩ : St))) y1) ?_ ?_
 ·replace h := g1; clear g1
  apply AW.step
  ·simp
   intros; rfl
  refine AW.block ?_
  refine AW.weak (Weak.keep [(2, .l (.p 2 0)), (6, .l (.f 118 [0, 1]))] (by simp)) ?_
  refine AW.rangeG rfl Try.func118 (by kernel_rfl) rfl (by decide) rfl rfl fun cxI1 yl1 hnI1 hY1 => ?_
  have hnJ1 : cxI1.nb = 2 := hnI1.trans hn0
  simp only [initTm, List.map_cons, List.map_nil]
  replace h := ltE h; obtain ⟨v2, e2, h⟩ := h
  apply AW.step
  ·simp [lenI_cast e2]
   intros; rfl
  refine AW.block ?_
  replace h := bnE h; obtain ⟨y4, g4, h⟩ := h
  refine AW.iterP g4 (mk := fun gh ls q => (⟨[(0, .l (.s (.func (.yield yl1) #[] #[]))), (2, .l (.p 1 0)), (6, .l (.d false 6 (encPair b1_0))), (7, .l (.s (.int .i64 v2))), (8, .l (.s (.int .i64 q.1)))], [some ⟨56, 1, false, none, [.d false 6 (encPair b1_0)]⟩, some ⟨3, 1, false, none, [.s (.int .i64 b1_1)]⟩, some ⟨32, 1, false, none, [.r 3 1 0 q.2.length]⟩, some ⟨9, 1, true, none, lvs (encS q.2)⟩], 25, gh, ls⟩ : St)) (N := fun gh ls => (xP 0 (cx := cxI1) (fun q => (⟨[], [some ⟨56, 1, false, none, [.d false 6 (encPair b1_0)]⟩, some ⟨3, 1, false, none, [.s (.int .i64 b1_1)]⟩, some ⟨32, 1, false, none, [.r 3 1 0 q.length]⟩, some ⟨9, 1, true, none, lvs (encS q)⟩], 25, gh, ls⟩ : St)))) ?_ noX ?_ ?_
  ·refine W.nilCell 2 0 9 1 3 rfl rfl rfl rfl rfl ?_
   refine Weak.mixB 2 [some 0, some 1, some 2, some 3] hnJ1 (by decide) (by decide) ?_ ?_ ?_
   all_goals first | (simp [inv_cons, inv_nil, pickOb]; done) | rfl
  ·clear h; intro y3 y5 h
   replace h := ltE h; obtain ⟨v6, e6, h⟩ := h
   apply AW.step
   ·simp [← e6]
    intros; rfl
   refine AW.seq ?_
   cases v6 with
   | true =>
    replace h := iteT rfl h
    refine AW.cond_true (by simp) ?_
    refine AW.skip ?_
    try simp only [sp_l, sp_r, Post.seq, Post.block, Nat.reduceEqDiff, reduceIte, Nat.zero_ne_one, Nat.one_ne_zero]
    try simp only [sp_l, sp_r, Post.seq, Post.block, Nat.reduceEqDiff, reduceIte, Nat.zero_ne_one, Nat.one_ne_zero]
    refine AW.seq ?_
    refine AW.block ?_
    replace h := bnE h; obtain ⟨v7, e7, h⟩ := h
    apply AW.step
    ·simp [nth_d e7]
     intros; rfl
    replace h := bnE h; obtain ⟨v8, e8, h⟩ := h
    replace h := ltE h; obtain ⟨v9, e9, h⟩ := h
    cases v9 with
    | true =>
     replace h := iteT rfl h
     apply AW.drawnYP (V := [_, _, _, _, _, _, _, _, _]) mixed [⟨[0], [], [(5, none)], false⟩, ⟨[0], [0], [(12, some 0)], false⟩, ⟨[0], [0, 1], [(13, some 1)], false⟩, ⟨[0], [], [(2, none)], false⟩, ⟨[0], [0, 1, 2, 3], [(14, some 2), (15, some 3)], false⟩, ⟨[0], [0, 1, 2, 3, 4], [(16, some 4)], false⟩, ⟨[0], [0, 1, 2, 3, 4, 5], [(0, none), (17, some 5)], false⟩, ⟨[0], [0, 1, 2, 3, 4, 5], [(5, none), (17, some 5)], false⟩, ⟨[0], [0, 1, 2, 3, 4, 5, 7], [(17, some 5), (19, some 7)], false⟩, ⟨[], [0, 1, 2, 3, 4, 5, 6, 7, 8], [], false⟩, ⟨[], [0, 1, 2, 3, 4, 5, 6, 7, 8, 9], [], false⟩, ⟨[], [0, 1, 2, 3, 4, 5, 6, 7, 8, 9, 10], [], false⟩] 9 (by kernel_rfl) (by kernel_rfl)
     ·refine ⟨?_, ?_, ?_, ?_, ?_, ?_, ?_, ?_, ?_, trivial⟩
      ·intro tm hr
       simp [AllL, rdV] at hr
       simp [hr, ← e9]
       intros; first | exact KD.mk | exact KD.mkN
      ·intro tm hr
       simp [AllL, rdV] at hr
       simp [hr, ← e9]
       intros; first | exact KD.mk | exact KD.mkN
      ·intro tm hr
       simp [AllL, rdV] at hr
       simp [hr, ← e9]
       intros
       refine xcall_plain en_slot_Of (s_slot_Of e8) rfl ⟨.same rfl, trivial⟩ ?_
       try simp [← e9]
       intros; first | exact KD.mk | exact KD.mkN
      ·intro tm hr
       simp [AllL, rdV] at hr
       simp [hr, ← e9]
       intros; first | exact KD.mk | exact KD.mkN
      ·intro tm hr
       simp [AllL, rdV] at hr
       simp [hr, ← e9]
       intros; first | exact KD.mk | exact KD.mkN
      ·intro tm hr
       simp [AllL, rdV] at hr
       simp [hr, ← e9]
       intros; first | exact KD.mk | exact KD.mkN
      ·intro tm hr
       simp [AllL, rdV] at hr
       simp [hr, ← e9]
       intros; first | exact KD.mk | exact KD.mkN
      ·intro tm hr
       simp [AllL, rdV] at hr
       simp [hr, ← e9]
       intros; first | exact KD.mk | exact KD.mkN
      ·intro tm hr
       simp [AllL, rdV] at hr
       simp [hr, ← e9]
       intros; first | exact KD.mk | exact KD.mkN
     ·rfl
     ·simp [tmD, putD, ← e9]; rfl
     apply xopsY.yield hY1 9 9 rfl rfl rfl (by decide)
     ·simp [← e9]
      intros; rfl
     ·rfl
     ·first | trivial | simp [← e9]
     ·rfl
     ·rfl
     ·simp [puts, ← e9]; rfl
     intro cxR1 hnR1
     have hnS1 : cxR1.nb = 2 := hnR1.trans hnJ1
     apply AW.last
     ·simp
      intros; rfl
     refine ⟨rfl, ?_⟩
     refine AW.block ?_
     replace h := chkE h; obtain ⟨e10, h⟩ := h
     replace h := ltE h; obtain ⟨v11, e11, h⟩ := h
     apply AW.last
     ·simp [← encS_append, ← e11, app_len1 e11]
      intros
      refine xrow_own ?_
      try simp [← encS_append, ← e11, app_len1 e11]
      intros
      refine xapp_pushN (acc := encS y3.2) (ys := encS [v7.key]) (cap := none) (k := 1) tb_el32 tb_ti9 (by simp) (by simp [encS, lvs]) (encS_sz _) (by simp) (by simp) (by simpa using (room_d e10).1) ?_
      try simp [← encS_append, ← e11, app_len1 e11]
      intros; rfl
     refine ⟨_, _, rfl, ?_⟩
     refine xops_Y _ _ _ rfl ?_
     simp [puts, ← e9]
     try intros
     unfold KK
     refine AW.cond_false (by simp) ?_
     refine AW.skip ?_
     try simp only [sp_l, sp_r, Post.seq, Post.block, Nat.reduceEqDiff, reduceIte, Nat.zero_ne_one, Nat.one_ne_zero]
     try simp only [sp_l, sp_r, Post.seq, Post.block, Nat.reduceEqDiff, reduceIte, Nat.zero_ne_one, Nat.one_ne_zero]
     replace h := ltE h; obtain ⟨v12, e12, h⟩ := h
     apply AW.last
     ·simp [← e12]
      intros; rfl
     obtain rfl := Option.some.inj h
     refine nP_i ?_
     refine Weak.mixB 2 [some 0, some 1, some 2, some 6] hnJ1 (by decide) (by decide) ?_ ?_ ?_
     all_goals first | (simp [inv_cons, inv_nil, pickOb, lvs_encS1]; done) | rfl
    | false =>
     replace h := iteF rfl h
     apply AW.drawnP (V := [_, _, _, _, _, _, _, _, _]) mixed [⟨[0], [], [(5, none)], false⟩, ⟨[0], [0], [(12, some 0)], false⟩, ⟨[0], [0, 1], [(13, some 1)], false⟩, ⟨[0], [], [(2, none)], false⟩, ⟨[0], [0, 1, 2, 3], [(14, some 2), (15, some 3)], false⟩, ⟨[0], [0, 1, 2, 3, 4], [(16, some 4)], false⟩, ⟨[0], [0, 1, 2, 3, 4, 5], [(0, none), (17, some 5)], false⟩, ⟨[0], [0, 1, 2, 3, 4, 5], [(5, none), (17, some 5)], false⟩, ⟨[0], [0, 1, 2, 3, 4, 5, 7], [(17, some 5), (19, some 7)], false⟩, ⟨[], [0, 1, 2, 3, 4, 5, 6, 7, 8], [], false⟩, ⟨[], [0, 1, 2, 3, 4, 5, 6, 7, 8, 9], [], false⟩, ⟨[], [0, 1, 2, 3, 4, 5, 6, 7, 8, 9, 10], [], false⟩] 9 (by kernel_rfl) (by kernel_rfl)
     ·refine ⟨?_, ?_, ?_, ?_, ?_, ?_, ?_, ?_, ?_, trivial⟩
      ·intro tm hr
       simp [AllL, rdV] at hr
       simp [hr, ← e9]
       intros; first | exact KD.mk | exact KD.mkN
      ·intro tm hr
       simp [AllL, rdV] at hr
       simp [hr, ← e9]
       intros; first | exact KD.mk | exact KD.mkN
      ·intro tm hr
       simp [AllL, rdV] at hr
       simp [hr, ← e9]
       intros
       refine xcall_plain en_slot_Of (s_slot_Of e8) rfl ⟨.same rfl, trivial⟩ ?_
       try simp [← e9]
       intros; first | exact KD.mk | exact KD.mkN
      ·intro tm hr
       simp [AllL, rdV] at hr
       simp [hr, ← e9]
       intros; first | exact KD.mk | exact KD.mkN
      ·intro tm hr
       simp [AllL, rdV] at hr
       simp [hr, ← e9]
       intros; first | exact KD.mk | exact KD.mkN
      ·intro tm hr
       simp [AllL, rdV] at hr
       simp [hr, ← e9]
       intros; first | exact KD.mk | exact KD.mkN
      ·intro tm hr
       simp [AllL, rdV] at hr
       simp [hr, ← e9]
       intros; first | exact KD.mk | exact KD.mkN
      ·intro tm hr
       simp [AllL, rdV] at hr
       simp [hr, ← e9]
       intros; first | exact KD.mk | exact KD.mkN
      ·intro tm hr
       simp [AllL, rdV] at hr
       simp [hr, ← e9]
       intros; first | exact KD.mk | exact KD.mkN
     ·rfl
     ·simp [tmD, putD, ← e9]; rfl
     ·simp [← e9]
      intros; rfl
     refine AW.cond_false (by simp) ?_
     refine AW.skip ?_
     try simp only [sp_l, sp_r, Post.seq, Post.block, Nat.reduceEqDiff, reduceIte, Nat.zero_ne_one, Nat.one_ne_zero]
     try simp only [sp_l, sp_r, Post.seq, Post.block, Nat.reduceEqDiff, reduceIte, Nat.zero_ne_one, Nat.one_ne_zero]
     replace h := ltE h; obtain ⟨v13, e13, h⟩ := h
     apply AW.last
     ·simp [← e13]
      intros; rfl
     obtain rfl := Option.some.inj h
     refine nP_i ?_
     refine Weak.mixB 2 [some 0, some 1, some 2, some 3] hnJ1 (by decide) (by decide) ?_ ?_ ?_
     all_goals first | (simp [inv_cons, inv_nil, pickOb]; done) | rfl
   | false =>
    replace h := iteF rfl h
    refine AW.cond_false (by simp) ?_
    refine AW.exit ?_
    try simp only [sp_l, sp_r, Post.seq, Post.block, Nat.reduceEqDiff, reduceIte, Nat.zero_ne_one, Nat.one_ne_zero]
    obtain rfl := Option.some.inj h
    refine xP_i ?_
    refine Weak.mixB 2 [some 0, some 1, some 2, some 3] hnJ1 (by decide) (by decide) ?_ ?_ ?_
    all_goals first | (simp [inv_cons, inv_nil, pickOb]; done) | rfl
  ·rintro e s hp
   obtain ⟨rfl, hw⟩ := hp
   refine ⟨_, hw, ?_⟩
   try simp only [sp_l, sp_r, Post.seq, Post.block, Nat.reduceEqDiff, reduceIte, Nat.zero_ne_one, Nat.one_ne_zero]
   refine ⟨_, _, rfl, ?_⟩
   try simp only []
   try simp only [sp_l, sp_r, Post.seq, Post.block, Nat.reduceEqDiff, reduceIte, Nat.zero_ne_one, Nat.one_ne_zero]
   obtain rfl := Option.some.inj h
   refine nP_i ?_
   refine Weak.mixB 2 [some 0, some 1, some 2, some 3] hn0 (by decide) (by decide) ?_ ?_ ?_
   all_goals first | (simp [inv_cons, inv_nil, pickOb]; done) | rfl
 ·rintro e s hp
  obtain ⟨rfl, hw⟩ := hp
  refine ⟨_, hw, ?_⟩
  try simp only [sp_l, sp_r, Post.seq, Post.block, Nat.reduceEqDiff, reduceIte, Nat.zero_ne_one, Nat.one_ne_zero]
  apply AW.step
  ·simp
   intros; rfl
  replace h := chkE h; obtain ⟨e14, h⟩ := h
  refine AW.frzRow 3 (ty := 9) (cap := none) (sz := 1) (es := encS y1) (by simp) (by omega) (encS_sz _) (by first | exact (room_d e14).2 | simpa using (room_d e14).2 | simp) (by simp [Tm.frz, AV.frz, LV.frz]; rfl) (by simp [Ob.frz, LV.frz]; rfl) rfl ?_
  obtain rfl := Option.some.inj h
  refine AW.ret ?_
  refine Left.of (av := _) (by simp [Try.f113, resV, resC, comp]; rfl) ?_
  exact LeftV.mix 2 [some 0, some 1] hn0 rfl (by decide) rfl (by simp [pickOb, inv_cons, inv_nil]) (by simp [inv_cons, inv_nil])
theorem en_slices_AppendSeq_string : Enters Try.prog 113 := enters Try.func113 (by kernel_rfl) rfl
def slices_Collect_string_sh (n : Nat) (b0_0 : List Pair) (b0_1 : Int) : Option (List ByteArray) :=
bn (slices_AppendSeq_string_sh n b0_0 b0_1) fun v1 =>
some v1
set_option maxRecDepth 8000 in
set_option maxHeartbeats 8000000 in
theorem s_slices_Collect_string {n : Nat} {b0_0 : List Pair} {b0_1 : Int} {r : List ByteArray} (h : slices_Collect_string_sh n b0_0 b0_1 = some r) : Sound Try.prog 78 [.l (.f 118 [0, 1])] [⟨56, 1, false, none, [.d false 6 (encPair b0_0)]⟩, ⟨3, 1, false, none, [.s (.int .i64 b0_1)]⟩] (.l (.d false 1 (encS r))) [some ⟨56, 1, false, none, [.d false 6 (encPair b0_0)]⟩, some ⟨3, 1, false, none, [.s (.int .i64 b0_1)]⟩] := by
 unfold slices_Collect_string_sh at h
 refine Sound.of_aw (fn := Try.f78) (c := _) Try.func78 rfl (by simp [Try.f78]) fun cx hG hnb => ?_
 rw [show Try.f78.ntmps = 5 from rfl]
 have hn0 : cx.nb = 2 := hnb
 simp only [st0_mk, initTm, List.map_cons, List.map_nil]
 apply AW.step
 ·simp
  intros; rfl
 replace h := bnE h; obtain ⟨v1, e1, h⟩ := h
 apply AW.step
 ·simp
  intros
  refine xcall_obs [0, 1] en_slices_AppendSeq_string (s_slices_AppendSeq_string e1) (by decide) (by simp [pickOb, inv_cons, inv_nil]) rfl rfl (by simp) ⟨.l (.s _), .l (.fn (by simp)), trivial⟩ ?_
  try simp
  intros; rfl
 obtain rfl := Option.some.inj h
 refine AW.ret ?_
 refine Left.of (av := _) (by simp [Try.f78, resV, resC, comp]; rfl) ?_
 exact LeftV.mix 2 [some 0, some 1] hn0 rfl (by decide) rfl (by simp [pickOb, inv_cons, inv_nil]) (by simp [inv_cons, inv_nil])
theorem en_slices_Collect_string : Enters Try.prog 78 := enters Try.func78 (by kernel_rfl) rfl
def space_In_sh (n : Nat) (a0 : List Pair) (a1 : Int) : Option (List ByteArray) :=
bn (space_keys_sh n a0 a1) fun v1 =>
bn (slices_Collect_string_sh n v1.1 v1.2) fun v2 =>
some v2
set_option maxRecDepth 8000 in
set_option maxHeartbeats 8000000 in
theorem s_space_In {n : Nat} {a0 : List Pair} {a1 : Int} {r : List ByteArray} (h : space_In_sh n a0 a1 = some r) : Sound Try.prog 54 [.l (.d false 6 (encPair a0)), .l (.s (.int .i64 a1))] [] (.l (.d false 1 (encS r))) [] := by
 unfold space_In_sh at h
 refine Sound.of_aw (fn := Try.f54) (c := _) Try.func54 rfl (by simp [Try.f54]) fun cx hG hnb => ?_
 rw [show Try.f54.ntmps = 9 from rfl]
 have hn0 : cx.nb = 0 := hnb
 simp only [st0_mk, initTm, List.map_cons, List.map_nil]
 apply AW.step
 ·simp
  intros; rfl
 replace h := bnE h; obtain ⟨v1, e1, h⟩ := h
 replace h := bnE h; obtain ⟨v2, e2, h⟩ := h
 apply AW.step
 ·simp
  intros
  refine xcall_new en_space_keys (s_space_keys e1) rfl (by simp) ⟨.same rfl, .same rfl, trivial⟩ ?_
  try simp
  intros
  refine xcall_obs [0, 1] en_slices_Collect_string (s_slices_Collect_string e2) (by decide) (by simp [pickOb, inv_cons, inv_nil]) rfl rfl (by simp) ⟨.l (.fn (by simp)), trivial⟩ ?_
  try simp
  intros; rfl
 obtain rfl := Option.some.inj h
 refine AW.ret ?_
 refine Left.plain hnb (by simp [Try.f54, resV, resC, comp]; rfl) rfl rfl ?_
 simp
theorem en_space_In : Enters Try.prog 54 := enters Try.func54 (by kernel_rfl) rfl
end Go.Proofs.Ytlkhfdccapkcdaa

/- Walks, printed: l15_awake, r1_Digits, l11_Key, r5_HSet, r5_SHas, r5_SAdd, r5_SHas_tf, r5_SAdd_tf, l5_Make, l11_Effects, r5_SameFields, r1_Texts, r5_SameItem, r5_SameE -/
namespace Go.Proofs.Ytlkhfdccapkcdaa
open Go Go.RowKit
set_option linter.unusedVariables false
set_option linter.unusedSimpArgs false
def r1_Digits_sh (n : Nat) (a0 : Int) : Option ByteArray :=
lt (cvI .u64 a0) fun v1 =>
bn (lt (ltI a0 0) fun v3 =>
ite' v3 (lt (negI .u64 v1) fun v4 =>
some (v4)) (some (v1))) fun (y2 : Int) =>
bn (iter n (fun (y5 : Int × ByteArray) =>
lt (geI y5.1 10) fun v8 =>
ite' v8 (bn (remI .u64 y5.1 10) fun v9 =>
lt (addI .u64 48 v9) fun v10 =>
lt (cvI .u8 v10) fun v11 =>
lt (strL [v11]) fun v12 =>
bn (catS v12 y5.2) fun v14 =>
bn (quoI .u64 y5.1 10) fun v15 =>
some (.inl (v15, v14))) (some (.inr (y5.1, y5.2)))) (y2, ⟨#[]⟩)) fun (y6 : Int × ByteArray) =>
lt (addI .u64 48 y6.1) fun v16 =>
lt (cvI .u8 v16) fun v17 =>
lt (strL [v17]) fun v18 =>
bn (catS v18 y6.2) fun v20 =>
lt (ltI a0 0) fun v21 =>
ite' v21 (bn (catS ⟨#[45]⟩ v20) fun v22 =>
some v22) (some v20)
def l11_Key_sh (n : Nat) (a0 : Int) : Option ByteArray :=
bn (remI .u8 a0 4) fun v1 =>
lt (addI .u8 97 v1) fun v2 =>
lt (strL [v2]) fun v3 =>
bn (catS ⟨#[123]⟩ v3) fun v5 =>
bn (catS v5 ⟨#[125]⟩) fun v6 =>
lt (cvI .i64 a0) fun v7 =>
bn (quoI .i64 v7 4) fun v8 =>
bn (remI .i64 v8 5) fun v9 =>
bn (r1_Digits_sh n v9) fun v10 =>
bn (catS v6 v10) fun v11 =>
some v11
def r5_HSet_sh (n : Nat) (a0 : List Field) (a1 : ByteArray) (a2 : ByteArray) : Option (List Field) :=
bn (iter n (fun (y1 : Bool × Int × List Field) =>
lt (lenI a0) fun v4 =>
lt (ltI y1.2.1 v4) fun v5 =>
ite' v5 (bn (bn (bn (lt (notB y1.1) fun v9 =>
ite' v9 (bn (nth a0 y1.2.1) fun v10 =>
lt (geS v10.name a1) fun v11 =>
some (v11)) (some (false))) fun (y8 : Bool) =>
lt (y8) fun v12 =>
ite' v12 (chk (room (y1.2.2.length + 1) 32) <|
lt (y1.2.2 ++ [(⟨a1, a2⟩ : Field)]) fun v14 =>
some ((true, v14))) (some ((y1.1, y1.2.2)))) fun (y7 : Bool × List Field) =>
bn (nth a0 y1.2.1) fun v15 =>
lt (neS v15.name a1) fun v16 =>
ite' v16 (chk (room (y7.2.length + 1) 32) <|
lt (y7.2 ++ [v15]) fun v18 =>
some ((y7.1, v18))) (some ((y7.1, y7.2)))) fun (y6 : Bool × List Field) =>
lt (addI .i64 y1.2.1 1) fun v19 =>
some (.inl (y6.1, v19, y6.2))) (some (.inr (y1.1, y1.2.2)))) (false, 0, [])) fun (y2 : Bool × List Field) =>
bn (lt (notB y2.1) fun v21 =>
ite' v21 (chk (room (y2.2.length + 1) 32) <|
lt (y2.2 ++ [(⟨a1, a2⟩ : Field)]) fun v23 =>
some (v23)) (some (y2.2))) fun (y20 : List Field) =>
chk (room y20.length 1) <|
some y20
def r5_SHas_tf_sh (n : Nat) (a0 : List ByteArray) (a1 : ByteArray) : Option Bool :=
bn (iter n (fun (y1 : Int) =>
lt (lenI a0) fun v4 =>
lt (ltI y1 v4) fun v5 =>
ite' v5 (bn (nth a0 y1) fun v6 =>
lt (eqS v6 a1) fun v7 =>
ite' v7 (some (.inr (.inr true))) (lt (addI .i64 y1 1) fun v8 =>
some (.inl v8))) (some (.inr (.inl ())))) 0) fun (y2 : Unit ⊕ Bool) =>
sm y2 (fun y9 => some false) (fun y10 => some y10)
def r5_SAdd_tf_sh (n : Nat) (a0 : List ByteArray) (a1 : ByteArray) : Option (List ByteArray) :=
bn (r5_SHas_tf_sh n a0 a1) fun v1 =>
ite' v1 (chk (room a0.length 16) <|
some a0) (bn (iter n (fun (y3 : Int) =>
bn (lt (lenI a0) fun v7 =>
lt (ltI y3 v7) fun v8 =>
ite' v8 (bn (nth a0 y3) fun v9 =>
lt (ltS v9 a1) fun v10 =>
some (v10)) (some (false))) fun (y6 : Bool) =>
lt (y6) fun v11 =>
ite' v11 (lt (addI .i64 y3 1) fun v12 =>
some (.inl v12)) (some (.inr y3))) 0) fun (y4 : Int) =>
bn (segh a0 y4) fun v13 =>
chk (room v13.length 16) <|
chk (room (v13.length + 1) 16) <|
lt (v13 ++ [a1]) fun v17 =>
bn (segl a0 y4) fun v18 =>
chk (room (v17.length + v18.length) 16) <|
lt (v17 ++ v18) fun v21 =>
some v21)
def l5_Make_sh (n : Nat) (a0 : List Int) (a1 : Int) : Option Item :=
lt (lenI a0) fun v1 =>
lt (eqI v1 0) fun v2 =>
ite' v2 (some (⟨1, ⟨#[]⟩, [], [], 0⟩ : Item)) (bn (nth a0 0) fun v3 =>
lt (cvI .i64 v3) fun v4 =>
bn (remI .i64 v4 4) fun v5 =>
lt (addI .i64 1 v5) fun v6 =>
bn (bn (remI .u8 a1 3) fun v8 =>
lt (eqI v8 0) fun v9 =>
ite' v9 (lt (cvI .i64 a1) fun v10 =>
some (v10)) (some (0))) fun (y7 : Int) =>
bn (iter n (fun (y11 : Int × ByteArray × List Field × List ByteArray) =>
bn (lt (lenI a0) fun v15 =>
lt (ltI y11.1 v15) fun v16 =>
ite' v16 (lt (ltI y11.1 9) fun v17 =>
some (v17)) (some (false))) fun (y14 : Bool) =>
lt (y14) fun v18 =>
ite' v18 (bn (bn (nth a0 y11.1) fun v20 =>
bn (remI .u8 v20 5) fun v21 =>
lt (addI .u8 97 v21) fun v22 =>
lt (strL [v22]) fun v23 =>
lt (cvI .i64 v20) fun v25 =>
bn (remI .i64 v25 3) fun v26 =>
bn (r1_Digits_sh n v26) fun v27 =>
bn (catS v23 v27) fun v28 =>
lt (eqI v6 1) fun v29 =>
ite' v29 (bn (catS y11.2.1 v28) fun v30 =>
some ((v30, y11.2.2.1, y11.2.2.2))) (lt (eqI v6 2) fun v31 =>
ite' v31 (lt (subI .i64 v25 100) fun v32 =>
bn (r1_Digits_sh n v32) fun v33 =>
bn (r5_HSet_sh n y11.2.2.1 v28 v33) fun v34 =>
some ((y11.2.1, v34, y11.2.2.2))) (lt (eqI v6 3) fun v35 =>
ite' v35 (chk (room (y11.2.2.2.length + 1) 16) <|
lt (y11.2.2.2 ++ [v28]) fun v37 =>
some ((y11.2.1, y11.2.2.1, v37))) (chk (room y11.2.2.2.length 1) <|
bn (r5_SAdd_tf_sh n y11.2.2.2 v28) fun v39 =>
some ((y11.2.1, y11.2.2.1, v39)))))) fun (y19 : ByteArray × List Field × List ByteArray) =>
lt (addI .i64 y11.1 1) fun v40 =>
some (.inl (v40, y19.1, y19.2.1, y19.2.2))) (some (.inr (y11.2.1, y11.2.2.1, y11.2.2.2)))) (1, ⟨#[]⟩, [], [])) fun (y12 : ByteArray × List Field × List ByteArray) =>
bn (lt (lenI a0) fun v42 =>
lt (eqI v42 1) fun v43 =>
ite' v43 (lt (neI v6 1) fun v44 =>
some (v44)) (some (false))) fun (y41 : Bool) =>
lt (y41) fun v45 =>
ite' v45 (bn (nth a0 0) fun v46 =>
lt (cvI .i64 v46) fun v47 =>
bn (r1_Digits_sh n v47) fun v48 =>
some (⟨1, v48, [], [], y7⟩ : Item)) (chk (room y12.2.2.length 1) <|
some (⟨v6, y12.1, y12.2.1, y12.2.2, y7⟩ : Item)))
def r5_SameFields_sh (n : Nat) (a0 : List Field) (a1 : List Field) : Option Bool :=
lt (lenI a0) fun v1 =>
lt (lenI a1) fun v2 =>
lt (neI v1 v2) fun v3 =>
ite' v3 (some false) (bn (iter n (fun (y4 : Int) =>
lt (lenI a0) fun v7 =>
lt (ltI y4 v7) fun v8 =>
ite' v8 (bn (nth a0 y4) fun v9 =>
bn (nth a1 y4) fun v10 =>
lt (notB (andB (eqS v9.name v10.name) (andB (eqS v9.val v10.val) true))) fun v11 =>
ite' v11 (some (.inr (.inr false))) (lt (addI .i64 y4 1) fun v12 =>
some (.inl v12))) (some (.inr (.inl ())))) 0) fun (y5 : Unit ⊕ Bool) =>
sm y5 (fun y13 => some true) (fun y14 => some y14))
set_option maxRecDepth 8000 in
set_option maxHeartbeats 8000000 in
theorem s_r5_SameFields {n : Nat} {a0 : List Field} {a1 : List Field} {r : Bool} (h : r5_SameFields_sh n a0 a1 = some r) : Sound Try.prog 23 [.l (.d false 2 (encField a0)), .l (.d false 2 (encField a1))] [] (.l (.s (.bool r))) [] := by
 unfold r5_SameFields_sh at h
 refine Sound.of_aw (fn := Try.f23) (c := _) Try.func23 rfl (by simp [Try.f23]) fun cx hG hnb => ?_
 rw [show Try.f23.ntmps = 26 from rfl]
 have hn0 : cx.nb = 0 := hnb
 simp only [st0_mk, initTm, List.map_cons, List.map_nil]
 apply AW.step
 ·simp
  intros; rfl
 refine AW.seq ?_
 replace h := ltE h; obtain ⟨v1, e1, h⟩ := h
 replace h := ltE h; obtain ⟨v2, e2, h⟩ := h
 replace h := ltE h; obtain ⟨v3, e3, h⟩ := h
 apply AW.step
 ·simp [lenI_cast e1, lenI_cast e2, ← e3]
  intros; rfl
 cases v3 with
 | true =>
  replace h := iteT rfl h
  refine AW.cond_true (by simp) ?_
  apply AW.step
  ·simp
   intros; rfl
  obtain rfl := Option.some.inj h
  refine AW.ret ?_
  refine Left.plain hnb (by simp [Try.f23, resV, resC, comp]; rfl) rfl rfl ?_
  simp
 | false =>
  replace h := iteF rfl h
  refine AW.cond_false (by simp) ?_
  refine AW.skip ?_
  try simp only [sp_l, sp_r, Post.seq, Post.block, Nat.reduceEqDiff, reduceIte, Nat.zero_ne_one, Nat.one_ne_zero]
  try simp only [sp_l, sp_r, Post.seq, Post.block, Nat.reduceEqDiff, reduceIte, Nat.zero_ne_one, Nat.one_ne_zero]
  refine AW.seq ?_
  apply AW.step
  ·simp
   intros; rfl
  refine AW.block ?_
  replace h := bnE h; obtain ⟨y5, g5, h⟩ := h
  refine AW.iterP g5 (mk := fun gh ls q => (⟨[(0, .l (.d false 2 (encField a0))), (1, .l (.d false 2 (encField a1))), (5, .l (.s (.int .i64 q)))], [], 26, gh, ls⟩ : St)) (N := fun gh ls => (sp (xP 0 (cx := cx) (fun _ => (⟨[], [], 26, gh, ls⟩ : St))) (rP (cx := cx) (P := Try.prog) Try.f23 (fun q => .l (.s (.bool q))) (fun q => [])))) ?_ (noS noX noR) ?_ ?_
  ·refine Weak.mixN [] hn0 (by decide) ?_ ?_ rfl
   all_goals first | (simp [inv_cons, inv_nil, pickOb]; done) | rfl
  ·clear h; intro y4 y6 h
   refine AW.seq ?_
   replace h := ltE h; obtain ⟨v7, e7, h⟩ := h
   replace h := ltE h; obtain ⟨v8, e8, h⟩ := h
   apply AW.step
   ·simp [lenI_cast e7, ← e8]
    intros; rfl
   cases v8 with
   | true =>
    replace h := iteT rfl h
    refine AW.cond_true (by simp) ?_
    refine AW.skip ?_
    try simp only [sp_l, sp_r, Post.seq, Post.block, Nat.reduceEqDiff, reduceIte, Nat.zero_ne_one, Nat.one_ne_zero]
    try simp only [sp_l, sp_r, Post.seq, Post.block, Nat.reduceEqDiff, reduceIte, Nat.zero_ne_one, Nat.one_ne_zero]
    refine AW.seq ?_
    refine AW.block ?_
    replace h := bnE h; obtain ⟨v9, e9, h⟩ := h
    replace h := bnE h; obtain ⟨v10, e10, h⟩ := h
    replace h := ltE h; obtain ⟨v11, e11, h⟩ := h
    apply AW.drawnP (V := [_, _, _, _, _, _, _, _]) mixed [⟨[0], [], [(0, none)], false⟩, ⟨[0], [], [(5, none)], false⟩, ⟨[0], [0, 1], [(17, some 0), (18, some 1)], false⟩, ⟨[0], [0, 1, 2], [(19, some 2)], false⟩, ⟨[0], [], [(1, none)], false⟩, ⟨[0], [], [(5, none)], false⟩, ⟨[0], [4, 5], [(21, some 4), (22, some 5)], false⟩, ⟨[0], [4, 5, 6], [(23, some 6)], false⟩, ⟨[], [0, 1, 2, 3, 4, 5, 6, 7], [], false⟩] 8 (by kernel_rfl) (by kernel_rfl)
    ·refine ⟨?_, ?_, ?_, ?_, ?_, ?_, ?_, ?_, trivial⟩
     ·intro tm hr
      simp [AllL, rdV] at hr
      simp [hr, nth_d e9, nth_d e10, ← e11]
      intros; first | exact KD.mk | exact KD.mkN
     ·intro tm hr
      simp [AllL, rdV] at hr
      simp [hr, nth_d e9, nth_d e10, ← e11]
      intros; first | exact KD.mk | exact KD.mkN
     ·intro tm hr
      simp [AllL, rdV] at hr
      simp [hr, nth_d e9, nth_d e10, ← e11]
      intros; first | exact KD.mk | exact KD.mkN
     ·intro tm hr
      simp [AllL, rdV] at hr
      simp [hr, nth_d e9, nth_d e10, ← e11]
      intros; first | exact KD.mk | exact KD.mkN
     ·intro tm hr
      simp [AllL, rdV] at hr
      simp [hr, nth_d e9, nth_d e10, ← e11]
      intros; first | exact KD.mk | exact KD.mkN
     ·intro tm hr
      simp [AllL, rdV] at hr
      simp [hr, nth_d e9, nth_d e10, ← e11]
      intros; first | exact KD.mk | exact KD.mkN
     ·intro tm hr
      simp [AllL, rdV] at hr
      simp [hr, nth_d e9, nth_d e10, ← e11]
      intros; first | exact KD.mk | exact KD.mkN
     ·intro tm hr
      simp [AllL, rdV] at hr
      simp [hr, nth_d e9, nth_d e10, ← e11]
      intros; first | exact KD.mk | exact KD.mkN
    ·rfl
    ·simp [tmD, putD, nth_d e9, nth_d e10, ← e11]; rfl
    ·simp [nth_d e9, nth_d e10, ← e11]
     intros; rfl
    cases v11 with
    | true =>
     replace h := iteT rfl h
     refine AW.cond_true (by simp) ?_
     apply AW.step
     ·simp
      intros; rfl
     obtain rfl := Option.some.inj h
     refine AW.ret ?_
     try simp only [sp_l, sp_r, Post.seq, Post.block, Nat.reduceEqDiff, reduceIte, Nat.zero_ne_one, Nat.one_ne_zero]
     refine rP_i ?_
     refine Left.plain hnb (by simp [Try.f23, resV, resC, comp]; rfl) rfl rfl ?_
     simp
    | false =>
     replace h := iteF rfl h
     refine AW.cond_false (by simp) ?_
     refine AW.skip ?_
     try simp only [sp_l, sp_r, Post.seq, Post.block, Nat.reduceEqDiff, reduceIte, Nat.zero_ne_one, Nat.one_ne_zero]
     try simp only [sp_l, sp_r, Post.seq, Post.block, Nat.reduceEqDiff, reduceIte, Nat.zero_ne_one, Nat.one_ne_zero]
     replace h := ltE h; obtain ⟨v12, e12, h⟩ := h
     apply AW.last
     ·simp [← e12]
      intros; rfl
     obtain rfl := Option.some.inj h
     refine nP_i ?_
     refine Weak.mixN [] hn0 (by decide) ?_ ?_ rfl
     all_goals first | (simp [inv_cons, inv_nil, pickOb]; done) | rfl
   | false =>
    replace h := iteF rfl h
    refine AW.cond_false (by simp) ?_
    refine AW.exit ?_
    try simp only [sp_l, sp_r, Post.seq, Post.block, Nat.reduceEqDiff, reduceIte, Nat.zero_ne_one, Nat.one_ne_zero]
    obtain rfl := Option.some.inj h
    try simp only [sp_l, sp_r]
    refine xP_i ?_
    refine Weak.mixN [] hn0 (by decide) ?_ ?_ rfl
    all_goals first | (simp [inv_cons, inv_nil, pickOb]; done) | rfl
  ·rintro e s hp
   rcases y5 with y13 | y14
   ·replace h := smL h
    obtain ⟨rfl, hw⟩ := hp
    refine ⟨_, hw, ?_⟩
    try simp only [sp_l, sp_r, Post.seq, Post.block, Nat.reduceEqDiff, reduceIte, Nat.zero_ne_one, Nat.one_ne_zero]
    apply AW.step
    ·simp
     intros; rfl
    obtain rfl := Option.some.inj h
    refine AW.ret ?_
    refine Left.plain hnb (by simp [Try.f23, resV, resC, comp]; rfl) rfl rfl ?_
    simp
   ·replace h := smR h
    obtain ⟨rfl, hl⟩ := hp
    refine ⟨_, Weak.refl _, ?_⟩
    obtain rfl := Option.some.inj h
    exact hl
theorem en_r5_SameFields : Enters Try.prog 23 := enters Try.func23 (by kernel_rfl) rfl
def r1_Texts_sh (n : Nat) (a0 : List ByteArray) (a1 : List ByteArray) : Option Bool :=
lt (lenI a0) fun v1 =>
lt (lenI a1) fun v2 =>
lt (neI v1 v2) fun v3 =>
ite' v3 (some false) (bn (iter n (fun (y4 : Int) =>
lt (lenI a0) fun v7 =>
lt (ltI y4 v7) fun v8 =>
ite' v8 (bn (nth a0 y4) fun v9 =>
bn (nth a1 y4) fun v10 =>
lt (neS v9 v10) fun v11 =>
ite' v11 (some (.inr (.inr false))) (lt (addI .i64 y4 1) fun v12 =>
some (.inl v12))) (some (.inr (.inl ())))) 0) fun (y5 : Unit ⊕ Bool) =>
sm y5 (fun y13 => some true) (fun y14 => some y14))
set_option maxRecDepth 8000 in
set_option maxHeartbeats 8000000 in
theorem s_r1_Texts {n : Nat} {a0 : List ByteArray} {a1 : List ByteArray} {r : Bool} (h : r1_Texts_sh n a0 a1 = some r) : Sound Try.prog 31 [.l (.d false 1 (encS a0)), .l (.d false 1 (encS a1))] [] (.l (.s (.bool r))) [] := by
 unfold r1_Texts_sh at h
 refine Sound.of_aw (fn := Try.f31) (c := _) Try.func31 rfl (by simp [Try.f31]) fun cx hG hnb => ?_
 rw [show Try.f31.ntmps = 26 from rfl]
 have hn0 : cx.nb = 0 := hnb
 simp only [st0_mk, initTm, List.map_cons, List.map_nil]
 apply AW.step
 ·simp
  intros; rfl
 refine AW.seq ?_
 replace h := ltE h; obtain ⟨v1, e1, h⟩ := h
 replace h := ltE h; obtain ⟨v2, e2, h⟩ := h
 replace h := ltE h; obtain ⟨v3, e3, h⟩ := h
 apply AW.step
 ·simp [lenI_cast e1, lenI_cast e2, ← e3]
  intros; rfl
 cases v3 with
 | true =>
  replace h := iteT rfl h
  refine AW.cond_true (by simp) ?_
  apply AW.step
  ·simp
   intros; rfl
  obtain rfl := Option.some.inj h
  refine AW.ret ?_
  refine Left.plain hnb (by simp [Try.f31, resV, resC, comp]; rfl) rfl rfl ?_
  simp
 | false =>
  replace h := iteF rfl h
  refine AW.cond_false (by simp) ?_
  refine AW.skip ?_
  try simp only [sp_l, sp_r, Post.seq, Post.block, Nat.reduceEqDiff, reduceIte, Nat.zero_ne_one, Nat.one_ne_zero]
  try simp only [sp_l, sp_r, Post.seq, Post.block, Nat.reduceEqDiff, reduceIte, Nat.zero_ne_one, Nat.one_ne_zero]
  refine AW.seq ?_
  apply AW.step
  ·simp
   intros; rfl
  refine AW.block ?_
  replace h := bnE h; obtain ⟨y5, g5, h⟩ := h
  refine AW.iterP g5 (mk := fun gh ls q => (⟨[(0, .l (.d false 1 (encS a0))), (1, .l (.d false 1 (encS a1))), (5, .l (.s (.int .i64 q)))], [], 26, gh, ls⟩ : St)) (N := fun gh ls => (sp (xP 0 (cx := cx) (fun _ => (⟨[], [], 26, gh, ls⟩ : St))) (rP (cx := cx) (P := Try.prog) Try.f31 (fun q => .l (.s (.bool q))) (fun q => [])))) ?_ (noS noX noR) ?_ ?_
  ·refine Weak.mixN [] hn0 (by decide) ?_ ?_ rfl
   all_goals first | (simp [inv_cons, inv_nil, pickOb]; done) | rfl
  ·clear h; intro y4 y6 h
   refine AW.seq ?_
   replace h := ltE h; obtain ⟨v7, e7, h⟩ := h
   replace h := ltE h; obtain ⟨v8, e8, h⟩ := h
   apply AW.step
   ·simp [lenI_cast e7, ← e8]
    intros; rfl
   cases v8 with
   | true =>
    replace h := iteT rfl h
    refine AW.cond_true (by simp) ?_
    refine AW.skip ?_
    try simp only [sp_l, sp_r, Post.seq, Post.block, Nat.reduceEqDiff, reduceIte, Nat.zero_ne_one, Nat.one_ne_zero]
    try simp only [sp_l, sp_r, Post.seq, Post.block, Nat.reduceEqDiff, reduceIte, Nat.zero_ne_one, Nat.one_ne_zero]
    refine AW.seq ?_
    refine AW.block ?_
    replace h := bnE h; obtain ⟨v9, e9, h⟩ := h
    replace h := bnE h; obtain ⟨v10, e10, h⟩ := h
    replace h := ltE h; obtain ⟨v11, e11, h⟩ := h
    apply AW.drawnP (V := [_, _, _, _, _, _, _, _]) mixed [⟨[0], [], [(0, none)], false⟩, ⟨[0], [], [(5, none)], false⟩, ⟨[0], [0, 1], [(17, some 0), (18, some 1)], false⟩, ⟨[0], [0, 1, 2], [(19, some 2)], false⟩, ⟨[0], [], [(1, none)], false⟩, ⟨[0], [], [(5, none)], false⟩, ⟨[0], [4, 5], [(21, some 4), (22, some 5)], false⟩, ⟨[0], [4, 5, 6], [(23, some 6)], false⟩, ⟨[], [0, 1, 2, 3, 4, 5, 6, 7], [], false⟩] 8 (by kernel_rfl) (by kernel_rfl)
    ·refine ⟨?_, ?_, ?_, ?_, ?_, ?_, ?_, ?_, trivial⟩
     ·intro tm hr
      simp [AllL, rdV] at hr
      simp [hr, nth_d e9, nth_d e10, ← e11]
      intros; first | exact KD.mk | exact KD.mkN
     ·intro tm hr
      simp [AllL, rdV] at hr
      simp [hr, nth_d e9, nth_d e10, ← e11]
      intros; first | exact KD.mk | exact KD.mkN
     ·intro tm hr
      simp [AllL, rdV] at hr
      simp [hr, nth_d e9, nth_d e10, ← e11]
      intros; first | exact KD.mk | exact KD.mkN
     ·intro tm hr
      simp [AllL, rdV] at hr
      simp [hr, nth_d e9, nth_d e10, ← e11]
      intros; first | exact KD.mk | exact KD.mkN
     ·intro tm hr
      simp [AllL, rdV] at hr
      simp [hr, nth_d e9, nth_d e10, ← e11]
      intros; first | exact KD.mk | exact KD.mkN
     ·intro tm hr
      simp [AllL, rdV] at hr
      simp [hr, nth_d e9, nth_d e10, ← e11]
      intros; first | exact KD.mk | exact KD.mkN
     ·intro tm hr
      simp [AllL, rdV] at hr
      simp [hr, nth_d e9, nth_d e10, ← e11]
      intros; first | exact KD.mk | exact KD.mkN
     ·intro tm hr
      simp [AllL, rdV] at hr
      simp [hr, nth_d e9, nth_d e10, ← e11]
      intros; first | exact KD.mk | exact KD.mkN
    ·rfl
    ·simp [tmD, putD, nth_d e9, nth_d e10, ← e11]; rfl
    ·simp [nth_d e9, nth_d e10, ← e11]
     intros; rfl
    cases v11 with
    | true =>
     replace h := iteT rfl h
     refine AW.cond_true (by simp) ?_
     apply AW.step
     ·simp
      intros; rfl
     obtain rfl := Option.some.inj h
     refine AW.ret ?_
     try simp only [sp_l, sp_r, Post.seq, Post.block, Nat.reduceEqDiff, reduceIte, Nat.zero_ne_one, Nat.one_ne_zero]
     refine rP_i ?_
     refine Left.plain hnb (by simp [Try.f31, resV, resC, comp]; rfl) rfl rfl ?_
     simp
    | false =>
     replace h := iteF rfl h
     refine AW.cond_false (by simp) ?_
     refine AW.skip ?_
     try simp only [sp_l, sp_r, Post.seq, Post.block, Nat.reduceEqDiff, reduceIte, Nat.zero_ne_one, Nat.one_ne_zero]
     try simp only [sp_l, sp_r, Post.seq, Post.block, Nat.reduceEqDiff, reduceIte, Nat.zero_ne_one, Nat.one_ne_zero]
     replace h := ltE h; obtain ⟨v12, e12, h⟩ := h
     apply AW.last
     ·simp [← e12]
      intros; rfl
     obtain rfl := Option.some.inj h
     refine nP_i ?_
     refine Weak.mixN [] hn0 (by decide) ?_ ?_ rfl
     all_goals first | (simp [inv_cons, inv_nil, pickOb]; done) | rfl
   | false =>
    replace h := iteF rfl h
    refine AW.cond_false (by simp) ?_
    refine AW.exit ?_
    try simp only [sp_l, sp_r, Post.seq, Post.block, Nat.reduceEqDiff, reduceIte, Nat.zero_ne_one, Nat.one_ne_zero]
    obtain rfl := Option.some.inj h
    try simp only [sp_l, sp_r]
    refine xP_i ?_
    refine Weak.mixN [] hn0 (by decide) ?_ ?_ rfl
    all_goals first | (simp [inv_cons, inv_nil, pickOb]; done) | rfl
  ·rintro e s hp
   rcases y5 with y13 | y14
   ·replace h := smL h
    obtain ⟨rfl, hw⟩ := hp
    refine ⟨_, hw, ?_⟩
    try simp only [sp_l, sp_r, Post.seq, Post.block, Nat.reduceEqDiff, reduceIte, Nat.zero_ne_one, Nat.one_ne_zero]
    apply AW.step
    ·simp
     intros; rfl
    obtain rfl := Option.some.inj h
    refine AW.ret ?_
    refine Left.plain hnb (by simp [Try.f31, resV, resC, comp]; rfl) rfl rfl ?_
    simp
   ·replace h := smR h
    obtain ⟨rfl, hl⟩ := hp
    refine ⟨_, Weak.refl _, ?_⟩
    obtain rfl := Option.some.inj h
    exact hl
theorem en_r1_Texts : Enters Try.prog 31 := enters Try.func31 (by kernel_rfl) rfl
def r5_SameItem_sh (n : Nat) (a0 : Item) (a1 : Item) : Option Bool :=
bn (lt (eqI a0.kind a1.kind) fun v2 =>
ite' v2 (lt (eqS a0.s a1.s) fun v3 =>
ite' v3 (lt (eqI a0.exp a1.exp) fun v4 =>
ite' v4 (bn (r5_SameFields_sh n a0.f a1.f) fun v5 =>
ite' v5 (bn (r1_Texts_sh n a0.l a1.l) fun v6 =>
some (v6)) (some (false))) (some (false))) (some (false))) (some (false))) fun (y1 : Bool) =>
some y1
set_option maxRecDepth 8000 in
set_option maxHeartbeats 8000000 in
theorem s_r5_SameItem {n : Nat} {a0 : Item} {a1 : Item} {r : Bool} (h : r5_SameItem_sh n a0 a1 = some r) : Sound Try.prog 58 [.g [.s (.int .i64 a0.kind), .s (.string a0.s), .d false 2 (encField a0.f), .d false 1 (encS a0.l), .s (.int .i64 a0.exp)], .g [.s (.int .i64 a1.kind), .s (.string a1.s), .d false 2 (encField a1.f), .d false 1 (encS a1.l), .s (.int .i64 a1.exp)]] [] (.l (.s (.bool r))) [] := by
 unfold r5_SameItem_sh at h
 refine Sound.of_aw (fn := Try.f58) (c := _) Try.func58 rfl (by simp [Try.f58]) fun cx hG hnb => ?_
 rw [show Try.f58.ntmps = 38 from rfl]
 have hn0 : cx.nb = 0 := hnb
 simp only [st0_mk, initTm, List.map_cons, List.map_nil]
 apply AW.step
 ·simp
  intros; rfl
 replace h := bnE h; obtain ⟨y1, g1, h⟩ := h
 refine AW.flow (p := fun gh ls => (nP (cx := cx) (fun q => (⟨[(4, .l (.s (.bool q)))], [], 38, gh, ls⟩ : St))) y1) ?_ ?_
 ·replace h := g1; clear g1
  replace h := ltE h; obtain ⟨v2, e2, h⟩ := h
  cases v2 with
  | true =>
   replace h := iteT rfl h
   replace h := ltE h; obtain ⟨v3, e3, h⟩ := h
   cases v3 with
   | true =>
    replace h := iteT rfl h
    replace h := ltE h; obtain ⟨v4, e4, h⟩ := h
    cases v4 with
    | true =>
     replace h := iteT rfl h
     replace h := bnE h; obtain ⟨v5, e5, h⟩ := h
     cases v5 with
     | true =>
      replace h := iteT rfl h
      replace h := bnE h; obtain ⟨v6, e6, h⟩ := h
      apply AW.last
      ·simp [← e2, ← e3, ← e4]
       intros
       refine xcall_plain en_r5_SameFields (s_r5_SameFields e5) rfl ⟨.same rfl, .same rfl, trivial⟩ ?_
       try simp [← e2, ← e3, ← e4]
       intros
       refine xcall_plain en_r1_Texts (s_r1_Texts e6) rfl ⟨.same rfl, .same rfl, trivial⟩ ?_
       try simp [← e2, ← e3, ← e4]
       intros; rfl
      obtain rfl := Option.some.inj h
      refine nP_i ?_
      refine Weak.mixN [] hn0 (by decide) ?_ ?_ rfl
      all_goals first | (simp [inv_cons, inv_nil, pickOb]; done) | rfl
     | false =>
      replace h := iteF rfl h
      apply AW.last
      ·simp [← e2, ← e3, ← e4]
       intros
       refine xcall_plain en_r5_SameFields (s_r5_SameFields e5) rfl ⟨.same rfl, .same rfl, trivial⟩ ?_
       try simp [← e2, ← e3, ← e4]
       intros; rfl
      obtain rfl := Option.some.inj h
      refine nP_i ?_
      refine Weak.mixN [] hn0 (by decide) ?_ ?_ rfl
      all_goals first | (simp [inv_cons, inv_nil, pickOb]; done) | rfl
    | false =>
     replace h := iteF rfl h
     apply AW.last
     ·simp [← e2, ← e3, ← e4]
      intros; rfl
     obtain rfl := Option.some.inj h
     refine nP_i ?_
     refine Weak.mixN [] hn0 (by decide) ?_ ?_ rfl
     all_goals first | (simp [inv_cons, inv_nil, pickOb]; done) | rfl
   | false =>
    replace h := iteF rfl h
    apply AW.last
    ·simp [← e2, ← e3]
     intros; rfl
    obtain rfl := Option.some.inj h
    refine nP_i ?_
    refine Weak.mixN [] hn0 (by decide) ?_ ?_ rfl
    all_goals first | (simp [inv_cons, inv_nil, pickOb]; done) | rfl
  | false =>
   replace h := iteF rfl h
   apply AW.last
   ·simp [← e2]
    intros; rfl
   obtain rfl := Option.some.inj h
   refine nP_i ?_
   refine Weak.mixN [] hn0 (by decide) ?_ ?_ rfl
   all_goals first | (simp [inv_cons, inv_nil, pickOb]; done) | rfl
 ·rintro e s hp
  obtain ⟨rfl, hw⟩ := hp
  refine ⟨_, hw, ?_⟩
  try simp only [sp_l, sp_r, Post.seq, Post.block, Nat.reduceEqDiff, reduceIte, Nat.zero_ne_one, Nat.one_ne_zero]
  obtain rfl := Option.some.inj h
  refine AW.ret ?_
  refine Left.plain hnb (by simp [Try.f58, resV, resC, comp]; rfl) rfl rfl ?_
  simp
theorem en_r5_SameItem : Enters Try.prog 58 := enters Try.func58 (by kernel_rfl) rfl
def r5_SameEffects_sh (n : Nat) (a0 : List Effect) (a1 : List Effect) : Option Bool :=
lt (lenI a0) fun v1 =>
lt (lenI a1) fun v2 =>
lt (neI v1 v2) fun v3 =>
ite' v3 (some false) (bn (iter n (fun (y4 : Int) =>
lt (lenI a0) fun v7 =>
lt (ltI y4 v7) fun v8 =>
ite' v8 (bn (bn (nth a0 y4) fun v10 =>
bn (nth a1 y4) fun v11 =>
lt (neS v10.key v11.key) fun v12 =>
ite' v12 (some (true)) (lt (neB v10.gone v11.gone) fun v13 =>
ite' v13 (some (true)) (bn (r5_SameItem_sh n v10.item v11.item) fun v14 =>
lt (notB v14) fun v15 =>
some (v15)))) fun (y9 : Bool) =>
lt (y9) fun v16 =>
ite' v16 (some (.inr (.inr false))) (lt (addI .i64 y4 1) fun v17 =>
some (.inl v17))) (some (.inr (.inl ())))) 0) fun (y5 : Unit ⊕ Bool) =>
sm y5 (fun y18 => some true) (fun y19 => some y19))
set_option maxRecDepth 8000 in
set_option maxHeartbeats 8000000 in
theorem s_r5_SameEffects {n : Nat} {a0 : List Effect} {a1 : List Effect} {r : Bool} (h : r5_SameEffects_sh n a0 a1 = some r) : Sound Try.prog 18 [.l (.d false 7 (encEffect a0)), .l (.d false 7 (encEffect a1))] [] (.l (.s (.bool r))) [] := by
 unfold r5_SameEffects_sh at h
 refine Sound.of_aw (fn := Try.f18) (c := _) Try.func18 rfl (by simp [Try.f18]) fun cx hG hnb => ?_
 rw [show Try.f18.ntmps = 55 from rfl]
 have hn0 : cx.nb = 0 := hnb
 simp only [st0_mk, initTm, List.map_cons, List.map_nil]
 apply AW.step
 ·simp
  intros; rfl
 refine AW.seq ?_
 replace h := ltE h; obtain ⟨v1, e1, h⟩ := h
 replace h := ltE h; obtain ⟨v2, e2, h⟩ := h
 replace h := ltE h; obtain ⟨v3, e3, h⟩ := h
 apply AW.step
 ·simp [lenI_cast e1, lenI_cast e2, ← e3]
  intros; rfl
 cases v3 with
 | true =>
  replace h := iteT rfl h
  refine AW.cond_true (by simp) ?_
  apply AW.step
  ·simp
   intros; rfl
  obtain rfl := Option.some.inj h
  refine AW.ret ?_
  refine Left.plain hnb (by simp [Try.f18, resV, resC, comp]; rfl) rfl rfl ?_
  simp
 | false =>
  replace h := iteF rfl h
  refine AW.cond_false (by simp) ?_
  refine AW.skip ?_
  try simp only [sp_l, sp_r, Post.seq, Post.block, Nat.reduceEqDiff, reduceIte, Nat.zero_ne_one, Nat.one_ne_zero]
  try simp only [sp_l, sp_r, Post.seq, Post.block, Nat.reduceEqDiff, reduceIte, Nat.zero_ne_one, Nat.one_ne_zero]
  refine AW.seq ?_
  apply AW.step
  ·simp
   intros; rfl
  refine AW.block ?_
  replace h := bnE h; obtain ⟨y5, g5, h⟩ := h
  refine AW.iterP g5 (mk := fun gh ls q => (⟨[(0, .l (.d false 7 (encEffect a0))), (1, .l (.d false 7 (encEffect a1))), (5, .l (.s (.int .i64 q)))], [], 55, gh, ls⟩ : St)) (N := fun gh ls => (sp (xP 0 (cx := cx) (fun _ => (⟨[], [], 55, gh, ls⟩ : St))) (rP (cx := cx) (P := Try.prog) Try.f18 (fun q => .l (.s (.bool q))) (fun q => [])))) ?_ (noS noX noR) ?_ ?_
  ·refine Weak.mixN [] hn0 (by decide) ?_ ?_ rfl
   all_goals first | (simp [inv_cons, inv_nil, pickOb]; done) | rfl
  ·clear h; intro y4 y6 h
   refine AW.seq ?_
   replace h := ltE h; obtain ⟨v7, e7, h⟩ := h
   replace h := ltE h; obtain ⟨v8, e8, h⟩ := h
   apply AW.step
   ·simp [lenI_cast e7, ← e8]
    intros; rfl
   cases v8 with
   | true =>
    replace h := iteT rfl h
    refine AW.cond_true (by simp) ?_
    refine AW.skip ?_
    try simp only [sp_l, sp_r, Post.seq, Post.block, Nat.reduceEqDiff, reduceIte, Nat.zero_ne_one, Nat.one_ne_zero]
    try simp only [sp_l, sp_r, Post.seq, Post.block, Nat.reduceEqDiff, reduceIte, Nat.zero_ne_one, Nat.one_ne_zero]
    refine AW.seq ?_
    refine AW.block ?_
    replace h := bnE h; obtain ⟨y9, g9, h⟩ := h
    refine AW.flow (p := fun gh ls => (nP (cx := cx) (fun q => (⟨[(0, .l (.d false 7 (encEffect a0))), (1, .l (.d false 7 (encEffect a1))), (5, .l (.s (.int .i64 y4))), (54, .l (.s (.bool q)))], [], 55, gh, ls⟩ : St))) y9) ?_ ?_
    ·replace h := g9; clear g9
     replace h := bnE h; obtain ⟨v10, e10, h⟩ := h
     replace h := bnE h; obtain ⟨v11, e11, h⟩ := h
     replace h := ltE h; obtain ⟨v12, e12, h⟩ := h
     cases v12 with
     | true =>
      replace h := iteT rfl h
      apply AW.drawnR (V := [_, _, _, _, _, _, _, _, _, _, _, _, _, _, _, _, _, _, _, _, _, _, _, _, _, _, _, _, _, _, _, _, _, _, _]) mixed [⟨[0], [], [(0, none)], false⟩, ⟨[0], [], [(5, none)], false⟩, ⟨[0], [0, 1], [(17, some 0), (18, some 1)], false⟩, ⟨[0], [0, 1, 2], [(19, some 2)], false⟩, ⟨[0], [0, 1, 2, 3], [(20, some 3)], false⟩, ⟨[0], [], [(1, none)], false⟩, ⟨[0], [], [(5, none)], false⟩, ⟨[0], [5, 6], [(22, some 5), (23, some 6)], false⟩, ⟨[0], [5, 6, 7], [(24, some 7)], false⟩, ⟨[0], [5, 6, 7, 8], [(25, some 8)], false⟩, ⟨[0], [0, 1, 2, 3, 4, 5, 6, 7, 8, 9], [(21, some 4), (26, some 9)], false⟩, ⟨[0], [0, 1, 2, 3, 4, 5, 6, 7, 8, 9, 10], [(27, some 10)], false⟩, ⟨[0], [0, 1, 2, 3, 4, 5, 6, 7, 8, 9, 10, 11], [(0, none), (28, some 11)], false⟩, ⟨[0], [0, 1, 2, 3, 4, 5, 6, 7, 8, 9, 10, 11], [(5, none), (28, some 11)], false⟩, ⟨[0], [0, 1, 2, 3, 4, 5, 6, 7, 8, 9, 10, 11, 12, 13], [(28, some 11), (29, some 12), (30, some 13)], false⟩, ⟨[0], [0, 1, 2, 3, 4, 5, 6, 7, 8, 9, 10, 11, 12, 13, 14], [(28, some 11), (31, some 14)], false⟩, ⟨[0], [0, 1, 2, 3, 4, 5, 6, 7, 8, 9, 10, 11, 12, 13, 14, 15], [(28, some 11), (32, some 15)], false⟩, ⟨[0], [0, 1, 2, 3, 4, 5, 6, 7, 8, 9, 10, 11], [(1, none), (28, some 11)], false⟩, ⟨[0], [0, 1, 2, 3, 4, 5, 6, 7, 8, 9, 10, 11], [(5, none), (28, some 11)], false⟩, ⟨[0], [0, 1, 2, 3, 4, 5, 6, 7, 8, 9, 10, 11, 17, 18], [(28, some 11), (34, some 17), (35, some 18)], false⟩, ⟨[0], [0, 1, 2, 3, 4, 5, 6, 7, 8, 9, 10, 11, 17, 18, 19], [(28, some 11), (36, some 19)], false⟩, ⟨[0], [0, 1, 2, 3, 4, 5, 6, 7, 8, 9, 10, 11, 17, 18, 19, 20], [(28, some 11), (37, some 20)], false⟩, ⟨[0], [0, 1, 2, 3, 4, 5, 6, 7, 8, 9, 10, 11, 12, 13, 14, 15, 16, 17, 18, 19, 20, 21], [(28, some 11), (33, some 16), (38, some 21)], false⟩, ⟨[0], [0, 1, 2, 3, 4, 5, 6, 7, 8, 9, 10, 11, 12, 13, 14, 15, 16, 17, 18, 19, 20, 21, 22], [(28, some 11), (39, some 22)], false⟩, ⟨[0], [0, 1, 2, 3, 4, 5, 6, 7, 8, 9, 10, 11, 12, 13, 14, 15, 16, 17, 18, 19, 20, 21, 22, 23], [(40, some 23)], false⟩, ⟨[0], [0, 1, 2, 3, 4, 5, 6, 7, 8, 9, 10, 11, 12, 13, 14, 15, 16, 17, 18, 19, 20, 21, 22, 23, 24], [(0, none), (41, some 24)], false⟩, ⟨[0], [0, 1, 2, 3, 4, 5, 6, 7, 8, 9, 10, 11, 12, 13, 14, 15, 16, 17, 18, 19, 20, 21, 22, 23, 24], [(5, none), (41, some 24)], false⟩, ⟨[0], [0, 1, 2, 3, 4, 5, 6, 7, 8, 9, 10, 11, 12, 13, 14, 15, 16, 17, 18, 19, 20, 21, 22, 23, 24, 25, 26], [(41, some 24), (42, some 25), (43, some 26)], false⟩, ⟨[0], [0, 1, 2, 3, 4, 5, 6, 7, 8, 9, 10, 11, 12, 13, 14, 15, 16, 17, 18, 19, 20, 21, 22, 23, 24, 25, 26, 27], [(41, some 24), (44, some 27)], false⟩, ⟨[0], [0, 1, 2, 3, 4, 5, 6, 7, 8, 9, 10, 11, 12, 13, 14, 15, 16, 17, 18, 19, 20, 21, 22, 23, 24, 25, 26, 27, 28], [(41, some 24), (45, some 28)], false⟩, ⟨[0], [0, 1, 2, 3, 4, 5, 6, 7, 8, 9, 10, 11, 12, 13, 14, 15, 16, 17, 18, 19, 20, 21, 22, 23, 24], [(1, none), (41, some 24)], false⟩, ⟨[0], [0, 1, 2, 3, 4, 5, 6, 7, 8, 9, 10, 11, 12, 13, 14, 15, 16, 17, 18, 19, 20, 21, 22, 23, 24], [(5, none), (41, some 24)], false⟩, ⟨[0], [0, 1, 2, 3, 4, 5, 6, 7, 8, 9, 10, 11, 12, 13, 14, 15, 16, 17, 18, 19, 20, 21, 22, 23, 24, 30, 31], [(41, some 24), (47, some 30), (48, some 31)], false⟩, ⟨[0], [0, 1, 2, 3, 4, 5, 6, 7, 8, 9, 10, 11, 12, 13, 14, 15, 16, 17, 18, 19, 20, 21, 22, 23, 24, 30, 31, 32], [(41, some 24), (49, some 32)], false⟩, ⟨[0], [0, 1, 2, 3, 4, 5, 6, 7, 8, 9, 10, 11, 12, 13, 14, 15, 16, 17, 18, 19, 20, 21, 22, 23, 24, 30, 31, 32, 33], [(41, some 24), (50, some 33)], false⟩, ⟨[], [0, 1, 2, 3, 4, 5, 6, 7, 8, 9, 10, 11, 12, 13, 14, 15, 16, 17, 18, 19, 20, 21, 22, 23, 24, 25, 26, 27, 28, 29, 30, 31, 32, 33, 34], [], false⟩, ⟨[], [0, 1, 2, 3, 4, 5, 6, 7, 8, 9, 10, 11, 12, 13, 14, 15, 16, 17, 18, 19, 20, 21, 22, 23, 24, 25, 26, 27, 28, 29, 30, 31, 32, 33, 34, 35], [], false⟩, ⟨[], [0, 1, 2, 3, 4, 5, 6, 7, 8, 9, 10, 11, 12, 13, 14, 15, 16, 17, 18, 19, 20, 21, 22, 23, 24, 25, 26, 27, 28, 29, 30, 31, 32, 33, 34, 35, 36], [], false⟩] 35 (by kernel_rfl) (by kernel_rfl)
      ·refine ⟨?_, ?_, ?_, ?_, ?_, ?_, ?_, ?_, ?_, ?_, ?_, ?_, ?_, ?_, ?_, ?_, ?_, ?_, ?_, ?_, ?_, ?_, ?_, ?_, ?_, ?_, ?_, ?_, ?_, ?_, ?_, ?_, ?_, ?_, ?_, trivial⟩
       ·intro tm hr
        simp [AllL, rdV] at hr
        simp [hr, nth_d e10, nth_d e11, ← e12]
        intros; first | exact KD.mk | exact KD.mkN
       ·intro tm hr
        simp [AllL, rdV] at hr
        simp [hr, nth_d e10, nth_d e11, ← e12]
        intros; first | exact KD.mk | exact KD.mkN
       ·intro tm hr
        simp [AllL, rdV] at hr
        simp [hr, nth_d e10, nth_d e11, ← e12]
        intros; first | exact KD.mk | exact KD.mkN
       ·intro tm hr
        simp [AllL, rdV] at hr
        simp [hr, nth_d e10, nth_d e11, ← e12]
        intros; first | exact KD.mk | exact KD.mkN
       ·intro tm hr
        simp [AllL, rdV] at hr
        simp [hr, nth_d e10, nth_d e11, ← e12]
        intros; first | exact KD.mk | exact KD.mkN
       ·intro tm hr
        simp [AllL, rdV] at hr
        simp [hr, nth_d e10, nth_d e11, ← e12]
        intros; first | exact KD.mk | exact KD.mkN
       ·intro tm hr
        simp [AllL, rdV] at hr
        simp [hr, nth_d e10, nth_d e11, ← e12]
        intros; first | exact KD.mk | exact KD.mkN
       ·intro tm hr
        simp [AllL, rdV] at hr
        simp [hr, nth_d e10, nth_d e11, ← e12]
        intros; first | exact KD.mk | exact KD.mkN
       ·intro tm hr
        simp [AllL, rdV] at hr
        simp [hr, nth_d e10, nth_d e11, ← e12]
        intros; first | exact KD.mk | exact KD.mkN
       ·intro tm hr
        simp [AllL, rdV] at hr
        simp [hr, nth_d e10, nth_d e11, ← e12]
        intros; first | exact KD.mk | exact KD.mkN
       ·intro tm hr
        simp [AllL, rdV] at hr
        simp [hr, nth_d e10, nth_d e11, ← e12]
        intros; first | exact KD.mk | exact KD.mkN
       ·intro tm hr
        simp [AllL, rdV] at hr
        simp [hr, nth_d e10, nth_d e11, ← e12]
        intros; first | exact KD.mk | exact KD.mkN
       ·intro tm hr
        simp [AllL, rdV] at hr
        simp [hr, nth_d e10, nth_d e11, ← e12]
        intros; first | exact KD.mk | exact KD.mkN
       ·intro tm hr
        simp [AllL, rdV] at hr
        simp [hr, nth_d e10, nth_d e11, ← e12]
        intros; first | exact KD.mk | exact KD.mkN
       ·intro tm hr
        simp [AllL, rdV] at hr
        simp [hr, nth_d e10, nth_d e11, ← e12]
        intros; first | exact KD.mk | exact KD.mkN
       ·intro tm hr
        simp [AllL, rdV] at hr
        simp [hr, nth_d e10, nth_d e11, ← e12]
        intros; first | exact KD.mk | exact KD.mkN
       ·intro tm hr
        simp [AllL, rdV] at hr
        simp [hr, nth_d e10, nth_d e11, ← e12]
        intros; first | exact KD.mk | exact KD.mkN
       ·intro tm hr
        simp [AllL, rdV] at hr
        simp [hr, nth_d e10, nth_d e11, ← e12]
        intros; first | exact KD.mk | exact KD.mkN
       ·intro tm hr
        simp [AllL, rdV] at hr
        simp [hr, nth_d e10, nth_d e11, ← e12]
        intros; first | exact KD.mk | exact KD.mkN
       ·intro tm hr
        simp [AllL, rdV] at hr
        simp [hr, nth_d e10, nth_d e11, ← e12]
        intros; first | exact KD.mk | exact KD.mkN
       ·intro tm hr
        simp [AllL, rdV] at hr
        simp [hr, nth_d e10, nth_d e11, ← e12]
        intros; first | exact KD.mk | exact KD.mkN
       ·intro tm hr
        simp [AllL, rdV] at hr
        simp [hr, nth_d e10, nth_d e11, ← e12]
        intros; first | exact KD.mk | exact KD.mkN
       ·intro tm hr
        simp [AllL, rdV] at hr
        simp [hr, nth_d e10, nth_d e11, ← e12]
        intros; first | exact KD.mk | exact KD.mkN
       ·intro tm hr
        simp [AllL, rdV] at hr
        simp [hr, nth_d e10, nth_d e11, ← e12]
        intros; first | exact KD.mk | exact KD.mkN
       ·intro tm hr
        simp [AllL, rdV] at hr
        simp [hr, nth_d e10, nth_d e11, ← e12]
        intros; first | exact KD.mk | exact KD.mkN
       ·intro tm hr
        simp [AllL, rdV] at hr
        simp [hr, nth_d e10, nth_d e11, ← e12]
        intros; first | exact KD.mk | exact KD.mkN
       ·intro tm hr
        simp [AllL, rdV] at hr
        simp [hr, nth_d e10, nth_d e11, ← e12]
        intros; first | exact KD.mk | exact KD.mkN
       ·intro tm hr
        simp [AllL, rdV] at hr
        simp [hr, nth_d e10, nth_d e11, ← e12]
        intros; first | exact KD.mk | exact KD.mkN
       ·intro tm hr
        simp [AllL, rdV] at hr
        simp [hr, nth_d e10, nth_d e11, ← e12]
        intros; first | exact KD.mk | exact KD.mkN
       ·intro tm hr
        simp [AllL, rdV] at hr
        simp [hr, nth_d e10, nth_d e11, ← e12]
        intros; first | exact KD.mk | exact KD.mkN
       ·intro tm hr
        simp [AllL, rdV] at hr
        simp [hr, nth_d e10, nth_d e11, ← e12]
        intros; first | exact KD.mk | exact KD.mkN
       ·intro tm hr
        simp [AllL, rdV] at hr
        simp [hr, nth_d e10, nth_d e11, ← e12]
        intros; first | exact KD.mk | exact KD.mkN
       ·intro tm hr
        simp [AllL, rdV] at hr
        simp [hr, nth_d e10, nth_d e11, ← e12]
        intros; first | exact KD.mk | exact KD.mkN
       ·intro tm hr
        simp [AllL, rdV] at hr
        simp [hr, nth_d e10, nth_d e11, ← e12]
        intros; first | exact KD.mk | exact KD.mkN
       ·intro tm hr
        simp [AllL, rdV] at hr
        simp [hr, nth_d e10, nth_d e11, ← e12]
        intros; first | exact KD.mk | exact KD.mkN
      ·rfl
      ·simp [tmD, putD, nth_d e10, nth_d e11, ← e12]; rfl
      ·simp [nth_d e10, nth_d e11, ← e12]
       intros; rfl
      obtain rfl := Option.some.inj h
      refine nP_i ?_
      refine Weak.mixN [] hn0 (by decide) ?_ ?_ rfl
      all_goals first | (simp [inv_cons, inv_nil, pickOb]; done) | rfl
     | false =>
      replace h := iteF rfl h
      replace h := ltE h; obtain ⟨v13, e13, h⟩ := h
      cases v13 with
      | true =>
       replace h := iteT rfl h
       apply AW.drawnR (V := [_, _, _, _, _, _, _, _, _, _, _, _, _, _, _, _, _, _, _, _, _, _, _, _, _, _, _, _, _, _, _, _, _, _, _]) mixed [⟨[0], [], [(0, none)], false⟩, ⟨[0], [], [(5, none)], false⟩, ⟨[0], [0, 1], [(17, some 0), (18, some 1)], false⟩, ⟨[0], [0, 1, 2], [(19, some 2)], false⟩, ⟨[0], [0, 1, 2, 3], [(20, some 3)], false⟩, ⟨[0], [], [(1, none)], false⟩, ⟨[0], [], [(5, none)], false⟩, ⟨[0], [5, 6], [(22, some 5), (23, some 6)], false⟩, ⟨[0], [5, 6, 7], [(24, some 7)], false⟩, ⟨[0], [5, 6, 7, 8], [(25, some 8)], false⟩, ⟨[0], [0, 1, 2, 3, 4, 5, 6, 7, 8, 9], [(21, some 4), (26, some 9)], false⟩, ⟨[0], [0, 1, 2, 3, 4, 5, 6, 7, 8, 9, 10], [(27, some 10)], false⟩, ⟨[0], [0, 1, 2, 3, 4, 5, 6, 7, 8, 9, 10, 11], [(0, none), (28, some 11)], false⟩, ⟨[0], [0, 1, 2, 3, 4, 5, 6, 7, 8, 9, 10, 11], [(5, none), (28, some 11)], false⟩, ⟨[0], [0, 1, 2, 3, 4, 5, 6, 7, 8, 9, 10, 11, 12, 13], [(28, some 11), (29, some 12), (30, some 13)], false⟩, ⟨[0], [0, 1, 2, 3, 4, 5, 6, 7, 8, 9, 10, 11, 12, 13, 14], [(28, some 11), (31, some 14)], false⟩, ⟨[0], [0, 1, 2, 3, 4, 5, 6, 7, 8, 9, 10, 11, 12, 13, 14, 15], [(28, some 11), (32, some 15)], false⟩, ⟨[0], [0, 1, 2, 3, 4, 5, 6, 7, 8, 9, 10, 11], [(1, none), (28, some 11)], false⟩, ⟨[0], [0, 1, 2, 3, 4, 5, 6, 7, 8, 9, 10, 11], [(5, none), (28, some 11)], false⟩, ⟨[0], [0, 1, 2, 3, 4, 5, 6, 7, 8, 9, 10, 11, 17, 18], [(28, some 11), (34, some 17), (35, some 18)], false⟩, ⟨[0], [0, 1, 2, 3, 4, 5, 6, 7, 8, 9, 10, 11, 17, 18, 19], [(28, some 11), (36, some 19)], false⟩, ⟨[0], [0, 1, 2, 3, 4, 5, 6, 7, 8, 9, 10, 11, 17, 18, 19, 20], [(28, some 11), (37, some 20)], false⟩, ⟨[0], [0, 1, 2, 3, 4, 5, 6, 7, 8, 9, 10, 11, 12, 13, 14, 15, 16, 17, 18, 19, 20, 21], [(28, some 11), (33, some 16), (38, some 21)], false⟩, ⟨[0], [0, 1, 2, 3, 4, 5, 6, 7, 8, 9, 10, 11, 12, 13, 14, 15, 16, 17, 18, 19, 20, 21, 22], [(28, some 11), (39, some 22)], false⟩, ⟨[0], [0, 1, 2, 3, 4, 5, 6, 7, 8, 9, 10, 11, 12, 13, 14, 15, 16, 17, 18, 19, 20, 21, 22, 23], [(40, some 23)], false⟩, ⟨[0], [0, 1, 2, 3, 4, 5, 6, 7, 8, 9, 10, 11, 12, 13, 14, 15, 16, 17, 18, 19, 20, 21, 22, 23, 24], [(0, none), (41, some 24)], false⟩, ⟨[0], [0, 1, 2, 3, 4, 5, 6, 7, 8, 9, 10, 11, 12, 13, 14, 15, 16, 17, 18, 19, 20, 21, 22, 23, 24], [(5, none), (41, some 24)], false⟩, ⟨[0], [0, 1, 2, 3, 4, 5, 6, 7, 8, 9, 10, 11, 12, 13, 14, 15, 16, 17, 18, 19, 20, 21, 22, 23, 24, 25, 26], [(41, some 24), (42, some 25), (43, some 26)], false⟩, ⟨[0], [0, 1, 2, 3, 4, 5, 6, 7, 8, 9, 10, 11, 12, 13, 14, 15, 16, 17, 18, 19, 20, 21, 22, 23, 24, 25, 26, 27], [(41, some 24), (44, some 27)], false⟩, ⟨[0], [0, 1, 2, 3, 4, 5, 6, 7, 8, 9, 10, 11, 12, 13, 14, 15, 16, 17, 18, 19, 20, 21, 22, 23, 24, 25, 26, 27, 28], [(41, some 24), (45, some 28)], false⟩, ⟨[0], [0, 1, 2, 3, 4, 5, 6, 7, 8, 9, 10, 11, 12, 13, 14, 15, 16, 17, 18, 19, 20, 21, 22, 23, 24], [(1, none), (41, some 24)], false⟩, ⟨[0], [0, 1, 2, 3, 4, 5, 6, 7, 8, 9, 10, 11, 12, 13, 14, 15, 16, 17, 18, 19, 20, 21, 22, 23, 24], [(5, none), (41, some 24)], false⟩, ⟨[0], [0, 1, 2, 3, 4, 5, 6, 7, 8, 9, 10, 11, 12, 13, 14, 15, 16, 17, 18, 19, 20, 21, 22, 23, 24, 30, 31], [(41, some 24), (47, some 30), (48, some 31)], false⟩, ⟨[0], [0, 1, 2, 3, 4, 5, 6, 7, 8, 9, 10, 11, 12, 13, 14, 15, 16, 17, 18, 19, 20, 21, 22, 23, 24, 30, 31, 32], [(41, some 24), (49, some 32)], false⟩, ⟨[0], [0, 1, 2, 3, 4, 5, 6, 7, 8, 9, 10, 11, 12, 13, 14, 15, 16, 17, 18, 19, 20, 21, 22, 23, 24, 30, 31, 32, 33], [(41, some 24), (50, some 33)], false⟩, ⟨[], [0, 1, 2, 3, 4, 5, 6, 7, 8, 9, 10, 11, 12, 13, 14, 15, 16, 17, 18, 19, 20, 21, 22, 23, 24, 25, 26, 27, 28, 29, 30, 31, 32, 33, 34], [], false⟩, ⟨[], [0, 1, 2, 3, 4, 5, 6, 7, 8, 9, 10, 11, 12, 13, 14, 15, 16, 17, 18, 19, 20, 21, 22, 23, 24, 25, 26, 27, 28, 29, 30, 31, 32, 33, 34, 35], [], false⟩, ⟨[], [0, 1, 2, 3, 4, 5, 6, 7, 8, 9, 10, 11, 12, 13, 14, 15, 16, 17, 18, 19, 20, 21, 22, 23, 24, 25, 26, 27, 28, 29, 30, 31, 32, 33, 34, 35, 36], [], false⟩] 35 (by kernel_rfl) (by kernel_rfl)
       ·refine ⟨?_, ?_, ?_, ?_, ?_, ?_, ?_, ?_, ?_, ?_, ?_, ?_, ?_, ?_, ?_, ?_, ?_, ?_, ?_, ?_, ?_, ?_, ?_, ?_, ?_, ?_, ?_, ?_, ?_, ?_, ?_, ?_, ?_, ?_, ?_, trivial⟩
        ·intro tm hr
         simp [AllL, rdV] at hr
         simp [hr, nth_d e10, nth_d e11, ← e12, ← e13]
         intros; first | exact KD.mk | exact KD.mkN
        ·intro tm hr
         simp [AllL, rdV] at hr
         simp [hr, nth_d e10, nth_d e11, ← e12, ← e13]
         intros; first | exact KD.mk | exact KD.mkN
        ·intro tm hr
         simp [AllL, rdV] at hr
         simp [hr, nth_d e10, nth_d e11, ← e12, ← e13]
         intros; first | exact KD.mk | exact KD.mkN
        ·intro tm hr
         simp [AllL, rdV] at hr
         simp [hr, nth_d e10, nth_d e11, ← e12, ← e13]
         intros; first | exact KD.mk | exact KD.mkN
        ·intro tm hr
         simp [AllL, rdV] at hr
         simp [hr, nth_d e10, nth_d e11, ← e12, ← e13]
         intros; first | exact KD.mk | exact KD.mkN
        ·intro tm hr
         simp [AllL, rdV] at hr
         simp [hr, nth_d e10, nth_d e11, ← e12, ← e13]
         intros; first | exact KD.mk | exact KD.mkN
        ·intro tm hr
         simp [AllL, rdV] at hr
         simp [hr, nth_d e10, nth_d e11, ← e12, ← e13]
         intros; first | exact KD.mk | exact KD.mkN
        ·intro tm hr
         simp [AllL, rdV] at hr
         simp [hr, nth_d e10, nth_d e11, ← e12, ← e13]
         intros; first | exact KD.mk | exact KD.mkN
        ·intro tm hr
         simp [AllL, rdV] at hr
         simp [hr, nth_d e10, nth_d e11, ← e12, ← e13]
         intros; first | exact KD.mk | exact KD.mkN
        ·intro tm hr
         simp [AllL, rdV] at hr
         simp [hr, nth_d e10, nth_d e11, ← e12, ← e13]
         intros; first | exact KD.mk | exact KD.mkN
        ·intro tm hr
         simp [AllL, rdV] at hr
         simp [hr, nth_d e10, nth_d e11, ← e12, ← e13]
         intros; first | exact KD.mk | exact KD.mkN
        ·intro tm hr
         simp [AllL, rdV] at hr
         simp [hr, nth_d e10, nth_d e11, ← e12, ← e13]
         intros; first | exact KD.mk | exact KD.mkN
        ·intro tm hr
         simp [AllL, rdV] at hr
         simp [hr, nth_d e10, nth_d e11, ← e12, ← e13]
         intros; first | exact KD.mk | exact KD.mkN
        ·intro tm hr
         simp [AllL, rdV] at hr
         simp [hr, nth_d e10, nth_d e11, ← e12, ← e13]
         intros; first | exact KD.mk | exact KD.mkN
        ·intro tm hr
         simp [AllL, rdV] at hr
         simp [hr, nth_d e10, nth_d e11, ← e12, ← e13]
         intros; first | exact KD.mk | exact KD.mkN
        ·intro tm hr
         simp [AllL, rdV] at hr
         simp [hr, nth_d e10, nth_d e11, ← e12, ← e13]
         intros; first | exact KD.mk | exact KD.mkN
        ·intro tm hr
         simp [AllL, rdV] at hr
         simp [hr, nth_d e10, nth_d e11, ← e12, ← e13]
         intros; first | exact KD.mk | exact KD.mkN
        ·intro tm hr
         simp [AllL, rdV] at hr
         simp [hr, nth_d e10, nth_d e11, ← e12, ← e13]
         intros; first | exact KD.mk | exact KD.mkN
        ·intro tm hr
         simp [AllL, rdV] at hr
         simp [hr, nth_d e10, nth_d e11, ← e12, ← e13]
         intros; first | exact KD.mk | exact KD.mkN
        ·intro tm hr
         simp [AllL, rdV] at hr
         simp [hr, nth_d e10, nth_d e11, ← e12, ← e13]
         intros; first | exact KD.mk | exact KD.mkN
        ·intro tm hr
         simp [AllL, rdV] at hr
         simp [hr, nth_d e10, nth_d e11, ← e12, ← e13]
         intros; first | exact KD.mk | exact KD.mkN
        ·intro tm hr
         simp [AllL, rdV] at hr
         simp [hr, nth_d e10, nth_d e11, ← e12, ← e13]
         intros; first | exact KD.mk | exact KD.mkN
        ·intro tm hr
         simp [AllL, rdV] at hr
         simp [hr, nth_d e10, nth_d e11, ← e12, ← e13]
         intros; first | exact KD.mk | exact KD.mkN
        ·intro tm hr
         simp [AllL, rdV] at hr
         simp [hr, nth_d e10, nth_d e11, ← e12, ← e13]
         intros; first | exact KD.mk | exact KD.mkN
        ·intro tm hr
         simp [AllL, rdV] at hr
         simp [hr, nth_d e10, nth_d e11, ← e12, ← e13]
         intros; first | exact KD.mk | exact KD.mkN
        ·intro tm hr
         simp [AllL, rdV] at hr
         simp [hr, nth_d e10, nth_d e11, ← e12, ← e13]
         intros; first | exact KD.mk | exact KD.mkN
        ·intro tm hr
         simp [AllL, rdV] at hr
         simp [hr, nth_d e10, nth_d e11, ← e12, ← e13]
         intros; first | exact KD.mk | exact KD.mkN
        ·intro tm hr
         simp [AllL, rdV] at hr
         simp [hr, nth_d e10, nth_d e11, ← e12, ← e13]
         intros; first | exact KD.mk | exact KD.mkN
        ·intro tm hr
         simp [AllL, rdV] at hr
         simp [hr, nth_d e10, nth_d e11, ← e12, ← e13]
         intros; first | exact KD.mk | exact KD.mkN
        ·intro tm hr
         simp [AllL, rdV] at hr
         simp [hr, nth_d e10, nth_d e11, ← e12, ← e13]
         intros; first | exact KD.mk | exact KD.mkN
        ·intro tm hr
         simp [AllL, rdV] at hr
         simp [hr, nth_d e10, nth_d e11, ← e12, ← e13]
         intros; first | exact KD.mk | exact KD.mkN
        ·intro tm hr
         simp [AllL, rdV] at hr
         simp [hr, nth_d e10, nth_d e11, ← e12, ← e13]
         intros; first | exact KD.mk | exact KD.mkN
        ·intro tm hr
         simp [AllL, rdV] at hr
         simp [hr, nth_d e10, nth_d e11, ← e12, ← e13]
         intros; first | exact KD.mk | exact KD.mkN
        ·intro tm hr
         simp [AllL, rdV] at hr
         simp [hr, nth_d e10, nth_d e11, ← e12, ← e13]
         intros; first | exact KD.mk | exact KD.mkN
        ·intro tm hr
         simp [AllL, rdV] at hr
         simp [hr, nth_d e10, nth_d e11, ← e12, ← e13]
         intros; first | exact KD.mk | exact KD.mkN
       ·rfl
       ·simp [tmD, putD, nth_d e10, nth_d e11, ← e12, ← e13]; rfl
       ·simp [nth_d e10, nth_d e11, ← e12, ← e13]
        intros; rfl
       obtain rfl := Option.some.inj h
       refine nP_i ?_
       refine Weak.mixN [] hn0 (by decide) ?_ ?_ rfl
       all_goals first | (simp [inv_cons, inv_nil, pickOb]; done) | rfl
      | false =>
       replace h := iteF rfl h
       replace h := bnE h; obtain ⟨v14, e14, h⟩ := h
       replace h := ltE h; obtain ⟨v15, e15, h⟩ := h
       apply AW.drawnR (V := [_, _, _, _, _, _, _, _, _, _, _, _, _, _, _, _, _, _, _, _, _, _, _, _, _, _, _, _, _, _, _, _, _, _, _]) mixed [⟨[0], [], [(0, none)], false⟩, ⟨[0], [], [(5, none)], false⟩, ⟨[0], [0, 1], [(17, some 0), (18, some 1)], false⟩, ⟨[0], [0, 1, 2], [(19, some 2)], false⟩, ⟨[0], [0, 1, 2, 3], [(20, some 3)], false⟩, ⟨[0], [], [(1, none)], false⟩, ⟨[0], [], [(5, none)], false⟩, ⟨[0], [5, 6], [(22, some 5), (23, some 6)], false⟩, ⟨[0], [5, 6, 7], [(24, some 7)], false⟩, ⟨[0], [5, 6, 7, 8], [(25, some 8)], false⟩, ⟨[0], [0, 1, 2, 3, 4, 5, 6, 7, 8, 9], [(21, some 4), (26, some 9)], false⟩, ⟨[0], [0, 1, 2, 3, 4, 5, 6, 7, 8, 9, 10], [(27, some 10)], false⟩, ⟨[0], [0, 1, 2, 3, 4, 5, 6, 7, 8, 9, 10, 11], [(0, none), (28, some 11)], false⟩, ⟨[0], [0, 1, 2, 3, 4, 5, 6, 7, 8, 9, 10, 11], [(5, none), (28, some 11)], false⟩, ⟨[0], [0, 1, 2, 3, 4, 5, 6, 7, 8, 9, 10, 11, 12, 13], [(28, some 11), (29, some 12), (30, some 13)], false⟩, ⟨[0], [0, 1, 2, 3, 4, 5, 6, 7, 8, 9, 10, 11, 12, 13, 14], [(28, some 11), (31, some 14)], false⟩, ⟨[0], [0, 1, 2, 3, 4, 5, 6, 7, 8, 9, 10, 11, 12, 13, 14, 15], [(28, some 11), (32, some 15)], false⟩, ⟨[0], [0, 1, 2, 3, 4, 5, 6, 7, 8, 9, 10, 11], [(1, none), (28, some 11)], false⟩, ⟨[0], [0, 1, 2, 3, 4, 5, 6, 7, 8, 9, 10, 11], [(5, none), (28, some 11)], false⟩, ⟨[0], [0, 1, 2, 3, 4, 5, 6, 7, 8, 9, 10, 11, 17, 18], [(28, some 11), (34, some 17), (35, some 18)], false⟩, ⟨[0], [0, 1, 2, 3, 4, 5, 6, 7, 8, 9, 10, 11, 17, 18, 19], [(28, some 11), (36, some 19)], false⟩, ⟨[0], [0, 1, 2, 3, 4, 5, 6, 7, 8, 9, 10, 11, 17, 18, 19, 20], [(28, some 11), (37, some 20)], false⟩, ⟨[0], [0, 1, 2, 3, 4, 5, 6, 7, 8, 9, 10, 11, 12, 13, 14, 15, 16, 17, 18, 19, 20, 21], [(28, some 11), (33, some 16), (38, some 21)], false⟩, ⟨[0], [0, 1, 2, 3, 4, 5, 6, 7, 8, 9, 10, 11, 12, 13, 14, 15, 16, 17, 18, 19, 20, 21, 22], [(28, some 11), (39, some 22)], false⟩, ⟨[0], [0, 1, 2, 3, 4, 5, 6, 7, 8, 9, 10, 11, 12, 13, 14, 15, 16, 17, 18, 19, 20, 21, 22, 23], [(40, some 23)], false⟩, ⟨[0], [0, 1, 2, 3, 4, 5, 6, 7, 8, 9, 10, 11, 12, 13, 14, 15, 16, 17, 18, 19, 20, 21, 22, 23, 24], [(0, none), (41, some 24)], false⟩, ⟨[0], [0, 1, 2, 3, 4, 5, 6, 7, 8, 9, 10, 11, 12, 13, 14, 15, 16, 17, 18, 19, 20, 21, 22, 23, 24], [(5, none), (41, some 24)], false⟩, ⟨[0], [0, 1, 2, 3, 4, 5, 6, 7, 8, 9, 10, 11, 12, 13, 14, 15, 16, 17, 18, 19, 20, 21, 22, 23, 24, 25, 26], [(41, some 24), (42, some 25), (43, some 26)], false⟩, ⟨[0], [0, 1, 2, 3, 4, 5, 6, 7, 8, 9, 10, 11, 12, 13, 14, 15, 16, 17, 18, 19, 20, 21, 22, 23, 24, 25, 26, 27], [(41, some 24), (44, some 27)], false⟩, ⟨[0], [0, 1, 2, 3, 4, 5, 6, 7, 8, 9, 10, 11, 12, 13, 14, 15, 16, 17, 18, 19, 20, 21, 22, 23, 24, 25, 26, 27, 28], [(41, some 24), (45, some 28)], false⟩, ⟨[0], [0, 1, 2, 3, 4, 5, 6, 7, 8, 9, 10, 11, 12, 13, 14, 15, 16, 17, 18, 19, 20, 21, 22, 23, 24], [(1, none), (41, some 24)], false⟩, ⟨[0], [0, 1, 2, 3, 4, 5, 6, 7, 8, 9, 10, 11, 12, 13, 14, 15, 16, 17, 18, 19, 20, 21, 22, 23, 24], [(5, none), (41, some 24)], false⟩, ⟨[0], [0, 1, 2, 3, 4, 5, 6, 7, 8, 9, 10, 11, 12, 13, 14, 15, 16, 17, 18, 19, 20, 21, 22, 23, 24, 30, 31], [(41, some 24), (47, some 30), (48, some 31)], false⟩, ⟨[0], [0, 1, 2, 3, 4, 5, 6, 7, 8, 9, 10, 11, 12, 13, 14, 15, 16, 17, 18, 19, 20, 21, 22, 23, 24, 30, 31, 32], [(41, some 24), (49, some 32)], false⟩, ⟨[0], [0, 1, 2, 3, 4, 5, 6, 7, 8, 9, 10, 11, 12, 13, 14, 15, 16, 17, 18, 19, 20, 21, 22, 23, 24, 30, 31, 32, 33], [(41, some 24), (50, some 33)], false⟩, ⟨[], [0, 1, 2, 3, 4, 5, 6, 7, 8, 9, 10, 11, 12, 13, 14, 15, 16, 17, 18, 19, 20, 21, 22, 23, 24, 25, 26, 27, 28, 29, 30, 31, 32, 33, 34], [], false⟩, ⟨[], [0, 1, 2, 3, 4, 5, 6, 7, 8, 9, 10, 11, 12, 13, 14, 15, 16, 17, 18, 19, 20, 21, 22, 23, 24, 25, 26, 27, 28, 29, 30, 31, 32, 33, 34, 35], [], false⟩, ⟨[], [0, 1, 2, 3, 4, 5, 6, 7, 8, 9, 10, 11, 12, 13, 14, 15, 16, 17, 18, 19, 20, 21, 22, 23, 24, 25, 26, 27, 28, 29, 30, 31, 32, 33, 34, 35, 36], [], false⟩] 35 (by kernel_rfl) (by kernel_rfl)
       ·refine ⟨?_, ?_, ?_, ?_, ?_, ?_, ?_, ?_, ?_, ?_, ?_, ?_, ?_, ?_, ?_, ?_, ?_, ?_, ?_, ?_, ?_, ?_, ?_, ?_, ?_, ?_, ?_, ?_, ?_, ?_, ?_, ?_, ?_, ?_, ?_, trivial⟩
        ·intro tm hr
         simp [AllL, rdV] at hr
         simp [hr, nth_d e10, nth_d e11, ← e12, ← e13, ← e15]
         intros; first | exact KD.mk | exact KD.mkN
        ·intro tm hr
         simp [AllL, rdV] at hr
         simp [hr, nth_d e10, nth_d e11, ← e12, ← e13, ← e15]
         intros; first | exact KD.mk | exact KD.mkN
        ·intro tm hr
         simp [AllL, rdV] at hr
         simp [hr, nth_d e10, nth_d e11, ← e12, ← e13, ← e15]
         intros; first | exact KD.mk | exact KD.mkN
        ·intro tm hr
         simp [AllL, rdV] at hr
         simp [hr, nth_d e10, nth_d e11, ← e12, ← e13, ← e15]
         intros; first | exact KD.mk | exact KD.mkN
        ·intro tm hr
         simp [AllL, rdV] at hr
         simp [hr, nth_d e10, nth_d e11, ← e12, ← e13, ← e15]
         intros; first | exact KD.mk | exact KD.mkN
        ·intro tm hr
         simp [AllL, rdV] at hr
         simp [hr, nth_d e10, nth_d e11, ← e12, ← e13, ← e15]
         intros; first | exact KD.mk | exact KD.mkN
        ·intro tm hr
         simp [AllL, rdV] at hr
         simp [hr, nth_d e10, nth_d e11, ← e12, ← e13, ← e15]
         intros; first | exact KD.mk | exact KD.mkN
        ·intro tm hr
         simp [AllL, rdV] at hr
         simp [hr, nth_d e10, nth_d e11, ← e12, ← e13, ← e15]
         intros; first | exact KD.mk | exact KD.mkN
        ·intro tm hr
         simp [AllL, rdV] at hr
         simp [hr, nth_d e10, nth_d e11, ← e12, ← e13, ← e15]
         intros; first | exact KD.mk | exact KD.mkN
        ·intro tm hr
         simp [AllL, rdV] at hr
         simp [hr, nth_d e10, nth_d e11, ← e12, ← e13, ← e15]
         intros; first | exact KD.mk | exact KD.mkN
        ·intro tm hr
         simp [AllL, rdV] at hr
         simp [hr, nth_d e10, nth_d e11, ← e12, ← e13, ← e15]
         intros; first | exact KD.mk | exact KD.mkN
        ·intro tm hr
         simp [AllL, rdV] at hr
         simp [hr, nth_d e10, nth_d e11, ← e12, ← e13, ← e15]
         intros; first | exact KD.mk | exact KD.mkN
        ·intro tm hr
         simp [AllL, rdV] at hr
         simp [hr, nth_d e10, nth_d e11, ← e12, ← e13, ← e15]
         intros; first | exact KD.mk | exact KD.mkN
        ·intro tm hr
         simp [AllL, rdV] at hr
         simp [hr, nth_d e10, nth_d e11, ← e12, ← e13, ← e15]
         intros; first | exact KD.mk | exact KD.mkN
        ·intro tm hr
         simp [AllL, rdV] at hr
         simp [hr, nth_d e10, nth_d e11, ← e12, ← e13, ← e15]
         intros; first | exact KD.mk | exact KD.mkN
        ·intro tm hr
         simp [AllL, rdV] at hr
         simp [hr, nth_d e10, nth_d e11, ← e12, ← e13, ← e15]
         intros; first | exact KD.mk | exact KD.mkN
        ·intro tm hr
         simp [AllL, rdV] at hr
         simp [hr, nth_d e10, nth_d e11, ← e12, ← e13, ← e15]
         intros; first | exact KD.mk | exact KD.mkN
        ·intro tm hr
         simp [AllL, rdV] at hr
         simp [hr, nth_d e10, nth_d e11, ← e12, ← e13, ← e15]
         intros; first | exact KD.mk | exact KD.mkN
        ·intro tm hr
         simp [AllL, rdV] at hr
         simp [hr, nth_d e10, nth_d e11, ← e12, ← e13, ← e15]
         intros; first | exact KD.mk | exact KD.mkN
        ·intro tm hr
         simp [AllL, rdV] at hr
         simp [hr, nth_d e10, nth_d e11, ← e12, ← e13, ← e15]
         intros; first | exact KD.mk | exact KD.mkN
        ·intro tm hr
         simp [AllL, rdV] at hr
         simp [hr, nth_d e10, nth_d e11, ← e12, ← e13, ← e15]
         intros; first | exact KD.mk | exact KD.mkN
        ·intro tm hr
         simp [AllL, rdV] at hr
         simp [hr, nth_d e10, nth_d e11, ← e12, ← e13, ← e15]
         intros; first | exact KD.mk | exact KD.mkN
        ·intro tm hr
         simp [AllL, rdV] at hr
         simp [hr, nth_d e10, nth_d e11, ← e12, ← e13, ← e15]
         intros; first | exact KD.mk | exact KD.mkN
        ·intro tm hr
         simp [AllL, rdV] at hr
         simp [hr, nth_d e10, nth_d e11, ← e12, ← e13, ← e15]
         intros; first | exact KD.mk | exact KD.mkN
        ·intro tm hr
         simp [AllL, rdV] at hr
         simp [hr, nth_d e10, nth_d e11, ← e12, ← e13, ← e15]
         intros; first | exact KD.mk | exact KD.mkN
        ·intro tm hr
         simp [AllL, rdV] at hr
         simp [hr, nth_d e10, nth_d e11, ← e12, ← e13, ← e15]
         intros; first | exact KD.mk | exact KD.mkN
        ·intro tm hr
         simp [AllL, rdV] at hr
         simp [hr, nth_d e10, nth_d e11, ← e12, ← e13, ← e15]
         intros; first | exact KD.mk | exact KD.mkN
        ·intro tm hr
         simp [AllL, rdV] at hr
         simp [hr, nth_d e10, nth_d e11, ← e12, ← e13, ← e15]
         intros; first | exact KD.mk | exact KD.mkN
        ·intro tm hr
         simp [AllL, rdV] at hr
         simp [hr, nth_d e10, nth_d e11, ← e12, ← e13, ← e15]
         intros; first | exact KD.mk | exact KD.mkN
        ·intro tm hr
         simp [AllL, rdV] at hr
         simp [hr, nth_d e10, nth_d e11, ← e12, ← e13, ← e15]
         intros; first | exact KD.mk | exact KD.mkN
        ·intro tm hr
         simp [AllL, rdV] at hr
         simp [hr, nth_d e10, nth_d e11, ← e12, ← e13, ← e15]
         intros; first | exact KD.mk | exact KD.mkN
        ·intro tm hr
         simp [AllL, rdV] at hr
         simp [hr, nth_d e10, nth_d e11, ← e12, ← e13, ← e15]
         intros; first | exact KD.mk | exact KD.mkN
        ·intro tm hr
         simp [AllL, rdV] at hr
         simp [hr, nth_d e10, nth_d e11, ← e12, ← e13, ← e15]
         intros; first | exact KD.mk | exact KD.mkN
        ·intro tm hr
         simp [AllL, rdV] at hr
         simp [hr, nth_d e10, nth_d e11, ← e12, ← e13, ← e15]
         intros; first | exact KD.mk | exact KD.mkN
        ·intro tm hr
         simp [AllL, rdV] at hr
         simp [hr, nth_d e10, nth_d e11, ← e12, ← e13, ← e15]
         intros; first | exact KD.mk | exact KD.mkN
       ·rfl
       ·simp [tmD, putD, nth_d e10, nth_d e11, ← e12, ← e13, ← e15]; rfl
       ·simp [nth_d e10, nth_d e11, ← e12, ← e13, ← e15]
        intros
        refine xcall_plain en_r5_SameItem (s_r5_SameItem e14) rfl ⟨.same rfl, .same rfl, trivial⟩ ?_
        try simp [nth_d e10, nth_d e11, ← e12, ← e13, ← e15]
        intros; rfl
       obtain rfl := Option.some.inj h
       refine nP_i ?_
       refine Weak.mixN [] hn0 (by decide) ?_ ?_ rfl
       all_goals first | (simp [inv_cons, inv_nil, pickOb]; done) | rfl
    ·rintro e s hp
     obtain ⟨rfl, hw⟩ := hp
     refine ⟨_, hw, ?_⟩
     try simp only [sp_l, sp_r, Post.seq, Post.block, Nat.reduceEqDiff, reduceIte, Nat.zero_ne_one, Nat.one_ne_zero]
     replace h := ltE h; obtain ⟨v16, e16, h⟩ := h
     rw [← e16]
     cases v16 with
     | true =>
      replace h := iteT rfl h
      refine AW.cond_true (by simp) ?_
      apply AW.step
      ·simp
       intros; rfl
      obtain rfl := Option.some.inj h
      refine AW.ret ?_
      try simp only [sp_l, sp_r, Post.seq, Post.block, Nat.reduceEqDiff, reduceIte, Nat.zero_ne_one, Nat.one_ne_zero]
      refine rP_i ?_
      refine Left.plain hnb (by simp [Try.f18, resV, resC, comp]; rfl) rfl rfl ?_
      simp
     | false =>
      replace h := iteF rfl h
      refine AW.cond_false (by simp) ?_
      refine AW.skip ?_
      try simp only [sp_l, sp_r, Post.seq, Post.block, Nat.reduceEqDiff, reduceIte, Nat.zero_ne_one, Nat.one_ne_zero]
      try simp only [sp_l, sp_r, Post.seq, Post.block, Nat.reduceEqDiff, reduceIte, Nat.zero_ne_one, Nat.one_ne_zero]
      replace h := ltE h; obtain ⟨v17, e17, h⟩ := h
      apply AW.last
      ·simp [← e17]
       intros; rfl
      obtain rfl := Option.some.inj h
      refine nP_i ?_
      refine Weak.mixN [] hn0 (by decide) ?_ ?_ rfl
      all_goals first | (simp [inv_cons, inv_nil, pickOb]; done) | rfl
   | false =>
    replace h := iteF rfl h
    refine AW.cond_false (by simp) ?_
    refine AW.exit ?_
    try simp only [sp_l, sp_r, Post.seq, Post.block, Nat.reduceEqDiff, reduceIte, Nat.zero_ne_one, Nat.one_ne_zero]
    obtain rfl := Option.some.inj h
    try simp only [sp_l, sp_r]
    refine xP_i ?_
    refine Weak.mixN [] hn0 (by decide) ?_ ?_ rfl
    all_goals first | (simp [inv_cons, inv_nil, pickOb]; done) | rfl
  ·rintro e s hp
   rcases y5 with y18 | y19
   ·replace h := smL h
    obtain ⟨rfl, hw⟩ := hp
    refine ⟨_, hw, ?_⟩
    try simp only [sp_l, sp_r, Post.seq, Post.block, Nat.reduceEqDiff, reduceIte, Nat.zero_ne_one, Nat.one_ne_zero]
    apply AW.step
    ·simp
     intros; rfl
    obtain rfl := Option.some.inj h
    refine AW.ret ?_
    refine Left.plain hnb (by simp [Try.f18, resV, resC, comp]; rfl) rfl rfl ?_
    simp
   ·replace h := smR h
    obtain ⟨rfl, hl⟩ := hp
    refine ⟨_, Weak.refl _, ?_⟩
    obtain rfl := Option.some.inj h
    exact hl
theorem en_r5_SameEffects : Enters Try.prog 18 := enters Try.func18 (by kernel_rfl) rfl
end Go.Proofs.Ytlkhfdccapkcdaa

/- Plain laws: comparisons of what is alike, feeds. -/
namespace Go.Proofs.Ytlkhfdccapkcdaa
open Go Go.RowKit
set_option linter.unusedVariables false
set_option linter.unusedSimpArgs false
@[simp] theorem eqS_self (a : ByteArray) : eqS a a = true := by simp [eqS]
@[simp] theorem neS_self (a : ByteArray) : neS a a = false := by simp [neS]
@[simp] theorem eqI_self (a : Int) : eqI a a = true := by simp [eqI]
@[simp] theorem neI_self (a : Int) : neI a a = false := by simp [neI]
@[simp] theorem eqB_self (a : Bool) : eqB a a = true := by simp [eqB]
@[simp] theorem neB_self (a : Bool) : neB a a = false := by simp [neB]
@[simp] theorem andB_tt : andB true true = true := rfl
theorem ltI_t {a b : Int} (h : a < b) : ltI a b = true := by simp [ltI, h]
theorem ltI_f {a b : Int} (h : ¬ a < b) : ltI a b = false := by simp [ltI]; omega
/-- An item of a size that goes through. -/
def okI (i : Item) : Prop := i.f.length ≤ 4398046511104 ∧ i.l.length ≤ 8796093022208
theorem item_Copy_ok (i : Item) (h : okI i) : item_Copy_sh big i = some i := by
  unfold item_Copy_sh
  have h1 := h.1
  have h2 := h.2
  rw [chk_small (by omega) (by omega), chk_small (by omega) (by omega), chk_room (by omega) (by omega), chk_room (by omega) (by omega)]
theorem r_eqF_refl (l : List Field) (h : l.length ≤ 10000000000000) : r5_SameFields_sh big l l = some true := by
  unfold r5_SameFields_sh
  simp only [lt_eq, bn_some, ite_t, ite_f, sm_inl, sm_inr, lenI_eq, Option.some.injEq, neI_self]
  refine bn_run (.inl ()) (fun i => (i : Int)) l.length (by unfold big; omega) rfl (fun i hi => ?_) ?_ ?_
  rotate_left 2
  · rfl
  · rw [ltI_t (by omega)]
    simp only [lt_eq, bn_some, ite_t, ite_f, sm_inl, sm_inr, lenI_eq, Option.some.injEq, nth_some hi, eqS_self, andB_tt, notB_t]
    rw [addI_64 (by omega) (by omega)]
    rfl
  · rw [ltI_f (by omega)]; rfl
theorem r_eqT_refl (l : List ByteArray) (h : l.length ≤ 10000000000000) : r1_Texts_sh big l l = some true := by
  unfold r1_Texts_sh
  simp only [lt_eq, bn_some, ite_t, ite_f, sm_inl, sm_inr, lenI_eq, Option.some.injEq, neI_self]
  refine bn_run (.inl ()) (fun i => (i : Int)) l.length (by unfold big; omega) rfl (fun i hi => ?_) ?_ ?_
  rotate_left 2
  · rfl
  · rw [ltI_t (by omega)]
    simp only [lt_eq, bn_some, ite_t, ite_f, sm_inl, sm_inr, lenI_eq, Option.some.injEq, nth_some hi, neS_self]
    rw [addI_64 (by omega) (by omega)]
    rfl
  · rw [ltI_f (by omega)]; rfl
theorem r_SameItem_refl (i : Item) (h : okI i) : r5_SameItem_sh big i i = some true := by
  unfold r5_SameItem_sh
  simp only [lt_eq, bn_some, ite_t, ite_f, sm_inl, sm_inr, lenI_eq, Option.some.injEq, eqI_self, eqS_self, r_eqF_refl i.f (by have := h.1; omega), r_eqT_refl i.l (by have := h.2; omega)]
def okE (l : List Effect) : Prop := l.length ≤ 1000000000 ∧ ∀ e ∈ l, okI e.item
theorem r_SameEffects_refl (l : List Effect) (h : okE l) : r5_SameEffects_sh big l l = some true := by
  have hl := h.1
  unfold r5_SameEffects_sh
  simp only [lt_eq, bn_some, ite_t, ite_f, sm_inl, sm_inr, lenI_eq, Option.some.injEq, neI_self]
  refine bn_run (.inl ()) (fun i => (i : Int)) l.length (by unfold big; omega) rfl (fun i hi => ?_) ?_ ?_
  rotate_left 2
  · rfl
  · rw [ltI_t (by omega)]
    simp only [lt_eq, bn_some, ite_t, ite_f, sm_inl, sm_inr, lenI_eq, Option.some.injEq, nth_some hi, neS_self, neB_self, r_SameItem_refl _ (h.2 _ (List.getElem_mem hi)), notB_t]
    rw [addI_64 (by omega) (by omega)]
    rfl
  · rw [ltI_f (by omega)]; rfl
def lastN (l : List Effect) : List Effect := l.drop (l.length - 64)
theorem okE.drop {l : List Effect} (h : okE l) (k : Nat) : okE (l.drop k) := ⟨by have := h.1; simp; omega, fun e he => h.2 e (List.mem_of_mem_drop he)⟩
end Go.Proofs.Ytlkhfdccapkcdaa

/- Plain laws: the effects that numbers tell. -/
namespace Go.Proofs.Ytlkhfdccapkcdaa
open Go Go.RowKit
set_option linter.unusedVariables false
set_option linter.unusedSimpArgs false
end Go.Proofs.Ytlkhfdccapkcdaa

/- Plain laws: items and effects that numbers tell. -/
namespace Go.Proofs.Ytlkhfdccapkcdaa
open Go Go.RowKit
set_option linter.unusedVariables false
set_option linter.unusedSimpArgs false
def u8s (l : List Int) : Prop := ∀ x ∈ l, 0 ≤ x ∧ x ≤ 255
theorem ltI_d {a b : Int} (h : ltI a b = true) : a < b := by simpa [ltI] using h
theorem ltI_n {a b : Int} (h : ltI a b = false) : b ≤ a := by simpa [ltI] using h
theorem u8s.seg {l : List Int} (h : u8s l) (i j : Nat) : u8s ((l.drop i).take j) := fun x hx => h x (List.mem_of_mem_drop (List.mem_of_mem_take hx))
end Go.Proofs.Ytlkhfdccapkcdaa

/- Plain law: feeds keep the last of what was added. -/
namespace Go.Proofs.Ytlkhfdccapkcdaa
open Go Go.RowKit
set_option linter.unusedVariables false
set_option linter.unusedSimpArgs false
theorem okE.lastN {l : List Effect} (h : okE l) : okE (lastN l) := h.drop _
def allR (l : List Effect) (i : Nat) : List Effect := (List.replicate i l).flatten
def fdOf (off : Int) (b : List Effect) : Feed := ⟨⟨0, 0⟩, off, b, ⟨0, 0⟩, 0⟩
end Go.Proofs.Ytlkhfdccapkcdaa

/- Plain laws: spaces that rise, what an effect makes of one. -/
namespace Go.Proofs.Ytlkhfdccapkcdaa
open Go Go.RowKit
set_option linter.unusedVariables false
set_option linter.unusedSimpArgs false
section
variable {α β γ σ : Type}
/-- Rounds over a list. -/
theorem bn_fold {f : α → Option (α ⊕ β)} {a0 : α} {k : β → Option γ} {r : Option γ} {δ : Type} (l : List δ) (g : σ → δ → σ) (mk : Nat → σ → α) (s0 : σ) (b : β) (hl : l.length ≤ 140737488355328) (h0 : a0 = mk 0 s0)
    (h : ∀ i (hi : i < l.length) a, a = (l.take i).foldl g s0 → f (mk i a) = some (.inl (mk (i + 1) (g a l[i])))) (he : f (mk l.length (l.foldl g s0)) = some (.inr b)) (hk : k b = r) : bn (iter big f a0) k = r := by
  refine bn_run b (fun i => mk i ((l.take i).foldl g s0)) l.length (by unfold big; omega) h0 (fun i hi => ?_) ?_ hk
  · rw [h i hi _ rfl, ← List.take_append_getElem hi, List.foldl_append]
    rfl
  · rw [List.take_length]; exact he
/-- Where a name stands among what rises. -/
theorem shapeG {key : α → ByteArray} (name : ByteArray) : ∀ l : List α, l.Pairwise (fun a b => slt (key a) (key b) = true) → ∃ A B C, l = A ++ B ++ C ∧ (∀ a ∈ A, slt (key a) name = true) ∧ (∀ c ∈ C, slt name (key c) = true) ∧ (B = [] ∨ ∃ x, B = [x] ∧ key x = name)
  | [], _ => ⟨[], [], [], rfl, by simp, by simp, .inl rfl⟩
  | a :: l, h => by
    obtain ⟨h1, h2⟩ := List.pairwise_cons.1 h
    cases hs : slt (key a) name
    · rcases (slt_or _ _).1 hs with e | e
      · exact ⟨[], [a], l, rfl, by simp, fun c hc => e ▸ h1 c hc, .inr ⟨a, rfl, e⟩⟩
      · refine ⟨[], [], a :: l, rfl, by simp, fun c hc => ?_, .inl rfl⟩
        rcases List.mem_cons.1 hc with rfl | hc
        · exact e
        · exact slt_trans e (h1 c hc)
    · obtain ⟨A, B, C, rfl, h3, h4, h5⟩ := shapeG name l h2
      exact ⟨a :: A, B, C, rfl, fun x hx => by rcases List.mem_cons.1 hx with rfl | hx; exact hs; exact h3 x hx, h4, h5⟩
theorem Rn.eq {m : Option α} {v : α} (h : Rn m (· = v)) : m = Option.some v := by
  obtain ⟨w, h1, rfl⟩ := h
  exact h1
end
def SrtP (l : List Pair) : Prop := l.Pairwise (fun a b => slt a.key b.key = true)
def newP (e : Effect) : List Pair := if e.gone then [] else [⟨e.key, e.item⟩]
def applyP (l : List Pair) (e : Effect) : List Pair := l.filter (fun p => slt p.key e.key) ++ newP e ++ l.filter (fun p => slt e.key p.key)
theorem filtP_all {α : Type} {p : α → Bool} {l : List α} (h : ∀ a ∈ l, p a = true) : l.filter p = l := List.filter_eq_self.2 h
theorem filtP_no {α : Type} {p : α → Bool} {l : List α} (h : ∀ a ∈ l, p a = false) : l.filter p = [] := List.filter_eq_nil_iff.2 fun a ha => by simp [h a ha]
theorem applyP_shape {A B C : List Pair} {e : Effect} (hA : ∀ a ∈ A, slt a.key e.key = true) (hC : ∀ c ∈ C, slt e.key c.key = true) (hB : B = [] ∨ ∃ x, B = [x] ∧ x.key = e.key) : applyP (A ++ B ++ C) e = A ++ newP e ++ C := by
  have hB1 : ∀ b ∈ B, slt b.key e.key = false := fun b hb => by
    rcases hB with rfl | ⟨x, rfl, hx⟩
    · simp at hb
    · simp at hb; subst hb; rw [hx]; exact slt_irrefl _
  have hB2 : ∀ b ∈ B, slt e.key b.key = false := fun b hb => by
    rcases hB with rfl | ⟨x, rfl, hx⟩
    · simp at hb
    · simp at hb; subst hb; rw [hx]; exact slt_irrefl _
  unfold applyP
  rw [List.filter_append, List.filter_append, List.filter_append, List.filter_append, filtP_all hA, filtP_no hB1, filtP_no (fun c hc => slt_asymm (hC c hc)), filtP_no (fun a ha => slt_asymm (hA a ha)), filtP_no hB2, filtP_all hC]
  simp
theorem applyP_srt {l : List Pair} (h : SrtP l) (e : Effect) : SrtP (applyP l e) := by
  unfold SrtP applyP newP
  have h1 : SrtP (l.filter (fun p => slt p.key e.key)) := List.Pairwise.filter _ h
  have h2 : SrtP (l.filter (fun p => slt e.key p.key)) := List.Pairwise.filter _ h
  refine List.pairwise_append.2 ⟨List.pairwise_append.2 ⟨h1, ?_, fun a ha b hb => ?_⟩, h2, fun a ha b hb => ?_⟩
  · split <;> simp
  · split at hb
    · simp at hb
    · simp at hb; subst hb; exact (List.mem_filter.1 ha).2
  · have hb2 := (List.mem_filter.1 hb).2
    rcases List.mem_append.1 ha with ha | ha
    · exact slt_trans (List.mem_filter.1 ha).2 hb2
    · split at ha
      · simp at ha
      · simp at ha; subst ha; exact hb2
theorem applyP_len (l : List Pair) (e : Effect) (h : SrtP l) : (applyP l e).length ≤ l.length + 1 := by
  obtain ⟨A, B, C, rfl, hA, hC, hB⟩ := shapeG (key := Pair.key) e.key l h
  rw [applyP_shape hA hC hB]
  have : (newP e).length ≤ 1 := by unfold newP; split <;> simp
  simp; omega
def okP (l : List Pair) : Prop := ∀ p ∈ l, okI p.item
theorem applyP_ok {l : List Pair} {e : Effect} (h : okP l) (he : okI e.item) : okP (applyP l e) := by
  intro p hp
  unfold applyP newP at hp
  rcases List.mem_append.1 hp with hp | hp
  · rcases List.mem_append.1 hp with hp | hp
    · exact h p (List.mem_filter.1 hp).1
    · split at hp
      · simp at hp
      · simp at hp; subst hp; exact he
  · exact h p (List.mem_filter.1 hp).1
/-! ### The document's -/
def stepP (e : Effect) (a : Bool × List Pair) (x : Pair) : Bool × List Pair :=
  let a1 := if a.1 = false ∧ slt x.key e.key = false then (true, a.2 ++ [⟨e.key, e.item⟩]) else a
  if x.key = e.key then a1 else (a1.1, a1.2 ++ [x])
theorem stepP_len (e : Effect) (a : Bool × List Pair) (x : Pair) : (stepP e a x).2.length ≤ a.2.length + 2 := by
  unfold stepP
  dsimp only
  split <;> split <;> simp <;> omega
theorem foldP_len (e : Effect) : ∀ (l : List Pair) (a : Bool × List Pair), (l.foldl (stepP e) a).2.length ≤ a.2.length + 2 * l.length
  | [], a => by simp
  | x :: l, a => by
    have h1 := foldP_len e l (stepP e a x)
    have h2 := stepP_len e a x
    simp only [List.foldl_cons, List.length_cons]
    omega
theorem foldP_low {e : Effect} : ∀ (A : List Pair) (d : Bool) (out : List Pair), (∀ a ∈ A, slt a.key e.key = true) → A.foldl (stepP e) (d, out) = (d, out ++ A)
  | [], d, out, _ => by simp
  | a :: A, d, out, h => by
    have h1 := h a (by simp)
    have e1 : stepP e (d, out) a = (d, out ++ [a]) := by simp [stepP, h1, slt_ne h1]
    rw [List.foldl_cons, e1, foldP_low A d (out ++ [a]) fun b hb => h b (by simp [hb])]
    simp
theorem foldP_high {e : Effect} : ∀ (A : List Pair) (out : List Pair), (∀ a ∈ A, slt e.key a.key = true) → A.foldl (stepP e) (true, out) = (true, out ++ A)
  | [], out, _ => by simp
  | a :: A, out, h => by
    have h1 := h a (by simp)
    have hne : ¬ a.key = e.key := fun h => slt_ne h1 h.symm
    have e1 : stepP e (true, out) a = (true, out ++ [a]) := by simp [stepP, hne]
    rw [List.foldl_cons, e1, foldP_high A (out ++ [a]) fun b hb => h b (by simp [hb])]
    simp
theorem foldP_all {e : Effect} {l : List Pair} (h : SrtP l) : (bif (l.foldl (stepP e) (e.gone, [])).1 then (l.foldl (stepP e) (e.gone, [])).2 else (l.foldl (stepP e) (e.gone, [])).2 ++ [⟨e.key, e.item⟩]) = applyP l e := by
  obtain ⟨A, B, C, rfl, hA, hC, hB⟩ := shapeG (key := Pair.key) e.key l h
  rw [applyP_shape hA hC hB, List.foldl_append, List.foldl_append, foldP_low A _ _ hA]
  cases hg : e.gone
  · rcases hB with rfl | ⟨x, rfl, hx⟩
    · cases C with
      | nil => simp [newP, hg]
      | cons c C =>
        have h1 := hC c (by simp)
        have hne : ¬ c.key = e.key := fun h => slt_ne h1 h.symm
        have e1 : stepP e (false, [] ++ A) c = (true, A ++ [⟨e.key, e.item⟩, c]) := by simp [stepP, slt_asymm h1, hne]
        rw [List.foldl_nil, List.foldl_cons, e1, foldP_high C _ fun b hb => hC b (by simp [hb])]
        simp [newP, hg]
    · have e1 : stepP e (false, [] ++ A) x = (true, A ++ [⟨e.key, e.item⟩]) := by simp [stepP, hx, slt_irrefl]
      rw [List.foldl_cons, List.foldl_nil, e1, foldP_high C _ hC]
      simp [newP, hg]
  · rcases hB with rfl | ⟨x, rfl, hx⟩
    · rw [List.foldl_nil, foldP_high C _ hC]
      simp [newP, hg]
    · have e1 : stepP e (true, [] ++ A) x = (true, A) := by simp [stepP, hx]
      rw [List.foldl_cons, List.foldl_nil, e1, foldP_high C _ hC]
      simp [newP, hg]
theorem r_apply_ok (l : List Pair) (e : Effect) (h : SrtP l) (hl : l.length ≤ 100000000) : r5_apply_sh big l e = some (applyP l e) := by
  unfold r5_apply_sh
  refine bn_fold l (stepP e) (fun i a => (a.1, (i : Int), a.2)) (e.gone, []) (l.foldl (stepP e) (e.gone, [])) (by omega) rfl (fun i hi a ha => ?_) ?_ ?_
  · have hlen : a.2.length ≤ 2 * i := by
      have := foldP_len e (l.take i) (e.gone, [])
      rw [← ha] at this
      simp at this
      omega
    simp only [lt_eq, bn_some, ite_t, ite_f, sm_inl, sm_inr, lenI_eq, Option.some.injEq]
    rw [ltI_t (by omega)]
    simp only [lt_eq, bn_some, ite_t, ite_f, sm_inl, sm_inr, lenI_eq, Option.some.injEq, nth_some hi]
    have e2 : (ite' (ite' (notB a.1) (some (geS l[i].key e.key)) (some false)).get! (some (true, a.2 ++ [(⟨e.key, e.item⟩ : Pair)])) (some (a.1, a.2))) = some (if a.1 = false ∧ slt l[i].key e.key = false then (true, a.2 ++ [⟨e.key, e.item⟩]) else a) := by
      cases h1 : a.1 <;> cases h2 : slt l[i].key e.key <;> simp [notB, geS, h1, h2, ite'] <;> (rw [← h1])
    rw [chk_room (by omega) (by omega)]
    have e3 : ite' (notB a.1) (some (geS l[i].key e.key)) (some false) = some (ite' (notB a.1) (some (geS l[i].key e.key)) (some false)).get! := by
      cases a.1 <;> rfl
    rw [e3]
    simp only [lt_eq, bn_some, ite_t, ite_f, sm_inl, sm_inr, lenI_eq, Option.some.injEq]
    rw [e2]
    simp only [lt_eq, bn_some, ite_t, ite_f, sm_inl, sm_inr, lenI_eq, Option.some.injEq]
    rw [addI_64 (by omega) (by omega)]
    unfold stepP
    dsimp only
    generalize hq : (if a.1 = false ∧ slt l[i].key e.key = false then (true, a.2 ++ [(⟨e.key, e.item⟩ : Pair)]) else a) = q
    have hq2 : q.2.length ≤ 2 * i + 1 := by
      rw [← hq]
      split
      · simp only [List.length_append, List.length_cons, List.length_nil]; omega
      · omega
    by_cases hk : l[i].key = e.key
    · rw [hk, neS_self]
      simp [ite_f, bn_some]
    · rw [show neS l[i].key e.key = true by simp [neS, hk], if_neg hk, ite_t, chk_room (by omega) (by omega)]
      simp only [lt_eq, bn_some, ite_t, ite_f, sm_inl, sm_inr, lenI_eq, Option.some.injEq]
      simp
  · simp only [lt_eq, bn_some, ite_t, ite_f, sm_inl, sm_inr, lenI_eq, Option.some.injEq]
    rw [ltI_f (by omega)]
    rfl
  · have hlen : (l.foldl (stepP e) (e.gone, [])).2.length ≤ 2 * l.length := by
      have := foldP_len e l (e.gone, [])
      simp at this
      omega
    have hA := foldP_all (e := e) h
    have hn := applyP_len l e h
    simp only [lt_eq, bn_some, ite_t, ite_f, sm_inl, sm_inr, lenI_eq, Option.some.injEq]
    rw [chk_room (by omega) (by omega)]
    revert hA
    cases (l.foldl (stepP e) (e.gone, [])).1 <;> intro hA <;> simp at hA <;> rw [hA] <;> simp [notB, ite', bn_some] <;> rw [chk_room (by omega) (by omega)]
end Go.Proofs.Ytlkhfdccapkcdaa

/- Plain laws: the program's space. -/
namespace Go.Proofs.Ytlkhfdccapkcdaa
open Go Go.RowKit
set_option linter.unusedVariables false
set_option linter.unusedSimpArgs false
theorem shr1 {x : Int} (h : 0 ≤ x) : shrI .u64 x 1 = some (x / 2) := by
  simp [shrI, IntKind.bits, Int.fdiv_eq_ediv_of_nonneg]
theorem cvU_64 {a : Int} (h : 0 ≤ a) (h2 : a < 18446744073709551616) : cvI .u64 a = a := by
  simp only [cvI, wrap_u64]; omega
theorem find_ok (A B C : List Pair) (k : ByteArray) (hA : ∀ a ∈ A, slt a.key k = true) (hC : ∀ c ∈ C, slt k c.key = true) (hB : B = [] ∨ ∃ x, B = [x] ∧ x.key = k) (hl : (A ++ B ++ C).length ≤ 1000000000) :
    slices_BinarySearchFunc_string_sh big (A ++ B ++ C) k = some ((A.length : Int), !B.isEmpty) := by
  have hget : ∀ i x, (A ++ B ++ C)[i]? = some x → slt x.key k = decide (i < A.length) := fun i x hx => by
    rw [List.append_assoc] at hx
    by_cases h : i < A.length
    · rw [List.getElem?_append_left h] at hx
      simp only [h, decide_true]
      exact hA _ (List.mem_of_getElem? hx)
    · rw [List.getElem?_append_right (by omega)] at hx
      simp only [h, decide_false]
      rcases List.mem_append.1 (List.mem_of_getElem? hx) with hm | hm
      · rcases hB with rfl | ⟨y, rfl, hy⟩
        · simp at hm
        · simp at hm; rw [hm, hy]; exact slt_irrefl _
      · exact slt_asymm (hC _ hm)
  have hB2 : (A ++ B ++ C)[A.length]? = (B ++ C)[0]? := by rw [List.append_assoc, List.getElem?_append_right (Nat.le_refl _), Nat.sub_self]
  have hAL : A.length ≤ (A ++ B ++ C).length := by simp
  generalize A ++ B ++ C = L at hget hB2 hl hAL ⊢
  refine Rn.eq ?_
  unfold slices_BinarySearchFunc_string_sh
  refine Rn.lt (Rn.bn (P := fun i => i = (A.length : Int)) (Rn.iter _ (fun q a => ∃ lo hi : Nat, a = ((lo : Int), (hi : Int)) ∧ lo ≤ A.length ∧ A.length ≤ hi ∧ hi ≤ L.length ∧ hi - lo < 2 ^ (48 - q)) 48 (by unfold big; omega) ⟨0, L.length, rfl, by omega, hAL, Nat.le_refl _, by omega⟩ fun q a hq hI => ?_) fun i hi => ?_)
  · obtain ⟨lo, hi, rfl, h1, h2, h3, h4⟩ := hI
    refine Rn.lt (Rn.ite (fun hg => ?_) (fun hg => Rn.some ?_))
    · have hg := ltI_d hg
      simp only at hg
      have hq2 : q < 48 := by
        apply Nat.lt_of_not_le
        intro h
        have : 48 - q = 0 := by omega
        rw [this] at h4
        omega
      have e48 : 48 - q = (48 - (q + 1)) + 1 := by omega
      rw [e48, Nat.pow_succ] at h4
      refine Rn.lt (Rn.lt ?_)
      rw [addI_64 (by simp only; omega) (by simp only; omega), cvU_64 (by simp only; omega) (by simp only; omega)]
      refine Rn.bnE (shr1 (by simp only; omega)) (Rn.lt ?_)
      rw [cvI_64 (by simp only; omega) (by simp only; omega)]
      have em : ((lo : Int) + (hi : Int)) / 2 = (((lo + hi) / 2 : Nat) : Int) := by omega
      simp only
      rw [em]
      have hm : (lo + hi) / 2 < L.length := by omega
      have hge := hget _ _ (List.getElem?_eq_getElem hm)
      refine Rn.bnE (nth_some hm) (Rn.bnE (v := cmpB L[(lo + hi) / 2].key k) rfl (Rn.lt (Rn.ite (fun hc => Rn.lt (Rn.some ⟨hq2, (lo + hi) / 2 + 1, hi, ?_, ?_⟩)) (fun hc => Rn.some ⟨hq2, lo, (lo + hi) / 2, rfl, ?_⟩))))
      · rw [addI_64 (by omega) (by omega)]
        exact congrArg (·, (hi : Int)) (by omega)
      · rw [(cmpB_lt _ _).1 (ltI_d hc)] at hge
        have := of_decide_eq_true hge.symm
        refine ⟨?_, h2, h3, ?_⟩ <;> omega
      · have hc2 : slt L[(lo + hi) / 2].key k = false := by
          cases h : slt L[(lo + hi) / 2].key k
          · rfl
          · have := (cmpB_lt _ _).2 h
            have := ltI_n hc
            omega
        rw [hc2] at hge
        have := of_decide_eq_false hge.symm
        refine ⟨h1, ?_, ?_, ?_⟩ <;> omega
    · have hg := ltI_n hg
      simp only at hg ⊢
      omega
  · subst hi
    refine Rn.bn (P := fun b => b = !B.isEmpty) ?_ fun b hb => Rn.some (by rw [hb])
    refine Rn.lt (Rn.ite (fun hg => ?_) (fun hg => Rn.some ?_))
    · have hg := ltI_d hg
      simp only [lenI] at hg
      have hm : A.length < L.length := by omega
      refine Rn.bnE (nth_some hm) (Rn.bnE (v := cmpB L[A.length].key k) rfl (Rn.lt (Rn.some ?_)))
      rw [List.getElem?_eq_getElem hm] at hB2
      rcases hB with rfl | ⟨y, rfl, hy⟩
      · have hc := hC L[A.length] (List.mem_of_getElem? (by simpa using hB2.symm))
        have hne : ¬ cmpB L[A.length].key k = 0 := fun h => slt_ne hc ((cmpB_eq _ _).1 h).symm
        simp [eqI, hne]
      · simp at hB2
        rw [hB2, hy]
        simp [eqI, (cmpB_eq k k).2 rfl]
    · have hg := ltI_n hg
      simp only [lenI] at hg
      have e : L[A.length]? = none := List.getElem?_eq_none (by omega)
      rw [e] at hB2
      rcases hB with rfl | ⟨y, rfl, hy⟩
      · rfl
      · simp at hB2
theorem find_ok2 (A B C : List Pair) (k : ByteArray) (hA : ∀ a ∈ A, slt a.key k = true) (hC : ∀ c ∈ C, slt k c.key = true) (hB : B = [] ∨ ∃ x, B = [x] ∧ x.key = k) (hl : (A ++ B ++ C).length ≤ 1000000000) :
    space_find_tf_sh big (A ++ B ++ C) k = some ((A.length : Int), !B.isEmpty) := by
  have := find_ok A B C k hA hC hB hl
  unfold space_find_tf_sh
  rw [show slices_BinarySearchFunc_string_tfk121_sh big (A ++ B ++ C) k = slices_BinarySearchFunc_string_sh big (A ++ B ++ C) k from rfl, this]
  rfl
theorem find_ok1 (A B C : List Pair) (k : ByteArray) (hA : ∀ a ∈ A, slt a.key k = true) (hC : ∀ c ∈ C, slt k c.key = true) (hB : B = [] ∨ ∃ x, B = [x] ∧ x.key = k) (hl : (A ++ B ++ C).length ≤ 1000000000) :
    space_find_sh big (A ++ B ++ C) k = some ((A.length : Int), !B.isEmpty) := by
  unfold space_find_sh
  rw [find_ok A B C k hA hC hB hl]
  rfl
theorem foldA_inv : ∀ (es : List Effect) (l : List Pair), SrtP l → okP l → (∀ e ∈ es, okI e.item) → SrtP (es.foldl applyP l) ∧ okP (es.foldl applyP l) ∧ (es.foldl applyP l).length ≤ l.length + es.length
  | [], l, h1, h2, _ => ⟨h1, h2, by simp⟩
  | e :: es, l, h1, h2, h3 => by
    obtain ⟨g1, g2, g3⟩ := foldA_inv es (applyP l e) (applyP_srt h1 e) (applyP_ok h2 (h3 e (by simp))) fun x hx => h3 x (by simp [hx])
    have := applyP_len l e h1
    exact ⟨g1, g2, by simp only [List.foldl_cons, List.length_cons]; omega⟩
theorem space_Apply_ok (l : List Pair) (es : List Effect) (h : SrtP l) (h2 : okP l) (he : ∀ e ∈ es, okI e.item) (hl : l.length + es.length ≤ 100000000) : space_Apply_sh big l es = some (es.foldl applyP l) := by
  unfold space_Apply_sh
  rw [chk_small (by omega) (by omega)]
  simp only [lt_eq, bn_some, ite_t, ite_f, sm_inl, sm_inr, lenI_eq, Option.some.injEq]
  refine bn_run l (fun i => ((i : Int), l)) l.length (by unfold big; omega) rfl (fun i hi => ?_) ?_ ?_
  · simp only [lt_eq, bn_some, ite_t, ite_f, sm_inl, sm_inr, lenI_eq, Option.some.injEq]
    rw [ltI_t (by omega), nth_some hi]
    simp only [lt_eq, bn_some, ite_t, ite_f, sm_inl, sm_inr, lenI_eq, Option.some.injEq]
    rw [item_Copy_ok _ (h2 _ (List.getElem_mem hi))]
    simp only [lt_eq, bn_some, ite_t, ite_f, sm_inl, sm_inr, lenI_eq, Option.some.injEq]
    rw [addI_64 (by omega) (by omega)]
    have e : l.set i { key := l[i].key, item := l[i].item } = l := List.set_getElem_self hi
    simp [e]
  · simp only [lt_eq, bn_some, ite_t, ite_f, sm_inl, sm_inr, lenI_eq, Option.some.injEq]
    rw [ltI_f (by omega)]
    rfl
  refine bn_fold es applyP (fun i a => ((i : Int), a)) l (es.foldl applyP l) (by omega) rfl (fun i hi a ha => ?_) ?_ ?_
  · obtain ⟨g1, g2, g3⟩ := foldA_inv (es.take i) l h h2 fun x hx => he x (List.mem_of_mem_take hx)
    rw [← ha] at g1 g2 g3
    have hal : a.length ≤ 100000000 := by rw [List.length_take] at g3; omega
    have hok := he _ (List.getElem_mem hi)
    simp only [lt_eq, bn_some, ite_t, ite_f, sm_inl, sm_inr, lenI_eq, Option.some.injEq]
    rw [ltI_t (by omega), nth_some hi]
    simp only [lt_eq, bn_some, ite_t, ite_f, sm_inl, sm_inr, lenI_eq, Option.some.injEq]
    rw [chk_room (by omega) (by omega)]
    obtain ⟨A, B, C, e, hA, hC, hB⟩ := shapeG (key := Pair.key) es[i].key a g1
    have hap : applyP a es[i] = A ++ newP es[i] ++ C := by rw [e]; exact applyP_shape hA hC hB
    have hf : space_find_tf_sh big a es[i].key = some ((A.length : Int), !B.isEmpty) := by rw [e]; exact find_ok2 A B C _ hA hC hB (by rw [← e]; omega)
    rw [hf, hap]
    simp only [lt_eq, bn_some, ite_t, ite_f, sm_inl, sm_inr, lenI_eq, Option.some.injEq]
    rw [addI_64 (a := (i : Int)) (by omega) (by omega)]
    have hlen : A.length + B.length + C.length = a.length := by rw [e]; simp; omega
    rcases hB with rfl | ⟨x, rfl, hx⟩
    · simp only [List.isEmpty_nil, Bool.not_true, lt_eq, bn_some, ite_t, ite_f, sm_inl, sm_inr, lenI_eq, Option.some.injEq]
      cases hg : es[i].gone
      · simp only [notB_f, lt_eq, bn_some, ite_t, ite_f, sm_inl, sm_inr, lenI_eq, Option.some.injEq]
        rw [item_Copy_ok _ hok]
        simp only [lt_eq, bn_some, ite_t, ite_f, sm_inl, sm_inr, lenI_eq, Option.some.injEq]
        rw [chk_t (by simp [insB]; simp at hlen; omega)]
        have e1 : insL a A.length ⟨es[i].key, es[i].item⟩ = A ++ newP es[i] ++ C := by rw [e]; simp [insL, newP, hg]
        simp [e1, bn_some]
      · simp only [notB_t, lt_eq, bn_some, ite_t, ite_f, sm_inl, sm_inr, lenI_eq, Option.some.injEq]
        rw [e]
        simp [newP, hg]
    · simp only [List.isEmpty_cons, Bool.not_false, lt_eq, bn_some, ite_t, ite_f, sm_inl, sm_inr, lenI_eq, Option.some.injEq]
      have hn : (A ++ [x] ++ C)[A.length]? = some x := by simp
      cases hg : es[i].gone
      · simp only [lt_eq, bn_some, ite_t, ite_f, sm_inl, sm_inr, lenI_eq, Option.some.injEq]
        rw [item_Copy_ok _ hok]
        simp only [lt_eq, bn_some, ite_t, ite_f, sm_inl, sm_inr, lenI_eq, Option.some.injEq]
        rw [nth_nat, e, hn]
        have e1 : (A ++ [x] ++ C).set A.length ⟨x.key, es[i].item⟩ = A ++ newP es[i] ++ C := by simp [newP, hg, hx]
        simp [e1, bn_some, lt_eq]
        simp [newP, hg, hx]
      · simp only [lt_eq, bn_some, ite_t, ite_f, sm_inl, sm_inr, lenI_eq, Option.some.injEq]
        rw [addI_64 (by omega) (by omega), chk_t (by simp [delB]; simp at hlen; omega)]
        have e1 : delL a A.length = A ++ newP es[i] ++ C := by rw [e]; simp [delL, newP, hg]
        simp [e1, bn_some]
  · simp only [lt_eq, bn_some, ite_t, ite_f, sm_inl, sm_inr, lenI_eq, Option.some.injEq]
    rw [ltI_f (by omega)]
    rfl
  · obtain ⟨g1, g2, g3⟩ := foldA_inv es l h h2 he
    rw [chk_room (by omega) (by omega)]
theorem r_Apply_ok (l : List Pair) (es : List Effect) (h : SrtP l) (h2 : okP l) (he : ∀ e ∈ es, okI e.item) (hl : l.length + es.length ≤ 100000000) : r5_Apply_sh big l es = some (es.foldl applyP l) := by
  unfold r5_Apply_sh
  rw [chk_room (by omega) (by omega), chk_room (by omega) (by omega)]
  refine bn_fold es applyP (fun i a => (a, (i : Int))) l (es.foldl applyP l) (by omega) rfl (fun i hi a ha => ?_) ?_ rfl
  · obtain ⟨g1, g2, g3⟩ := foldA_inv (es.take i) l h h2 fun x hx => he x (List.mem_of_mem_take hx)
    rw [← ha] at g1 g2 g3
    rw [List.length_take] at g3
    simp only [lt_eq, bn_some, ite_t, ite_f, sm_inl, sm_inr, lenI_eq, Option.some.injEq]
    rw [ltI_t (by omega), nth_some hi]
    simp only [lt_eq, bn_some, ite_t, ite_f, sm_inl, sm_inr, lenI_eq, Option.some.injEq]
    rw [r_apply_ok _ _ g1 (by omega)]
    simp only [lt_eq, bn_some, ite_t, ite_f, sm_inl, sm_inr, lenI_eq, Option.some.injEq]
    rw [addI_64 (by omega) (by omega)]
    rfl
  · simp only [lt_eq, bn_some, ite_t, ite_f, sm_inl, sm_inr, lenI_eq, Option.some.injEq]
    rw [ltI_f (by omega)]
    rfl
end Go.Proofs.Ytlkhfdccapkcdaa

/- Walks, printed: l15_Make, r13_SameClaims, r1_Ints, r19_SameMsg, r13_SameFeed, r5_SameSpace -/
namespace Go.Proofs.Ytlkhfdccapkcdaa
open Go Go.RowKit
set_option linter.unusedVariables false
set_option linter.unusedSimpArgs false
def r5_SameSpace_sh (n : Nat) (a0 : List Pair) (a1 : List Pair) : Option Bool :=
lt (lenI a0) fun v1 =>
lt (lenI a1) fun v2 =>
lt (neI v1 v2) fun v3 =>
ite' v3 (some false) (bn (iter n (fun (y4 : Int) =>
lt (lenI a0) fun v7 =>
lt (ltI y4 v7) fun v8 =>
ite' v8 (bn (bn (nth a0 y4) fun v10 =>
bn (nth a1 y4) fun v11 =>
lt (neS v10.key v11.key) fun v12 =>
ite' v12 (some (true)) (bn (r5_SameItem_sh n v10.item v11.item) fun v13 =>
lt (notB v13) fun v14 =>
some (v14))) fun (y9 : Bool) =>
lt (y9) fun v15 =>
ite' v15 (some (.inr (.inr false))) (lt (addI .i64 y4 1) fun v16 =>
some (.inl v16))) (some (.inr (.inl ())))) 0) fun (y5 : Unit ⊕ Bool) =>
sm y5 (fun y17 => some true) (fun y18 => some y18))
set_option maxRecDepth 8000 in
set_option maxHeartbeats 8000000 in
theorem s_r5_SameSpace {n : Nat} {a0 : List Pair} {a1 : List Pair} {r : Bool} (h : r5_SameSpace_sh n a0 a1 = some r) : Sound Try.prog 42 [.l (.d false 6 (encPair a0)), .l (.d false 6 (encPair a1))] [] (.l (.s (.bool r))) [] := by
 unfold r5_SameSpace_sh at h
 refine Sound.of_aw (fn := Try.f42) (c := _) Try.func42 rfl (by simp [Try.f42]) fun cx hG hnb => ?_
 rw [show Try.f42.ntmps = 42 from rfl]
 have hn0 : cx.nb = 0 := hnb
 simp only [st0_mk, initTm, List.map_cons, List.map_nil]
 apply AW.step
 ·simp
  intros; rfl
 refine AW.seq ?_
 replace h := ltE h; obtain ⟨v1, e1, h⟩ := h
 replace h := ltE h; obtain ⟨v2, e2, h⟩ := h
 replace h := ltE h; obtain ⟨v3, e3, h⟩ := h
 apply AW.step
 ·simp [lenI_cast e1, lenI_cast e2, ← e3]
  intros; rfl
 cases v3 with
 | true =>
  replace h := iteT rfl h
  refine AW.cond_true (by simp) ?_
  apply AW.step
  ·simp
   intros; rfl
  obtain rfl := Option.some.inj h
  refine AW.ret ?_
  refine Left.plain hnb (by simp [Try.f42, resV, resC, comp]; rfl) rfl rfl ?_
  simp
 | false =>
  replace h := iteF rfl h
  refine AW.cond_false (by simp) ?_
  refine AW.skip ?_
  try simp only [sp_l, sp_r, Post.seq, Post.block, Nat.reduceEqDiff, reduceIte, Nat.zero_ne_one, Nat.one_ne_zero]
  try simp only [sp_l, sp_r, Post.seq, Post.block, Nat.reduceEqDiff, reduceIte, Nat.zero_ne_one, Nat.one_ne_zero]
  refine AW.seq ?_
  apply AW.step
  ·simp
   intros; rfl
  refine AW.block ?_
  replace h := bnE h; obtain ⟨y5, g5, h⟩ := h
  refine AW.iterP g5 (mk := fun gh ls q => (⟨[(0, .l (.d false 6 (encPair a0))), (1, .l (.d false 6 (encPair a1))), (5, .l (.s (.int .i64 q)))], [], 42, gh, ls⟩ : St)) (N := fun gh ls => (sp (xP 0 (cx := cx) (fun _ => (⟨[], [], 42, gh, ls⟩ : St))) (rP (cx := cx) (P := Try.prog) Try.f42 (fun q => .l (.s (.bool q))) (fun q => [])))) ?_ (noS noX noR) ?_ ?_
  ·refine Weak.mixN [] hn0 (by decide) ?_ ?_ rfl
   all_goals first | (simp [inv_cons, inv_nil, pickOb]; done) | rfl
  ·clear h; intro y4 y6 h
   refine AW.seq ?_
   replace h := ltE h; obtain ⟨v7, e7, h⟩ := h
   replace h := ltE h; obtain ⟨v8, e8, h⟩ := h
   apply AW.step
   ·simp [lenI_cast e7, ← e8]
    intros; rfl
   cases v8 with
   | true =>
    replace h := iteT rfl h
    refine AW.cond_true (by simp) ?_
    refine AW.skip ?_
    try simp only [sp_l, sp_r, Post.seq, Post.block, Nat.reduceEqDiff, reduceIte, Nat.zero_ne_one, Nat.one_ne_zero]
    try simp only [sp_l, sp_r, Post.seq, Post.block, Nat.reduceEqDiff, reduceIte, Nat.zero_ne_one, Nat.one_ne_zero]
    refine AW.seq ?_
    refine AW.block ?_
    replace h := bnE h; obtain ⟨y9, g9, h⟩ := h
    refine AW.flow (p := fun gh ls => (nP (cx := cx) (fun q => (⟨[(0, .l (.d false 6 (encPair a0))), (1, .l (.d false 6 (encPair a1))), (5, .l (.s (.int .i64 y4))), (41, .l (.s (.bool q)))], [], 42, gh, ls⟩ : St))) y9) ?_ ?_
    ·replace h := g9; clear g9
     replace h := bnE h; obtain ⟨v10, e10, h⟩ := h
     replace h := bnE h; obtain ⟨v11, e11, h⟩ := h
     replace h := ltE h; obtain ⟨v12, e12, h⟩ := h
     cases v12 with
     | true =>
      replace h := iteT rfl h
      apply AW.drawnR (V := [_, _, _, _, _, _, _, _, _, _, _, _, _, _, _, _, _, _, _, _, _, _]) mixed [⟨[0], [], [(0, none)], false⟩, ⟨[0], [], [(5, none)], false⟩, ⟨[0], [0, 1], [(17, some 0), (18, some 1)], false⟩, ⟨[0], [0, 1, 2], [(19, some 2)], false⟩, ⟨[0], [0, 1, 2, 3], [(20, some 3)], false⟩, ⟨[0], [], [(1, none)], false⟩, ⟨[0], [], [(5, none)], false⟩, ⟨[0], [5, 6], [(22, some 5), (23, some 6)], false⟩, ⟨[0], [5, 6, 7], [(24, some 7)], false⟩, ⟨[0], [5, 6, 7, 8], [(25, some 8)], false⟩, ⟨[0], [0, 1, 2, 3, 4, 5, 6, 7, 8, 9], [(21, some 4), (26, some 9)], false⟩, ⟨[0], [0, 1, 2, 3, 4, 5, 6, 7, 8, 9, 10], [(27, some 10)], false⟩, ⟨[0], [0, 1, 2, 3, 4, 5, 6, 7, 8, 9, 10, 11], [(0, none), (28, some 11)], false⟩, ⟨[0], [0, 1, 2, 3, 4, 5, 6, 7, 8, 9, 10, 11], [(5, none), (28, some 11)], false⟩, ⟨[0], [0, 1, 2, 3, 4, 5, 6, 7, 8, 9, 10, 11, 12, 13], [(28, some 11), (29, some 12), (30, some 13)], false⟩, ⟨[0], [0, 1, 2, 3, 4, 5, 6, 7, 8, 9, 10, 11, 12, 13, 14], [(28, some 11), (31, some 14)], false⟩, ⟨[0], [0, 1, 2, 3, 4, 5, 6, 7, 8, 9, 10, 11, 12, 13, 14, 15], [(28, some 11), (32, some 15)], false⟩, ⟨[0], [0, 1, 2, 3, 4, 5, 6, 7, 8, 9, 10, 11], [(1, none), (28, some 11)], false⟩, ⟨[0], [0, 1, 2, 3, 4, 5, 6, 7, 8, 9, 10, 11], [(5, none), (28, some 11)], false⟩, ⟨[0], [0, 1, 2, 3, 4, 5, 6, 7, 8, 9, 10, 11, 17, 18], [(28, some 11), (34, some 17), (35, some 18)], false⟩, ⟨[0], [0, 1, 2, 3, 4, 5, 6, 7, 8, 9, 10, 11, 17, 18, 19], [(28, some 11), (36, some 19)], false⟩, ⟨[0], [0, 1, 2, 3, 4, 5, 6, 7, 8, 9, 10, 11, 17, 18, 19, 20], [(28, some 11), (37, some 20)], false⟩, ⟨[], [0, 1, 2, 3, 4, 5, 6, 7, 8, 9, 10, 11, 12, 13, 14, 15, 16, 17, 18, 19, 20, 21], [], false⟩, ⟨[], [0, 1, 2, 3, 4, 5, 6, 7, 8, 9, 10, 11, 12, 13, 14, 15, 16, 17, 18, 19, 20, 21, 22], [], false⟩, ⟨[], [0, 1, 2, 3, 4, 5, 6, 7, 8, 9, 10, 11, 12, 13, 14, 15, 16, 17, 18, 19, 20, 21, 22, 23], [], false⟩] 22 (by kernel_rfl) (by kernel_rfl)
      ·refine ⟨?_, ?_, ?_, ?_, ?_, ?_, ?_, ?_, ?_, ?_, ?_, ?_, ?_, ?_, ?_, ?_, ?_, ?_, ?_, ?_, ?_, ?_, trivial⟩
       ·intro tm hr
        simp [AllL, rdV] at hr
        simp [hr, nth_d e10, nth_d e11, ← e12]
        intros; first | exact KD.mk | exact KD.mkN
       ·intro tm hr
        simp [AllL, rdV] at hr
        simp [hr, nth_d e10, nth_d e11, ← e12]
        intros; first | exact KD.mk | exact KD.mkN
       ·intro tm hr
        simp [AllL, rdV] at hr
        simp [hr, nth_d e10, nth_d e11, ← e12]
        intros; first | exact KD.mk | exact KD.mkN
       ·intro tm hr
        simp [AllL, rdV] at hr
        simp [hr, nth_d e10, nth_d e11, ← e12]
        intros; first | exact KD.mk | exact KD.mkN
       ·intro tm hr
        simp [AllL, rdV] at hr
        simp [hr, nth_d e10, nth_d e11, ← e12]
        intros; first | exact KD.mk | exact KD.mkN
       ·intro tm hr
        simp [AllL, rdV] at hr
        simp [hr, nth_d e10, nth_d e11, ← e12]
        intros; first | exact KD.mk | exact KD.mkN
       ·intro tm hr
        simp [AllL, rdV] at hr
        simp [hr, nth_d e10, nth_d e11, ← e12]
        intros; first | exact KD.mk | exact KD.mkN
       ·intro tm hr
        simp [AllL, rdV] at hr
        simp [hr, nth_d e10, nth_d e11, ← e12]
        intros; first | exact KD.mk | exact KD.mkN
       ·intro tm hr
        simp [AllL, rdV] at hr
        simp [hr, nth_d e10, nth_d e11, ← e12]
        intros; first | exact KD.mk | exact KD.mkN
       ·intro tm hr
        simp [AllL, rdV] at hr
        simp [hr, nth_d e10, nth_d e11, ← e12]
        intros; first | exact KD.mk | exact KD.mkN
       ·intro tm hr
        simp [AllL, rdV] at hr
        simp [hr, nth_d e10, nth_d e11, ← e12]
        intros; first | exact KD.mk | exact KD.mkN
       ·intro tm hr
        simp [AllL, rdV] at hr
        simp [hr, nth_d e10, nth_d e11, ← e12]
        intros; first | exact KD.mk | exact KD.mkN
       ·intro tm hr
        simp [AllL, rdV] at hr
        simp [hr, nth_d e10, nth_d e11, ← e12]
        intros; first | exact KD.mk | exact KD.mkN
       ·intro tm hr
        simp [AllL, rdV] at hr
        simp [hr, nth_d e10, nth_d e11, ← e12]
        intros; first | exact KD.mk | exact KD.mkN
       ·intro tm hr
        simp [AllL, rdV] at hr
        simp [hr, nth_d e10, nth_d e11, ← e12]
        intros; first | exact KD.mk | exact KD.mkN
       ·intro tm hr
        simp [AllL, rdV] at hr
        simp [hr, nth_d e10, nth_d e11, ← e12]
        intros; first | exact KD.mk | exact KD.mkN
       ·intro tm hr
        simp [AllL, rdV] at hr
        simp [hr, nth_d e10, nth_d e11, ← e12]
        intros; first | exact KD.mk | exact KD.mkN
       ·intro tm hr
        simp [AllL, rdV] at hr
        simp [hr, nth_d e10, nth_d e11, ← e12]
        intros; first | exact KD.mk | exact KD.mkN
       ·intro tm hr
        simp [AllL, rdV] at hr
        simp [hr, nth_d e10, nth_d e11, ← e12]
        intros; first | exact KD.mk | exact KD.mkN
       ·intro tm hr
        simp [AllL, rdV] at hr
        simp [hr, nth_d e10, nth_d e11, ← e12]
        intros; first | exact KD.mk | exact KD.mkN
       ·intro tm hr
        simp [AllL, rdV] at hr
        simp [hr, nth_d e10, nth_d e11, ← e12]
        intros; first | exact KD.mk | exact KD.mkN
       ·intro tm hr
        simp [AllL, rdV] at hr
        simp [hr, nth_d e10, nth_d e11, ← e12]
        intros; first | exact KD.mk | exact KD.mkN
      ·rfl
      ·simp [tmD, putD, nth_d e10, nth_d e11, ← e12]; rfl
      ·simp [nth_d e10, nth_d e11, ← e12]
       intros; rfl
      obtain rfl := Option.some.inj h
      refine nP_i ?_
      refine Weak.mixN [] hn0 (by decide) ?_ ?_ rfl
      all_goals first | (simp [inv_cons, inv_nil, pickOb]; done) | rfl
     | false =>
      replace h := iteF rfl h
      replace h := bnE h; obtain ⟨v13, e13, h⟩ := h
      replace h := ltE h; obtain ⟨v14, e14, h⟩ := h
      apply AW.drawnR (V := [_, _, _, _, _, _, _, _, _, _, _, _, _, _, _, _, _, _, _, _, _, _]) mixed [⟨[0], [], [(0, none)], false⟩, ⟨[0], [], [(5, none)], false⟩, ⟨[0], [0, 1], [(17, some 0), (18, some 1)], false⟩, ⟨[0], [0, 1, 2], [(19, some 2)], false⟩, ⟨[0], [0, 1, 2, 3], [(20, some 3)], false⟩, ⟨[0], [], [(1, none)], false⟩, ⟨[0], [], [(5, none)], false⟩, ⟨[0], [5, 6], [(22, some 5), (23, some 6)], false⟩, ⟨[0], [5, 6, 7], [(24, some 7)], false⟩, ⟨[0], [5, 6, 7, 8], [(25, some 8)], false⟩, ⟨[0], [0, 1, 2, 3, 4, 5, 6, 7, 8, 9], [(21, some 4), (26, some 9)], false⟩, ⟨[0], [0, 1, 2, 3, 4, 5, 6, 7, 8, 9, 10], [(27, some 10)], false⟩, ⟨[0], [0, 1, 2, 3, 4, 5, 6, 7, 8, 9, 10, 11], [(0, none), (28, some 11)], false⟩, ⟨[0], [0, 1, 2, 3, 4, 5, 6, 7, 8, 9, 10, 11], [(5, none), (28, some 11)], false⟩, ⟨[0], [0, 1, 2, 3, 4, 5, 6, 7, 8, 9, 10, 11, 12, 13], [(28, some 11), (29, some 12), (30, some 13)], false⟩, ⟨[0], [0, 1, 2, 3, 4, 5, 6, 7, 8, 9, 10, 11, 12, 13, 14], [(28, some 11), (31, some 14)], false⟩, ⟨[0], [0, 1, 2, 3, 4, 5, 6, 7, 8, 9, 10, 11, 12, 13, 14, 15], [(28, some 11), (32, some 15)], false⟩, ⟨[0], [0, 1, 2, 3, 4, 5, 6, 7, 8, 9, 10, 11], [(1, none), (28, some 11)], false⟩, ⟨[0], [0, 1, 2, 3, 4, 5, 6, 7, 8, 9, 10, 11], [(5, none), (28, some 11)], false⟩, ⟨[0], [0, 1, 2, 3, 4, 5, 6, 7, 8, 9, 10, 11, 17, 18], [(28, some 11), (34, some 17), (35, some 18)], false⟩, ⟨[0], [0, 1, 2, 3, 4, 5, 6, 7, 8, 9, 10, 11, 17, 18, 19], [(28, some 11), (36, some 19)], false⟩, ⟨[0], [0, 1, 2, 3, 4, 5, 6, 7, 8, 9, 10, 11, 17, 18, 19, 20], [(28, some 11), (37, some 20)], false⟩, ⟨[], [0, 1, 2, 3, 4, 5, 6, 7, 8, 9, 10, 11, 12, 13, 14, 15, 16, 17, 18, 19, 20, 21], [], false⟩, ⟨[], [0, 1, 2, 3, 4, 5, 6, 7, 8, 9, 10, 11, 12, 13, 14, 15, 16, 17, 18, 19, 20, 21, 22], [], false⟩, ⟨[], [0, 1, 2, 3, 4, 5, 6, 7, 8, 9, 10, 11, 12, 13, 14, 15, 16, 17, 18, 19, 20, 21, 22, 23], [], false⟩] 22 (by kernel_rfl) (by kernel_rfl)
      ·refine ⟨?_, ?_, ?_, ?_, ?_, ?_, ?_, ?_, ?_, ?_, ?_, ?_, ?_, ?_, ?_, ?_, ?_, ?_, ?_, ?_, ?_, ?_, trivial⟩
       ·intro tm hr
        simp [AllL, rdV] at hr
        simp [hr, nth_d e10, nth_d e11, ← e12, ← e14]
        intros; first | exact KD.mk | exact KD.mkN
       ·intro tm hr
        simp [AllL, rdV] at hr
        simp [hr, nth_d e10, nth_d e11, ← e12, ← e14]
        intros; first | exact KD.mk | exact KD.mkN
       ·intro tm hr
        simp [AllL, rdV] at hr
        simp [hr, nth_d e10, nth_d e11, ← e12, ← e14]
        intros; first | exact KD.mk | exact KD.mkN
       ·intro tm hr
        simp [AllL, rdV] at hr
        simp [hr, nth_d e10, nth_d e11, ← e12, ← e14]
        intros; first | exact KD.mk | exact KD.mkN
       ·intro tm hr
        simp [AllL, rdV] at hr
        simp [hr, nth_d e10, nth_d e11, ← e12, ← e14]
        intros; first | exact KD.mk | exact KD.mkN
       ·intro tm hr
        simp [AllL, rdV] at hr
        simp [hr, nth_d e10, nth_d e11, ← e12, ← e14]
        intros; first | exact KD.mk | exact KD.mkN
       ·intro tm hr
        simp [AllL, rdV] at hr
        simp [hr, nth_d e10, nth_d e11, ← e12, ← e14]
        intros; first | exact KD.mk | exact KD.mkN
       ·intro tm hr
        simp [AllL, rdV] at hr
        simp [hr, nth_d e10, nth_d e11, ← e12, ← e14]
        intros; first | exact KD.mk | exact KD.mkN
       ·intro tm hr
        simp [AllL, rdV] at hr
        simp [hr, nth_d e10, nth_d e11, ← e12, ← e14]
        intros; first | exact KD.mk | exact KD.mkN
       ·intro tm hr
        simp [AllL, rdV] at hr
        simp [hr, nth_d e10, nth_d e11, ← e12, ← e14]
        intros; first | exact KD.mk | exact KD.mkN
       ·intro tm hr
        simp [AllL, rdV] at hr
        simp [hr, nth_d e10, nth_d e11, ← e12, ← e14]
        intros; first | exact KD.mk | exact KD.mkN
       ·intro tm hr
        simp [AllL, rdV] at hr
        simp [hr, nth_d e10, nth_d e11, ← e12, ← e14]
        intros; first | exact KD.mk | exact KD.mkN
       ·intro tm hr
        simp [AllL, rdV] at hr
        simp [hr, nth_d e10, nth_d e11, ← e12, ← e14]
        intros; first | exact KD.mk | exact KD.mkN
       ·intro tm hr
        simp [AllL, rdV] at hr
        simp [hr, nth_d e10, nth_d e11, ← e12, ← e14]
        intros; first | exact KD.mk | exact KD.mkN
       ·intro tm hr
        simp [AllL, rdV] at hr
        simp [hr, nth_d e10, nth_d e11, ← e12, ← e14]
        intros; first | exact KD.mk | exact KD.mkN
       ·intro tm hr
        simp [AllL, rdV] at hr
        simp [hr, nth_d e10, nth_d e11, ← e12, ← e14]
        intros; first | exact KD.mk | exact KD.mkN
       ·intro tm hr
        simp [AllL, rdV] at hr
        simp [hr, nth_d e10, nth_d e11, ← e12, ← e14]
        intros; first | exact KD.mk | exact KD.mkN
       ·intro tm hr
        simp [AllL, rdV] at hr
        simp [hr, nth_d e10, nth_d e11, ← e12, ← e14]
        intros; first | exact KD.mk | exact KD.mkN
       ·intro tm hr
        simp [AllL, rdV] at hr
        simp [hr, nth_d e10, nth_d e11, ← e12, ← e14]
        intros; first | exact KD.mk | exact KD.mkN
       ·intro tm hr
        simp [AllL, rdV] at hr
        simp [hr, nth_d e10, nth_d e11, ← e12, ← e14]
        intros; first | exact KD.mk | exact KD.mkN
       ·intro tm hr
        simp [AllL, rdV] at hr
        simp [hr, nth_d e10, nth_d e11, ← e12, ← e14]
        intros; first | exact KD.mk | exact KD.mkN
       ·intro tm hr
        simp [AllL, rdV] at hr
        simp [hr, nth_d e10, nth_d e11, ← e12, ← e14]
        intros; first | exact KD.mk | exact KD.mkN
      ·rfl
      ·simp [tmD, putD, nth_d e10, nth_d e11, ← e12, ← e14]; rfl
      ·simp [nth_d e10, nth_d e11, ← e12, ← e14]
       intros
       refine xcall_plain en_r5_SameItem (s_r5_SameItem e13) rfl ⟨.same rfl, .same rfl, trivial⟩ ?_
       try simp [nth_d e10, nth_d e11, ← e12, ← e14]
       intros; rfl
      obtain rfl := Option.some.inj h
      refine nP_i ?_
      refine Weak.mixN [] hn0 (by decide) ?_ ?_ rfl
      all_goals first | (simp [inv_cons, inv_nil, pickOb]; done) | rfl
    ·rintro e s hp
     obtain ⟨rfl, hw⟩ := hp
     refine ⟨_, hw, ?_⟩
     try simp only [sp_l, sp_r, Post.seq, Post.block, Nat.reduceEqDiff, reduceIte, Nat.zero_ne_one, Nat.one_ne_zero]
     replace h := ltE h; obtain ⟨v15, e15, h⟩ := h
     rw [← e15]
     cases v15 with
     | true =>
      replace h := iteT rfl h
      refine AW.cond_true (by simp) ?_
      apply AW.step
      ·simp
       intros; rfl
      obtain rfl := Option.some.inj h
      refine AW.ret ?_
      try simp only [sp_l, sp_r, Post.seq, Post.block, Nat.reduceEqDiff, reduceIte, Nat.zero_ne_one, Nat.one_ne_zero]
      refine rP_i ?_
      refine Left.plain hnb (by simp [Try.f42, resV, resC, comp]; rfl) rfl rfl ?_
      simp
     | false =>
      replace h := iteF rfl h
      refine AW.cond_false (by simp) ?_
      refine AW.skip ?_
      try simp only [sp_l, sp_r, Post.seq, Post.block, Nat.reduceEqDiff, reduceIte, Nat.zero_ne_one, Nat.one_ne_zero]
      try simp only [sp_l, sp_r, Post.seq, Post.block, Nat.reduceEqDiff, reduceIte, Nat.zero_ne_one, Nat.one_ne_zero]
      replace h := ltE h; obtain ⟨v16, e16, h⟩ := h
      apply AW.last
      ·simp [← e16]
       intros; rfl
      obtain rfl := Option.some.inj h
      refine nP_i ?_
      refine Weak.mixN [] hn0 (by decide) ?_ ?_ rfl
      all_goals first | (simp [inv_cons, inv_nil, pickOb]; done) | rfl
   | false =>
    replace h := iteF rfl h
    refine AW.cond_false (by simp) ?_
    refine AW.exit ?_
    try simp only [sp_l, sp_r, Post.seq, Post.block, Nat.reduceEqDiff, reduceIte, Nat.zero_ne_one, Nat.one_ne_zero]
    obtain rfl := Option.some.inj h
    try simp only [sp_l, sp_r]
    refine xP_i ?_
    refine Weak.mixN [] hn0 (by decide) ?_ ?_ rfl
    all_goals first | (simp [inv_cons, inv_nil, pickOb]; done) | rfl
  ·rintro e s hp
   rcases y5 with y17 | y18
   ·replace h := smL h
    obtain ⟨rfl, hw⟩ := hp
    refine ⟨_, hw, ?_⟩
    try simp only [sp_l, sp_r, Post.seq, Post.block, Nat.reduceEqDiff, reduceIte, Nat.zero_ne_one, Nat.one_ne_zero]
    apply AW.step
    ·simp
     intros; rfl
    obtain rfl := Option.some.inj h
    refine AW.ret ?_
    refine Left.plain hnb (by simp [Try.f42, resV, resC, comp]; rfl) rfl rfl ?_
    simp
   ·replace h := smR h
    obtain ⟨rfl, hl⟩ := hp
    refine ⟨_, Weak.refl _, ?_⟩
    obtain rfl := Option.some.inj h
    exact hl
theorem en_r5_SameSpace : Enters Try.prog 42 := enters Try.func42 (by kernel_rfl) rfl
end Go.Proofs.Ytlkhfdccapkcdaa

/- Plain laws: feeds, answers, what is got. -/
namespace Go.Proofs.Ytlkhfdccapkcdaa
open Go Go.RowKit
set_option linter.unusedVariables false
set_option linter.unusedSimpArgs false
theorem ite_and (b c : Bool) : ite' b (some c) (some false) = some (b && c) := by cases b <;> rfl
theorem ite_or (b c : Bool) : ite' b (some true) (some c) = some (b || c) := by cases b <;> rfl
def addF (f : Feed) (l : List Effect) : Feed := { f with off := addI .i64 f.off l.length, back := lastN (f.back ++ l) }
def allP (l : List Pair) : List Effect := l.map fun p => ⟨p.key, false, p.item⟩
theorem allP_take (l : List Pair) (i : Nat) (hi : i < l.length) : allP (l.take i) ++ [⟨l[i].key, false, l[i].item⟩] = allP (l.take (i + 1)) := by
  rw [← List.take_append_getElem hi]
  simp only [allP, List.map_append]
  rfl
theorem space_All_ok (l : List Pair) (h : okP l) (hl : l.length ≤ 1000000000) : space_All_sh big l = some (allP l) := by
  unfold space_All_sh
  simp only [lt_eq, bn_some, ite_t, ite_f, sm_inl, sm_inr, lenI_eq, Option.some.injEq]
  refine bn_run (allP l) (fun i => ((i : Int), allP (l.take i))) l.length (by unfold big; omega) rfl (fun i hi => ?_) ?_ ?_
  · simp only [lt_eq, bn_some, ite_t, ite_f, sm_inl, sm_inr, lenI_eq, Option.some.injEq]
    rw [ltI_t (by omega), nth_some hi]
    simp only [lt_eq, bn_some, ite_t, ite_f, sm_inl, sm_inr, lenI_eq, Option.some.injEq]
    rw [item_Copy_ok _ (h _ (List.getElem_mem hi))]
    simp only [lt_eq, bn_some, ite_t, ite_f, sm_inl, sm_inr, lenI_eq, Option.some.injEq]
    rw [chk_room (by simp [allP]; omega) (by simp [allP]; omega), addI_64 (by omega) (by omega), allP_take l i hi]
    rfl
  · simp only [lt_eq, bn_some, ite_t, ite_f, sm_inl, sm_inr, lenI_eq, Option.some.injEq]
    rw [ltI_f (by omega), List.take_length]
    rfl
  · rw [chk_room (by simp [allP]; omega) (by simp [allP]; omega)]
theorem r_All_ok (l : List Pair) (hl : l.length ≤ 1000000000) : r5_All_sh big l = some (allP l) := by
  unfold r5_All_sh
  refine bn_run (allP l) (fun i => ((i : Int), allP (l.take i))) l.length (by unfold big; omega) rfl (fun i hi => ?_) ?_ ?_
  · simp only [lt_eq, bn_some, ite_t, ite_f, sm_inl, sm_inr, lenI_eq, Option.some.injEq]
    rw [ltI_t (by omega), nth_some hi]
    simp only [lt_eq, bn_some, ite_t, ite_f, sm_inl, sm_inr, lenI_eq, Option.some.injEq]
    rw [chk_room (by simp [allP]; omega) (by simp [allP]; omega), addI_64 (by omega) (by omega), allP_take l i hi]
    rfl
  · simp only [lt_eq, bn_some, ite_t, ite_f, sm_inl, sm_inr, lenI_eq, Option.some.injEq]
    rw [ltI_f (by omega), List.take_length]
    rfl
  · rw [chk_room (by simp [allP]; omega) (by simp [allP]; omega)]
def goesF (f : Feed) (rid : Rid) (off : Int) : Bool := (decide (rid = f.rid) || (decide (rid = f.prev) && decide (off ≤ f.upto))) && (decide (off ≤ f.off) && decide (f.off - f.back.length ≤ off))
def ansF (f : Feed) (db : List Pair) (rid : Rid) (off : Int) : Msg :=
  bif goesF f rid off then ⟨5, 0, 0, 0, [], [], 0, 0, 0, f.rid, rid, off, (f.back.drop (off - (f.off - f.back.length)).toNat).take 16⟩ else ⟨6, 0, 0, 0, [], [], 0, 0, 0, f.rid, ⟨0, 0⟩, f.off, allP db⟩
/-- A feed that may be. -/
def okF (f : Feed) : Prop := okE f.back ∧ f.back.length ≤ 64 ∧ (f.back.length : Int) ≤ f.off ∧ f.off ≤ 9223372036854775807
theorem okE.take {l : List Effect} (h : okE l) (k : Nat) : okE (l.take k) := ⟨by have := h.1; simp; omega, fun e he => h.2 e (List.mem_of_mem_take he)⟩
end Go.Proofs.Ytlkhfdccapkcdaa

/- Plain laws: what is got; feeds made by numbers. -/
namespace Go.Proofs.Ytlkhfdccapkcdaa
open Go Go.RowKit
set_option linter.unusedVariables false
set_option linter.unusedSimpArgs false
def newerF (f : Feed) (m : Msg) : Bool := !decide (m.rid.node = f.rid.node) || (decide (f.rid.epoch < m.rid.epoch) || (decide (m.rid = f.rid) && decide (f.off < m.off)))
def nextF (f : Feed) (m : Msg) : Bool := decide (m.kind = 5) && (decide (m.prev = f.rid) && decide (m.off = f.off))
def gotF (f : Feed) (db : List Pair) (m : Msg) : Feed × List Pair × Bool :=
  bif nextF f m then (addF (bif decide (m.rid = f.rid) then f else { f with rid := m.rid, prev := f.rid, upto := f.off }) m.effects, m.effects.foldl applyP db, true)
  else bif decide (m.kind = 6) && newerF f m then (⟨m.rid, m.off, [], ⟨0, 0⟩, 0⟩, m.effects.foldl applyP [], true) else (f, db, false)
theorem addF_nil (f : Feed) (h : f.back.length ≤ 64) (h2 : -9223372036854775808 ≤ f.off) (h3 : f.off ≤ 9223372036854775807) : addF f [] = f := by
  unfold addF lastN
  rw [addI_64 (by simp; omega) (by simp; omega), List.append_nil, show f.back.length - 64 = 0 by omega, List.drop_zero]
  simp
/-! ### What is alike -/
theorem r_SameSpace_refl (l : List Pair) (h : okP l) (hl : l.length ≤ 1000000000) : r5_SameSpace_sh big l l = some true := by
  unfold r5_SameSpace_sh
  simp only [lt_eq, bn_some, ite_t, ite_f, sm_inl, sm_inr, lenI_eq, Option.some.injEq, neI_self]
  refine bn_run (.inl ()) (fun i => (i : Int)) l.length (by unfold big; omega) rfl (fun i hi => ?_) ?_ rfl
  · rw [ltI_t (by omega)]
    simp only [lt_eq, bn_some, ite_t, ite_f, sm_inl, sm_inr, lenI_eq, Option.some.injEq, nth_some hi, neS_self, r_SameItem_refl _ (h _ (List.getElem_mem hi)), notB_t]
    rw [addI_64 (by omega) (by omega)]
    rfl
  · rw [ltI_f (by omega)]; rfl
end Go.Proofs.Ytlkhfdccapkcdaa

/- Plain law: feeds made by numbers. -/
namespace Go.Proofs.Ytlkhfdccapkcdaa
open Go Go.RowKit
set_option linter.unusedVariables false
set_option linter.unusedSimpArgs false
end Go.Proofs.Ytlkhfdccapkcdaa

/- Plain laws: effects by numbers, one by one. -/
namespace Go.Proofs.Ytlkhfdccapkcdaa
open Go Go.RowKit
set_option linter.unusedVariables false
set_option linter.unusedSimpArgs false
/-- The effect that the numbers from 4 i on tell. -/
def effAt (l : List Int) (i : Nat) : Option Effect :=
  bn (nth l ((4 * i : Nat) : Int)) fun v11 => bn (l11_Key_sh big v11) fun v12 => bn (nth l ((4 * i + 1 : Nat) : Int)) fun v14 => bn (remI .u8 v14 4) fun v15 =>
  bn (ite' (notB (eqI v15 0)) (bn (seglh l ((4 * i + 1 : Nat) : Int) ((4 * i + 4 : Nat) : Int)) fun v20 => bn (nth l ((4 * i + 2 : Nat) : Int)) fun v23 => bn (l5_Make_sh big v20 v23) fun v24 => some ((v24.kind, v24.s, v24.f, v24.l, v24.exp))) (some ((0, ⟨#[]⟩, [], [], 0)))) fun (y17 : Int × ByteArray × List Field × List ByteArray × Int) =>
  some (⟨v12, eqI v15 0, (⟨y17.1, y17.2.1, y17.2.2.1, y17.2.2.2.1, y17.2.2.2.2⟩ : Item)⟩ : Effect)
end Go.Proofs.Ytlkhfdccapkcdaa

/- Plain law: a replica comes to have all. -/
namespace Go.Proofs.Ytlkhfdccapkcdaa
open Go Go.RowKit
set_option linter.unusedVariables false
set_option linter.unusedSimpArgs false
def mkF (r : Int) (l : List Effect) : Feed := ⟨⟨r % 4, r / 64⟩, l.length, l, ⟨0, 0⟩, 0⟩
def dbOf (l : List Effect) : List Pair := l.foldl applyP []
def harm (fr : Rid) (o : Nat) (m : Msg) : Prop := m.rid = fr ∧ okE m.effects ∧ m.effects.length ≤ 100 ∧ ((m.kind = 5 ∧ (m.prev ≠ fr ∨ m.off < o ∨ m.effects = [])) ∨ (m.kind = 6 ∧ m.off ≤ o))
theorem harm.mono {fr : Rid} {o o' : Nat} {m : Msg} (h : harm fr o m) (ho : o ≤ o') : harm fr o' m := by
  obtain ⟨h1, h2, h3, h4⟩ := h
  refine ⟨h1, h2, h3, ?_⟩
  rcases h4 with ⟨a, b | b | b⟩ | ⟨a, b⟩
  · exact .inl ⟨a, .inl b⟩
  · exact .inl ⟨a, .inr (.inl (by omega))⟩
  · exact .inl ⟨a, .inr (.inr b)⟩
  · exact .inr ⟨a, by omega⟩
theorem harm.got {g : Feed} {own : List Pair} {o : Nat} {m : Msg} (h : harm g.rid o m) (ho : g.off = o) (hb : g.back.length ≤ 64) (hs : o ≤ 1000000) : (gotF g own m).1 = g ∧ (gotF g own m).2.1 = own := by
  obtain ⟨h1, h2, h3, h4⟩ := h
  unfold gotF
  cases hn : nextF g m
  · have hw : (decide (m.kind = 6) && newerF g m) = false := by
      rcases h4 with ⟨a, b⟩ | ⟨a, b⟩
      · simp [a]
      · simp only [newerF, h1, ho]
        have : ¬ (o : Int) < m.off := by omega
        simp [this]
    rw [hw]
    exact ⟨rfl, rfl⟩
  · have he : m.effects = [] := by
      simp only [nextF, Bool.and_eq_true, decide_eq_true_eq] at hn
      obtain ⟨n1, n2, n3⟩ := hn
      rcases h4 with ⟨a, b | b | b⟩ | ⟨a, b⟩
      · exact absurd n2 b
      · omega
      · exact b
      · omega
    rw [he, show decide (m.rid = g.rid) = true by simp [h1]]
    exact ⟨addF_nil g hb (by omega) (by omega), rfl⟩
/-- Where a replica is ahead of round i. -/
def At (r other : Int) (l : List Effect) (k i : Nat) (g : Feed) (own : List Pair) (sent : List Msg) : Prop :=
  sent.length = i ∧ okE g.back ∧ g.back.length ≤ 64 ∧ ((i = 0 ∧ g.rid ≠ (mkF r l).rid ∧ g = mkF other (l.take k) ∧ own = dbOf (l.take k)) ∨
  ∃ o : Nat, g.rid = (mkF r l).rid ∧ g.off = o ∧ o ≤ l.length ∧ min l.length (16 * i) ≤ o ∧ own = dbOf (l.take o) ∧ ∀ m ∈ sent, harm (mkF r l).rid o m)
end Go.Proofs.Ytlkhfdccapkcdaa

