/- Part 5 of the proof. -/
import Derived.Test.YtaibolmbafacpaaPh4
/- Walks, printed: cmp_Compare_int, spans_said_1, slices_insertionSortCmpFunc_api_Span, slices_pdqsortCmpFunc_api_Span, slices_SortFunc_api_Span, spans_said, spans_Norm, -/
namespace Go.Proofs.Ytaibolmbafacpaa
open Go Go.RowKit
set_option linter.unusedVariables false
set_option linter.unusedSimpArgs false
def cmp_Compare_int_sh (n : Nat) (a0 : Int) (a1 : Int) : Option Int :=
bn (cmp_isNaN_int_sh n a0) fun v1 =>
bn (cmp_isNaN_int_sh n a1) fun v2 =>
ite' v1 (ite' v2 (some 0) (some (-1))) (ite' v2 (some 1) (lt (ltI a0 a1) fun v3 =>
ite' v3 (some (-1)) (lt (gtI a0 a1) fun v4 =>
ite' v4 (some 1) (some 0))))
set_option maxRecDepth 8000 in
set_option maxHeartbeats 8000000 in
theorem s_cmp_Compare_int {n : Nat} {a0 : Int} {a1 : Int} {r : Int} (h : cmp_Compare_int_sh n a0 a1 = some r) : Sound Try.prog 84 [.l (.s (.int .i64 a0)), .l (.s (.int .i64 a1))] [] (.l (.s (.int .i64 r))) [] := by
 unfold cmp_Compare_int_sh at h
 refine Sound.of_aw (fn := Try.f84) (c := _) Try.func84 rfl (by simp [Try.f84]) fun cx hG hnb => ?_
 rw [show Try.f84.ntmps = 20 from rfl]
 have hn0 : cx.nb = 0 := hnb
 simp only [st0_mk, initTm, List.map_cons, List.map_nil]
 apply AW.step
 ·simp
  intros; rfl
 replace h := bnE h; obtain ⟨v1, e1, h⟩ := h
 apply AW.step
 ·simp
  intros
  refine xcall_plain en_cmp_isNaN_int (s_cmp_isNaN_int e1) rfl ⟨.same rfl, trivial⟩ ?_
  try simp
  intros; rfl
 replace h := bnE h; obtain ⟨v2, e2, h⟩ := h
 apply AW.step
 ·simp
  intros
  refine xcall_plain en_cmp_isNaN_int (s_cmp_isNaN_int e2) rfl ⟨.same rfl, trivial⟩ ?_
  try simp
  intros; rfl
 refine AW.seq ?_
 apply AW.step
 ·simp
  intros; rfl
 cases v1 with
 | true =>
  replace h := iteT rfl h
  refine AW.cond_true (by simp) ?_
  refine AW.seq ?_
  apply AW.step
  ·simp
   intros; rfl
  cases v2 with
  | true =>
   replace h := iteT rfl h
   refine AW.cond_true (by simp) ?_
   apply AW.step
   ·simp
    intros; rfl
   obtain rfl := Option.some.inj h
   refine AW.ret ?_
   refine Left.plain hnb (by simp [Try.f84, resV, resC, comp]; rfl) rfl rfl ?_
   simp
  | false =>
   replace h := iteF rfl h
   refine AW.cond_false (by simp) ?_
   refine AW.skip ?_
   try simp only [sp_l, sp_r, Post.seq, Post.block, Nat.reduceEqDiff, reduceIte, Nat.zero_ne_one, Nat.one_ne_zero]
   try simp only [sp_l, sp_r, Post.seq, Post.block, Nat.reduceEqDiff, reduceIte, Nat.zero_ne_one, Nat.one_ne_zero]
   apply AW.step
   ·simp
    intros; rfl
   obtain rfl := Option.some.inj h
   refine AW.ret ?_
   refine Left.plain hnb (by simp [Try.f84, resV, resC, comp]; rfl) rfl rfl ?_
   simp
 | false =>
  replace h := iteF rfl h
  refine AW.cond_false (by simp) ?_
  refine AW.skip ?_
  try simp only [sp_l, sp_r, Post.seq, Post.block, Nat.reduceEqDiff, reduceIte, Nat.zero_ne_one, Nat.one_ne_zero]
  try simp only [sp_l, sp_r, Post.seq, Post.block, Nat.reduceEqDiff, reduceIte, Nat.zero_ne_one, Nat.one_ne_zero]
  refine AW.seq ?_
  apply AW.step
  ·simp
   intros; rfl
  cases v2 with
  | true =>
   replace h := iteT rfl h
   refine AW.cond_true (by simp) ?_
   apply AW.step
   ·simp
    intros; rfl
   obtain rfl := Option.some.inj h
   refine AW.ret ?_
   refine Left.plain hnb (by simp [Try.f84, resV, resC, comp]; rfl) rfl rfl ?_
   simp
  | false =>
   replace h := iteF rfl h
   refine AW.cond_false (by simp) ?_
   refine AW.skip ?_
   try simp only [sp_l, sp_r, Post.seq, Post.block, Nat.reduceEqDiff, reduceIte, Nat.zero_ne_one, Nat.one_ne_zero]
   try simp only [sp_l, sp_r, Post.seq, Post.block, Nat.reduceEqDiff, reduceIte, Nat.zero_ne_one, Nat.one_ne_zero]
   refine AW.seq ?_
   replace h := ltE h; obtain ⟨v3, e3, h⟩ := h
   apply AW.step
   ·simp [← e3]
    intros; rfl
   cases v3 with
   | true =>
    replace h := iteT rfl h
    refine AW.cond_true (by simp) ?_
    apply AW.step
    ·simp
     intros; rfl
    obtain rfl := Option.some.inj h
    refine AW.ret ?_
    refine Left.plain hnb (by simp [Try.f84, resV, resC, comp]; rfl) rfl rfl ?_
    simp
   | false =>
    replace h := iteF rfl h
    refine AW.cond_false (by simp) ?_
    refine AW.skip ?_
    try simp only [sp_l, sp_r, Post.seq, Post.block, Nat.reduceEqDiff, reduceIte, Nat.zero_ne_one, Nat.one_ne_zero]
    try simp only [sp_l, sp_r, Post.seq, Post.block, Nat.reduceEqDiff, reduceIte, Nat.zero_ne_one, Nat.one_ne_zero]
    refine AW.seq ?_
    replace h := ltE h; obtain ⟨v4, e4, h⟩ := h
    apply AW.step
    ·simp [← e4]
     intros; rfl
    cases v4 with
    | true =>
     replace h := iteT rfl h
     refine AW.cond_true (by simp) ?_
     apply AW.step
     ·simp
      intros; rfl
     obtain rfl := Option.some.inj h
     refine AW.ret ?_
     refine Left.plain hnb (by simp [Try.f84, resV, resC, comp]; rfl) rfl rfl ?_
     simp
    | false =>
     replace h := iteF rfl h
     refine AW.cond_false (by simp) ?_
     refine AW.skip ?_
     try simp only [sp_l, sp_r, Post.seq, Post.block, Nat.reduceEqDiff, reduceIte, Nat.zero_ne_one, Nat.one_ne_zero]
     try simp only [sp_l, sp_r, Post.seq, Post.block, Nat.reduceEqDiff, reduceIte, Nat.zero_ne_one, Nat.one_ne_zero]
     apply AW.step
     ·simp
      intros; rfl
     obtain rfl := Option.some.inj h
     refine AW.ret ?_
     refine Left.plain hnb (by simp [Try.f84, resV, resC, comp]; rfl) rfl rfl ?_
     simp
theorem en_cmp_Compare_int : Enters Try.prog 84 := enters Try.func84 (by kernel_rfl) rfl
def spans_said_1_sh (n : Nat) (a0 : Span) (a1 : Span) : Option Int :=
bn (cmp_Compare_int_sh n a0.frm a1.frm) fun v1 =>
some v1
set_option maxRecDepth 8000 in
set_option maxHeartbeats 8000000 in
theorem s_spans_said_1 {n : Nat} {a0 : Span} {a1 : Span} {r : Int} (h : spans_said_1_sh n a0 a1 = some r) : Sound Try.prog 83 [.g [.s (.int .i64 a0.frm), .s (.int .i64 a0.to)], .g [.s (.int .i64 a1.frm), .s (.int .i64 a1.to)]] [] (.l (.s (.int .i64 r))) [] := by
 unfold spans_said_1_sh at h
 refine Sound.of_aw (fn := Try.f83) (c := _) Try.func83 rfl (by simp [Try.f83]) fun cx hG hnb => ?_
 rw [show Try.f83.ntmps = 10 from rfl]
 have hn0 : cx.nb = 0 := hnb
 simp only [st0_mk, initTm, List.map_cons, List.map_nil]
 apply AW.step
 ·simp
  intros; rfl
 replace h := bnE h; obtain ⟨v1, e1, h⟩ := h
 apply AW.step
 ·simp
  intros
  refine xcall_plain en_cmp_Compare_int (s_cmp_Compare_int e1) rfl ⟨.same rfl, .same rfl, trivial⟩ ?_
  try simp
  intros; rfl
 obtain rfl := Option.some.inj h
 refine AW.ret ?_
 refine Left.plain hnb (by simp [Try.f83, resV, resC, comp]; rfl) rfl rfl ?_
 simp
theorem en_spans_said_1 : Enters Try.prog 83 := enters Try.func83 (by kernel_rfl) rfl
def slices_insertionSortCmpFunc_api_Span_sh (n : Nat) (a0 : List Span) (a1 : Int) (a2 : Int) : Option (List Span) :=
lt (addI .i64 a1 1) fun v1 =>
bn (iter n (fun (y2 : Int × List Span) =>
lt (ltI y2.1 a2) fun v5 =>
ite' v5 (bn (iter n (fun (y6 : Int × List Span) =>
bn (lt (gtI y6.1 a1) fun v10 =>
ite' v10 (bn (nth y6.2 y6.1) fun v11 =>
lt (subI .i64 y6.1 1) fun v13 =>
bn (nth y6.2 v13) fun v14 =>
bn (spans_said_1_sh n v11 v14) fun v16 =>
lt (ltI v16 0) fun v17 =>
some (v17)) (some (false))) fun (y9 : Bool) =>
lt (y9) fun v18 =>
ite' v18 (lt (subI .i64 y6.1 1) fun v19 =>
bn (nth y6.2 v19) fun v20 =>
bn (nth y6.2 y6.1) fun v22 =>
lt (y6.2.set y6.1.toNat v20) fun v25 =>
bn (nth v25 v19) fun v30 =>
lt (v25.set v19.toNat v22) fun v32 =>
some (.inl (v19, v32))) (some (.inr y6.2))) (y2.1, y2.2)) fun (y7 : List Span) =>
lt (addI .i64 y2.1 1) fun v41 =>
some (.inl (v41, y7))) (some (.inr y2.2))) (v1, a0)) fun (y3 : List Span) =>
some y3
set_option maxRecDepth 8000 in
set_option maxHeartbeats 8000000 in
theorem s_slices_insertionSortCmpFunc_api_Span {n : Nat} {a0 : List Span} {a1 : Int} {a2 : Int} {r : List Span} (h : slices_insertionSortCmpFunc_api_Span_sh n a0 a1 a2 = some r) : Sound Try.prog 87 [.l (.r 0 2 0 a0.length), .l (.s (.int .i64 a1)), .l (.s (.int .i64 a2)), .l (.s (.func (.func 83) #[] #[]))] [⟨71, 2, false, some 0, lvs (encSpan a0)⟩] (.t []) [some ⟨71, 2, false, some 0, lvs (encSpan r)⟩] := by
 unfold slices_insertionSortCmpFunc_api_Span_sh at h
 refine Sound.of_aw (fn := Try.f87) (c := _) Try.func87 rfl (by simp [Try.f87]) fun cx hG hnb => ?_
 rw [show Try.f87.ntmps = 53 from rfl]
 have hn0 : cx.nb = 1 := hnb
 simp only [st0_mk, initTm, List.map_cons, List.map_nil]
 replace h := ltE h; obtain ⟨v1, e1, h⟩ := h
 apply AW.step
 ·simp [← e1]
  intros; rfl
 refine AW.block ?_
 replace h := bnE h; obtain ⟨y3, g3, h⟩ := h
 refine AW.iterP g3 (mk := fun gh ls q => (⟨[(0, .l (.r 0 2 0 q.2.length)), (1, .l (.s (.int .i64 a1))), (2, .l (.s (.int .i64 a2))), (3, .l (.s (.func (.func 83) #[] #[]))), (8, .l (.s (.int .i64 q.1)))], [some ⟨71, 2, false, some 0, lvs (encSpan q.2)⟩], 53, gh, ls⟩ : St)) (N := fun gh ls => (xP 0 (cx := cx) (fun q => (⟨[], [some ⟨71, 2, false, some 0, lvs (encSpan q)⟩], 53, gh, ls⟩ : St)))) ?_ noX ?_ ?_
 ·refine Weak.mixB 1 [some 0] hn0 (by decide) (by decide) ?_ ?_ ?_
  all_goals first | (simp [inv_cons, inv_nil, pickOb]; done) | rfl
 ·clear h; intro y2 y4 h
  refine AW.seq ?_
  replace h := ltE h; obtain ⟨v5, e5, h⟩ := h
  apply AW.step
  ·simp [← e5]
   intros; rfl
  cases v5 with
  | true =>
   replace h := iteT rfl h
   refine AW.cond_true (by simp) ?_
   refine AW.skip ?_
   try simp only [sp_l, sp_r, Post.seq, Post.block, Nat.reduceEqDiff, reduceIte, Nat.zero_ne_one, Nat.one_ne_zero]
   try simp only [sp_l, sp_r, Post.seq, Post.block, Nat.reduceEqDiff, reduceIte, Nat.zero_ne_one, Nat.one_ne_zero]
   refine AW.seq ?_
   refine AW.block ?_
   apply AW.step
   ·simp
    intros; rfl
   refine AW.block ?_
   replace h := bnE h; obtain ⟨y7, g7, h⟩ := h
   refine AW.iterP g7 (mk := fun gh ls q => (⟨[(0, .l (.r 0 2 0 q.2.length)), (1, .l (.s (.int .i64 a1))), (2, .l (.s (.int .i64 a2))), (3, .l (.s (.func (.func 83) #[] #[]))), (8, .l (.s (.int .i64 y2.1))), (9, .l (.s (.int .i64 q.1)))], [some ⟨71, 2, false, some 0, lvs (encSpan q.2)⟩], 53, gh, ls⟩ : St)) (N := fun gh ls => (xP 2 (cx := cx) (fun q => (⟨[(0, .l (.r 0 2 0 q.length)), (1, .l (.s (.int .i64 a1))), (2, .l (.s (.int .i64 a2))), (3, .l (.s (.func (.func 83) #[] #[]))), (8, .l (.s (.int .i64 y2.1)))], [some ⟨71, 2, false, some 0, lvs (encSpan q)⟩], 53, gh, ls⟩ : St)))) ?_ noX ?_ ?_
   ·refine Weak.mixB 1 [some 0] hn0 (by decide) (by decide) ?_ ?_ ?_
    all_goals first | (simp [inv_cons, inv_nil, pickOb]; done) | rfl
   ·clear h; intro y6 y8 h
    refine AW.seq ?_
    replace h := bnE h; obtain ⟨y9, g9, h⟩ := h
    refine AW.flow (p := fun gh ls => (nP (cx := cx) (fun q => (⟨[(0, .l (.r 0 2 0 y6.2.length)), (1, .l (.s (.int .i64 a1))), (2, .l (.s (.int .i64 a2))), (3, .l (.s (.func (.func 83) #[] #[]))), (8, .l (.s (.int .i64 y2.1))), (9, .l (.s (.int .i64 y6.1))), (34, .l (.s (.bool q)))], [some ⟨71, 2, false, some 0, lvs (encSpan y6.2)⟩], 53, gh, ls⟩ : St))) y9) ?_ ?_
    ·replace h := g9; clear g9
     replace h := ltE h; obtain ⟨v10, e10, h⟩ := h
     cases v10 with
     | true =>
      replace h := iteT rfl h
      replace h := bnE h; obtain ⟨v11, e11, h⟩ := h
      have f12 := nth_lt e11
      try simp [← e10, nth_d e11] at f12
      replace h := ltE h; obtain ⟨v13, e13, h⟩ := h
      replace h := bnE h; obtain ⟨v14, e14, h⟩ := h
      have f15 := nth_lt e14
      try simp [← e10, nth_d e11, f12, encSpan_seg0 (nth_d e11).2 (k := 2) (by decide), encSpan_fit (nth_d e11).2 (show 2 ≤ 2 by decide), lvs1, ← e13, nth_d e14] at f15
      replace h := bnE h; obtain ⟨v16, e16, h⟩ := h
      replace h := ltE h; obtain ⟨v17, e17, h⟩ := h
      apply AW.drawnR (V := [_, _, _, _, _, _, _, _, _, _, _, _, _, _]) mixed [⟨[0], [], [(9, none)], false⟩, ⟨[0], [], [(1, none)], false⟩, ⟨[0], [0, 1], [(18, some 0), (19, some 1)], false⟩, ⟨[0], [0, 1, 2], [(20, some 2)], false⟩, ⟨[0], [0, 1, 2, 3], [(3, none), (21, some 3)], false⟩, ⟨[0], [0, 1, 2, 3], [(0, none), (21, some 3)], false⟩, ⟨[0], [0, 1, 2, 3], [(9, none), (21, some 3)], false⟩, ⟨[0], [0, 1, 2, 3, 5, 6], [(21, some 3), (23, some 5), (24, some 6)], false⟩, ⟨[0], [0, 1, 2, 3, 5, 6, 7], [(21, some 3), (25, some 7)], false⟩, ⟨[0], [0, 1, 2, 3], [(0, none), (21, some 3)], false⟩, ⟨[0], [0, 1, 2, 3], [(9, none), (21, some 3)], false⟩, ⟨[0], [0, 1, 2, 3, 10], [(21, some 3), (28, some 10)], false⟩, ⟨[0], [0, 1, 2, 3, 9, 10, 11], [(21, some 3), (27, some 9), (29, some 11)], false⟩, ⟨[0], [0, 1, 2, 3, 9, 10, 11, 12], [(21, some 3), (30, some 12)], false⟩, ⟨[], [0, 1, 2, 3, 4, 5, 6, 7, 8, 9, 10, 11, 12, 13], [], false⟩, ⟨[], [0, 1, 2, 3, 4, 5, 6, 7, 8, 9, 10, 11, 12, 13, 14], [], false⟩, ⟨[], [0, 1, 2, 3, 4, 5, 6, 7, 8, 9, 10, 11, 12, 13, 14, 15], [], false⟩] 14 (by kernel_rfl) (by kernel_rfl)
      ·refine ⟨?_, ?_, ?_, ?_, ?_, ?_, ?_, ?_, ?_, ?_, ?_, ?_, ?_, ?_, trivial⟩
       ·intro tm hr
        simp [AllL, rdV] at hr
        simp [hr, ← e10, nth_d e11, f12, encSpan_seg0 (nth_d e11).2 (k := 2) (by decide), encSpan_fit (nth_d e11).2 (show 2 ≤ 2 by decide), lvs1, ← e13, nth_d e14, f15, encSpan_seg0 (nth_d e14).2 (k := 2) (by decide), encSpan_fit (nth_d e14).2 (show 2 ≤ 2 by decide), ← e17]
        intros; first | exact KD.mk | exact KD.mkN
       ·intro tm hr
        simp [AllL, rdV] at hr
        simp [hr, ← e10, nth_d e11, f12, encSpan_seg0 (nth_d e11).2 (k := 2) (by decide), encSpan_fit (nth_d e11).2 (show 2 ≤ 2 by decide), lvs1, ← e13, nth_d e14, f15, encSpan_seg0 (nth_d e14).2 (k := 2) (by decide), encSpan_fit (nth_d e14).2 (show 2 ≤ 2 by decide), ← e17]
        intros; first | exact KD.mk | exact KD.mkN
       ·intro tm hr
        simp [AllL, rdV] at hr
        simp [hr, ← e10, nth_d e11, f12, encSpan_seg0 (nth_d e11).2 (k := 2) (by decide), encSpan_fit (nth_d e11).2 (show 2 ≤ 2 by decide), lvs1, ← e13, nth_d e14, f15, encSpan_seg0 (nth_d e14).2 (k := 2) (by decide), encSpan_fit (nth_d e14).2 (show 2 ≤ 2 by decide), ← e17]
        intros; first | exact KD.mk | exact KD.mkN
       ·intro tm hr
        simp [AllL, rdV] at hr
        simp [hr, ← e10, nth_d e11, f12, encSpan_seg0 (nth_d e11).2 (k := 2) (by decide), encSpan_fit (nth_d e11).2 (show 2 ≤ 2 by decide), lvs1, ← e13, nth_d e14, f15, encSpan_seg0 (nth_d e14).2 (k := 2) (by decide), encSpan_fit (nth_d e14).2 (show 2 ≤ 2 by decide), ← e17]
        intros; first | exact KD.mk | exact KD.mkN
       ·intro tm hr
        simp [AllL, rdV] at hr
        simp [hr, ← e10, nth_d e11, f12, encSpan_seg0 (nth_d e11).2 (k := 2) (by decide), encSpan_fit (nth_d e11).2 (show 2 ≤ 2 by decide), lvs1, ← e13, nth_d e14, f15, encSpan_seg0 (nth_d e14).2 (k := 2) (by decide), encSpan_fit (nth_d e14).2 (show 2 ≤ 2 by decide), ← e17]
        intros; first | exact KD.mk | exact KD.mkN
       ·intro tm hr
        simp [AllL, rdV] at hr
        simp [hr, ← e10, nth_d e11, f12, encSpan_seg0 (nth_d e11).2 (k := 2) (by decide), encSpan_fit (nth_d e11).2 (show 2 ≤ 2 by decide), lvs1, ← e13, nth_d e14, f15, encSpan_seg0 (nth_d e14).2 (k := 2) (by decide), encSpan_fit (nth_d e14).2 (show 2 ≤ 2 by decide), ← e17]
        intros; first | exact KD.mk | exact KD.mkN
       ·intro tm hr
        simp [AllL, rdV] at hr
        simp [hr, ← e10, nth_d e11, f12, encSpan_seg0 (nth_d e11).2 (k := 2) (by decide), encSpan_fit (nth_d e11).2 (show 2 ≤ 2 by decide), lvs1, ← e13, nth_d e14, f15, encSpan_seg0 (nth_d e14).2 (k := 2) (by decide), encSpan_fit (nth_d e14).2 (show 2 ≤ 2 by decide), ← e17]
        intros; first | exact KD.mk | exact KD.mkN
       ·intro tm hr
        simp [AllL, rdV] at hr
        simp [hr, ← e10, nth_d e11, f12, encSpan_seg0 (nth_d e11).2 (k := 2) (by decide), encSpan_fit (nth_d e11).2 (show 2 ≤ 2 by decide), lvs1, ← e13, nth_d e14, f15, encSpan_seg0 (nth_d e14).2 (k := 2) (by decide), encSpan_fit (nth_d e14).2 (show 2 ≤ 2 by decide), ← e17]
        intros; first | exact KD.mk | exact KD.mkN
       ·intro tm hr
        simp [AllL, rdV] at hr
        simp [hr, ← e10, nth_d e11, f12, encSpan_seg0 (nth_d e11).2 (k := 2) (by decide), encSpan_fit (nth_d e11).2 (show 2 ≤ 2 by decide), lvs1, ← e13, nth_d e14, f15, encSpan_seg0 (nth_d e14).2 (k := 2) (by decide), encSpan_fit (nth_d e14).2 (show 2 ≤ 2 by decide), ← e17]
        intros; first | exact KD.mk | exact KD.mkN
       ·intro tm hr
        simp [AllL, rdV] at hr
        simp [hr, ← e10, nth_d e11, f12, encSpan_seg0 (nth_d e11).2 (k := 2) (by decide), encSpan_fit (nth_d e11).2 (show 2 ≤ 2 by decide), lvs1, ← e13, nth_d e14, f15, encSpan_seg0 (nth_d e14).2 (k := 2) (by decide), encSpan_fit (nth_d e14).2 (show 2 ≤ 2 by decide), ← e17]
        intros; first | exact KD.mk | exact KD.mkN
       ·intro tm hr
        simp [AllL, rdV] at hr
        simp [hr, ← e10, nth_d e11, f12, encSpan_seg0 (nth_d e11).2 (k := 2) (by decide), encSpan_fit (nth_d e11).2 (show 2 ≤ 2 by decide), lvs1, ← e13, nth_d e14, f15, encSpan_seg0 (nth_d e14).2 (k := 2) (by decide), encSpan_fit (nth_d e14).2 (show 2 ≤ 2 by decide), ← e17]
        intros; first | exact KD.mk | exact KD.mkN
       ·intro tm hr
        simp [AllL, rdV] at hr
        simp [hr, ← e10, nth_d e11, f12, encSpan_seg0 (nth_d e11).2 (k := 2) (by decide), encSpan_fit (nth_d e11).2 (show 2 ≤ 2 by decide), lvs1, ← e13, nth_d e14, f15, encSpan_seg0 (nth_d e14).2 (k := 2) (by decide), encSpan_fit (nth_d e14).2 (show 2 ≤ 2 by decide), ← e17]
        intros; first | exact KD.mk | exact KD.mkN
       ·intro tm hr
        simp [AllL, rdV] at hr
        simp [hr, ← e10, nth_d e11, f12, encSpan_seg0 (nth_d e11).2 (k := 2) (by decide), encSpan_fit (nth_d e11).2 (show 2 ≤ 2 by decide), lvs1, ← e13, nth_d e14, f15, encSpan_seg0 (nth_d e14).2 (k := 2) (by decide), encSpan_fit (nth_d e14).2 (show 2 ≤ 2 by decide), ← e17]
        intros; first | exact KD.mk | exact KD.mkN
       ·intro tm hr
        simp [AllL, rdV] at hr
        simp [hr, ← e10, nth_d e11, f12, encSpan_seg0 (nth_d e11).2 (k := 2) (by decide), encSpan_fit (nth_d e11).2 (show 2 ≤ 2 by decide), lvs1, ← e13, nth_d e14, f15, encSpan_seg0 (nth_d e14).2 (k := 2) (by decide), encSpan_fit (nth_d e14).2 (show 2 ≤ 2 by decide), ← e17]
        intros; first | exact KD.mk | exact KD.mkN
      ·rfl
      ·simp [tmD, putD, ← e10, nth_d e11, f12, encSpan_seg0 (nth_d e11).2 (k := 2) (by decide), encSpan_fit (nth_d e11).2 (show 2 ≤ 2 by decide), lvs1, ← e13, nth_d e14, f15, encSpan_seg0 (nth_d e14).2 (k := 2) (by decide), encSpan_fit (nth_d e14).2 (show 2 ≤ 2 by decide), ← e17]; rfl
      ·simp [← e10, nth_d e11, f12, encSpan_seg0 (nth_d e11).2 (k := 2) (by decide), encSpan_fit (nth_d e11).2 (show 2 ≤ 2 by decide), lvs1, ← e13, nth_d e14, f15, encSpan_seg0 (nth_d e14).2 (k := 2) (by decide), encSpan_fit (nth_d e14).2 (show 2 ≤ 2 by decide), ← e17]
       intros
       refine xcall_plain en_spans_said_1 (s_spans_said_1 e16) rfl ⟨.same rfl, .same rfl, trivial⟩ ?_
       try simp [← e10, nth_d e11, f12, encSpan_seg0 (nth_d e11).2 (k := 2) (by decide), encSpan_fit (nth_d e11).2 (show 2 ≤ 2 by decide), lvs1, ← e13, nth_d e14, f15, encSpan_seg0 (nth_d e14).2 (k := 2) (by decide), encSpan_fit (nth_d e14).2 (show 2 ≤ 2 by decide), ← e17]
       intros; rfl
      obtain rfl := Option.some.inj h
      refine nP_i ?_
      refine Weak.mixB 1 [some 0] hn0 (by decide) (by decide) ?_ ?_ ?_
      all_goals first | (simp [inv_cons, inv_nil, pickOb]; done) | rfl
     | false =>
      replace h := iteF rfl h
      apply AW.drawnR (V := [_, _, _, _, _, _, _, _, _, _, _, _, _, _]) mixed [⟨[0], [], [(9, none)], false⟩, ⟨[0], [], [(1, none)], false⟩, ⟨[0], [0, 1], [(18, some 0), (19, some 1)], false⟩, ⟨[0], [0, 1, 2], [(20, some 2)], false⟩, ⟨[0], [0, 1, 2, 3], [(3, none), (21, some 3)], false⟩, ⟨[0], [0, 1, 2, 3], [(0, none), (21, some 3)], false⟩, ⟨[0], [0, 1, 2, 3], [(9, none), (21, some 3)], false⟩, ⟨[0], [0, 1, 2, 3, 5, 6], [(21, some 3), (23, some 5), (24, some 6)], false⟩, ⟨[0], [0, 1, 2, 3, 5, 6, 7], [(21, some 3), (25, some 7)], false⟩, ⟨[0], [0, 1, 2, 3], [(0, none), (21, some 3)], false⟩, ⟨[0], [0, 1, 2, 3], [(9, none), (21, some 3)], false⟩, ⟨[0], [0, 1, 2, 3, 10], [(21, some 3), (28, some 10)], false⟩, ⟨[0], [0, 1, 2, 3, 9, 10, 11], [(21, some 3), (27, some 9), (29, some 11)], false⟩, ⟨[0], [0, 1, 2, 3, 9, 10, 11, 12], [(21, some 3), (30, some 12)], false⟩, ⟨[], [0, 1, 2, 3, 4, 5, 6, 7, 8, 9, 10, 11, 12, 13], [], false⟩, ⟨[], [0, 1, 2, 3, 4, 5, 6, 7, 8, 9, 10, 11, 12, 13, 14], [], false⟩, ⟨[], [0, 1, 2, 3, 4, 5, 6, 7, 8, 9, 10, 11, 12, 13, 14, 15], [], false⟩] 14 (by kernel_rfl) (by kernel_rfl)
      ·refine ⟨?_, ?_, ?_, ?_, ?_, ?_, ?_, ?_, ?_, ?_, ?_, ?_, ?_, ?_, trivial⟩
       ·intro tm hr
        simp [AllL, rdV] at hr
        simp [hr, ← e10]
        intros; first | exact KD.mk | exact KD.mkN
       ·intro tm hr
        simp [AllL, rdV] at hr
        simp [hr, ← e10]
        intros; first | exact KD.mk | exact KD.mkN
       ·intro tm hr
        simp [AllL, rdV] at hr
        simp [hr, ← e10]
        intros; first | exact KD.mk | exact KD.mkN
       ·intro tm hr
        simp [AllL, rdV] at hr
        simp [hr, ← e10]
        intros; first | exact KD.mk | exact KD.mkN
       ·intro tm hr
        simp [AllL, rdV] at hr
        simp [hr, ← e10]
        intros; first | exact KD.mk | exact KD.mkN
       ·intro tm hr
        simp [AllL, rdV] at hr
        simp [hr, ← e10]
        intros; first | exact KD.mk | exact KD.mkN
       ·intro tm hr
        simp [AllL, rdV] at hr
        simp [hr, ← e10]
        intros; first | exact KD.mk | exact KD.mkN
       ·intro tm hr
        simp [AllL, rdV] at hr
        simp [hr, ← e10]
        intros; first | exact KD.mk | exact KD.mkN
       ·intro tm hr
        simp [AllL, rdV] at hr
        simp [hr, ← e10]
        intros; first | exact KD.mk | exact KD.mkN
       ·intro tm hr
        simp [AllL, rdV] at hr
        simp [hr, ← e10]
        intros; first | exact KD.mk | exact KD.mkN
       ·intro tm hr
        simp [AllL, rdV] at hr
        simp [hr, ← e10]
        intros; first | exact KD.mk | exact KD.mkN
       ·intro tm hr
        simp [AllL, rdV] at hr
        simp [hr, ← e10]
        intros; first | exact KD.mk | exact KD.mkN
       ·intro tm hr
        simp [AllL, rdV] at hr
        simp [hr, ← e10]
        intros; first | exact KD.mk | exact KD.mkN
       ·intro tm hr
        simp [AllL, rdV] at hr
        simp [hr, ← e10]
        intros; first | exact KD.mk | exact KD.mkN
      ·rfl
      ·simp [tmD, putD, ← e10]; rfl
      ·simp [← e10]
       intros; rfl
      obtain rfl := Option.some.inj h
      refine nP_i ?_
      refine Weak.mixB 1 [some 0] hn0 (by decide) (by decide) ?_ ?_ ?_
      all_goals first | (simp [inv_cons, inv_nil, pickOb]; done) | rfl
    ·rintro e s hp
     obtain ⟨rfl, hw⟩ := hp
     refine ⟨_, hw, ?_⟩
     try simp only [sp_l, sp_r, Post.seq, Post.block, Nat.reduceEqDiff, reduceIte, Nat.zero_ne_one, Nat.one_ne_zero]
     replace h := ltE h; obtain ⟨v18, e18, h⟩ := h
     rw [← e18]
     cases v18 with
     | true =>
      replace h := iteT rfl h
      refine AW.cond_true (by simp) ?_
      refine AW.skip ?_
      try simp only [sp_l, sp_r, Post.seq, Post.block, Nat.reduceEqDiff, reduceIte, Nat.zero_ne_one, Nat.one_ne_zero]
      try simp only [sp_l, sp_r, Post.seq, Post.block, Nat.reduceEqDiff, reduceIte, Nat.zero_ne_one, Nat.one_ne_zero]
      refine AW.seq ?_
      refine AW.block ?_
      replace h := ltE h; obtain ⟨v19, e19, h⟩ := h
      replace h := bnE h; obtain ⟨v20, e20, h⟩ := h
      have f21 := nth_lt e20
      try simp [← e19, nth_d e20] at f21
      replace h := bnE h; obtain ⟨v22, e22, h⟩ := h
      have f23 := nth_lt e22
      try simp [← e19, nth_d e20, f21, encSpan_seg0 (nth_d e20).2 (k := 2) (by decide), encSpan_fit (nth_d e20).2 (show 2 ≤ 2 by decide), lvs1, nth_d e22] at f23
      have f24 := nth_lt e22
      try simp [← e19, nth_d e20, f21, encSpan_seg0 (nth_d e20).2 (k := 2) (by decide), encSpan_fit (nth_d e20).2 (show 2 ≤ 2 by decide), lvs1, nth_d e22, f23, encSpan_seg0 (nth_d e22).2 (k := 2) (by decide), encSpan_fit (nth_d e22).2 (show 2 ≤ 2 by decide)] at f24
      replace h := ltE h; obtain ⟨v25, e25, h⟩ := h
      have f26 := encSpan_put0 (nth_d e22).2 e25 (cs := [.s (.int .i64 v20.frm), .s (.int .i64 v20.to)]) (by simp) rfl
      try simp at f26
      have f27 := f21
      try simp only [set_len e25] at f27
      have f28 := f23
      try simp only [set_len e25] at f28
      have f29 := f24
      try simp only [set_len e25] at f29
      replace h := bnE h; obtain ⟨v30, e30, h⟩ := h
      have f31 := nth_lt e30
      try simp [← e19, nth_d e20, f21, encSpan_seg0 (nth_d e20).2 (k := 2) (by decide), encSpan_fit (nth_d e20).2 (show 2 ≤ 2 by decide), lvs1, nth_d e22, f23, encSpan_seg0 (nth_d e22).2 (k := 2) (by decide), encSpan_fit (nth_d e22).2 (show 2 ≤ 2 by decide), f24, f26, f27, f28, f29, nth_d e30] at f31
      replace h := ltE h; obtain ⟨v32, e32, h⟩ := h
      have f33 := encSpan_put0 (nth_d e30).2 e32 (cs := [.s (.int .i64 v22.frm), .s (.int .i64 v22.to)]) (by simp) rfl
      try simp at f33
      have f34 := f21
      try simp only [set_len e32] at f34
      have f35 := f23
      try simp only [set_len e32] at f35
      have f36 := f24
      try simp only [set_len e32] at f36
      have f37 := f27
      try simp only [set_len e32] at f37
      have f38 := f28
      try simp only [set_len e32] at f38
      have f39 := f29
      try simp only [set_len e32] at f39
      have f40 := f31
      try simp only [set_len e32] at f40
      apply AW.drawnF (V := [_, _, _, _, _, _, _, _, _, _, _, _, _, _, _, _]) (M := [[some ⟨71, 2, false, some 0, lvs (encSpan y6.2)⟩], [some ⟨71, 2, false, some 0, lvs (encSpan v25)⟩]]) mixed [⟨[0], [], [(0, none)], false⟩, ⟨[0], [], [(9, none)], false⟩, ⟨[0, 1], [], [(0, none)], false⟩, ⟨[0, 1], [], [(9, none)], false⟩, ⟨[0, 1], [3], [(40, some 3)], false⟩, ⟨[0], [], [(0, none)], false⟩, ⟨[0], [], [(9, none)], false⟩, ⟨[0], [6], [(43, some 6)], false⟩, ⟨[0], [5, 6, 7], [(42, some 5), (44, some 7)], false⟩, ⟨[0], [5, 6, 7, 8], [(45, some 8)], false⟩, ⟨[0], [], [(0, none)], false⟩, ⟨[0], [], [(9, none)], false⟩, ⟨[0], [10, 11], [(47, some 10), (48, some 11)], false⟩, ⟨[0], [10, 11, 12], [(49, some 12)], false⟩, ⟨[0], [0, 1, 5, 6, 7, 8, 9, 10, 11, 12, 13], [(37, some 0), (38, some 1)], false⟩, ⟨[0], [0, 1, 5, 6, 7, 8, 9, 10, 11, 12, 13, 14], [(46, some 9), (51, some 14)], true⟩, ⟨[], [0, 1, 2, 3, 4, 5, 6, 7, 8, 9, 10, 11, 12, 13, 14, 15], [], false⟩, ⟨[], [0, 1, 2, 3, 4, 5, 6, 7, 8, 9, 10, 11, 12, 13, 14, 15, 16], [], false⟩] 16 1 (by kernel_rfl) (by kernel_rfl)
      ·rfl
      ·refine ⟨?_, ?_, ⟨?_, ?_⟩, ⟨?_, ?_⟩, ⟨?_, ?_⟩, ?_, ?_, ?_, ?_, ?_, ?_, ?_, ?_, ?_, ?_, ?_, trivial⟩
       ·intro tm hr
        simp [AllL, rdV] at hr
        simp [hr, ← e19, nth_d e20, f21, encSpan_seg0 (nth_d e20).2 (k := 2) (by decide), encSpan_fit (nth_d e20).2 (show 2 ≤ 2 by decide), lvs1, nth_d e22, f23, encSpan_seg0 (nth_d e22).2 (k := 2) (by decide), encSpan_fit (nth_d e22).2 (show 2 ≤ 2 by decide), f24, f26, f27, f28, f29, nth_d e30, f31, set_len e25, encSpan_fit (nth_d e30).2 (show 2 ≤ 2 by decide), f33, f34, f35, f36, f37, f38, f39, f40]
        intros; first | exact KD.mk | exact KD.mkN
       ·intro tm hr
        simp [AllL, rdV] at hr
        simp [hr, ← e19, nth_d e20, f21, encSpan_seg0 (nth_d e20).2 (k := 2) (by decide), encSpan_fit (nth_d e20).2 (show 2 ≤ 2 by decide), lvs1, nth_d e22, f23, encSpan_seg0 (nth_d e22).2 (k := 2) (by decide), encSpan_fit (nth_d e22).2 (show 2 ≤ 2 by decide), f24, f26, f27, f28, f29, nth_d e30, f31, set_len e25, encSpan_fit (nth_d e30).2 (show 2 ≤ 2 by decide), f33, f34, f35, f36, f37, f38, f39, f40]
        intros; first | exact KD.mk | exact KD.mkN
       ·intro tm hr
        simp [AllL, rdV] at hr
        simp [hr, ← e19, nth_d e20, f21, encSpan_seg0 (nth_d e20).2 (k := 2) (by decide), encSpan_fit (nth_d e20).2 (show 2 ≤ 2 by decide), lvs1, nth_d e22, f23, encSpan_seg0 (nth_d e22).2 (k := 2) (by decide), encSpan_fit (nth_d e22).2 (show 2 ≤ 2 by decide), f24, f26, f27, f28, f29, nth_d e30, f31, set_len e25, encSpan_fit (nth_d e30).2 (show 2 ≤ 2 by decide), f33, f34, f35, f36, f37, f38, f39, f40]
        intros; first | exact KD.mk | exact KD.mkN
       ·intro tm hr
        simp [AllL, rdV] at hr
        simp [hr, ← e19, nth_d e20, f21, encSpan_seg0 (nth_d e20).2 (k := 2) (by decide), encSpan_fit (nth_d e20).2 (show 2 ≤ 2 by decide), lvs1, nth_d e22, f23, encSpan_seg0 (nth_d e22).2 (k := 2) (by decide), encSpan_fit (nth_d e22).2 (show 2 ≤ 2 by decide), f24, f26, f27, f28, f29, nth_d e30, f31, set_len e25, encSpan_fit (nth_d e30).2 (show 2 ≤ 2 by decide), f33, f34, f35, f36, f37, f38, f39, f40]
        intros; first | exact KD.mk | exact KD.mkN
       ·intro tm hr
        simp [AllL, rdV] at hr
        simp [hr, ← e19, nth_d e20, f21, encSpan_seg0 (nth_d e20).2 (k := 2) (by decide), encSpan_fit (nth_d e20).2 (show 2 ≤ 2 by decide), lvs1, nth_d e22, f23, encSpan_seg0 (nth_d e22).2 (k := 2) (by decide), encSpan_fit (nth_d e22).2 (show 2 ≤ 2 by decide), f24, f26, f27, f28, f29, nth_d e30, f31, set_len e25, encSpan_fit (nth_d e30).2 (show 2 ≤ 2 by decide), f33, f34, f35, f36, f37, f38, f39, f40]
        intros; first | exact KD.mk | exact KD.mkN
       ·intro tm hr
        simp [AllL, rdV] at hr
        simp [hr, ← e19, nth_d e20, f21, encSpan_seg0 (nth_d e20).2 (k := 2) (by decide), encSpan_fit (nth_d e20).2 (show 2 ≤ 2 by decide), lvs1, nth_d e22, f23, encSpan_seg0 (nth_d e22).2 (k := 2) (by decide), encSpan_fit (nth_d e22).2 (show 2 ≤ 2 by decide), f24, f26, f27, f28, f29, nth_d e30, f31, set_len e25, encSpan_fit (nth_d e30).2 (show 2 ≤ 2 by decide), f33, f34, f35, f36, f37, f38, f39, f40]
        intros; first | exact KD.mk | exact KD.mkN
       ·intro tm hr
        simp [AllL, rdV] at hr
        simp [hr, ← e19, nth_d e20, f21, encSpan_seg0 (nth_d e20).2 (k := 2) (by decide), encSpan_fit (nth_d e20).2 (show 2 ≤ 2 by decide), lvs1, nth_d e22, f23, encSpan_seg0 (nth_d e22).2 (k := 2) (by decide), encSpan_fit (nth_d e22).2 (show 2 ≤ 2 by decide), f24, f26, f27, f28, f29, nth_d e30, f31, set_len e25, encSpan_fit (nth_d e30).2 (show 2 ≤ 2 by decide), f33, f34, f35, f36, f37, f38, f39, f40]
        intros; first | exact KD.mk | exact KD.mkN
       ·intro tm hr
        simp [AllL, rdV] at hr
        simp [hr, ← e19, nth_d e20, f21, encSpan_seg0 (nth_d e20).2 (k := 2) (by decide), encSpan_fit (nth_d e20).2 (show 2 ≤ 2 by decide), lvs1, nth_d e22, f23, encSpan_seg0 (nth_d e22).2 (k := 2) (by decide), encSpan_fit (nth_d e22).2 (show 2 ≤ 2 by decide), f24, f26, f27, f28, f29, nth_d e30, f31, set_len e25, encSpan_fit (nth_d e30).2 (show 2 ≤ 2 by decide), f33, f34, f35, f36, f37, f38, f39, f40]
        intros; first | exact KD.mk | exact KD.mkN
       ·intro tm hr
        simp [AllL, rdV] at hr
        simp [hr, ← e19, nth_d e20, f21, encSpan_seg0 (nth_d e20).2 (k := 2) (by decide), encSpan_fit (nth_d e20).2 (show 2 ≤ 2 by decide), lvs1, nth_d e22, f23, encSpan_seg0 (nth_d e22).2 (k := 2) (by decide), encSpan_fit (nth_d e22).2 (show 2 ≤ 2 by decide), f24, f26, f27, f28, f29, nth_d e30, f31, set_len e25, encSpan_fit (nth_d e30).2 (show 2 ≤ 2 by decide), f33, f34, f35, f36, f37, f38, f39, f40]
        intros; first | exact KD.mk | exact KD.mkN
       ·intro tm hr
        simp [AllL, rdV] at hr
        simp [hr, ← e19, nth_d e20, f21, encSpan_seg0 (nth_d e20).2 (k := 2) (by decide), encSpan_fit (nth_d e20).2 (show 2 ≤ 2 by decide), lvs1, nth_d e22, f23, encSpan_seg0 (nth_d e22).2 (k := 2) (by decide), encSpan_fit (nth_d e22).2 (show 2 ≤ 2 by decide), f24, f26, f27, f28, f29, nth_d e30, f31, set_len e25, encSpan_fit (nth_d e30).2 (show 2 ≤ 2 by decide), f33, f34, f35, f36, f37, f38, f39, f40]
        intros; first | exact KD.mk | exact KD.mkN
       ·intro tm hr
        simp [AllL, rdV] at hr
        simp [hr, ← e19, nth_d e20, f21, encSpan_seg0 (nth_d e20).2 (k := 2) (by decide), encSpan_fit (nth_d e20).2 (show 2 ≤ 2 by decide), lvs1, nth_d e22, f23, encSpan_seg0 (nth_d e22).2 (k := 2) (by decide), encSpan_fit (nth_d e22).2 (show 2 ≤ 2 by decide), f24, f26, f27, f28, f29, nth_d e30, f31, set_len e25, encSpan_fit (nth_d e30).2 (show 2 ≤ 2 by decide), f33, f34, f35, f36, f37, f38, f39, f40]
        intros; first | exact KD.mk | exact KD.mkN
       ·intro tm hr
        simp [AllL, rdV] at hr
        simp [hr, ← e19, nth_d e20, f21, encSpan_seg0 (nth_d e20).2 (k := 2) (by decide), encSpan_fit (nth_d e20).2 (show 2 ≤ 2 by decide), lvs1, nth_d e22, f23, encSpan_seg0 (nth_d e22).2 (k := 2) (by decide), encSpan_fit (nth_d e22).2 (show 2 ≤ 2 by decide), f24, f26, f27, f28, f29, nth_d e30, f31, set_len e25, encSpan_fit (nth_d e30).2 (show 2 ≤ 2 by decide), f33, f34, f35, f36, f37, f38, f39, f40]
        intros; first | exact KD.mk | exact KD.mkN
       ·intro tm hr
        simp [AllL, rdV] at hr
        simp [hr, ← e19, nth_d e20, f21, encSpan_seg0 (nth_d e20).2 (k := 2) (by decide), encSpan_fit (nth_d e20).2 (show 2 ≤ 2 by decide), lvs1, nth_d e22, f23, encSpan_seg0 (nth_d e22).2 (k := 2) (by decide), encSpan_fit (nth_d e22).2 (show 2 ≤ 2 by decide), f24, f26, f27, f28, f29, nth_d e30, f31, set_len e25, encSpan_fit (nth_d e30).2 (show 2 ≤ 2 by decide), f33, f34, f35, f36, f37, f38, f39, f40]
        intros; first | exact KD.mk | exact KD.mkN
       ·intro tm hr
        simp [AllL, rdV] at hr
        simp [hr, ← e19, nth_d e20, f21, encSpan_seg0 (nth_d e20).2 (k := 2) (by decide), encSpan_fit (nth_d e20).2 (show 2 ≤ 2 by decide), lvs1, nth_d e22, f23, encSpan_seg0 (nth_d e22).2 (k := 2) (by decide), encSpan_fit (nth_d e22).2 (show 2 ≤ 2 by decide), f24, f26, f27, f28, f29, nth_d e30, f31, set_len e25, encSpan_fit (nth_d e30).2 (show 2 ≤ 2 by decide), f33, f34, f35, f36, f37, f38, f39, f40]
        intros; first | exact KD.mk | exact KD.mkN
       ·intro tm hr
        simp [AllL, rdV] at hr
        simp [hr, ← e19, nth_d e20, f21, encSpan_seg0 (nth_d e20).2 (k := 2) (by decide), encSpan_fit (nth_d e20).2 (show 2 ≤ 2 by decide), lvs1, nth_d e22, f23, encSpan_seg0 (nth_d e22).2 (k := 2) (by decide), encSpan_fit (nth_d e22).2 (show 2 ≤ 2 by decide), f24, f26, f27, f28, f29, nth_d e30, f31, set_len e25, encSpan_fit (nth_d e30).2 (show 2 ≤ 2 by decide), f33, f34, f35, f36, f37, f38, f39, f40]
        intros; first | exact KD.mk | exact KD.mkN
       ·intro tm hr
        simp [AllL, rdV] at hr
        simp [hr, ← e19, nth_d e20, f21, encSpan_seg0 (nth_d e20).2 (k := 2) (by decide), encSpan_fit (nth_d e20).2 (show 2 ≤ 2 by decide), lvs1, nth_d e22, f23, encSpan_seg0 (nth_d e22).2 (k := 2) (by decide), encSpan_fit (nth_d e22).2 (show 2 ≤ 2 by decide), f24, f26, f27, f28, f29, nth_d e30, f31, set_len e25, encSpan_fit (nth_d e30).2 (show 2 ≤ 2 by decide), f33, f34, f35, f36, f37, f38, f39, f40]
        intros; first | exact KD.mk | exact KD.mkN
       ·intro tm hr
        simp [AllL, rdV] at hr
        simp [hr, ← e19, nth_d e20, f21, encSpan_seg0 (nth_d e20).2 (k := 2) (by decide), encSpan_fit (nth_d e20).2 (show 2 ≤ 2 by decide), lvs1, nth_d e22, f23, encSpan_seg0 (nth_d e22).2 (k := 2) (by decide), encSpan_fit (nth_d e22).2 (show 2 ≤ 2 by decide), f24, f26, f27, f28, f29, nth_d e30, f31, set_len e25, encSpan_fit (nth_d e30).2 (show 2 ≤ 2 by decide), f33, f34, f35, f36, f37, f38, f39, f40]
        intros; first | exact KD.mk | exact KD.mkN
       ·intro tm hr
        simp [AllL, rdV] at hr
        simp [hr, ← e19, nth_d e20, f21, encSpan_seg0 (nth_d e20).2 (k := 2) (by decide), encSpan_fit (nth_d e20).2 (show 2 ≤ 2 by decide), lvs1, nth_d e22, f23, encSpan_seg0 (nth_d e22).2 (k := 2) (by decide), encSpan_fit (nth_d e22).2 (show 2 ≤ 2 by decide), f24, f26, f27, f28, f29, nth_d e30, f31, set_len e25, encSpan_fit (nth_d e30).2 (show 2 ≤ 2 by decide), f33, f34, f35, f36, f37, f38, f39, f40]
        intros; first | exact KD.mk | exact KD.mkN
       ·intro tm hr
        simp [AllL, rdV] at hr
        simp [hr, ← e19, nth_d e20, f21, encSpan_seg0 (nth_d e20).2 (k := 2) (by decide), encSpan_fit (nth_d e20).2 (show 2 ≤ 2 by decide), lvs1, nth_d e22, f23, encSpan_seg0 (nth_d e22).2 (k := 2) (by decide), encSpan_fit (nth_d e22).2 (show 2 ≤ 2 by decide), f24, f26, f27, f28, f29, nth_d e30, f31, set_len e25, encSpan_fit (nth_d e30).2 (show 2 ≤ 2 by decide), f33, f34, f35, f36, f37, f38, f39, f40]
        intros; first | exact KD.mk | exact KD.mkN
      ·rfl
      ·simp [tmD, putD, ← e19, nth_d e20, f21, encSpan_seg0 (nth_d e20).2 (k := 2) (by decide), encSpan_fit (nth_d e20).2 (show 2 ≤ 2 by decide), lvs1, nth_d e22, f23, encSpan_seg0 (nth_d e22).2 (k := 2) (by decide), encSpan_fit (nth_d e22).2 (show 2 ≤ 2 by decide), f24, f26, f27, f28, f29, nth_d e30, f31, set_len e25, encSpan_fit (nth_d e30).2 (show 2 ≤ 2 by decide), f33, f34, f35, f36, f37, f38, f39, f40]; rfl
      ·simp [← e19, nth_d e20, f21, encSpan_seg0 (nth_d e20).2 (k := 2) (by decide), encSpan_fit (nth_d e20).2 (show 2 ≤ 2 by decide), lvs1, nth_d e22, f23, encSpan_seg0 (nth_d e22).2 (k := 2) (by decide), encSpan_fit (nth_d e22).2 (show 2 ≤ 2 by decide), f24, f26, f27, f28, f29, nth_d e30, f31, set_len e25, encSpan_fit (nth_d e30).2 (show 2 ≤ 2 by decide), f33, f34, f35, f36, f37, f38, f39, f40]
       intros; rfl
      try simp only [sp_l, sp_r, Post.seq, Post.block, Nat.reduceEqDiff, reduceIte, Nat.zero_ne_one, Nat.one_ne_zero]
      apply AW.last
      ·simp [← e19]
       intros; rfl
      obtain rfl := Option.some.inj h
      refine nP_i ?_
      refine Weak.mixB 1 [some 0] hn0 (by decide) (by decide) ?_ ?_ ?_
      all_goals first | (simp [inv_cons, inv_nil, pickOb, set_len e25, set_len e32]; done) | rfl
     | false =>
      replace h := iteF rfl h
      refine AW.cond_false (by simp) ?_
      refine AW.exit ?_
      try simp only [sp_l, sp_r, Post.seq, Post.block, Nat.reduceEqDiff, reduceIte, Nat.zero_ne_one, Nat.one_ne_zero]
      obtain rfl := Option.some.inj h
      refine xP_i ?_
      refine Weak.mixB 1 [some 0] hn0 (by decide) (by decide) ?_ ?_ ?_
      all_goals first | (simp [inv_cons, inv_nil, pickOb]; done) | rfl
   ·rintro e s hp
    obtain ⟨rfl, hw⟩ := hp
    refine ⟨_, hw, ?_⟩
    try simp only [sp_l, sp_r, Post.seq, Post.block, Nat.reduceEqDiff, reduceIte, Nat.zero_ne_one, Nat.one_ne_zero]
    replace h := ltE h; obtain ⟨v41, e41, h⟩ := h
    apply AW.last
    ·simp [← e41]
     intros; rfl
    obtain rfl := Option.some.inj h
    refine nP_i ?_
    refine Weak.mixB 1 [some 0] hn0 (by decide) (by decide) ?_ ?_ ?_
    all_goals first | (simp [inv_cons, inv_nil, pickOb]; done) | rfl
  | false =>
   replace h := iteF rfl h
   refine AW.cond_false (by simp) ?_
   refine AW.exit ?_
   try simp only [sp_l, sp_r, Post.seq, Post.block, Nat.reduceEqDiff, reduceIte, Nat.zero_ne_one, Nat.one_ne_zero]
   obtain rfl := Option.some.inj h
   refine xP_i ?_
   refine Weak.mixB 1 [some 0] hn0 (by decide) (by decide) ?_ ?_ ?_
   all_goals first | (simp [inv_cons, inv_nil, pickOb]; done) | rfl
 ·rintro e s hp
  obtain ⟨rfl, hw⟩ := hp
  refine ⟨_, hw, ?_⟩
  try simp only [sp_l, sp_r, Post.seq, Post.block, Nat.reduceEqDiff, reduceIte, Nat.zero_ne_one, Nat.one_ne_zero]
  obtain rfl := Option.some.inj h
  refine Left.of (av := _) (by simp [Try.f87, resV, resC, comp]; rfl) ?_
  exact LeftV.mix 1 [some 0] hn0 rfl (by decide) rfl (by simp [pickOb, inv_cons, inv_nil]) (by simp [inv_cons, inv_nil])
theorem en_slices_insertionSortCmpFunc_api_Span : Enters Try.prog 87 := enters Try.func87 (by kernel_rfl) rfl
def slices_pdqsortCmpFunc_api_Span_sh (n : Nat) (a0 : List Span) (a1 : Int) (a2 : Int) (a3 : Int) : Option (List Span) :=
bn (iter n (fun (y1 : Unit) =>
lt (subI .i64 a2 a1) fun v4 =>
lt (leI v4 12) fun v5 =>
ite' v5 (bn (slices_insertionSortCmpFunc_api_Span_sh n a0 a1 a2) fun v6 =>
chk (lenB v6 a0) <|
some (.inr v6)) (none)) ()) fun (y2 : List Span) =>
some y2
set_option maxRecDepth 8000 in
set_option maxHeartbeats 8000000 in
theorem s_slices_pdqsortCmpFunc_api_Span {n : Nat} {a0 : List Span} {a1 : Int} {a2 : Int} {a3 : Int} {r : List Span} (h : slices_pdqsortCmpFunc_api_Span_sh n a0 a1 a2 a3 = some r) : Sound Try.prog 86 [.l (.r 0 2 0 a0.length), .l (.s (.int .i64 a1)), .l (.s (.int .i64 a2)), .l (.s (.int .i64 a3)), .l (.s (.func (.func 83) #[] #[]))] [⟨71, 2, false, some 0, lvs (encSpan a0)⟩] (.t []) [some ⟨71, 2, false, some 0, lvs (encSpan r)⟩] := by
 unfold slices_pdqsortCmpFunc_api_Span_sh at h
 refine Sound.of_aw (fn := Try.f86) (c := _) Try.func86 rfl (by simp [Try.f86]) fun cx hG hnb => ?_
 rw [show Try.f86.ntmps = 148 from rfl]
 have hn0 : cx.nb = 1 := hnb
 simp only [st0_mk, initTm, List.map_cons, List.map_nil]
 apply AW.step
 ·simp
  intros; rfl
 apply AW.step
 ·simp
  intros; rfl
 refine AW.block ?_
 replace h := bnE h; obtain ⟨y2, g2, h⟩ := h
 refine AW.iterP g2 (mk := fun gh ls _ => (⟨[(0, .l (.r 0 2 0 a0.length)), (1, .l (.s (.int .i64 a1))), (2, .l (.s (.int .i64 a2))), (3, .l (.s (.int .i64 a3))), (4, .l (.s (.func (.func 83) #[] #[]))), (10, .l (.s (.bool true))), (11, .l (.s (.bool true)))], [some ⟨71, 2, false, some 0, lvs (encSpan a0)⟩], 148, gh, ls⟩ : St)) (N := fun gh ls => (rP (cx := cx) (P := Try.prog) Try.f86 (fun q => .t []) (fun q => [some ⟨71, 2, false, some 0, lvs (encSpan q)⟩]))) ?_ noR ?_ ?_
 ·refine Weak.mixB 1 [some 0] hn0 (by decide) (by decide) ?_ ?_ ?_
  all_goals first | (simp [inv_cons, inv_nil, pickOb]; done) | rfl
 ·clear h; intro y1 y3 h
  refine AW.block ?_
  replace h := ltE h; obtain ⟨v4, e4, h⟩ := h
  apply AW.step
  ·simp [← e4]
   intros; rfl
  refine AW.seq ?_
  replace h := ltE h; obtain ⟨v5, e5, h⟩ := h
  apply AW.step
  ·simp [← e5]
   intros; rfl
  cases v5 with
  | true =>
   replace h := iteT rfl h
   refine AW.cond_true (by simp) ?_
   replace h := bnE h; obtain ⟨v6, e6, h⟩ := h
   replace h := chkE h; obtain ⟨e7, h⟩ := h
   apply AW.step
   ·simp
    intros
    refine xcall_obs [0] en_slices_insertionSortCmpFunc_api_Span (s_slices_insertionSortCmpFunc_api_Span e6) (by decide) (by simp [pickOb, inv_cons, inv_nil]) rfl rfl (by simp) ⟨.l (.own' (by simp [inv_cons, inv_nil]) (by simp)), .l (.s _), .l (.s _), .l (.s _), trivial⟩ ?_
    try simp
    intros; rfl
   obtain rfl := Option.some.inj h
   refine AW.ret ?_
   try simp only [sp_l, sp_r, Post.seq, Post.block, Nat.reduceEqDiff, reduceIte, Nat.zero_ne_one, Nat.one_ne_zero]
   refine rP_i ?_
   refine Left.of (av := _) (by simp [Try.f86, resV, resC, comp]; rfl) ?_
   exact LeftV.mix 1 [some 0] hn0 rfl (by decide) rfl (by simp [pickOb, inv_cons, inv_nil, lenB_e e7]) (by simp [inv_cons, inv_nil, lenB_e e7])
  | false =>
   replace h := iteF rfl h
   refine AW.cond_false (by simp) ?_
   cases h
 ·rintro e s hp
  obtain ⟨rfl, hl⟩ := hp
  refine ⟨_, Weak.refl _, ?_⟩
  obtain rfl := Option.some.inj h
  exact hl
theorem en_slices_pdqsortCmpFunc_api_Span : Enters Try.prog 86 := enters Try.func86 (by kernel_rfl) rfl
def slices_SortFunc_api_Span_sh (n : Nat) (a0 : List Span) : Option (List Span) :=
lt (lenI a0) fun v1 =>
lt (cvI .u64 v1) fun v2 =>
bn (bits_Len_sh n v2) fun v3 =>
bn (slices_pdqsortCmpFunc_api_Span_sh n a0 0 v1 v3) fun v4 =>
chk (lenB v4 a0) <|
some v4
set_option maxRecDepth 8000 in
set_option maxHeartbeats 8000000 in
theorem s_slices_SortFunc_api_Span {n : Nat} {a0 : List Span} {r : List Span} (h : slices_SortFunc_api_Span_sh n a0 = some r) : Sound Try.prog 82 [.l (.r 0 2 0 a0.length), .l (.s (.func (.func 83) #[] #[]))] [⟨71, 2, false, some 0, lvs (encSpan a0)⟩] (.t []) [some ⟨71, 2, false, some 0, lvs (encSpan r)⟩] := by
 unfold slices_SortFunc_api_Span_sh at h
 refine Sound.of_aw (fn := Try.f82) (c := _) Try.func82 rfl (by simp [Try.f82]) fun cx hG hnb => ?_
 rw [show Try.f82.ntmps = 14 from rfl]
 have hn0 : cx.nb = 1 := hnb
 simp only [st0_mk, initTm, List.map_cons, List.map_nil]
 replace h := ltE h; obtain ⟨v1, e1, h⟩ := h
 apply AW.step
 ·simp [lenI_cast e1]
  intros; rfl
 replace h := ltE h; obtain ⟨v2, e2, h⟩ := h
 replace h := bnE h; obtain ⟨v3, e3, h⟩ := h
 replace h := bnE h; obtain ⟨v4, e4, h⟩ := h
 replace h := chkE h; obtain ⟨e5, h⟩ := h
 apply AW.last
 ·simp [← e2]
  intros
  refine xcall_plain en_bits_Len (s_bits_Len e3) rfl ⟨.same rfl, trivial⟩ ?_
  try simp [← e2]
  intros
  refine xcall_obs [0] en_slices_pdqsortCmpFunc_api_Span (s_slices_pdqsortCmpFunc_api_Span e4) (by decide) (by simp [pickOb, inv_cons, inv_nil]) rfl rfl (by simp) ⟨.l (.own' (by simp [inv_cons, inv_nil]) (by simp)), .l (.s _), .l (.s _), .l (.s _), .l (.s _), trivial⟩ ?_
  try simp [← e2]
  intros; rfl
 obtain rfl := Option.some.inj h
 refine Left.of (av := _) (by simp [Try.f82, resV, resC, comp]; rfl) ?_
 exact LeftV.mix 1 [some 0] hn0 rfl (by decide) rfl (by simp [pickOb, inv_cons, inv_nil, lenB_e e5]) (by simp [inv_cons, inv_nil, lenB_e e5])
theorem en_slices_SortFunc_api_Span : Enters Try.prog 82 := enters Try.func82 (by kernel_rfl) rfl
def claims_pieces_sh (n : Nat) (a0 : List Claim) (a1 : List Claim) : Option (List Claim × List Claim) :=
some (a0, a1)
set_option maxRecDepth 8000 in
set_option maxHeartbeats 8000000 in
theorem s_claims_pieces {n : Nat} {a0 : List Claim} {a1 : List Claim} {r : List Claim × List Claim} (h : claims_pieces_sh n a0 a1 = some r) : Sound Try.prog 60 [.l (.d false 4 (encClaim a0)), .l (.d false 4 (encClaim a1))] [] (.l (.f 74 [0, 1])) [some ⟨24, 1, false, none, [.d false 4 (encClaim r.1)]⟩, some ⟨24, 1, false, none, [.d false 4 (encClaim r.2)]⟩] := by
 unfold claims_pieces_sh at h
 refine Sound.of_aw (fn := Try.f60) (c := _) Try.func60 rfl (by simp [Try.f60]) fun cx hG hnb => ?_
 rw [show Try.f60.ntmps = 6 from rfl]
 have hn0 : cx.nb = 0 := hnb
 simp only [st0_mk, initTm, List.map_cons, List.map_nil]
 apply AW.step
 ·simp
  intros; rfl
 apply AW.step
 ·simp
  intros; rfl
 obtain rfl := Option.some.inj h
 refine AW.ret ?_
 refine Left.of (av := _) (by simp [Try.f60, resV, resC, comp]; rfl) ?_
 exact LeftV.mix 0 [some 0, some 1] hn0 rfl (by decide) rfl (by simp [pickOb, inv_cons, inv_nil]) (by simp [inv_cons, inv_nil])
theorem en_claims_pieces : Enters Try.prog 60 := enters Try.func60 (by kernel_rfl) rfl
def claims_next_sh (n : Nat) (a0 : List Claim) (a1 : Int) : Option (Claim × List Claim) :=
bn (iter n (fun (y1 : List Claim) =>
bn (lt (lenI y1) fun v5 =>
lt (gtI v5 0) fun v6 =>
ite' v6 (bn (nth y1 0) fun v7 =>
lt (ltI v7.to a1) fun v8 =>
some (v8)) (some (false))) fun (y4 : Bool) =>
lt (y4) fun v9 =>
ite' v9 (bn (segl y1 1) fun v10 =>
some (.inl v10)) (some (.inr y1))) a0) fun (y2 : List Claim) =>
bn (bn (lt (lenI y2) fun v14 =>
lt (gtI v14 0) fun v15 =>
ite' v15 (bn (nth y2 0) fun v16 =>
lt (leI v16.frm a1) fun v17 =>
some (v17)) (some (false))) fun (y13 : Bool) =>
lt (y13) fun v18 =>
ite' v18 (bn (nth y2 0) fun v19 =>
some ((⟨a1, v19.to, v19.node, v19.epoch⟩ : Claim))) (lt (lenI y2) fun v20 =>
lt (gtI v20 0) fun v21 =>
ite' v21 (bn (nth y2 0) fun v22 =>
lt (subI .i64 v22.frm 1) fun v23 =>
some ((⟨a1, v23, 0, 0⟩ : Claim))) (some ((⟨a1, 16383, 0, 0⟩ : Claim))))) fun (y12 : Claim) =>
some (y12, y2)
set_option maxRecDepth 8000 in
set_option maxHeartbeats 8000000 in
theorem s_claims_next {n : Nat} {a0 : List Claim} {a1 : Int} {r : Claim × List Claim} (h : claims_next_sh n a0 a1 = some r) : Sound Try.prog 75 [.l (.d false 4 (encClaim a0)), .l (.s (.int .i64 a1))] [] (.t [(true, [.s (.int .i64 r.1.frm), .s (.int .i64 r.1.to), .s (.int .i64 r.1.node), .s (.int .i64 r.1.epoch)]), (false, [.d false 4 (encClaim r.2)])]) [] := by
 unfold claims_next_sh at h
 refine Sound.of_aw (fn := Try.f75) (c := _) Try.func75 rfl (by simp [Try.f75]) fun cx hG hnb => ?_
 rw [show Try.f75.ntmps = 51 from rfl]
 have hn0 : cx.nb = 0 := hnb
 simp only [st0_mk, initTm, List.map_cons, List.map_nil]
 apply AW.step
 ·simp
  intros; rfl
 refine AW.seq ?_
 refine AW.block ?_
 replace h := bnE h; obtain ⟨y2, g2, h⟩ := h
 refine AW.iterP g2 (mk := fun gh ls q => (⟨[(0, .l (.d false 4 (encClaim q))), (1, .l (.s (.int .i64 a1))), (4, .l (.p 0 0))], [some ⟨63, 4, false, none, [.s (.int .i64 0), .s (.int .i64 0), .s (.int .i64 0), .s (.int .i64 0)]⟩], 51, gh, ls⟩ : St)) (N := fun gh ls => (xP 0 (cx := cx) (fun q => (⟨[(0, .l (.d false 4 (encClaim q))), (1, .l (.s (.int .i64 a1))), (4, .l (.p 0 0))], [some ⟨63, 4, false, none, [.s (.int .i64 0), .s (.int .i64 0), .s (.int .i64 0), .s (.int .i64 0)]⟩], 51, gh, ls⟩ : St)))) ?_ noX ?_ ?_
 ·refine Weak.mixN [some 0] hn0 (by decide) ?_ ?_ rfl
  all_goals first | (simp [inv_cons, inv_nil, pickOb]; done) | rfl
 ·clear h; intro y1 y3 h
  refine AW.seq ?_
  replace h := bnE h; obtain ⟨y4, g4, h⟩ := h
  refine AW.flow (p := fun gh ls => (nP (cx := cx) (fun q => (⟨[(0, .l (.d false 4 (encClaim y1))), (1, .l (.s (.int .i64 a1))), (4, .l (.p 0 0)), (17, .l (.s (.bool q)))], [some ⟨63, 4, false, none, [.s (.int .i64 0), .s (.int .i64 0), .s (.int .i64 0), .s (.int .i64 0)]⟩], 51, gh, ls⟩ : St))) y4) ?_ ?_
  ·replace h := g4; clear g4
   replace h := ltE h; obtain ⟨v5, e5, h⟩ := h
   replace h := ltE h; obtain ⟨v6, e6, h⟩ := h
   cases v6 with
   | true =>
    replace h := iteT rfl h
    replace h := bnE h; obtain ⟨v7, e7, h⟩ := h
    replace h := ltE h; obtain ⟨v8, e8, h⟩ := h
    apply AW.last
    ·simp [lenI_cast e5, ← e6, (show y1[0]? = some v7 from (nth_d e7).2), ← e8]
     intros; rfl
    obtain rfl := Option.some.inj h
    refine nP_i ?_
    refine Weak.mixN [some 0] hn0 (by decide) ?_ ?_ rfl
    all_goals first | (simp [inv_cons, inv_nil, pickOb]; done) | rfl
   | false =>
    replace h := iteF rfl h
    apply AW.last
    ·simp [lenI_cast e5, ← e6]
     intros; rfl
    obtain rfl := Option.some.inj h
    refine nP_i ?_
    refine Weak.mixN [some 0] hn0 (by decide) ?_ ?_ rfl
    all_goals first | (simp [inv_cons, inv_nil, pickOb]; done) | rfl
  ·rintro e s hp
   obtain ⟨rfl, hw⟩ := hp
   refine ⟨_, hw, ?_⟩
   try simp only [sp_l, sp_r, Post.seq, Post.block, Nat.reduceEqDiff, reduceIte, Nat.zero_ne_one, Nat.one_ne_zero]
   replace h := ltE h; obtain ⟨v9, e9, h⟩ := h
   rw [← e9]
   cases v9 with
   | true =>
    replace h := iteT rfl h
    refine AW.cond_true (by simp) ?_
    refine AW.skip ?_
    try simp only [sp_l, sp_r, Post.seq, Post.block, Nat.reduceEqDiff, reduceIte, Nat.zero_ne_one, Nat.one_ne_zero]
    try simp only [sp_l, sp_r, Post.seq, Post.block, Nat.reduceEqDiff, reduceIte, Nat.zero_ne_one, Nat.one_ne_zero]
    refine AW.block ?_
    replace h := bnE h; obtain ⟨v10, e10, h⟩ := h
    have f11 := encClaim_segl e10
    try simp at f11
    apply AW.last
    ·simp [f11]
     intros; rfl
    obtain rfl := Option.some.inj h
    refine nP_i ?_
    refine Weak.mixN [some 0] hn0 (by decide) ?_ ?_ rfl
    all_goals first | (simp [inv_cons, inv_nil, pickOb]; done) | rfl
   | false =>
    replace h := iteF rfl h
    refine AW.cond_false (by simp) ?_
    refine AW.exit ?_
    try simp only [sp_l, sp_r, Post.seq, Post.block, Nat.reduceEqDiff, reduceIte, Nat.zero_ne_one, Nat.one_ne_zero]
    obtain rfl := Option.some.inj h
    refine xP_i ?_
    refine Weak.mixN [some 0] hn0 (by decide) ?_ ?_ rfl
    all_goals first | (simp [inv_cons, inv_nil, pickOb]; done) | rfl
 ·rintro e s hp
  obtain ⟨rfl, hw⟩ := hp
  refine ⟨_, hw, ?_⟩
  try simp only [sp_l, sp_r, Post.seq, Post.block, Nat.reduceEqDiff, reduceIte, Nat.zero_ne_one, Nat.one_ne_zero]
  apply AW.step
  ·simp
   intros; rfl
  replace h := bnE h; obtain ⟨y12, g12, h⟩ := h
  refine AW.flow (p := fun gh ls => (nP (cx := cx) (fun q => (⟨[(0, .l (.d false 4 (encClaim y2))), (4, .l (.p 0 0)), (6, .l (.p 1 0))], [some ⟨63, 4, false, none, [.s (.int .i64 0), .s (.int .i64 0), .s (.int .i64 0), .s (.int .i64 0)]⟩, some ⟨63, 4, false, none, [.s (.int .i64 q.frm), .s (.int .i64 q.to), .s (.int .i64 q.node), .s (.int .i64 q.epoch)]⟩], 51, gh, ls⟩ : St))) y12) ?_ ?_
  ·replace h := g12; clear g12
   refine AW.block ?_
   replace h := bnE h; obtain ⟨y13, g13, h⟩ := h
   refine AW.flow (p := fun gh ls => (nP (cx := cx) (fun q => (⟨[(0, .l (.d false 4 (encClaim y2))), (1, .l (.s (.int .i64 a1))), (4, .l (.p 0 0)), (6, .l (.p 1 0)), (22, .l (.s (.bool q)))], [some ⟨63, 4, false, none, [.s (.int .i64 0), .s (.int .i64 0), .s (.int .i64 0), .s (.int .i64 0)]⟩, some ⟨63, 4, false, none, [.s (.int .i64 a1), .s (.int .i64 16383), .s (.int .i64 0), .s (.int .i64 0)]⟩], 51, gh, ls⟩ : St))) y13) ?_ ?_
   ·replace h := g13; clear g13
    replace h := ltE h; obtain ⟨v14, e14, h⟩ := h
    replace h := ltE h; obtain ⟨v15, e15, h⟩ := h
    cases v15 with
    | true =>
     replace h := iteT rfl h
     replace h := bnE h; obtain ⟨v16, e16, h⟩ := h
     replace h := ltE h; obtain ⟨v17, e17, h⟩ := h
     apply AW.last
     ·simp [lenI_cast e14, ← e15, (show y2[0]? = some v16 from (nth_d e16).2), ← e17]
      intros; rfl
     obtain rfl := Option.some.inj h
     refine nP_i ?_
     refine Weak.mixN [some 0, some 1] hn0 (by decide) ?_ ?_ rfl
     all_goals first | (simp [inv_cons, inv_nil, pickOb]; done) | rfl
    | false =>
     replace h := iteF rfl h
     apply AW.last
     ·simp [lenI_cast e14, ← e15]
      intros; rfl
     obtain rfl := Option.some.inj h
     refine nP_i ?_
     refine Weak.mixN [some 0, some 1] hn0 (by decide) ?_ ?_ rfl
     all_goals first | (simp [inv_cons, inv_nil, pickOb]; done) | rfl
   ·rintro e s hp
    obtain ⟨rfl, hw⟩ := hp
    refine ⟨_, hw, ?_⟩
    try simp only [sp_l, sp_r, Post.seq, Post.block, Nat.reduceEqDiff, reduceIte, Nat.zero_ne_one, Nat.one_ne_zero]
    replace h := ltE h; obtain ⟨v18, e18, h⟩ := h
    rw [← e18]
    cases v18 with
    | true =>
     replace h := iteT rfl h
     refine AW.cond_true (by simp) ?_
     replace h := bnE h; obtain ⟨v19, e19, h⟩ := h
     apply AW.step
     ·simp [(show y2[0]? = some v19 from (nth_d e19).2)]
      intros; rfl
     apply AW.last
     ·simp
      intros; rfl
     obtain rfl := Option.some.inj h
     refine nP_i ?_
     refine Weak.mixN [some 0, some 1] hn0 (by decide) ?_ ?_ rfl
     all_goals first | (simp [inv_cons, inv_nil, pickOb]; done) | rfl
    | false =>
     replace h := iteF rfl h
     refine AW.cond_false (by simp) ?_
     replace h := ltE h; obtain ⟨v20, e20, h⟩ := h
     replace h := ltE h; obtain ⟨v21, e21, h⟩ := h
     apply AW.step
     ·simp [lenI_cast e20, ← e21]
      intros; rfl
     cases v21 with
     | true =>
      replace h := iteT rfl h
      refine AW.cond_true (by simp) ?_
      replace h := bnE h; obtain ⟨v22, e22, h⟩ := h
      replace h := ltE h; obtain ⟨v23, e23, h⟩ := h
      apply AW.last
      ·simp [(show y2[0]? = some v22 from (nth_d e22).2), ← e23]
       intros; rfl
      obtain rfl := Option.some.inj h
      refine nP_i ?_
      refine Weak.mixN [some 0, some 1] hn0 (by decide) ?_ ?_ rfl
      all_goals first | (simp [inv_cons, inv_nil, pickOb]; done) | rfl
     | false =>
      replace h := iteF rfl h
      refine AW.cond_false (by simp) ?_
      refine AW.skip ?_
      try simp only [sp_l, sp_r, Post.seq, Post.block, Nat.reduceEqDiff, reduceIte, Nat.zero_ne_one, Nat.one_ne_zero]
      obtain rfl := Option.some.inj h
      refine nP_i ?_
      refine Weak.mixN [some 0, some 1] hn0 (by decide) ?_ ?_ rfl
      all_goals first | (simp [inv_cons, inv_nil, pickOb]; done) | rfl
  ·rintro e s hp
   obtain ⟨rfl, hw⟩ := hp
   refine ⟨_, hw, ?_⟩
   try simp only [sp_l, sp_r, Post.seq, Post.block, Nat.reduceEqDiff, reduceIte, Nat.zero_ne_one, Nat.one_ne_zero]
   apply AW.step
   ·simp
    intros; rfl
   obtain rfl := Option.some.inj h
   refine AW.ret ?_
   refine Left.plain hnb (by simp [Try.f75, resV, resC, comp]; rfl) rfl rfl ?_
   simp
theorem en_claims_next : Enters Try.prog 75 := enters Try.func75 (by kernel_rfl) rfl
def claims_touch_sh (n : Nat) (a0 : Claim) (a1 : Claim) : Option Bool :=
bn (lt (addI .i64 a0.to 1) fun v2 =>
lt (eqI v2 a1.frm) fun v3 =>
ite' v3 (lt (eqI a0.node a1.node) fun v4 =>
ite' v4 (lt (eqI a0.epoch a1.epoch) fun v5 =>
some (v5)) (some (false))) (some (false))) fun (y1 : Bool) =>
some y1
set_option maxRecDepth 8000 in
set_option maxHeartbeats 8000000 in
theorem s_claims_touch {n : Nat} {a0 : Claim} {a1 : Claim} {r : Bool} (h : claims_touch_sh n a0 a1 = some r) : Sound Try.prog 76 [.g [.s (.int .i64 a0.frm), .s (.int .i64 a0.to), .s (.int .i64 a0.node), .s (.int .i64 a0.epoch)], .g [.s (.int .i64 a1.frm), .s (.int .i64 a1.to), .s (.int .i64 a1.node), .s (.int .i64 a1.epoch)]] [] (.l (.s (.bool r))) [] := by
 unfold claims_touch_sh at h
 refine Sound.of_aw (fn := Try.f76) (c := _) Try.func76 rfl (by simp [Try.f76]) fun cx hG hnb => ?_
 rw [show Try.f76.ntmps = 25 from rfl]
 have hn0 : cx.nb = 0 := hnb
 simp only [st0_mk, initTm, List.map_cons, List.map_nil]
 apply AW.step
 ·simp
  intros; rfl
 replace h := bnE h; obtain ⟨y1, g1, h⟩ := h
 refine AW.flow (p := fun gh ls => (nP (cx := cx) (fun q => (⟨[(4, .l (.s (.bool q)))], [], 25, gh, ls⟩ : St))) y1) ?_ ?_
 ·replace h := g1; clear g1
  replace h := ltE h; obtain ⟨v2, e2, h⟩ := h
  replace h := ltE h; obtain ⟨v3, e3, h⟩ := h
  cases v3 with
  | true =>
   replace h := iteT rfl h
   replace h := ltE h; obtain ⟨v4, e4, h⟩ := h
   cases v4 with
   | true =>
    replace h := iteT rfl h
    replace h := ltE h; obtain ⟨v5, e5, h⟩ := h
    apply AW.last
    ·simp [← e2, ← e3, ← e4, ← e5]
     intros; rfl
    obtain rfl := Option.some.inj h
    refine nP_i ?_
    refine Weak.mixN [] hn0 (by decide) ?_ ?_ rfl
    all_goals first | (simp [inv_cons, inv_nil, pickOb]; done) | rfl
   | false =>
    replace h := iteF rfl h
    apply AW.last
    ·simp [← e2, ← e3, ← e4]
     intros; rfl
    obtain rfl := Option.some.inj h
    refine nP_i ?_
    refine Weak.mixN [] hn0 (by decide) ?_ ?_ rfl
    all_goals first | (simp [inv_cons, inv_nil, pickOb]; done) | rfl
  | false =>
   replace h := iteF rfl h
   apply AW.last
   ·simp [← e2, ← e3]
    intros; rfl
   obtain rfl := Option.some.inj h
   refine nP_i ?_
   refine Weak.mixN [] hn0 (by decide) ?_ ?_ rfl
   all_goals first | (simp [inv_cons, inv_nil, pickOb]; done) | rfl
 ·rintro e s hp
  obtain ⟨rfl, hw⟩ := hp
  refine ⟨_, hw, ?_⟩
  try simp only [sp_l, sp_r, Post.seq, Post.block, Nat.reduceEqDiff, reduceIte, Nat.zero_ne_one, Nat.one_ne_zero]
  obtain rfl := Option.some.inj h
  refine AW.ret ?_
  refine Left.plain hnb (by simp [Try.f76, resV, resC, comp]; rfl) rfl rfl ?_
  simp
theorem en_claims_touch : Enters Try.prog 76 := enters Try.func76 (by kernel_rfl) rfl
def claims_put_xf_sh (n : Nat) (a0 : List Claim) (a1 : Claim) : Option (List Claim) :=
bn (lt (lenI a0) fun v2 =>
lt (eqI a1.epoch 0) fun v3 =>
ite' v3 (some (a0)) (bn (lt (gtI v2 0) fun v5 =>
ite' v5 (lt (subI .i64 v2 1) fun v6 =>
bn (nth a0 v6) fun v7 =>
bn (claims_touch_sh n v7 a1) fun v9 =>
some (v9)) (some (false))) fun (y4 : Bool) =>
lt (y4) fun v10 =>
ite' v10 (lt (subI .i64 v2 1) fun v11 =>
bn (nth a0 v11) fun v12 =>
lt (a0.set v11.toNat (⟨v12.frm, a1.to, v12.node, v12.epoch⟩ : Claim)) fun v14 =>
some (v14)) (chk (room (a0.length + 1) 32) <|
lt (a0 ++ [a1]) fun v18 =>
some (v18)))) fun (y1 : List Claim) =>
some y1
set_option maxRecDepth 8000 in
set_option maxHeartbeats 8000000 in
theorem s_claims_put_xf {n : Nat} {a0 : List Claim} {a1 : Claim} {r : List Claim} (h : claims_put_xf_sh n a0 a1 = some r) : Sound Try.prog 61 [.l (.r 0 4 0 a0.length), .g [.s (.int .i64 a1.frm), .s (.int .i64 a1.to), .s (.int .i64 a1.node), .s (.int .i64 a1.epoch)]] [⟨63, 4, true, none, lvs (encClaim a0)⟩] (.l (.r 0 4 0 r.length)) [some ⟨63, 4, true, none, lvs (encClaim r)⟩] := by
 unfold claims_put_xf_sh at h
 refine Sound.of_aw (fn := Try.f61) (c := _) Try.func61 rfl (by simp [Try.f61]) fun cx hG hnb => ?_
 rw [show Try.f61.ntmps = 36 from rfl]
 have hn0 : cx.nb = 1 := hnb
 simp only [st0_mk, initTm, List.map_cons, List.map_nil]
 apply AW.step
 ·simp
  intros; rfl
 replace h := bnE h; obtain ⟨y1, g1, h⟩ := h
 refine AW.flow (p := fun gh ls => (nP (cx := cx) (fun q => (⟨[(0, .l (.r 0 4 0 q.length))], [some ⟨63, 4, true, none, lvs (encClaim q)⟩], 36, gh, ls⟩ : St))) y1) ?_ ?_
 ·replace h := g1; clear g1
  replace h := ltE h; obtain ⟨v2, e2, h⟩ := h
  apply AW.step
  ·simp [lenI_cast e2]
   intros; rfl
  refine AW.block ?_
  replace h := ltE h; obtain ⟨v3, e3, h⟩ := h
  apply AW.step
  ·simp [← e3]
   intros; rfl
  cases v3 with
  | true =>
   replace h := iteT rfl h
   refine AW.cond_true (by simp) ?_
   refine AW.skip ?_
   try simp only [sp_l, sp_r, Post.seq, Post.block, Nat.reduceEqDiff, reduceIte, Nat.zero_ne_one, Nat.one_ne_zero]
   obtain rfl := Option.some.inj h
   refine nP_i ?_
   refine Weak.mixB 1 [some 0] hn0 (by decide) (by decide) ?_ ?_ ?_
   all_goals first | (simp [inv_cons, inv_nil, pickOb]; done) | rfl
  | false =>
   replace h := iteF rfl h
   refine AW.cond_false (by simp) ?_
   replace h := bnE h; obtain ⟨y4, g4, h⟩ := h
   refine AW.flow (p := fun gh ls => (nP (cx := cx) (fun q => (⟨[(0, .l (.r 0 4 0 a0.length)), (3, .l (.p 1 0)), (5, .l (.s (.int .i64 v2))), (16, .l (.s (.bool q)))], [some ⟨63, 4, true, none, lvs (encClaim a0)⟩, some ⟨63, 4, false, none, [.s (.int .i64 a1.frm), .s (.int .i64 a1.to), .s (.int .i64 a1.node), .s (.int .i64 a1.epoch)]⟩], 36, gh, ls⟩ : St))) y4) ?_ ?_
   ·replace h := g4; clear g4
    replace h := ltE h; obtain ⟨v5, e5, h⟩ := h
    cases v5 with
    | true =>
     replace h := iteT rfl h
     replace h := ltE h; obtain ⟨v6, e6, h⟩ := h
     replace h := bnE h; obtain ⟨v7, e7, h⟩ := h
     have f8 := nth_lt e7
     try simp [← e5, ← e6, nth_d e7] at f8
     replace h := bnE h; obtain ⟨v9, e9, h⟩ := h
     apply AW.drawnR (V := [_, _, _, _, _, _, _, _, _]) mixed [⟨[0], [], [(5, none)], false⟩, ⟨[0], [0], [(17, some 0)], false⟩, ⟨[0], [0, 1], [(18, some 1)], false⟩, ⟨[0], [0, 1, 2], [(0, none), (19, some 2)], false⟩, ⟨[0], [0, 1, 2], [(5, none), (19, some 2)], false⟩, ⟨[0], [0, 1, 2, 4], [(19, some 2), (21, some 4)], false⟩, ⟨[0], [0, 1, 2, 3, 4, 5], [(19, some 2), (20, some 3), (22, some 5)], false⟩, ⟨[0], [0, 1, 2, 3, 4, 5, 6], [(19, some 2), (23, some 6)], false⟩, ⟨[0], [0, 1, 2], [(3, none), (19, some 2)], false⟩, ⟨[], [0, 1, 2, 3, 4, 5, 6, 7, 8], [], false⟩, ⟨[], [0, 1, 2, 3, 4, 5, 6, 7, 8, 9], [], false⟩, ⟨[], [0, 1, 2, 3, 4, 5, 6, 7, 8, 9, 10], [], false⟩] 9 (by kernel_rfl) (by kernel_rfl)
     ·refine ⟨?_, ?_, ?_, ?_, ?_, ?_, ?_, ?_, ?_, trivial⟩
      ·intro tm hr
       simp [AllL, rdV] at hr
       simp [hr, ← e5, ← e6, nth_d e7, f8, encClaim_seg0 (nth_d e7).2 (k := 4) (by decide), encClaim_fit (nth_d e7).2 (show 4 ≤ 4 by decide), lvs1]
       intros; first | exact KD.mk | exact KD.mkN
      ·intro tm hr
       simp [AllL, rdV] at hr
       simp [hr, ← e5, ← e6, nth_d e7, f8, encClaim_seg0 (nth_d e7).2 (k := 4) (by decide), encClaim_fit (nth_d e7).2 (show 4 ≤ 4 by decide), lvs1]
       intros; first | exact KD.mk | exact KD.mkN
      ·intro tm hr
       simp [AllL, rdV] at hr
       simp [hr, ← e5, ← e6, nth_d e7, f8, encClaim_seg0 (nth_d e7).2 (k := 4) (by decide), encClaim_fit (nth_d e7).2 (show 4 ≤ 4 by decide), lvs1]
       intros; first | exact KD.mk | exact KD.mkN
      ·intro tm hr
       simp [AllL, rdV] at hr
       simp [hr, ← e5, ← e6, nth_d e7, f8, encClaim_seg0 (nth_d e7).2 (k := 4) (by decide), encClaim_fit (nth_d e7).2 (show 4 ≤ 4 by decide), lvs1]
       intros; first | exact KD.mk | exact KD.mkN
      ·intro tm hr
       simp [AllL, rdV] at hr
       simp [hr, ← e5, ← e6, nth_d e7, f8, encClaim_seg0 (nth_d e7).2 (k := 4) (by decide), encClaim_fit (nth_d e7).2 (show 4 ≤ 4 by decide), lvs1]
       intros; first | exact KD.mk | exact KD.mkN
      ·intro tm hr
       simp [AllL, rdV] at hr
       simp [hr, ← e5, ← e6, nth_d e7, f8, encClaim_seg0 (nth_d e7).2 (k := 4) (by decide), encClaim_fit (nth_d e7).2 (show 4 ≤ 4 by decide), lvs1]
       intros; first | exact KD.mk | exact KD.mkN
      ·intro tm hr
       simp [AllL, rdV] at hr
       simp [hr, ← e5, ← e6, nth_d e7, f8, encClaim_seg0 (nth_d e7).2 (k := 4) (by decide), encClaim_fit (nth_d e7).2 (show 4 ≤ 4 by decide), lvs1]
       intros; first | exact KD.mk | exact KD.mkN
      ·intro tm hr
       simp [AllL, rdV] at hr
       simp [hr, ← e5, ← e6, nth_d e7, f8, encClaim_seg0 (nth_d e7).2 (k := 4) (by decide), encClaim_fit (nth_d e7).2 (show 4 ≤ 4 by decide), lvs1]
       intros; first | exact KD.mk | exact KD.mkN
      ·intro tm hr
       simp [AllL, rdV] at hr
       simp [hr, ← e5, ← e6, nth_d e7, f8, encClaim_seg0 (nth_d e7).2 (k := 4) (by decide), encClaim_fit (nth_d e7).2 (show 4 ≤ 4 by decide), lvs1]
       intros; first | exact KD.mk | exact KD.mkN
     ·rfl
     ·simp [tmD, putD, ← e5, ← e6, nth_d e7, f8, encClaim_seg0 (nth_d e7).2 (k := 4) (by decide), encClaim_fit (nth_d e7).2 (show 4 ≤ 4 by decide), lvs1]; rfl
     ·simp [← e5, ← e6, nth_d e7, f8, encClaim_seg0 (nth_d e7).2 (k := 4) (by decide), encClaim_fit (nth_d e7).2 (show 4 ≤ 4 by decide), lvs1]
      intros
      refine xcall_plain en_claims_touch (s_claims_touch e9) rfl ⟨.same rfl, .same rfl, trivial⟩ ?_
      try simp [← e5, ← e6, nth_d e7, f8, encClaim_seg0 (nth_d e7).2 (k := 4) (by decide), encClaim_fit (nth_d e7).2 (show 4 ≤ 4 by decide), lvs1]
      intros; rfl
     obtain rfl := Option.some.inj h
     refine nP_i ?_
     refine Weak.mixB 1 [some 0, some 1] hn0 (by decide) (by decide) ?_ ?_ ?_
     all_goals first | (simp [inv_cons, inv_nil, pickOb]; done) | rfl
    | false =>
     replace h := iteF rfl h
     apply AW.drawnR (V := [_, _, _, _, _, _, _, _, _]) mixed [⟨[0], [], [(5, none)], false⟩, ⟨[0], [0], [(17, some 0)], false⟩, ⟨[0], [0, 1], [(18, some 1)], false⟩, ⟨[0], [0, 1, 2], [(0, none), (19, some 2)], false⟩, ⟨[0], [0, 1, 2], [(5, none), (19, some 2)], false⟩, ⟨[0], [0, 1, 2, 4], [(19, some 2), (21, some 4)], false⟩, ⟨[0], [0, 1, 2, 3, 4, 5], [(19, some 2), (20, some 3), (22, some 5)], false⟩, ⟨[0], [0, 1, 2, 3, 4, 5, 6], [(19, some 2), (23, some 6)], false⟩, ⟨[0], [0, 1, 2], [(3, none), (19, some 2)], false⟩, ⟨[], [0, 1, 2, 3, 4, 5, 6, 7, 8], [], false⟩, ⟨[], [0, 1, 2, 3, 4, 5, 6, 7, 8, 9], [], false⟩, ⟨[], [0, 1, 2, 3, 4, 5, 6, 7, 8, 9, 10], [], false⟩] 9 (by kernel_rfl) (by kernel_rfl)
     ·refine ⟨?_, ?_, ?_, ?_, ?_, ?_, ?_, ?_, ?_, trivial⟩
      ·intro tm hr
       simp [AllL, rdV] at hr
       simp [hr, ← e5]
       intros; first | exact KD.mk | exact KD.mkN
      ·intro tm hr
       simp [AllL, rdV] at hr
       simp [hr, ← e5]
       intros; first | exact KD.mk | exact KD.mkN
      ·intro tm hr
       simp [AllL, rdV] at hr
       simp [hr, ← e5]
       intros; first | exact KD.mk | exact KD.mkN
      ·intro tm hr
       simp [AllL, rdV] at hr
       simp [hr, ← e5]
       intros; first | exact KD.mk | exact KD.mkN
      ·intro tm hr
       simp [AllL, rdV] at hr
       simp [hr, ← e5]
       intros; first | exact KD.mk | exact KD.mkN
      ·intro tm hr
       simp [AllL, rdV] at hr
       simp [hr, ← e5]
       intros; first | exact KD.mk | exact KD.mkN
      ·intro tm hr
       simp [AllL, rdV] at hr
       simp [hr, ← e5]
       intros; first | exact KD.mk | exact KD.mkN
      ·intro tm hr
       simp [AllL, rdV] at hr
       simp [hr, ← e5]
       intros; first | exact KD.mk | exact KD.mkN
      ·intro tm hr
       simp [AllL, rdV] at hr
       simp [hr, ← e5]
       intros; first | exact KD.mk | exact KD.mkN
     ·rfl
     ·simp [tmD, putD, ← e5]; rfl
     ·simp [← e5]
      intros; rfl
     obtain rfl := Option.some.inj h
     refine nP_i ?_
     refine Weak.mixB 1 [some 0, some 1] hn0 (by decide) (by decide) ?_ ?_ ?_
     all_goals first | (simp [inv_cons, inv_nil, pickOb]; done) | rfl
   ·rintro e s hp
    obtain ⟨rfl, hw⟩ := hp
    refine ⟨_, hw, ?_⟩
    try simp only [sp_l, sp_r, Post.seq, Post.block, Nat.reduceEqDiff, reduceIte, Nat.zero_ne_one, Nat.one_ne_zero]
    replace h := ltE h; obtain ⟨v10, e10, h⟩ := h
    rw [← e10]
    cases v10 with
    | true =>
     replace h := iteT rfl h
     refine AW.cond_true (by simp) ?_
     replace h := ltE h; obtain ⟨v11, e11, h⟩ := h
     replace h := bnE h; obtain ⟨v12, e12, h⟩ := h
     have f13 := nth_lt e12
     try simp [← e11, nth_d e12] at f13
     replace h := ltE h; obtain ⟨v14, e14, h⟩ := h
     have f15 := encClaim_put (nth_d e12).2 e14 (j := 1) (cs := [.s (.int .i64 a1.to)]) (by simp) rfl
     try simp at f15
     have f16 := f13
     try simp only [set_len e14] at f16
     apply AW.last
     ·simp [← e11, nth_d e12, f13, encClaim_fitj (nth_d e12).2 (j := 1) (m := 1) (by decide), f15, f16]
      intros; rfl
     obtain rfl := Option.some.inj h
     refine nP_i ?_
     refine Weak.mixB 1 [some 0] hn0 (by decide) (by decide) ?_ ?_ ?_
     all_goals first | (simp [inv_cons, inv_nil, pickOb, set_len e14]; done) | rfl
    | false =>
     replace h := iteF rfl h
     refine AW.cond_false (by simp) ?_
     replace h := chkE h; obtain ⟨e17, h⟩ := h
     replace h := ltE h; obtain ⟨v18, e18, h⟩ := h
     apply AW.last
     ·simp [St.grow, obsBut, ← encClaim_append, ← e18, app_len1 e18]
      intros
      refine xrow_own ?_
      try simp [St.grow, obsBut, ← encClaim_append, ← e18, app_len1 e18]
      intros
      refine xapp_push (acc := encClaim a0) (ys := encClaim [a1]) (cap := none) (k := 1) tb_el24 tb_ti63 (by simp) (by simp [encClaim, lvs]) (encClaim_sz _) (by simp) (by simp) (by first | (simp; done) | simpa using (room_d e17).1) ?_
      try simp [St.grow, obsBut, ← encClaim_append, ← e18, app_len1 e18]
      intros; rfl
     obtain rfl := Option.some.inj h
     refine nP_i ?_
     refine Weak.mixB 1 [some 0] hn0 (by decide) (by decide) ?_ ?_ ?_
     all_goals first | (simp [inv_cons, inv_nil, pickOb, lvs_encClaim1]; done) | rfl
 ·rintro e s hp
  obtain ⟨rfl, hw⟩ := hp
  refine ⟨_, hw, ?_⟩
  try simp only [sp_l, sp_r, Post.seq, Post.block, Nat.reduceEqDiff, reduceIte, Nat.zero_ne_one, Nat.one_ne_zero]
  apply AW.step
  ·simp
   intros; rfl
  obtain rfl := Option.some.inj h
  refine AW.ret ?_
  refine Left.of (av := _) (by simp [Try.f61, resV, resC, comp]; rfl) ?_
  exact LeftV.mix 1 [some 0] hn0 rfl (by decide) rfl (by simp [pickOb, inv_cons, inv_nil]) (by simp [inv_cons, inv_nil])
theorem en_claims_put_xf : Enters Try.prog 61 := enters Try.func61 (by kernel_rfl) rfl
end Go.Proofs.Ytaibolmbafacpaa

/- Walks, printed: claims_Own_own, slices_isNaN_int, slices_BinarySearch_int, spans_said_t, spans_Norm_t, claims_pieces_tf, claims_Give_ftff, vote_won, vote_Count -/
namespace Go.Proofs.Ytaibolmbafacpaa
open Go Go.RowKit
set_option linter.unusedVariables false
set_option linter.unusedSimpArgs false
def claims_Own_own_sh (n : Nat) (a0 : Node) : Option Node :=
chk (small 32 a0.claims) <|
chk (small 40 a0.moves) <|
chk (small 24 a0.seen) <|
chk (small 8 a0.votes) <|
chk (small 96 a0.db) <|
chk (small 104 a0.feed.back) <|
lt (lenI a0.db) fun v7 =>
bn (iter n (fun (y8 : Int × List Pair) =>
lt (ltI y8.1 v7) fun v11 =>
ite' v11 (bn (nth y8.2 y8.1) fun v12 =>
bn (claims_own_sh n v12.item) fun v14 =>
lt (y8.2.set y8.1.toNat (⟨v12.key, v14⟩ : Pair)) fun v16 =>
lt (addI .i64 y8.1 1) fun v20 =>
some (.inl (v20, v16))) (some (.inr y8.2))) (0, a0.db)) fun (y9 : List Pair) =>
lt (lenI a0.feed.back) fun v21 =>
bn (iter n (fun (y22 : Int × List Effect) =>
lt (ltI y22.1 v21) fun v25 =>
ite' v25 (bn (nth y22.2 y22.1) fun v26 =>
bn (claims_own_sh n v26.item) fun v28 =>
lt (y22.2.set y22.1.toNat (⟨v26.key, v26.gone, v28⟩ : Effect)) fun v30 =>
lt (addI .i64 y22.1 1) fun v34 =>
some (.inl (v34, v30))) (some (.inr y22.2))) (0, a0.feed.back)) fun (y23 : List Effect) =>
chk (small 8 a0.watch.heard) <|
chk (small 24 a0.watch.says) <|
lt (lenI a0.watch.says) fun v37 =>
bn (iter n (fun (y38 : Int × List (List Int)) =>
lt (ltI y38.1 v37) fun v41 =>
ite' v41 (bn (nth y38.2 y38.1) fun v42 =>
chk (small 8 v42) <|
lt (y38.2.set y38.1.toNat v42) fun v46 =>
lt (addI .i64 y38.1 1) fun v49 =>
some (.inl (v49, v46))) (some (.inr y38.2))) (0, a0.watch.says)) fun (y39 : List (List Int)) =>
chk (room a0.claims.length 1) <|
chk (room y9.length 1) <|
chk (room a0.moves.length 1) <|
chk (room a0.seen.length 1) <|
chk (room y23.length 1) <|
chk (room a0.watch.heard.length 1) <|
chk (room y39.length 1) <|
some (⟨a0.count, a0.id, a0.master, a0.epoch, a0.voted, a0.claims, y9, a0.moves, a0.last, a0.seen, (⟨a0.feed.rid, a0.feed.off, y23, a0.feed.prev, a0.feed.upto⟩ : Feed), (⟨a0.watch.heard, y39⟩ : Watch), a0.asked, a0.votes, a0.wait⟩ : Node)
set_option maxRecDepth 8000 in
set_option maxHeartbeats 8000000 in
theorem s_claims_Own_own {n : Nat} {a0 : Node} {r : Node} (h : claims_Own_own_sh n a0 = some r) : Sound Try.prog 19 [.g [.s (.int .i64 a0.count), .s (.int .i64 a0.id), .s (.int .i64 a0.master), .s (.int .i64 a0.epoch), .s (.int .i64 a0.voted), .d false 4 (encClaim a0.claims), .d false 6 (encPair a0.db), .d false 4 (encMove a0.moves), .s (.int .i64 a0.last), .d false 3 (encSeen a0.seen), .s (.int .i64 a0.feed.rid.node), .s (.int .i64 a0.feed.rid.epoch), .s (.int .i64 a0.feed.off), .d false 7 (encEffect a0.feed.back), .s (.int .i64 a0.feed.prev.node), .s (.int .i64 a0.feed.prev.epoch), .s (.int .i64 a0.feed.upto), .d false 1 (encI a0.watch.heard), .d false 1 (encLI a0.watch.says), .s (.int .i64 a0.asked), .d false 1 (encI a0.votes), .s (.int .i64 a0.wait)]] [] (.g [.s (.int .i64 r.count), .s (.int .i64 r.id), .s (.int .i64 r.master), .s (.int .i64 r.epoch), .s (.int .i64 r.voted), .d false 4 (encClaim r.claims), .d false 6 (encPair r.db), .d false 4 (encMove r.moves), .s (.int .i64 r.last), .d false 3 (encSeen r.seen), .s (.int .i64 r.feed.rid.node), .s (.int .i64 r.feed.rid.epoch), .s (.int .i64 r.feed.off), .d false 7 (encEffect r.feed.back), .s (.int .i64 r.feed.prev.node), .s (.int .i64 r.feed.prev.epoch), .s (.int .i64 r.feed.upto), .d false 1 (encI r.watch.heard), .d false 1 (encLI r.watch.says), .s (.int .i64 r.asked), .r 0 1 0 r.votes.length, .s (.int .i64 r.wait)]) [some ⟨3, 1, true, none, lvs (encI r.votes)⟩] := by
 unfold claims_Own_own_sh at h
 refine Sound.of_aw (fn := Try.f19) (c := _) Try.func19 rfl (by simp [Try.f19]) fun cx hG hnb => ?_
 rw [show Try.f19.ntmps = 104 from rfl]
 have hn0 : cx.nb = 0 := hnb
 simp only [st0_mk, initTm, List.map_cons, List.map_nil]
 apply AW.step
 ·simp
  intros; rfl
 replace h := chkE h; obtain ⟨e1, h⟩ := h
 replace h := chkE h; obtain ⟨e2, h⟩ := h
 replace h := chkE h; obtain ⟨e3, h⟩ := h
 replace h := chkE h; obtain ⟨e4, h⟩ := h
 apply AW.drawnE (V := [_, _, _, _, _, _, _, _, _, _, _, _, _]) (M := [[some ⟨38, 22, false, none, [.s (.int .i64 a0.count), .s (.int .i64 a0.id), .s (.int .i64 a0.master), .s (.int .i64 a0.epoch), .s (.int .i64 a0.voted), .d false 4 (encClaim a0.claims), .d false 6 (encPair a0.db), .d false 4 (encMove a0.moves), .s (.int .i64 a0.last), .d false 3 (encSeen a0.seen), .s (.int .i64 a0.feed.rid.node), .s (.int .i64 a0.feed.rid.epoch), .s (.int .i64 a0.feed.off), .d false 7 (encEffect a0.feed.back), .s (.int .i64 a0.feed.prev.node), .s (.int .i64 a0.feed.prev.epoch), .s (.int .i64 a0.feed.upto), .d false 1 (encI a0.watch.heard), .d false 1 (encLI a0.watch.says), .s (.int .i64 a0.asked), .d false 1 (encI a0.votes), .s (.int .i64 a0.wait)]⟩, some ⟨38, 22, false, none, [.s (.int .i64 0), .s (.int .i64 0), .s (.int .i64 0), .s (.int .i64 0), .s (.int .i64 0), .s (.slice none 0 0), .s (.slice none 0 0), .s (.slice none 0 0), .s (.int .i64 0), .s (.slice none 0 0), .s (.int .i64 0), .s (.int .i64 0), .s (.int .i64 0), .s (.slice none 0 0), .s (.int .i64 0), .s (.int .i64 0), .s (.int .i64 0), .s (.slice none 0 0), .s (.slice none 0 0), .s (.int .i64 0), .s (.slice none 0 0), .s (.int .i64 0)]⟩], [some ⟨38, 22, false, none, [.s (.int .i64 a0.count), .s (.int .i64 a0.id), .s (.int .i64 a0.master), .s (.int .i64 a0.epoch), .s (.int .i64 a0.voted), .d false 4 (encClaim a0.claims), .d false 6 (encPair a0.db), .d false 4 (encMove a0.moves), .s (.int .i64 a0.last), .d false 3 (encSeen a0.seen), .s (.int .i64 a0.feed.rid.node), .s (.int .i64 a0.feed.rid.epoch), .s (.int .i64 a0.feed.off), .d false 7 (encEffect a0.feed.back), .s (.int .i64 a0.feed.prev.node), .s (.int .i64 a0.feed.prev.epoch), .s (.int .i64 a0.feed.upto), .d false 1 (encI a0.watch.heard), .d false 1 (encLI a0.watch.says), .s (.int .i64 a0.asked), .d false 1 (encI a0.votes), .s (.int .i64 a0.wait)]⟩, some ⟨38, 22, false, none, [.s (.int .i64 0), .s (.int .i64 0), .s (.int .i64 0), .s (.int .i64 0), .s (.int .i64 0), .s (.slice none 0 0), .s (.slice none 0 0), .s (.slice none 0 0), .s (.int .i64 0), .s (.slice none 0 0), .s (.int .i64 0), .s (.int .i64 0), .s (.int .i64 0), .s (.slice none 0 0), .s (.int .i64 0), .s (.int .i64 0), .s (.int .i64 0), .s (.slice none 0 0), .s (.slice none 0 0), .s (.int .i64 0), .s (.slice none 0 0), .s (.int .i64 0)]⟩, some ⟨63, 4, true, none, lvs (encClaim a0.claims)⟩], [some ⟨38, 22, false, none, [.s (.int .i64 a0.count), .s (.int .i64 a0.id), .s (.int .i64 a0.master), .s (.int .i64 a0.epoch), .s (.int .i64 a0.voted), .d false 4 (encClaim a0.claims), .d false 6 (encPair a0.db), .d false 4 (encMove a0.moves), .s (.int .i64 a0.last), .d false 3 (encSeen a0.seen), .s (.int .i64 a0.feed.rid.node), .s (.int .i64 a0.feed.rid.epoch), .s (.int .i64 a0.feed.off), .d false 7 (encEffect a0.feed.back), .s (.int .i64 a0.feed.prev.node), .s (.int .i64 a0.feed.prev.epoch), .s (.int .i64 a0.feed.upto), .d false 1 (encI a0.watch.heard), .d false 1 (encLI a0.watch.says), .s (.int .i64 a0.asked), .d false 1 (encI a0.votes), .s (.int .i64 a0.wait)]⟩, some ⟨38, 22, false, none, [.s (.int .i64 0), .s (.int .i64 0), .s (.int .i64 0), .s (.int .i64 0), .s (.int .i64 0), .s (.slice none 0 0), .s (.slice none 0 0), .s (.slice none 0 0), .s (.int .i64 0), .s (.slice none 0 0), .s (.int .i64 0), .s (.int .i64 0), .s (.int .i64 0), .s (.slice none 0 0), .s (.int .i64 0), .s (.int .i64 0), .s (.int .i64 0), .s (.slice none 0 0), .s (.slice none 0 0), .s (.int .i64 0), .s (.slice none 0 0), .s (.int .i64 0)]⟩, some ⟨63, 4, true, none, lvs (encClaim a0.claims)⟩, some ⟨84, 4, true, none, lvs (encMove a0.moves)⟩], [some ⟨38, 22, false, none, [.s (.int .i64 a0.count), .s (.int .i64 a0.id), .s (.int .i64 a0.master), .s (.int .i64 a0.epoch), .s (.int .i64 a0.voted), .d false 4 (encClaim a0.claims), .d false 6 (encPair a0.db), .d false 4 (encMove a0.moves), .s (.int .i64 a0.last), .d false 3 (encSeen a0.seen), .s (.int .i64 a0.feed.rid.node), .s (.int .i64 a0.feed.rid.epoch), .s (.int .i64 a0.feed.off), .d false 7 (encEffect a0.feed.back), .s (.int .i64 a0.feed.prev.node), .s (.int .i64 a0.feed.prev.epoch), .s (.int .i64 a0.feed.upto), .d false 1 (encI a0.watch.heard), .d false 1 (encLI a0.watch.says), .s (.int .i64 a0.asked), .d false 1 (encI a0.votes), .s (.int .i64 a0.wait)]⟩, some ⟨38, 22, false, none, [.s (.int .i64 0), .s (.int .i64 0), .s (.int .i64 0), .s (.int .i64 0), .s (.int .i64 0), .s (.slice none 0 0), .s (.slice none 0 0), .s (.slice none 0 0), .s (.int .i64 0), .s (.slice none 0 0), .s (.int .i64 0), .s (.int .i64 0), .s (.int .i64 0), .s (.slice none 0 0), .s (.int .i64 0), .s (.int .i64 0), .s (.int .i64 0), .s (.slice none 0 0), .s (.slice none 0 0), .s (.int .i64 0), .s (.slice none 0 0), .s (.int .i64 0)]⟩, some ⟨63, 4, true, none, lvs (encClaim a0.claims)⟩, some ⟨84, 4, true, none, lvs (encMove a0.moves)⟩, some ⟨87, 3, true, none, lvs (encSeen a0.seen)⟩], [some ⟨38, 22, false, none, [.s (.int .i64 a0.count), .s (.int .i64 a0.id), .s (.int .i64 a0.master), .s (.int .i64 a0.epoch), .s (.int .i64 a0.voted), .d false 4 (encClaim a0.claims), .d false 6 (encPair a0.db), .d false 4 (encMove a0.moves), .s (.int .i64 a0.last), .d false 3 (encSeen a0.seen), .s (.int .i64 a0.feed.rid.node), .s (.int .i64 a0.feed.rid.epoch), .s (.int .i64 a0.feed.off), .d false 7 (encEffect a0.feed.back), .s (.int .i64 a0.feed.prev.node), .s (.int .i64 a0.feed.prev.epoch), .s (.int .i64 a0.feed.upto), .d false 1 (encI a0.watch.heard), .d false 1 (encLI a0.watch.says), .s (.int .i64 a0.asked), .d false 1 (encI a0.votes), .s (.int .i64 a0.wait)]⟩, some ⟨38, 22, false, none, [.s (.int .i64 0), .s (.int .i64 0), .s (.int .i64 0), .s (.int .i64 0), .s (.int .i64 0), .s (.slice none 0 0), .s (.slice none 0 0), .s (.slice none 0 0), .s (.int .i64 0), .s (.slice none 0 0), .s (.int .i64 0), .s (.int .i64 0), .s (.int .i64 0), .s (.slice none 0 0), .s (.int .i64 0), .s (.int .i64 0), .s (.int .i64 0), .s (.slice none 0 0), .s (.slice none 0 0), .s (.int .i64 0), .s (.slice none 0 0), .s (.int .i64 0)]⟩, some ⟨63, 4, true, none, lvs (encClaim a0.claims)⟩, some ⟨84, 4, true, none, lvs (encMove a0.moves)⟩, some ⟨87, 3, true, none, lvs (encSeen a0.seen)⟩, some ⟨3, 1, true, none, lvs (encI a0.votes)⟩]]) mixed [⟨[0], [], [(1, none)], false⟩, ⟨[0], [0], [(7, some 0)], false⟩, ⟨[0], [0, 1], [(8, some 1)], true⟩, ⟨[0, 1], [], [(1, none)], false⟩, ⟨[0, 1], [3], [(10, some 3)], false⟩, ⟨[1], [0, 1, 2, 3, 4], [(11, some 4)], true⟩, ⟨[0, 1, 2], [], [(1, none)], false⟩, ⟨[0, 1, 2], [6], [(13, some 6)], false⟩, ⟨[2], [0, 1, 2, 3, 4, 5, 6, 7], [(14, some 7)], true⟩, ⟨[0, 1, 2, 3], [], [(1, none)], false⟩, ⟨[0, 1, 2, 3], [9], [(16, some 9)], false⟩, ⟨[3], [0, 1, 2, 3, 4, 5, 6, 7, 8, 9, 10], [(17, some 10)], true⟩, ⟨[1, 2, 3, 4], [0, 1, 2, 3, 4, 6, 7, 9, 10], [(1, none)], false⟩, ⟨[], [0, 1, 2, 3, 4, 5, 6, 7, 8, 9, 10, 11, 12], [], false⟩, ⟨[], [0, 1, 2, 3, 4, 5, 6, 7, 8, 9, 10, 11, 12, 13], [], false⟩, ⟨[], [0, 1, 2, 3, 4, 5, 6, 7, 8, 9, 10, 11, 12, 13, 14], [], false⟩, ⟨[], [0, 1, 2, 3, 4, 5, 6, 7, 8, 9, 10, 11, 12, 13, 14, 15], [], false⟩, ⟨[], [0, 1, 2, 3, 4, 5, 6, 7, 8, 9, 10, 11, 12, 13, 14, 15, 16], [], false⟩, ⟨[], [0, 1, 2, 3, 4, 5, 6, 7, 8, 9, 10, 11, 12, 13, 14, 15, 16, 17], [], false⟩, ⟨[], [0, 1, 2, 3, 4, 5, 6, 7, 8, 9, 10, 11, 12, 13, 14, 15, 16, 17, 18], [], false⟩] 13 4 (by kernel_rfl) (by kernel_rfl)
 ·rfl
 ·refine ⟨?_, ?_, ?_, ⟨?_, ?_⟩, ⟨?_, ?_⟩, ?_, ⟨?_, ?_, ?_⟩, ⟨?_, ?_, ?_⟩, ?_, ⟨?_, ?_, ?_, ?_⟩, ⟨?_, ?_, ?_, ?_⟩, ?_, ⟨?_, ?_, ?_, ?_⟩, trivial⟩
  ·intro tm hr
   simp [AllL, rdV] at hr
   simp [hr, outR]
   intros; first | exact KD.mk | exact KD.mkN
  ·intro tm hr
   simp [AllL, rdV] at hr
   simp [hr, outR]
   intros; first | exact KD.mk | exact KD.mkN
  ·intro tm hr
   simp [AllL, rdV] at hr
   simp [hr, outR]
   intros
   refine xcall_new en_cl_Claim (s_cl_Claim a0.claims (small_d e1)) rfl (by simp) ⟨.d _ _ _, trivial⟩ ?_
   try simp [outR]
   intros; first | exact KD.mk | exact KD.mkN
  ·intro tm hr
   simp [AllL, rdV] at hr
   simp [hr, outR]
   intros; first | exact KD.mk | exact KD.mkN
  ·intro tm hr
   simp [AllL, rdV] at hr
   simp [hr, outR]
   intros; first | exact KD.mk | exact KD.mkN
  ·intro tm hr
   simp [AllL, rdV] at hr
   simp [hr, outR]
   intros; first | exact KD.mk | exact KD.mkN
  ·intro tm hr
   simp [AllL, rdV] at hr
   simp [hr, outR]
   intros; first | exact KD.mk | exact KD.mkN
  ·intro tm hr
   simp [AllL, rdV] at hr
   simp [hr, outR]
   intros
   refine xcall_new en_cl_Move (s_cl_Move a0.moves (small_d e2)) rfl (by simp) ⟨.d _ _ _, trivial⟩ ?_
   try simp [outR]
   intros; first | exact KD.mk | exact KD.mkN
  ·intro tm hr
   simp [AllL, rdV] at hr
   simp [hr, outR]
   intros; first | exact KD.mk | exact KD.mkN
  ·intro tm hr
   simp [AllL, rdV] at hr
   simp [hr, outR]
   intros; first | exact KD.mk | exact KD.mkN
  ·intro tm hr
   simp [AllL, rdV] at hr
   simp [hr, outR]
   intros; first | exact KD.mk | exact KD.mkN
  ·intro tm hr
   simp [AllL, rdV] at hr
   simp [hr, outR]
   intros; first | exact KD.mk | exact KD.mkN
  ·intro tm hr
   simp [AllL, rdV] at hr
   simp [hr, outR]
   intros; first | exact KD.mk | exact KD.mkN
  ·intro tm hr
   simp [AllL, rdV] at hr
   simp [hr, outR]
   intros; first | exact KD.mk | exact KD.mkN
  ·intro tm hr
   simp [AllL, rdV] at hr
   simp [hr, outR]
   intros
   refine xcall_new en_cl_Seen (s_cl_Seen a0.seen (small_d e3)) rfl (by simp) ⟨.d _ _ _, trivial⟩ ?_
   try simp [outR]
   intros; first | exact KD.mk | exact KD.mkN
  ·intro tm hr
   simp [AllL, rdV] at hr
   simp [hr, outR]
   intros; first | exact KD.mk | exact KD.mkN
  ·intro tm hr
   simp [AllL, rdV] at hr
   simp [hr, outR]
   intros; first | exact KD.mk | exact KD.mkN
  ·intro tm hr
   simp [AllL, rdV] at hr
   simp [hr, outR]
   intros; first | exact KD.mk | exact KD.mkN
  ·intro tm hr
   simp [AllL, rdV] at hr
   simp [hr, outR]
   intros; first | exact KD.mk | exact KD.mkN
  ·intro tm hr
   simp [AllL, rdV] at hr
   simp [hr, outR]
   intros; first | exact KD.mk | exact KD.mkN
  ·intro tm hr
   simp [AllL, rdV] at hr
   simp [hr, outR]
   intros; first | exact KD.mk | exact KD.mkN
  ·intro tm hr
   simp [AllL, rdV] at hr
   simp [hr, outR]
   intros; first | exact KD.mk | exact KD.mkN
  ·intro tm hr
   simp [AllL, rdV] at hr
   simp [hr, outR]
   intros; first | exact KD.mk | exact KD.mkN
  ·intro tm hr
   simp [AllL, rdV] at hr
   simp [hr, outR]
   intros
   refine xcall_new en_cl_I (s_cl_I a0.votes (small_d e4)) rfl (by simp) ⟨.d _ _ _, trivial⟩ ?_
   try simp [outR]
   intros; first | exact KD.mk | exact KD.mkN
  ·intro tm hr
   simp [AllL, rdV] at hr
   simp [hr, outR]
   intros; first | exact KD.mk | exact KD.mkN
  ·intro tm hr
   simp [AllL, rdV] at hr
   simp [hr, outR]
   intros; first | exact KD.mk | exact KD.mkN
  ·intro tm hr
   simp [AllL, rdV] at hr
   simp [hr, outR]
   intros; first | exact KD.mk | exact KD.mkN
  ·intro tm hr
   simp [AllL, rdV] at hr
   simp [hr, outR]
   intros; first | exact KD.mk | exact KD.mkN
 ·rfl
 ·simp [tmD, putD, outR]; rfl
 ·simp [outR]
  intros; rfl
 replace h := chkE h; obtain ⟨e5, h⟩ := h
 replace h := chkE h; obtain ⟨e6, h⟩ := h
 apply AW.drawnE (V := [_, _, _, _, _, _, _, _]) (M := [[some ⟨38, 22, false, none, [.s (.int .i64 a0.count), .s (.int .i64 a0.id), .s (.int .i64 a0.master), .s (.int .i64 a0.epoch), .s (.int .i64 a0.voted), .r 2 4 0 a0.claims.length, .d false 6 (encPair a0.db), .r 3 4 0 a0.moves.length, .s (.int .i64 a0.last), .r 4 3 0 a0.seen.length, .s (.int .i64 a0.feed.rid.node), .s (.int .i64 a0.feed.rid.epoch), .s (.int .i64 a0.feed.off), .d false 7 (encEffect a0.feed.back), .s (.int .i64 a0.feed.prev.node), .s (.int .i64 a0.feed.prev.epoch), .s (.int .i64 a0.feed.upto), .d false 1 (encI a0.watch.heard), .d false 1 (encLI a0.watch.says), .s (.int .i64 a0.asked), .r 5 1 0 a0.votes.length, .s (.int .i64 a0.wait)]⟩, some ⟨38, 22, false, none, [.s (.int .i64 0), .s (.int .i64 0), .s (.int .i64 0), .s (.int .i64 0), .s (.int .i64 0), .s (.slice none 0 0), .s (.slice none 0 0), .s (.slice none 0 0), .s (.int .i64 0), .s (.slice none 0 0), .s (.int .i64 0), .s (.int .i64 0), .s (.int .i64 0), .s (.slice none 0 0), .s (.int .i64 0), .s (.int .i64 0), .s (.int .i64 0), .s (.slice none 0 0), .s (.slice none 0 0), .s (.int .i64 0), .s (.slice none 0 0), .s (.int .i64 0)]⟩, some ⟨63, 4, true, none, lvs (encClaim a0.claims)⟩, some ⟨84, 4, true, none, lvs (encMove a0.moves)⟩, some ⟨87, 3, true, none, lvs (encSeen a0.seen)⟩, some ⟨3, 1, true, none, lvs (encI a0.votes)⟩], [some ⟨38, 22, false, none, [.s (.int .i64 a0.count), .s (.int .i64 a0.id), .s (.int .i64 a0.master), .s (.int .i64 a0.epoch), .s (.int .i64 a0.voted), .r 2 4 0 a0.claims.length, .d false 6 (encPair a0.db), .r 3 4 0 a0.moves.length, .s (.int .i64 a0.last), .r 4 3 0 a0.seen.length, .s (.int .i64 a0.feed.rid.node), .s (.int .i64 a0.feed.rid.epoch), .s (.int .i64 a0.feed.off), .d false 7 (encEffect a0.feed.back), .s (.int .i64 a0.feed.prev.node), .s (.int .i64 a0.feed.prev.epoch), .s (.int .i64 a0.feed.upto), .d false 1 (encI a0.watch.heard), .d false 1 (encLI a0.watch.says), .s (.int .i64 a0.asked), .r 5 1 0 a0.votes.length, .s (.int .i64 a0.wait)]⟩, some ⟨38, 22, false, none, [.s (.int .i64 0), .s (.int .i64 0), .s (.int .i64 0), .s (.int .i64 0), .s (.int .i64 0), .s (.slice none 0 0), .s (.slice none 0 0), .s (.slice none 0 0), .s (.int .i64 0), .s (.slice none 0 0), .s (.int .i64 0), .s (.int .i64 0), .s (.int .i64 0), .s (.slice none 0 0), .s (.int .i64 0), .s (.int .i64 0), .s (.int .i64 0), .s (.slice none 0 0), .s (.slice none 0 0), .s (.int .i64 0), .s (.slice none 0 0), .s (.int .i64 0)]⟩, some ⟨63, 4, true, none, lvs (encClaim a0.claims)⟩, some ⟨84, 4, true, none, lvs (encMove a0.moves)⟩, some ⟨87, 3, true, none, lvs (encSeen a0.seen)⟩, some ⟨3, 1, true, none, lvs (encI a0.votes)⟩, some ⟨95, 6, true, none, lvs (encPair a0.db)⟩], [some ⟨38, 22, false, none, [.s (.int .i64 a0.count), .s (.int .i64 a0.id), .s (.int .i64 a0.master), .s (.int .i64 a0.epoch), .s (.int .i64 a0.voted), .r 2 4 0 a0.claims.length, .d false 6 (encPair a0.db), .r 3 4 0 a0.moves.length, .s (.int .i64 a0.last), .r 4 3 0 a0.seen.length, .s (.int .i64 a0.feed.rid.node), .s (.int .i64 a0.feed.rid.epoch), .s (.int .i64 a0.feed.off), .d false 7 (encEffect a0.feed.back), .s (.int .i64 a0.feed.prev.node), .s (.int .i64 a0.feed.prev.epoch), .s (.int .i64 a0.feed.upto), .d false 1 (encI a0.watch.heard), .d false 1 (encLI a0.watch.says), .s (.int .i64 a0.asked), .r 5 1 0 a0.votes.length, .s (.int .i64 a0.wait)]⟩, some ⟨38, 22, false, none, [.s (.int .i64 0), .s (.int .i64 0), .s (.int .i64 0), .s (.int .i64 0), .s (.int .i64 0), .s (.slice none 0 0), .s (.slice none 0 0), .s (.slice none 0 0), .s (.int .i64 0), .s (.slice none 0 0), .s (.int .i64 0), .s (.int .i64 0), .s (.int .i64 0), .s (.slice none 0 0), .s (.int .i64 0), .s (.int .i64 0), .s (.int .i64 0), .s (.slice none 0 0), .s (.slice none 0 0), .s (.int .i64 0), .s (.slice none 0 0), .s (.int .i64 0)]⟩, some ⟨63, 4, true, none, lvs (encClaim a0.claims)⟩, some ⟨84, 4, true, none, lvs (encMove a0.moves)⟩, some ⟨87, 3, true, none, lvs (encSeen a0.seen)⟩, some ⟨3, 1, true, none, lvs (encI a0.votes)⟩, some ⟨95, 6, true, none, lvs (encPair a0.db)⟩, some ⟨98, 7, true, none, lvs (encEffect a0.feed.back)⟩]]) mixed [⟨[0], [], [(1, none)], false⟩, ⟨[0], [0], [(23, some 0)], false⟩, ⟨[0], [0, 1], [(24, some 1)], true⟩, ⟨[0, 1], [], [(1, none)], false⟩, ⟨[0, 1], [3], [(26, some 3)], false⟩, ⟨[0, 1], [3, 4], [(27, some 4)], false⟩, ⟨[1], [0, 1, 2, 3, 4, 5], [(28, some 5)], true⟩, ⟨[1, 2], [0, 1, 2, 3, 4, 5], [(1, none)], false⟩, ⟨[], [0, 1, 2, 3, 4, 5, 6, 7], [], false⟩, ⟨[], [0, 1, 2, 3, 4, 5, 6, 7, 8], [], false⟩, ⟨[], [0, 1, 2, 3, 4, 5, 6, 7, 8, 9], [], false⟩, ⟨[], [0, 1, 2, 3, 4, 5, 6, 7, 8, 9, 10], [], false⟩] 8 2 (by kernel_rfl) (by kernel_rfl)
 ·rfl
 ·refine ⟨?_, ?_, ?_, ⟨?_, ?_⟩, ⟨?_, ?_⟩, ⟨?_, ?_⟩, ?_, ⟨?_, ?_⟩, trivial⟩
  ·intro tm hr
   simp [AllL, rdV] at hr
   simp [hr, outR]
   intros; first | exact KD.mk | exact KD.mkN
  ·intro tm hr
   simp [AllL, rdV] at hr
   simp [hr, outR]
   intros; first | exact KD.mk | exact KD.mkN
  ·intro tm hr
   simp [AllL, rdV] at hr
   simp [hr, outR]
   intros
   refine xcall_new en_cl_Pair (s_cl_Pair a0.db (small_d e5)) rfl (by simp) ⟨.same rfl, trivial⟩ ?_
   try simp [outR]
   intros; first | exact KD.mk | exact KD.mkN
  ·intro tm hr
   simp [AllL, rdV] at hr
   simp [hr, outR]
   intros; first | exact KD.mk | exact KD.mkN
  ·intro tm hr
   simp [AllL, rdV] at hr
   simp [hr, outR]
   intros; first | exact KD.mk | exact KD.mkN
  ·intro tm hr
   simp [AllL, rdV] at hr
   simp [hr, outR]
   intros; first | exact KD.mk | exact KD.mkN
  ·intro tm hr
   simp [AllL, rdV] at hr
   simp [hr, outR]
   intros; first | exact KD.mk | exact KD.mkN
  ·intro tm hr
   simp [AllL, rdV] at hr
   simp [hr, outR]
   intros; first | exact KD.mk | exact KD.mkN
  ·intro tm hr
   simp [AllL, rdV] at hr
   simp [hr, outR]
   intros; first | exact KD.mk | exact KD.mkN
  ·intro tm hr
   simp [AllL, rdV] at hr
   simp [hr, outR]
   intros
   refine xcall_new en_cl_Effect (s_cl_Effect a0.feed.back (small_d e6)) rfl (by simp) ⟨.same rfl, trivial⟩ ?_
   try simp [outR]
   intros; first | exact KD.mk | exact KD.mkN
  ·intro tm hr
   simp [AllL, rdV] at hr
   simp [hr, outR]
   intros; first | exact KD.mk | exact KD.mkN
  ·intro tm hr
   simp [AllL, rdV] at hr
   simp [hr, outR]
   intros; first | exact KD.mk | exact KD.mkN
 ·rfl
 ·simp [tmD, putD, outR]; rfl
 ·simp [outR]
  intros; rfl
 refine AW.seq ?_
 replace h := ltE h; obtain ⟨v7, e7, h⟩ := h
 apply AW.step
 ·simp [lenI_cast e7]
  intros; rfl
 refine AW.block ?_
 replace h := bnE h; obtain ⟨y9, g9, h⟩ := h
 refine AW.iterP g9 (mk := fun gh ls q => (⟨[(1, .l (.p 0 0)), (2, .l (.p 1 0)), (35, .l (.s (.int .i64 v7))), (36, .l (.s (.int .i64 q.1)))], [some ⟨38, 22, false, none, [.s (.int .i64 a0.count), .s (.int .i64 a0.id), .s (.int .i64 a0.master), .s (.int .i64 a0.epoch), .s (.int .i64 a0.voted), .r 2 4 0 a0.claims.length, .r 3 6 0 q.2.length, .r 4 4 0 a0.moves.length, .s (.int .i64 a0.last), .r 5 3 0 a0.seen.length, .s (.int .i64 a0.feed.rid.node), .s (.int .i64 a0.feed.rid.epoch), .s (.int .i64 a0.feed.off), .r 6 7 0 a0.feed.back.length, .s (.int .i64 a0.feed.prev.node), .s (.int .i64 a0.feed.prev.epoch), .s (.int .i64 a0.feed.upto), .d false 1 (encI a0.watch.heard), .d false 1 (encLI a0.watch.says), .s (.int .i64 a0.asked), .r 7 1 0 a0.votes.length, .s (.int .i64 a0.wait)]⟩, some ⟨38, 22, false, none, [.s (.int .i64 0), .s (.int .i64 0), .s (.int .i64 0), .s (.int .i64 0), .s (.int .i64 0), .s (.slice none 0 0), .s (.slice none 0 0), .s (.slice none 0 0), .s (.int .i64 0), .s (.slice none 0 0), .s (.int .i64 0), .s (.int .i64 0), .s (.int .i64 0), .s (.slice none 0 0), .s (.int .i64 0), .s (.int .i64 0), .s (.int .i64 0), .s (.slice none 0 0), .s (.slice none 0 0), .s (.int .i64 0), .s (.slice none 0 0), .s (.int .i64 0)]⟩, some ⟨63, 4, true, none, lvs (encClaim a0.claims)⟩, some ⟨95, 6, true, none, lvs (encPair q.2)⟩, some ⟨84, 4, true, none, lvs (encMove a0.moves)⟩, some ⟨87, 3, true, none, lvs (encSeen a0.seen)⟩, some ⟨98, 7, true, none, lvs (encEffect a0.feed.back)⟩, some ⟨3, 1, true, none, lvs (encI a0.votes)⟩], 104, gh, ls⟩ : St)) (N := fun gh ls => (xP 0 (cx := cx) (fun q => (⟨[(1, .l (.p 0 0)), (2, .l (.p 1 0))], [some ⟨38, 22, false, none, [.s (.int .i64 a0.count), .s (.int .i64 a0.id), .s (.int .i64 a0.master), .s (.int .i64 a0.epoch), .s (.int .i64 a0.voted), .r 2 4 0 a0.claims.length, .r 3 6 0 q.length, .r 4 4 0 a0.moves.length, .s (.int .i64 a0.last), .r 5 3 0 a0.seen.length, .s (.int .i64 a0.feed.rid.node), .s (.int .i64 a0.feed.rid.epoch), .s (.int .i64 a0.feed.off), .r 6 7 0 a0.feed.back.length, .s (.int .i64 a0.feed.prev.node), .s (.int .i64 a0.feed.prev.epoch), .s (.int .i64 a0.feed.upto), .d false 1 (encI a0.watch.heard), .d false 1 (encLI a0.watch.says), .s (.int .i64 a0.asked), .r 7 1 0 a0.votes.length, .s (.int .i64 a0.wait)]⟩, some ⟨38, 22, false, none, [.s (.int .i64 0), .s (.int .i64 0), .s (.int .i64 0), .s (.int .i64 0), .s (.int .i64 0), .s (.slice none 0 0), .s (.slice none 0 0), .s (.slice none 0 0), .s (.int .i64 0), .s (.slice none 0 0), .s (.int .i64 0), .s (.int .i64 0), .s (.int .i64 0), .s (.slice none 0 0), .s (.int .i64 0), .s (.int .i64 0), .s (.int .i64 0), .s (.slice none 0 0), .s (.slice none 0 0), .s (.int .i64 0), .s (.slice none 0 0), .s (.int .i64 0)]⟩, some ⟨63, 4, true, none, lvs (encClaim a0.claims)⟩, some ⟨95, 6, true, none, lvs (encPair q)⟩, some ⟨84, 4, true, none, lvs (encMove a0.moves)⟩, some ⟨87, 3, true, none, lvs (encSeen a0.seen)⟩, some ⟨98, 7, true, none, lvs (encEffect a0.feed.back)⟩, some ⟨3, 1, true, none, lvs (encI a0.votes)⟩], 104, gh, ls⟩ : St)))) ?_ noX ?_ ?_
 ·refine Weak.mixN [some 0, some 1, some 2, some 6, some 3, some 4, some 7, some 5] hn0 (by decide) ?_ ?_ rfl
  all_goals first | (simp [inv_cons, inv_nil, pickOb]; done) | rfl
 ·clear h; intro y8 y10 h
  replace h := ltE h; obtain ⟨v11, e11, h⟩ := h
  apply AW.step
  ·simp [← e11]
   intros; rfl
  refine AW.seq ?_
  cases v11 with
  | true =>
   replace h := iteT rfl h
   refine AW.cond_true (by simp) ?_
   refine AW.skip ?_
   try simp only [sp_l, sp_r, Post.seq, Post.block, Nat.reduceEqDiff, reduceIte, Nat.zero_ne_one, Nat.one_ne_zero]
   try simp only [sp_l, sp_r, Post.seq, Post.block, Nat.reduceEqDiff, reduceIte, Nat.zero_ne_one, Nat.one_ne_zero]
   refine AW.seq ?_
   refine AW.block ?_
   apply AW.step
   ·simp
    intros; rfl
   replace h := bnE h; obtain ⟨v12, e12, h⟩ := h
   have f13 := nth_lt e12
   try simp [nth_d e12] at f13
   replace h := bnE h; obtain ⟨v14, e14, h⟩ := h
   have f15 := nth_lt e12
   try simp [nth_d e12, f13, encPair_seg (nth_d e12).2 (j := 1) (k := 5) (by decide), encPair_fitj (nth_d e12).2 (j := 1) (m := 5) (by decide), lvs1] at f15
   replace h := ltE h; obtain ⟨v16, e16, h⟩ := h
   have f17 := encPair_put (nth_d e12).2 e16 (j := 1) (cs := [.s (.int .i64 v14.kind), .s (.string v14.s), .d false 2 (encField v14.f), .d false 1 (encS v14.l), .s (.int .i64 v14.exp)]) (by simp) rfl
   try simp at f17
   have f18 := f13
   try simp only [set_len e16] at f18
   have f19 := f15
   try simp only [set_len e16] at f19
   apply AW.drawnR (V := [_, _, _, _, _, _, _, _, _, _]) mixed [⟨[0], [], [(1, none)], false⟩, ⟨[0], [0], [(39, some 0)], false⟩, ⟨[0], [], [(3, none)], false⟩, ⟨[0], [], [(1, none)], false⟩, ⟨[0], [3], [(42, some 3)], false⟩, ⟨[0], [], [(3, none)], false⟩, ⟨[0], [3, 4, 5], [(43, some 4), (44, some 5)], false⟩, ⟨[0], [3, 4, 5, 6], [(45, some 6)], false⟩, ⟨[0], [3, 4, 5, 6, 7], [(46, some 7)], false⟩, ⟨[0], [3, 4, 5, 6, 7, 8], [(47, some 8)], false⟩, ⟨[], [0, 1, 2, 3, 4, 5, 6, 7, 8, 9], [], false⟩, ⟨[], [0, 1, 2, 3, 4, 5, 6, 7, 8, 9, 10], [], false⟩, ⟨[], [0, 1, 2, 3, 4, 5, 6, 7, 8, 9, 10, 11], [], false⟩] 10 (by kernel_rfl) (by kernel_rfl)
   ·refine ⟨?_, ?_, ?_, ?_, ?_, ?_, ?_, ?_, ?_, ?_, trivial⟩
    ·intro tm hr
     simp [AllL, rdV] at hr
     simp [hr, nth_d e12, f13, encPair_seg (nth_d e12).2 (j := 1) (k := 5) (by decide), encPair_fitj (nth_d e12).2 (j := 1) (m := 5) (by decide), lvs1, f15, f17, f18, f19]
     intros; first | exact KD.mk | exact KD.mkN
    ·intro tm hr
     simp [AllL, rdV] at hr
     simp [hr, nth_d e12, f13, encPair_seg (nth_d e12).2 (j := 1) (k := 5) (by decide), encPair_fitj (nth_d e12).2 (j := 1) (m := 5) (by decide), lvs1, f15, f17, f18, f19]
     intros; first | exact KD.mk | exact KD.mkN
    ·intro tm hr
     simp [AllL, rdV] at hr
     simp [hr, nth_d e12, f13, encPair_seg (nth_d e12).2 (j := 1) (k := 5) (by decide), encPair_fitj (nth_d e12).2 (j := 1) (m := 5) (by decide), lvs1, f15, f17, f18, f19]
     intros; first | exact KD.mk | exact KD.mkN
    ·intro tm hr
     simp [AllL, rdV] at hr
     simp [hr, nth_d e12, f13, encPair_seg (nth_d e12).2 (j := 1) (k := 5) (by decide), encPair_fitj (nth_d e12).2 (j := 1) (m := 5) (by decide), lvs1, f15, f17, f18, f19]
     intros; first | exact KD.mk | exact KD.mkN
    ·intro tm hr
     simp [AllL, rdV] at hr
     simp [hr, nth_d e12, f13, encPair_seg (nth_d e12).2 (j := 1) (k := 5) (by decide), encPair_fitj (nth_d e12).2 (j := 1) (m := 5) (by decide), lvs1, f15, f17, f18, f19]
     intros; first | exact KD.mk | exact KD.mkN
    ·intro tm hr
     simp [AllL, rdV] at hr
     simp [hr, nth_d e12, f13, encPair_seg (nth_d e12).2 (j := 1) (k := 5) (by decide), encPair_fitj (nth_d e12).2 (j := 1) (m := 5) (by decide), lvs1, f15, f17, f18, f19]
     intros; first | exact KD.mk | exact KD.mkN
    ·intro tm hr
     simp [AllL, rdV] at hr
     simp [hr, nth_d e12, f13, encPair_seg (nth_d e12).2 (j := 1) (k := 5) (by decide), encPair_fitj (nth_d e12).2 (j := 1) (m := 5) (by decide), lvs1, f15, f17, f18, f19]
     intros; first | exact KD.mk | exact KD.mkN
    ·intro tm hr
     simp [AllL, rdV] at hr
     simp [hr, nth_d e12, f13, encPair_seg (nth_d e12).2 (j := 1) (k := 5) (by decide), encPair_fitj (nth_d e12).2 (j := 1) (m := 5) (by decide), lvs1, f15, f17, f18, f19]
     intros; first | exact KD.mk | exact KD.mkN
    ·intro tm hr
     simp [AllL, rdV] at hr
     simp [hr, nth_d e12, f13, encPair_seg (nth_d e12).2 (j := 1) (k := 5) (by decide), encPair_fitj (nth_d e12).2 (j := 1) (m := 5) (by decide), lvs1, f15, f17, f18, f19]
     intros; first | exact KD.mk | exact KD.mkN
    ·intro tm hr
     simp [AllL, rdV] at hr
     simp [hr, nth_d e12, f13, encPair_seg (nth_d e12).2 (j := 1) (k := 5) (by decide), encPair_fitj (nth_d e12).2 (j := 1) (m := 5) (by decide), lvs1, f15, f17, f18, f19]
     intros
     refine xcall_plain en_claims_own (s_claims_own e14) rfl ⟨.same rfl, trivial⟩ ?_
     try simp [nth_d e12, f13, encPair_seg (nth_d e12).2 (j := 1) (k := 5) (by decide), encPair_fitj (nth_d e12).2 (j := 1) (m := 5) (by decide), lvs1, f15, f17, f18, f19]
     intros; first | exact KD.mk | exact KD.mkN
   ·rfl
   ·simp [tmD, putD, nth_d e12, f13, encPair_seg (nth_d e12).2 (j := 1) (k := 5) (by decide), encPair_fitj (nth_d e12).2 (j := 1) (m := 5) (by decide), lvs1, f15, f17, f18, f19]; rfl
   ·simp [nth_d e12, f13, encPair_seg (nth_d e12).2 (j := 1) (k := 5) (by decide), encPair_fitj (nth_d e12).2 (j := 1) (m := 5) (by decide), lvs1, f15, f17, f18, f19]
    intros; rfl
   try simp only [sp_l, sp_r, Post.seq, Post.block, Nat.reduceEqDiff, reduceIte, Nat.zero_ne_one, Nat.one_ne_zero]
   replace h := ltE h; obtain ⟨v20, e20, h⟩ := h
   apply AW.last
   ·simp [← e20]
    intros; rfl
   obtain rfl := Option.some.inj h
   refine nP_i ?_
   refine Weak.mixN [some 0, some 1, some 2, some 3, some 4, some 5, some 6, some 7] hn0 (by decide) ?_ ?_ rfl
   all_goals first | (simp [inv_cons, inv_nil, pickOb, set_len e16]; done) | rfl
  | false =>
   replace h := iteF rfl h
   refine AW.cond_false (by simp) ?_
   refine AW.exit ?_
   try simp only [sp_l, sp_r, Post.seq, Post.block, Nat.reduceEqDiff, reduceIte, Nat.zero_ne_one, Nat.one_ne_zero]
   obtain rfl := Option.some.inj h
   refine xP_i ?_
   refine Weak.mixN [some 0, some 1, some 2, some 3, some 4, some 5, some 6, some 7] hn0 (by decide) ?_ ?_ rfl
   all_goals first | (simp [inv_cons, inv_nil, pickOb]; done) | rfl
 ·rintro e s hp
  obtain ⟨rfl, hw⟩ := hp
  refine ⟨_, hw, ?_⟩
  try simp only [sp_l, sp_r, Post.seq, Post.block, Nat.reduceEqDiff, reduceIte, Nat.zero_ne_one, Nat.one_ne_zero]
  refine AW.seq ?_
  replace h := ltE h; obtain ⟨v21, e21, h⟩ := h
  apply AW.step
  ·simp [lenI_cast e21]
   intros; rfl
  refine AW.block ?_
  replace h := bnE h; obtain ⟨y23, g23, h⟩ := h
  refine AW.iterP g23 (mk := fun gh ls q => (⟨[(1, .l (.p 0 0)), (2, .l (.p 1 0)), (55, .l (.s (.int .i64 v21))), (56, .l (.s (.int .i64 q.1)))], [some ⟨38, 22, false, none, [.s (.int .i64 a0.count), .s (.int .i64 a0.id), .s (.int .i64 a0.master), .s (.int .i64 a0.epoch), .s (.int .i64 a0.voted), .r 2 4 0 a0.claims.length, .r 3 6 0 y9.length, .r 4 4 0 a0.moves.length, .s (.int .i64 a0.last), .r 5 3 0 a0.seen.length, .s (.int .i64 a0.feed.rid.node), .s (.int .i64 a0.feed.rid.epoch), .s (.int .i64 a0.feed.off), .r 6 7 0 q.2.length, .s (.int .i64 a0.feed.prev.node), .s (.int .i64 a0.feed.prev.epoch), .s (.int .i64 a0.feed.upto), .d false 1 (encI a0.watch.heard), .d false 1 (encLI a0.watch.says), .s (.int .i64 a0.asked), .r 7 1 0 a0.votes.length, .s (.int .i64 a0.wait)]⟩, some ⟨38, 22, false, none, [.s (.int .i64 0), .s (.int .i64 0), .s (.int .i64 0), .s (.int .i64 0), .s (.int .i64 0), .s (.slice none 0 0), .s (.slice none 0 0), .s (.slice none 0 0), .s (.int .i64 0), .s (.slice none 0 0), .s (.int .i64 0), .s (.int .i64 0), .s (.int .i64 0), .s (.slice none 0 0), .s (.int .i64 0), .s (.int .i64 0), .s (.int .i64 0), .s (.slice none 0 0), .s (.slice none 0 0), .s (.int .i64 0), .s (.slice none 0 0), .s (.int .i64 0)]⟩, some ⟨63, 4, true, none, lvs (encClaim a0.claims)⟩, some ⟨95, 6, true, none, lvs (encPair y9)⟩, some ⟨84, 4, true, none, lvs (encMove a0.moves)⟩, some ⟨87, 3, true, none, lvs (encSeen a0.seen)⟩, some ⟨98, 7, true, none, lvs (encEffect q.2)⟩, some ⟨3, 1, true, none, lvs (encI a0.votes)⟩], 104, gh, ls⟩ : St)) (N := fun gh ls => (xP 2 (cx := cx) (fun q => (⟨[(1, .l (.p 0 0)), (2, .l (.p 1 0))], [some ⟨38, 22, false, none, [.s (.int .i64 a0.count), .s (.int .i64 a0.id), .s (.int .i64 a0.master), .s (.int .i64 a0.epoch), .s (.int .i64 a0.voted), .r 2 4 0 a0.claims.length, .r 3 6 0 y9.length, .r 4 4 0 a0.moves.length, .s (.int .i64 a0.last), .r 5 3 0 a0.seen.length, .s (.int .i64 a0.feed.rid.node), .s (.int .i64 a0.feed.rid.epoch), .s (.int .i64 a0.feed.off), .r 6 7 0 q.length, .s (.int .i64 a0.feed.prev.node), .s (.int .i64 a0.feed.prev.epoch), .s (.int .i64 a0.feed.upto), .d false 1 (encI a0.watch.heard), .d false 1 (encLI a0.watch.says), .s (.int .i64 a0.asked), .r 7 1 0 a0.votes.length, .s (.int .i64 a0.wait)]⟩, some ⟨38, 22, false, none, [.s (.int .i64 0), .s (.int .i64 0), .s (.int .i64 0), .s (.int .i64 0), .s (.int .i64 0), .s (.slice none 0 0), .s (.slice none 0 0), .s (.slice none 0 0), .s (.int .i64 0), .s (.slice none 0 0), .s (.int .i64 0), .s (.int .i64 0), .s (.int .i64 0), .s (.slice none 0 0), .s (.int .i64 0), .s (.int .i64 0), .s (.int .i64 0), .s (.slice none 0 0), .s (.slice none 0 0), .s (.int .i64 0), .s (.slice none 0 0), .s (.int .i64 0)]⟩, some ⟨63, 4, true, none, lvs (encClaim a0.claims)⟩, some ⟨95, 6, true, none, lvs (encPair y9)⟩, some ⟨84, 4, true, none, lvs (encMove a0.moves)⟩, some ⟨87, 3, true, none, lvs (encSeen a0.seen)⟩, some ⟨98, 7, true, none, lvs (encEffect q)⟩, some ⟨3, 1, true, none, lvs (encI a0.votes)⟩], 104, gh, ls⟩ : St)))) ?_ noX ?_ ?_
  ·refine Weak.mixN [some 0, some 1, some 2, some 3, some 4, some 5, some 6, some 7] hn0 (by decide) ?_ ?_ rfl
   all_goals first | (simp [inv_cons, inv_nil, pickOb]; done) | rfl
  ·clear h; intro y22 y24 h
   replace h := ltE h; obtain ⟨v25, e25, h⟩ := h
   apply AW.step
   ·simp [← e25]
    intros; rfl
   refine AW.seq ?_
   cases v25 with
   | true =>
    replace h := iteT rfl h
    refine AW.cond_true (by simp) ?_
    refine AW.skip ?_
    try simp only [sp_l, sp_r, Post.seq, Post.block, Nat.reduceEqDiff, reduceIte, Nat.zero_ne_one, Nat.one_ne_zero]
    try simp only [sp_l, sp_r, Post.seq, Post.block, Nat.reduceEqDiff, reduceIte, Nat.zero_ne_one, Nat.one_ne_zero]
    refine AW.seq ?_
    refine AW.block ?_
    apply AW.step
    ·simp
     intros; rfl
    replace h := bnE h; obtain ⟨v26, e26, h⟩ := h
    have f27 := nth_lt e26
    try simp [nth_d e26] at f27
    replace h := bnE h; obtain ⟨v28, e28, h⟩ := h
    have f29 := nth_lt e26
    try simp [nth_d e26, f27, encEffect_seg (nth_d e26).2 (j := 2) (k := 5) (by decide), encEffect_fitj (nth_d e26).2 (j := 2) (m := 5) (by decide), lvs1] at f29
    replace h := ltE h; obtain ⟨v30, e30, h⟩ := h
    have f31 := encEffect_put (nth_d e26).2 e30 (j := 2) (cs := [.s (.int .i64 v28.kind), .s (.string v28.s), .d false 2 (encField v28.f), .d false 1 (encS v28.l), .s (.int .i64 v28.exp)]) (by simp) rfl
    try simp at f31
    have f32 := f27
    try simp only [set_len e30] at f32
    have f33 := f29
    try simp only [set_len e30] at f33
    apply AW.drawnR (V := [_, _, _, _, _, _, _, _, _, _, _, _]) mixed [⟨[0], [], [(1, none)], false⟩, ⟨[0], [0], [(59, some 0)], false⟩, ⟨[0], [0, 1], [(60, some 1)], false⟩, ⟨[0], [], [(4, none)], false⟩, ⟨[0], [], [(1, none)], false⟩, ⟨[0], [4], [(63, some 4)], false⟩, ⟨[0], [4, 5], [(64, some 5)], false⟩, ⟨[0], [], [(4, none)], false⟩, ⟨[0], [4, 5, 6, 7], [(65, some 6), (66, some 7)], false⟩, ⟨[0], [4, 5, 6, 7, 8], [(67, some 8)], false⟩, ⟨[0], [4, 5, 6, 7, 8, 9], [(68, some 9)], false⟩, ⟨[0], [4, 5, 6, 7, 8, 9, 10], [(69, some 10)], false⟩, ⟨[], [0, 1, 2, 3, 4, 5, 6, 7, 8, 9, 10, 11], [], false⟩, ⟨[], [0, 1, 2, 3, 4, 5, 6, 7, 8, 9, 10, 11, 12], [], false⟩, ⟨[], [0, 1, 2, 3, 4, 5, 6, 7, 8, 9, 10, 11, 12, 13], [], false⟩] 12 (by kernel_rfl) (by kernel_rfl)
    ·refine ⟨?_, ?_, ?_, ?_, ?_, ?_, ?_, ?_, ?_, ?_, ?_, ?_, trivial⟩
     ·intro tm hr
      simp [AllL, rdV] at hr
      simp [hr, nth_d e26, f27, encEffect_seg (nth_d e26).2 (j := 2) (k := 5) (by decide), encEffect_fitj (nth_d e26).2 (j := 2) (m := 5) (by decide), lvs1, f29, f31, f32, f33]
      intros; first | exact KD.mk | exact KD.mkN
     ·intro tm hr
      simp [AllL, rdV] at hr
      simp [hr, nth_d e26, f27, encEffect_seg (nth_d e26).2 (j := 2) (k := 5) (by decide), encEffect_fitj (nth_d e26).2 (j := 2) (m := 5) (by decide), lvs1, f29, f31, f32, f33]
      intros; first | exact KD.mk | exact KD.mkN
     ·intro tm hr
      simp [AllL, rdV] at hr
      simp [hr, nth_d e26, f27, encEffect_seg (nth_d e26).2 (j := 2) (k := 5) (by decide), encEffect_fitj (nth_d e26).2 (j := 2) (m := 5) (by decide), lvs1, f29, f31, f32, f33]
      intros; first | exact KD.mk | exact KD.mkN
     ·intro tm hr
      simp [AllL, rdV] at hr
      simp [hr, nth_d e26, f27, encEffect_seg (nth_d e26).2 (j := 2) (k := 5) (by decide), encEffect_fitj (nth_d e26).2 (j := 2) (m := 5) (by decide), lvs1, f29, f31, f32, f33]
      intros; first | exact KD.mk | exact KD.mkN
     ·intro tm hr
      simp [AllL, rdV] at hr
      simp [hr, nth_d e26, f27, encEffect_seg (nth_d e26).2 (j := 2) (k := 5) (by decide), encEffect_fitj (nth_d e26).2 (j := 2) (m := 5) (by decide), lvs1, f29, f31, f32, f33]
      intros; first | exact KD.mk | exact KD.mkN
     ·intro tm hr
      simp [AllL, rdV] at hr
      simp [hr, nth_d e26, f27, encEffect_seg (nth_d e26).2 (j := 2) (k := 5) (by decide), encEffect_fitj (nth_d e26).2 (j := 2) (m := 5) (by decide), lvs1, f29, f31, f32, f33]
      intros; first | exact KD.mk | exact KD.mkN
     ·intro tm hr
      simp [AllL, rdV] at hr
      simp [hr, nth_d e26, f27, encEffect_seg (nth_d e26).2 (j := 2) (k := 5) (by decide), encEffect_fitj (nth_d e26).2 (j := 2) (m := 5) (by decide), lvs1, f29, f31, f32, f33]
      intros; first | exact KD.mk | exact KD.mkN
     ·intro tm hr
      simp [AllL, rdV] at hr
      simp [hr, nth_d e26, f27, encEffect_seg (nth_d e26).2 (j := 2) (k := 5) (by decide), encEffect_fitj (nth_d e26).2 (j := 2) (m := 5) (by decide), lvs1, f29, f31, f32, f33]
      intros; first | exact KD.mk | exact KD.mkN
     ·intro tm hr
      simp [AllL, rdV] at hr
      simp [hr, nth_d e26, f27, encEffect_seg (nth_d e26).2 (j := 2) (k := 5) (by decide), encEffect_fitj (nth_d e26).2 (j := 2) (m := 5) (by decide), lvs1, f29, f31, f32, f33]
      intros; first | exact KD.mk | exact KD.mkN
     ·intro tm hr
      simp [AllL, rdV] at hr
      simp [hr, nth_d e26, f27, encEffect_seg (nth_d e26).2 (j := 2) (k := 5) (by decide), encEffect_fitj (nth_d e26).2 (j := 2) (m := 5) (by decide), lvs1, f29, f31, f32, f33]
      intros; first | exact KD.mk | exact KD.mkN
     ·intro tm hr
      simp [AllL, rdV] at hr
      simp [hr, nth_d e26, f27, encEffect_seg (nth_d e26).2 (j := 2) (k := 5) (by decide), encEffect_fitj (nth_d e26).2 (j := 2) (m := 5) (by decide), lvs1, f29, f31, f32, f33]
      intros; first | exact KD.mk | exact KD.mkN
     ·intro tm hr
      simp [AllL, rdV] at hr
      simp [hr, nth_d e26, f27, encEffect_seg (nth_d e26).2 (j := 2) (k := 5) (by decide), encEffect_fitj (nth_d e26).2 (j := 2) (m := 5) (by decide), lvs1, f29, f31, f32, f33]
      intros
      refine xcall_plain en_claims_own (s_claims_own e28) rfl ⟨.same rfl, trivial⟩ ?_
      try simp [nth_d e26, f27, encEffect_seg (nth_d e26).2 (j := 2) (k := 5) (by decide), encEffect_fitj (nth_d e26).2 (j := 2) (m := 5) (by decide), lvs1, f29, f31, f32, f33]
      intros; first | exact KD.mk | exact KD.mkN
    ·rfl
    ·simp [tmD, putD, nth_d e26, f27, encEffect_seg (nth_d e26).2 (j := 2) (k := 5) (by decide), encEffect_fitj (nth_d e26).2 (j := 2) (m := 5) (by decide), lvs1, f29, f31, f32, f33]; rfl
    ·simp [nth_d e26, f27, encEffect_seg (nth_d e26).2 (j := 2) (k := 5) (by decide), encEffect_fitj (nth_d e26).2 (j := 2) (m := 5) (by decide), lvs1, f29, f31, f32, f33]
     intros; rfl
    try simp only [sp_l, sp_r, Post.seq, Post.block, Nat.reduceEqDiff, reduceIte, Nat.zero_ne_one, Nat.one_ne_zero]
    replace h := ltE h; obtain ⟨v34, e34, h⟩ := h
    apply AW.last
    ·simp [← e34]
     intros; rfl
    obtain rfl := Option.some.inj h
    refine nP_i ?_
    refine Weak.mixN [some 0, some 1, some 2, some 3, some 4, some 5, some 6, some 7] hn0 (by decide) ?_ ?_ rfl
    all_goals first | (simp [inv_cons, inv_nil, pickOb, set_len e30]; done) | rfl
   | false =>
    replace h := iteF rfl h
    refine AW.cond_false (by simp) ?_
    refine AW.exit ?_
    try simp only [sp_l, sp_r, Post.seq, Post.block, Nat.reduceEqDiff, reduceIte, Nat.zero_ne_one, Nat.one_ne_zero]
    obtain rfl := Option.some.inj h
    refine xP_i ?_
    refine Weak.mixN [some 0, some 1, some 2, some 3, some 4, some 5, some 6, some 7] hn0 (by decide) ?_ ?_ rfl
    all_goals first | (simp [inv_cons, inv_nil, pickOb]; done) | rfl
  ·rintro e s hp
   obtain ⟨rfl, hw⟩ := hp
   refine ⟨_, hw, ?_⟩
   try simp only [sp_l, sp_r, Post.seq, Post.block, Nat.reduceEqDiff, reduceIte, Nat.zero_ne_one, Nat.one_ne_zero]
   replace h := chkE h; obtain ⟨e35, h⟩ := h
   replace h := chkE h; obtain ⟨e36, h⟩ := h
   apply AW.drawnE (V := [_, _, _, _, _, _, _, _, _, _]) (M := [[some ⟨38, 22, false, none, [.s (.int .i64 a0.count), .s (.int .i64 a0.id), .s (.int .i64 a0.master), .s (.int .i64 a0.epoch), .s (.int .i64 a0.voted), .r 2 4 0 a0.claims.length, .r 3 6 0 y9.length, .r 4 4 0 a0.moves.length, .s (.int .i64 a0.last), .r 5 3 0 a0.seen.length, .s (.int .i64 a0.feed.rid.node), .s (.int .i64 a0.feed.rid.epoch), .s (.int .i64 a0.feed.off), .r 6 7 0 y23.length, .s (.int .i64 a0.feed.prev.node), .s (.int .i64 a0.feed.prev.epoch), .s (.int .i64 a0.feed.upto), .d false 1 (encI a0.watch.heard), .d false 1 (encLI a0.watch.says), .s (.int .i64 a0.asked), .r 7 1 0 a0.votes.length, .s (.int .i64 a0.wait)]⟩, some ⟨38, 22, false, none, [.s (.int .i64 0), .s (.int .i64 0), .s (.int .i64 0), .s (.int .i64 0), .s (.int .i64 0), .s (.slice none 0 0), .s (.slice none 0 0), .s (.slice none 0 0), .s (.int .i64 0), .s (.slice none 0 0), .s (.int .i64 0), .s (.int .i64 0), .s (.int .i64 0), .s (.slice none 0 0), .s (.int .i64 0), .s (.int .i64 0), .s (.int .i64 0), .s (.slice none 0 0), .s (.slice none 0 0), .s (.int .i64 0), .s (.slice none 0 0), .s (.int .i64 0)]⟩, some ⟨63, 4, true, none, lvs (encClaim a0.claims)⟩, some ⟨95, 6, true, none, lvs (encPair y9)⟩, some ⟨84, 4, true, none, lvs (encMove a0.moves)⟩, some ⟨87, 3, true, none, lvs (encSeen a0.seen)⟩, some ⟨98, 7, true, none, lvs (encEffect y23)⟩, some ⟨3, 1, true, none, lvs (encI a0.votes)⟩], [some ⟨38, 22, false, none, [.s (.int .i64 a0.count), .s (.int .i64 a0.id), .s (.int .i64 a0.master), .s (.int .i64 a0.epoch), .s (.int .i64 a0.voted), .r 2 4 0 a0.claims.length, .r 3 6 0 y9.length, .r 4 4 0 a0.moves.length, .s (.int .i64 a0.last), .r 5 3 0 a0.seen.length, .s (.int .i64 a0.feed.rid.node), .s (.int .i64 a0.feed.rid.epoch), .s (.int .i64 a0.feed.off), .r 6 7 0 y23.length, .s (.int .i64 a0.feed.prev.node), .s (.int .i64 a0.feed.prev.epoch), .s (.int .i64 a0.feed.upto), .d false 1 (encI a0.watch.heard), .d false 1 (encLI a0.watch.says), .s (.int .i64 a0.asked), .r 7 1 0 a0.votes.length, .s (.int .i64 a0.wait)]⟩, some ⟨38, 22, false, none, [.s (.int .i64 0), .s (.int .i64 0), .s (.int .i64 0), .s (.int .i64 0), .s (.int .i64 0), .s (.slice none 0 0), .s (.slice none 0 0), .s (.slice none 0 0), .s (.int .i64 0), .s (.slice none 0 0), .s (.int .i64 0), .s (.int .i64 0), .s (.int .i64 0), .s (.slice none 0 0), .s (.int .i64 0), .s (.int .i64 0), .s (.int .i64 0), .s (.slice none 0 0), .s (.slice none 0 0), .s (.int .i64 0), .s (.slice none 0 0), .s (.int .i64 0)]⟩, some ⟨63, 4, true, none, lvs (encClaim a0.claims)⟩, some ⟨95, 6, true, none, lvs (encPair y9)⟩, some ⟨84, 4, true, none, lvs (encMove a0.moves)⟩, some ⟨87, 3, true, none, lvs (encSeen a0.seen)⟩, some ⟨98, 7, true, none, lvs (encEffect y23)⟩, some ⟨3, 1, true, none, lvs (encI a0.votes)⟩, some ⟨3, 1, true, none, lvs (encI a0.watch.heard)⟩], [some ⟨38, 22, false, none, [.s (.int .i64 a0.count), .s (.int .i64 a0.id), .s (.int .i64 a0.master), .s (.int .i64 a0.epoch), .s (.int .i64 a0.voted), .r 2 4 0 a0.claims.length, .r 3 6 0 y9.length, .r 4 4 0 a0.moves.length, .s (.int .i64 a0.last), .r 5 3 0 a0.seen.length, .s (.int .i64 a0.feed.rid.node), .s (.int .i64 a0.feed.rid.epoch), .s (.int .i64 a0.feed.off), .r 6 7 0 y23.length, .s (.int .i64 a0.feed.prev.node), .s (.int .i64 a0.feed.prev.epoch), .s (.int .i64 a0.feed.upto), .d false 1 (encI a0.watch.heard), .d false 1 (encLI a0.watch.says), .s (.int .i64 a0.asked), .r 7 1 0 a0.votes.length, .s (.int .i64 a0.wait)]⟩, some ⟨38, 22, false, none, [.s (.int .i64 0), .s (.int .i64 0), .s (.int .i64 0), .s (.int .i64 0), .s (.int .i64 0), .s (.slice none 0 0), .s (.slice none 0 0), .s (.slice none 0 0), .s (.int .i64 0), .s (.slice none 0 0), .s (.int .i64 0), .s (.int .i64 0), .s (.int .i64 0), .s (.slice none 0 0), .s (.int .i64 0), .s (.int .i64 0), .s (.int .i64 0), .s (.slice none 0 0), .s (.slice none 0 0), .s (.int .i64 0), .s (.slice none 0 0), .s (.int .i64 0)]⟩, some ⟨63, 4, true, none, lvs (encClaim a0.claims)⟩, some ⟨95, 6, true, none, lvs (encPair y9)⟩, some ⟨84, 4, true, none, lvs (encMove a0.moves)⟩, some ⟨87, 3, true, none, lvs (encSeen a0.seen)⟩, some ⟨98, 7, true, none, lvs (encEffect y23)⟩, some ⟨3, 1, true, none, lvs (encI a0.votes)⟩, some ⟨3, 1, true, none, lvs (encI a0.watch.heard)⟩, some ⟨33, 1, true, none, lvs (encLI a0.watch.says)⟩]]) mixed [⟨[0], [], [(1, none)], false⟩, ⟨[0], [0], [(74, some 0)], false⟩, ⟨[0], [0, 1], [(75, some 1)], false⟩, ⟨[0], [0, 1, 2], [(76, some 2)], true⟩, ⟨[0, 1], [], [(1, none)], false⟩, ⟨[0, 1], [4], [(78, some 4)], false⟩, ⟨[0, 1], [4, 5], [(79, some 5)], false⟩, ⟨[1], [0, 1, 2, 3, 4, 5, 6], [(80, some 6)], true⟩, ⟨[1, 2], [0, 1, 2, 3, 4, 5, 6], [(1, none)], false⟩, ⟨[1, 2], [0, 1, 2, 3, 4, 5, 6, 8], [(82, some 8)], false⟩, ⟨[], [0, 1, 2, 3, 4, 5, 6, 7, 8, 9], [], false⟩, ⟨[], [0, 1, 2, 3, 4, 5, 6, 7, 8, 9, 10], [], false⟩, ⟨[], [0, 1, 2, 3, 4, 5, 6, 7, 8, 9, 10, 11], [], false⟩, ⟨[], [0, 1, 2, 3, 4, 5, 6, 7, 8, 9, 10, 11, 12], [], false⟩] 10 2 (by kernel_rfl) (by kernel_rfl)
   ·rfl
   ·refine ⟨?_, ?_, ?_, ?_, ⟨?_, ?_⟩, ⟨?_, ?_⟩, ⟨?_, ?_⟩, ?_, ⟨?_, ?_⟩, ⟨?_, ?_⟩, trivial⟩
    ·intro tm hr
     simp [AllL, rdV] at hr
     simp [hr, outR]
     intros; first | exact KD.mk | exact KD.mkN
    ·intro tm hr
     simp [AllL, rdV] at hr
     simp [hr, outR]
     intros; first | exact KD.mk | exact KD.mkN
    ·intro tm hr
     simp [AllL, rdV] at hr
     simp [hr, outR]
     intros; first | exact KD.mk | exact KD.mkN
    ·intro tm hr
     simp [AllL, rdV] at hr
     simp [hr, outR]
     intros
     refine xcall_new en_cl_I (s_cl_I a0.watch.heard (small_d e35)) rfl (by simp) ⟨.d _ _ _, trivial⟩ ?_
     try simp [outR]
     intros; first | exact KD.mk | exact KD.mkN
    ·intro tm hr
     simp [AllL, rdV] at hr
     simp [hr, outR]
     intros; first | exact KD.mk | exact KD.mkN
    ·intro tm hr
     simp [AllL, rdV] at hr
     simp [hr, outR]
     intros; first | exact KD.mk | exact KD.mkN
    ·intro tm hr
     simp [AllL, rdV] at hr
     simp [hr, outR]
     intros; first | exact KD.mk | exact KD.mkN
    ·intro tm hr
     simp [AllL, rdV] at hr
     simp [hr, outR]
     intros; first | exact KD.mk | exact KD.mkN
    ·intro tm hr
     simp [AllL, rdV] at hr
     simp [hr, outR]
     intros; first | exact KD.mk | exact KD.mkN
    ·intro tm hr
     simp [AllL, rdV] at hr
     simp [hr, outR]
     intros; first | exact KD.mk | exact KD.mkN
    ·intro tm hr
     simp [AllL, rdV] at hr
     simp [hr, outR]
     intros
     refine xcall_new en_cl_LI (s_cl_LI a0.watch.says (small_d e36)) rfl (by simp) ⟨.same rfl, trivial⟩ ?_
     try simp [outR]
     intros; first | exact KD.mk | exact KD.mkN
    ·intro tm hr
     simp [AllL, rdV] at hr
     simp [hr, outR]
     intros; first | exact KD.mk | exact KD.mkN
    ·intro tm hr
     simp [AllL, rdV] at hr
     simp [hr, outR]
     intros; first | exact KD.mk | exact KD.mkN
    ·intro tm hr
     simp [AllL, rdV] at hr
     simp [hr, outR]
     intros; first | exact KD.mk | exact KD.mkN
    ·intro tm hr
     simp [AllL, rdV] at hr
     simp [hr, outR]
     intros; first | exact KD.mk | exact KD.mkN
   ·rfl
   ·simp [tmD, putD, outR]; rfl
   ·simp [outR]
    intros; rfl
   refine AW.seq ?_
   replace h := ltE h; obtain ⟨v37, e37, h⟩ := h
   apply AW.step
   ·simp [lenI_cast e37]
    intros; rfl
   refine AW.block ?_
   replace h := bnE h; obtain ⟨y39, g39, h⟩ := h
   refine AW.iterP g39 (mk := fun gh ls q => (⟨[(1, .l (.p 0 0)), (2, .l (.p 1 0)), (88, .l (.r 2 1 0 q.2.length)), (89, .l (.s (.int .i64 v37))), (90, .l (.s (.int .i64 q.1)))], [some ⟨38, 22, false, none, [.s (.int .i64 a0.count), .s (.int .i64 a0.id), .s (.int .i64 a0.master), .s (.int .i64 a0.epoch), .s (.int .i64 a0.voted), .r 3 4 0 a0.claims.length, .r 4 6 0 y9.length, .r 5 4 0 a0.moves.length, .s (.int .i64 a0.last), .r 6 3 0 a0.seen.length, .s (.int .i64 a0.feed.rid.node), .s (.int .i64 a0.feed.rid.epoch), .s (.int .i64 a0.feed.off), .r 7 7 0 y23.length, .s (.int .i64 a0.feed.prev.node), .s (.int .i64 a0.feed.prev.epoch), .s (.int .i64 a0.feed.upto), .r 8 1 0 a0.watch.heard.length, .r 2 1 0 q.2.length, .s (.int .i64 a0.asked), .r 9 1 0 a0.votes.length, .s (.int .i64 a0.wait)]⟩, some ⟨38, 22, false, none, [.s (.int .i64 0), .s (.int .i64 0), .s (.int .i64 0), .s (.int .i64 0), .s (.int .i64 0), .s (.slice none 0 0), .s (.slice none 0 0), .s (.slice none 0 0), .s (.int .i64 0), .s (.slice none 0 0), .s (.int .i64 0), .s (.int .i64 0), .s (.int .i64 0), .s (.slice none 0 0), .s (.int .i64 0), .s (.int .i64 0), .s (.int .i64 0), .s (.slice none 0 0), .s (.slice none 0 0), .s (.int .i64 0), .s (.slice none 0 0), .s (.int .i64 0)]⟩, some ⟨33, 1, true, none, lvs (encLI q.2)⟩, some ⟨63, 4, true, none, lvs (encClaim a0.claims)⟩, some ⟨95, 6, true, none, lvs (encPair y9)⟩, some ⟨84, 4, true, none, lvs (encMove a0.moves)⟩, some ⟨87, 3, true, none, lvs (encSeen a0.seen)⟩, some ⟨98, 7, true, none, lvs (encEffect y23)⟩, some ⟨3, 1, true, none, lvs (encI a0.watch.heard)⟩, some ⟨3, 1, true, none, lvs (encI a0.votes)⟩], 104, gh, ls⟩ : St)) (N := fun gh ls => (xP 4 (cx := cx) (fun q => (⟨[(1, .l (.p 0 0)), (2, .l (.p 1 0))], [some ⟨38, 22, false, none, [.s (.int .i64 a0.count), .s (.int .i64 a0.id), .s (.int .i64 a0.master), .s (.int .i64 a0.epoch), .s (.int .i64 a0.voted), .r 2 4 0 a0.claims.length, .r 3 6 0 y9.length, .r 4 4 0 a0.moves.length, .s (.int .i64 a0.last), .r 5 3 0 a0.seen.length, .s (.int .i64 a0.feed.rid.node), .s (.int .i64 a0.feed.rid.epoch), .s (.int .i64 a0.feed.off), .r 6 7 0 y23.length, .s (.int .i64 a0.feed.prev.node), .s (.int .i64 a0.feed.prev.epoch), .s (.int .i64 a0.feed.upto), .r 7 1 0 a0.watch.heard.length, .r 8 1 0 q.length, .s (.int .i64 a0.asked), .r 9 1 0 a0.votes.length, .s (.int .i64 a0.wait)]⟩, some ⟨38, 22, false, none, [.s (.int .i64 0), .s (.int .i64 0), .s (.int .i64 0), .s (.int .i64 0), .s (.int .i64 0), .s (.slice none 0 0), .s (.slice none 0 0), .s (.slice none 0 0), .s (.int .i64 0), .s (.slice none 0 0), .s (.int .i64 0), .s (.int .i64 0), .s (.int .i64 0), .s (.slice none 0 0), .s (.int .i64 0), .s (.int .i64 0), .s (.int .i64 0), .s (.slice none 0 0), .s (.slice none 0 0), .s (.int .i64 0), .s (.slice none 0 0), .s (.int .i64 0)]⟩, some ⟨63, 4, true, none, lvs (encClaim a0.claims)⟩, some ⟨95, 6, true, none, lvs (encPair y9)⟩, some ⟨84, 4, true, none, lvs (encMove a0.moves)⟩, some ⟨87, 3, true, none, lvs (encSeen a0.seen)⟩, some ⟨98, 7, true, none, lvs (encEffect y23)⟩, some ⟨3, 1, true, none, lvs (encI a0.watch.heard)⟩, some ⟨33, 1, true, none, lvs (encLI q)⟩, some ⟨3, 1, true, none, lvs (encI a0.votes)⟩], 104, gh, ls⟩ : St)))) ?_ noX ?_ ?_
   ·refine Weak.mixN [some 0, some 1, some 9, some 2, some 3, some 4, some 5, some 6, some 8, some 7] hn0 (by decide) ?_ ?_ rfl
    all_goals first | (simp [inv_cons, inv_nil, pickOb]; done) | rfl
   ·clear h; intro y38 y40 h
    replace h := ltE h; obtain ⟨v41, e41, h⟩ := h
    apply AW.step
    ·simp [← e41]
     intros; rfl
    refine AW.seq ?_
    cases v41 with
    | true =>
     replace h := iteT rfl h
     refine AW.cond_true (by simp) ?_
     refine AW.skip ?_
     try simp only [sp_l, sp_r, Post.seq, Post.block, Nat.reduceEqDiff, reduceIte, Nat.zero_ne_one, Nat.one_ne_zero]
     try simp only [sp_l, sp_r, Post.seq, Post.block, Nat.reduceEqDiff, reduceIte, Nat.zero_ne_one, Nat.one_ne_zero]
     refine AW.seq ?_
     refine AW.block ?_
     replace h := bnE h; obtain ⟨v42, e42, h⟩ := h
     have f43 := nth_lt e42
     try simp [nth_d e42] at f43
     apply AW.step
     ·simp [nth_d e42, f43, encLI_cell0 (nth_d e42).2, lvs1]
      intros; rfl
     replace h := chkE h; obtain ⟨e44, h⟩ := h
     have f45 := nth_lt e42
     try simp [nth_d e42] at f45
     replace h := ltE h; obtain ⟨v46, e46, h⟩ := h
     have f47 := encLI_put0 (nth_d e42).2 e46 (cs := [.d false 1 (encI v42)]) (by simp) rfl
     try simp at f47
     have f48 := f45
     try simp only [set_len e46] at f48
     apply AW.drawnR (V := [_, _, _, _, _, _]) mixed [⟨[0], [], [(1, none)], false⟩, ⟨[0], [0], [(95, some 0)], false⟩, ⟨[0], [0, 1], [(96, some 1)], false⟩, ⟨[0], [], [(5, none)], false⟩, ⟨[0], [], [(6, none)], false⟩, ⟨[0], [4], [(99, some 4)], false⟩, ⟨[], [0, 1, 2, 3, 4, 5], [], false⟩, ⟨[], [0, 1, 2, 3, 4, 5, 6], [], false⟩] 6 (by kernel_rfl) (by kernel_rfl)
     ·refine ⟨?_, ?_, ?_, ?_, ?_, ?_, trivial⟩
      ·intro tm hr
       simp [AllL, rdV] at hr
       simp [hr, nth_d e42, f45, encLI_fit (nth_d e42).2 (show 1 ≤ 1 by decide), f47, f48]
       intros; first | exact KD.mk | exact KD.mkN
      ·intro tm hr
       simp [AllL, rdV] at hr
       simp [hr, nth_d e42, f45, encLI_fit (nth_d e42).2 (show 1 ≤ 1 by decide), f47, f48]
       intros; first | exact KD.mk | exact KD.mkN
      ·intro tm hr
       simp [AllL, rdV] at hr
       simp [hr, nth_d e42, f45, encLI_fit (nth_d e42).2 (show 1 ≤ 1 by decide), f47, f48]
       intros; first | exact KD.mk | exact KD.mkN
      ·intro tm hr
       simp [AllL, rdV] at hr
       simp [hr, nth_d e42, f45, encLI_fit (nth_d e42).2 (show 1 ≤ 1 by decide), f47, f48]
       intros; first | exact KD.mk | exact KD.mkN
      ·intro tm hr
       simp [AllL, rdV] at hr
       simp [hr, nth_d e42, f45, encLI_fit (nth_d e42).2 (show 1 ≤ 1 by decide), f47, f48]
       intros; first | exact KD.mk | exact KD.mkN
      ·intro tm hr
       simp [AllL, rdV] at hr
       simp [hr, nth_d e42, f45, encLI_fit (nth_d e42).2 (show 1 ≤ 1 by decide), f47, f48]
       intros
       refine xcall_plain en_cl_I (z_cl_I v42 (small_d e44)) rfl ⟨.d _ _ _, trivial⟩ ?_
       try simp [nth_d e42, f45, encLI_fit (nth_d e42).2 (show 1 ≤ 1 by decide), f47, f48]
       intros; first | exact KD.mk | exact KD.mkN
     ·rfl
     ·simp [tmD, putD, nth_d e42, f45, encLI_fit (nth_d e42).2 (show 1 ≤ 1 by decide), f47, f48]; rfl
     ·simp [nth_d e42, f45, encLI_fit (nth_d e42).2 (show 1 ≤ 1 by decide), f47, f48]
      intros; rfl
     try simp only [sp_l, sp_r, Post.seq, Post.block, Nat.reduceEqDiff, reduceIte, Nat.zero_ne_one, Nat.one_ne_zero]
     replace h := ltE h; obtain ⟨v49, e49, h⟩ := h
     apply AW.last
     ·simp [← e49]
      intros; rfl
     obtain rfl := Option.some.inj h
     refine nP_i ?_
     refine Weak.mixN [some 0, some 1, some 2, some 3, some 4, some 5, some 6, some 7, some 8, some 9] hn0 (by decide) ?_ ?_ rfl
     all_goals first | (simp [inv_cons, inv_nil, pickOb, set_len e46]; done) | rfl
    | false =>
     replace h := iteF rfl h
     refine AW.cond_false (by simp) ?_
     refine AW.exit ?_
     try simp only [sp_l, sp_r, Post.seq, Post.block, Nat.reduceEqDiff, reduceIte, Nat.zero_ne_one, Nat.one_ne_zero]
     obtain rfl := Option.some.inj h
     refine xP_i ?_
     refine Weak.mixN [some 0, some 1, some 3, some 4, some 5, some 6, some 7, some 8, some 2, some 9] hn0 (by decide) ?_ ?_ rfl
     all_goals first | (simp [inv_cons, inv_nil, pickOb]; done) | rfl
   ·rintro e s hp
    obtain ⟨rfl, hw⟩ := hp
    refine ⟨_, hw, ?_⟩
    try simp only [sp_l, sp_r, Post.seq, Post.block, Nat.reduceEqDiff, reduceIte, Nat.zero_ne_one, Nat.one_ne_zero]
    apply AW.step
    ·simp
     intros; rfl
    replace h := chkE h; obtain ⟨e50, h⟩ := h
    refine AW.frzRow 2 (ty := 63) (cap := none) (sz := 4) (es := encClaim a0.claims) (by simp) (by omega) (encClaim_sz _) (by first | exact (room_d e50).2 | simpa using (room_d e50).2 | simp) (by simp [Tm.frz, AV.frz, LV.frz]; rfl) (by simp [Ob.frz, LV.frz]; rfl) rfl ?_
    replace h := chkE h; obtain ⟨e51, h⟩ := h
    refine AW.frzRow 3 (ty := 95) (cap := none) (sz := 6) (es := encPair y9) (by simp) (by omega) (encPair_sz _) (by first | exact (room_d e51).2 | simpa using (room_d e51).2 | simp) (by simp [Tm.frz, AV.frz, LV.frz]; rfl) (by simp [Ob.frz, LV.frz]; rfl) rfl ?_
    replace h := chkE h; obtain ⟨e52, h⟩ := h
    refine AW.frzRow 4 (ty := 84) (cap := none) (sz := 4) (es := encMove a0.moves) (by simp) (by omega) (encMove_sz _) (by first | exact (room_d e52).2 | simpa using (room_d e52).2 | simp) (by simp [Tm.frz, AV.frz, LV.frz]; rfl) (by simp [Ob.frz, LV.frz]; rfl) rfl ?_
    replace h := chkE h; obtain ⟨e53, h⟩ := h
    refine AW.frzRow 5 (ty := 87) (cap := none) (sz := 3) (es := encSeen a0.seen) (by simp) (by omega) (encSeen_sz _) (by first | exact (room_d e53).2 | simpa using (room_d e53).2 | simp) (by simp [Tm.frz, AV.frz, LV.frz]; rfl) (by simp [Ob.frz, LV.frz]; rfl) rfl ?_
    replace h := chkE h; obtain ⟨e54, h⟩ := h
    refine AW.frzRow 6 (ty := 98) (cap := none) (sz := 7) (es := encEffect y23) (by simp) (by omega) (encEffect_sz _) (by first | exact (room_d e54).2 | simpa using (room_d e54).2 | simp) (by simp [Tm.frz, AV.frz, LV.frz]; rfl) (by simp [Ob.frz, LV.frz]; rfl) rfl ?_
    replace h := chkE h; obtain ⟨e55, h⟩ := h
    refine AW.frzRow 7 (ty := 3) (cap := none) (sz := 1) (es := encI a0.watch.heard) (by simp) (by omega) (encI_sz _) (by first | exact (room_d e55).2 | simpa using (room_d e55).2 | simp) (by simp [Tm.frz, AV.frz, LV.frz]; rfl) (by simp [Ob.frz, LV.frz]; rfl) rfl ?_
    replace h := chkE h; obtain ⟨e56, h⟩ := h
    refine AW.frzRow 8 (ty := 33) (cap := none) (sz := 1) (es := encLI y39) (by simp) (by omega) (encLI_sz _) (by first | exact (room_d e56).2 | simpa using (room_d e56).2 | simp) (by simp [Tm.frz, AV.frz, LV.frz]; rfl) (by simp [Ob.frz, LV.frz]; rfl) rfl ?_
    obtain rfl := Option.some.inj h
    refine AW.ret ?_
    refine Left.of (av := _) (by simp [Try.f19, resV, resC, comp]; rfl) ?_
    exact LeftV.mix 0 [some 9] hn0 rfl (by decide) rfl (by simp [pickOb, inv_cons, inv_nil]) (by simp [inv_cons, inv_nil])
theorem en_claims_Own_own : Enters Try.prog 19 := enters Try.func19 (by kernel_rfl) rfl
def slices_isNaN_int_sh (n : Nat) (a0 : Int) : Option Bool :=
lt (neI a0 a0) fun v1 =>
some v1
set_option maxRecDepth 8000 in
set_option maxHeartbeats 8000000 in
theorem s_slices_isNaN_int {n : Nat} {a0 : Int} {r : Bool} (h : slices_isNaN_int_sh n a0 = some r) : Sound Try.prog 47 [.l (.s (.int .i64 a0))] [] (.l (.s (.bool r))) [] := by
 unfold slices_isNaN_int_sh at h
 refine Sound.of_aw (fn := Try.f47) (c := _) Try.func47 rfl (by simp [Try.f47]) fun cx hG hnb => ?_
 rw [show Try.f47.ntmps = 6 from rfl]
 have hn0 : cx.nb = 0 := hnb
 simp only [st0_mk, initTm, List.map_cons, List.map_nil]
 apply AW.step
 ·simp
  intros; rfl
 replace h := ltE h; obtain ⟨v1, e1, h⟩ := h
 apply AW.step
 ·simp [← e1]
  intros; rfl
 obtain rfl := Option.some.inj h
 refine AW.ret ?_
 refine Left.plain hnb (by simp [Try.f47, resV, resC, comp]; rfl) rfl rfl ?_
 simp
theorem en_slices_isNaN_int : Enters Try.prog 47 := enters Try.func47 (by kernel_rfl) rfl
def slices_BinarySearch_int_sh (n : Nat) (a0 : List Int) (a1 : Int) : Option (Int × Bool) :=
lt (lenI a0) fun v1 =>
bn (iter n (fun (y2 : Int × Int) =>
lt (ltI y2.1 y2.2) fun v5 =>
ite' v5 (lt (addI .i64 y2.1 y2.2) fun v6 =>
lt (cvI .u64 v6) fun v7 =>
bn (shrI .u64 v7 1) fun v8 =>
lt (cvI .i64 v8) fun v9 =>
bn (nth a0 v9) fun v10 =>
bn (cmp_Less_int_sh n v10 a1) fun v11 =>
ite' v11 (lt (addI .i64 v9 1) fun v12 =>
some (.inl (v12, y2.2))) (some (.inl (y2.1, v9)))) (some (.inr y2.1))) (0, v1)) fun (y3 : Int) =>
bn (lt (ltI y3 v1) fun v14 =>
ite' v14 (bn (nth a0 y3) fun v15 =>
lt (eqI v15 a1) fun v16 =>
ite' v16 (some (true)) (bn (slices_isNaN_int_sh n v15) fun v17 =>
ite' v17 (bn (slices_isNaN_int_sh n a1) fun v18 =>
some (v18)) (some (false)))) (some (false))) fun (y13 : Bool) =>
some (y3, y13)
set_option maxRecDepth 8000 in
set_option maxHeartbeats 8000000 in
theorem s_slices_BinarySearch_int {n : Nat} {a0 : List Int} {a1 : Int} {r : Int × Bool} (h : slices_BinarySearch_int_sh n a0 a1 = some r) : Sound Try.prog 30 [.l (.d true 1 (encI a0)), .l (.s (.int .i64 a1))] [] (.t [(false, [.s (.int .i64 r.1)]), (false, [.s (.bool r.2)])]) [] := by
 unfold slices_BinarySearch_int_sh at h
 refine Sound.of_aw (fn := Try.f30) (c := _) Try.func30 rfl (by simp [Try.f30]) fun cx hG hnb => ?_
 rw [show Try.f30.ntmps = 54 from rfl]
 have hn0 : cx.nb = 0 := hnb
 simp only [st0_mk, initTm, List.map_cons, List.map_nil]
 apply AW.step
 ·simp
  intros; rfl
 replace h := ltE h; obtain ⟨v1, e1, h⟩ := h
 apply AW.step
 ·simp [lenI_cast e1]
  intros; rfl
 apply AW.step
 ·simp
  intros; rfl
 refine AW.seq ?_
 refine AW.block ?_
 replace h := bnE h; obtain ⟨y3, g3, h⟩ := h
 refine AW.iterP g3 (mk := fun gh ls q => (⟨[(0, .l (.d true 1 (encI a0))), (1, .l (.s (.int .i64 a1))), (6, .l (.s (.int .i64 v1))), (7, .l (.s (.int .i64 q.1))), (8, .l (.s (.int .i64 q.2)))], [], 54, gh, ls⟩ : St)) (N := fun gh ls => (xP 0 (cx := cx) (fun q => (⟨[(0, .l (.d true 1 (encI a0))), (1, .l (.s (.int .i64 a1))), (6, .l (.s (.int .i64 v1))), (7, .l (.s (.int .i64 q)))], [], 54, gh, ls⟩ : St)))) ?_ noX ?_ ?_
 ·refine Weak.mixN [] hn0 (by decide) ?_ ?_ rfl
  all_goals first | (simp [inv_cons, inv_nil, pickOb]; done) | rfl
 ·clear h; intro y2 y4 h
  refine AW.seq ?_
  replace h := ltE h; obtain ⟨v5, e5, h⟩ := h
  apply AW.step
  ·simp [← e5]
   intros; rfl
  cases v5 with
  | true =>
   replace h := iteT rfl h
   refine AW.cond_true (by simp) ?_
   refine AW.skip ?_
   try simp only [sp_l, sp_r, Post.seq, Post.block, Nat.reduceEqDiff, reduceIte, Nat.zero_ne_one, Nat.one_ne_zero]
   try simp only [sp_l, sp_r, Post.seq, Post.block, Nat.reduceEqDiff, reduceIte, Nat.zero_ne_one, Nat.one_ne_zero]
   refine AW.block ?_
   replace h := ltE h; obtain ⟨v6, e6, h⟩ := h
   replace h := ltE h; obtain ⟨v7, e7, h⟩ := h
   replace h := bnE h; obtain ⟨v8, e8, h⟩ := h
   replace h := ltE h; obtain ⟨v9, e9, h⟩ := h
   apply AW.step
   ·simp [← e6, ← e7, e8, ← e9]
    intros; rfl
   replace h := bnE h; obtain ⟨v10, e10, h⟩ := h
   replace h := bnE h; obtain ⟨v11, e11, h⟩ := h
   apply AW.step
   ·simp [nth_d e10]
    intros
    refine xcall_plain en_cmp_Less_int (s_cmp_Less_int e11) rfl ⟨.same rfl, .same rfl, trivial⟩ ?_
    try simp [nth_d e10]
    intros; rfl
   cases v11 with
   | true =>
    replace h := iteT rfl h
    refine AW.cond_true (by simp) ?_
    replace h := ltE h; obtain ⟨v12, e12, h⟩ := h
    apply AW.last
    ·simp [← e12]
     intros; rfl
    obtain rfl := Option.some.inj h
    refine nP_i ?_
    refine Weak.mixN [] hn0 (by decide) ?_ ?_ rfl
    all_goals first | (simp [inv_cons, inv_nil, pickOb]; done) | rfl
   | false =>
    replace h := iteF rfl h
    refine AW.cond_false (by simp) ?_
    apply AW.last
    ·simp
     intros; rfl
    obtain rfl := Option.some.inj h
    refine nP_i ?_
    refine Weak.mixN [] hn0 (by decide) ?_ ?_ rfl
    all_goals first | (simp [inv_cons, inv_nil, pickOb]; done) | rfl
  | false =>
   replace h := iteF rfl h
   refine AW.cond_false (by simp) ?_
   refine AW.exit ?_
   try simp only [sp_l, sp_r, Post.seq, Post.block, Nat.reduceEqDiff, reduceIte, Nat.zero_ne_one, Nat.one_ne_zero]
   obtain rfl := Option.some.inj h
   refine xP_i ?_
   refine Weak.mixN [] hn0 (by decide) ?_ ?_ rfl
   all_goals first | (simp [inv_cons, inv_nil, pickOb]; done) | rfl
 ·rintro e s hp
  obtain ⟨rfl, hw⟩ := hp
  refine ⟨_, hw, ?_⟩
  try simp only [sp_l, sp_r, Post.seq, Post.block, Nat.reduceEqDiff, reduceIte, Nat.zero_ne_one, Nat.one_ne_zero]
  replace h := bnE h; obtain ⟨y13, g13, h⟩ := h
  refine AW.flow (p := fun gh ls => (nP (cx := cx) (fun q => (⟨[(4, .l (.s (.int .i64 y3))), (5, .l (.s (.bool q)))], [], 54, gh, ls⟩ : St))) y13) ?_ ?_
  ·replace h := g13; clear g13
   replace h := ltE h; obtain ⟨v14, e14, h⟩ := h
   cases v14 with
   | true =>
    replace h := iteT rfl h
    replace h := bnE h; obtain ⟨v15, e15, h⟩ := h
    replace h := ltE h; obtain ⟨v16, e16, h⟩ := h
    cases v16 with
    | true =>
     replace h := iteT rfl h
     apply AW.last
     ·simp [← e14, nth_d e15, ← e16]
      intros; rfl
     obtain rfl := Option.some.inj h
     refine nP_i ?_
     refine Weak.mixN [] hn0 (by decide) ?_ ?_ rfl
     all_goals first | (simp [inv_cons, inv_nil, pickOb]; done) | rfl
    | false =>
     replace h := iteF rfl h
     replace h := bnE h; obtain ⟨v17, e17, h⟩ := h
     cases v17 with
     | true =>
      replace h := iteT rfl h
      replace h := bnE h; obtain ⟨v18, e18, h⟩ := h
      apply AW.last
      ·simp [← e14, nth_d e15, ← e16]
       intros
       refine xcall_plain en_slices_isNaN_int (s_slices_isNaN_int e17) rfl ⟨.same rfl, trivial⟩ ?_
       try simp [← e14, nth_d e15, ← e16]
       intros
       refine xcall_plain en_slices_isNaN_int (s_slices_isNaN_int e18) rfl ⟨.same rfl, trivial⟩ ?_
       try simp [← e14, nth_d e15, ← e16]
       intros; rfl
      obtain rfl := Option.some.inj h
      refine nP_i ?_
      refine Weak.mixN [] hn0 (by decide) ?_ ?_ rfl
      all_goals first | (simp [inv_cons, inv_nil, pickOb]; done) | rfl
     | false =>
      replace h := iteF rfl h
      apply AW.last
      ·simp [← e14, nth_d e15, ← e16]
       intros
       refine xcall_plain en_slices_isNaN_int (s_slices_isNaN_int e17) rfl ⟨.same rfl, trivial⟩ ?_
       try simp [← e14, nth_d e15, ← e16]
       intros; rfl
      obtain rfl := Option.some.inj h
      refine nP_i ?_
      refine Weak.mixN [] hn0 (by decide) ?_ ?_ rfl
      all_goals first | (simp [inv_cons, inv_nil, pickOb]; done) | rfl
   | false =>
    replace h := iteF rfl h
    apply AW.last
    ·simp [← e14]
     intros; rfl
    obtain rfl := Option.some.inj h
    refine nP_i ?_
    refine Weak.mixN [] hn0 (by decide) ?_ ?_ rfl
    all_goals first | (simp [inv_cons, inv_nil, pickOb]; done) | rfl
  ·rintro e s hp
   obtain ⟨rfl, hw⟩ := hp
   refine ⟨_, hw, ?_⟩
   try simp only [sp_l, sp_r, Post.seq, Post.block, Nat.reduceEqDiff, reduceIte, Nat.zero_ne_one, Nat.one_ne_zero]
   obtain rfl := Option.some.inj h
   refine AW.ret ?_
   refine Left.plain hnb (by simp [Try.f30, resV, resC, comp]; rfl) rfl rfl ?_
   simp
theorem en_slices_BinarySearch_int : Enters Try.prog 30 := enters Try.func30 (by kernel_rfl) rfl
def spans_said_t_sh (n : Nat) (a0 : List Span) : Option (List Span) :=
lt (lenI a0) fun v1 =>
bn (iter n (fun (y2 : Int × List Span) =>
lt (ltI y2.1 v1) fun v5 =>
ite' v5 (bn (bn (nth a0 y2.1) fun v7 =>
lt (maxI v7.frm 0) fun v8 =>
lt (minI v7.to 16383) fun v9 =>
lt (leI v8 v9) fun v10 =>
ite' v10 (chk (room (y2.2.length + 1) 16) <|
lt (y2.2 ++ [(⟨v8, v9⟩ : Span)]) fun v12 =>
some (v12)) (some (y2.2))) fun (y6 : List Span) =>
lt (addI .i64 y2.1 1) fun v13 =>
some (.inl (v13, y6))) (some (.inr y2.2))) (0, [])) fun (y3 : List Span) =>
bn (slices_SortFunc_api_Span_sh n y3) fun v14 =>
chk (lenB v14 y3) <|
chk (room v14.length 1) <|
some v14
set_option maxRecDepth 8000 in
set_option maxHeartbeats 8000000 in
theorem s_spans_said_t {n : Nat} {a0 : List Span} {r : List Span} (h : spans_said_t_sh n a0 = some r) : Sound Try.prog 73 [.l (.d true 2 (encSpan a0))] [] (.l (.d false 2 (encSpan r))) [] := by
 unfold spans_said_t_sh at h
 refine Sound.of_aw (fn := Try.f73) (c := _) Try.func73 rfl (by simp [Try.f73]) fun cx hG hnb => ?_
 rw [show Try.f73.ntmps = 32 from rfl]
 have hn0 : cx.nb = 0 := hnb
 simp only [st0_mk, initTm, List.map_cons, List.map_nil]
 apply AW.step
 ·simp
  intros; rfl
 apply AW.step
 ·simp
  intros; rfl
 refine AW.seq ?_
 replace h := ltE h; obtain ⟨v1, e1, h⟩ := h
 apply AW.step
 ·simp [lenI_cast e1]
  intros; rfl
 refine AW.block ?_
 replace h := bnE h; obtain ⟨y3, g3, h⟩ := h
 refine AW.iterP g3 (mk := fun gh ls q => (⟨[(3, .l (.r 0 2 0 q.2.length)), (6, .l (.d true 2 (encSpan a0))), (7, .l (.s (.int .i64 v1))), (8, .l (.s (.int .i64 q.1)))], [some ⟨71, 2, true, none, lvs (encSpan q.2)⟩], 32, gh, ls⟩ : St)) (N := fun gh ls => (xP 0 (cx := cx) (fun q => (⟨[(3, .l (.r 0 2 0 q.length))], [some ⟨71, 2, true, none, lvs (encSpan q)⟩], 32, gh, ls⟩ : St)))) ?_ noX ?_ ?_
 ·refine W.nilRow 3 71 2 0 (by simp) rfl rfl ?_
  refine Weak.mixN [some 0] hn0 (by decide) ?_ ?_ rfl
  all_goals first | (simp [inv_cons, inv_nil, pickOb]; done) | rfl
 ·clear h; intro y2 y4 h
  replace h := ltE h; obtain ⟨v5, e5, h⟩ := h
  apply AW.step
  ·simp [← e5]
   intros; rfl
  refine AW.seq ?_
  cases v5 with
  | true =>
   replace h := iteT rfl h
   refine AW.cond_true (by simp) ?_
   refine AW.skip ?_
   try simp only [sp_l, sp_r, Post.seq, Post.block, Nat.reduceEqDiff, reduceIte, Nat.zero_ne_one, Nat.one_ne_zero]
   try simp only [sp_l, sp_r, Post.seq, Post.block, Nat.reduceEqDiff, reduceIte, Nat.zero_ne_one, Nat.one_ne_zero]
   replace h := bnE h; obtain ⟨y6, g6, h⟩ := h
   refine AW.flow (p := fun gh ls => (nP (cx := cx) (fun q => (⟨[(3, .l (.r 0 2 0 q.length)), (6, .l (.d true 2 (encSpan a0))), (7, .l (.s (.int .i64 v1))), (8, .l (.s (.int .i64 y2.1)))], [some ⟨71, 2, true, none, lvs (encSpan q)⟩], 32, gh, ls⟩ : St))) y6) ?_ ?_
   ·replace h := g6; clear g6
    refine AW.block ?_
    replace h := bnE h; obtain ⟨v7, e7, h⟩ := h
    apply AW.step
    ·simp [nth_d e7]
     intros; rfl
    replace h := ltE h; obtain ⟨v8, e8, h⟩ := h
    replace h := ltE h; obtain ⟨v9, e9, h⟩ := h
    apply AW.step
    ·simp [← e8, ← e9]
     intros; rfl
    replace h := ltE h; obtain ⟨v10, e10, h⟩ := h
    apply AW.step
    ·simp [← e10]
     intros; rfl
    cases v10 with
    | true =>
     replace h := iteT rfl h
     refine AW.cond_true (by simp) ?_
     replace h := chkE h; obtain ⟨e11, h⟩ := h
     replace h := ltE h; obtain ⟨v12, e12, h⟩ := h
     apply AW.last
     ·simp [← encSpan_append, ← e12, app_len1 e12]
      intros
      refine xrow_own ?_
      try simp [← encSpan_append, ← e12, app_len1 e12]
      intros
      refine xapp_pushN (acc := encSpan y2.2) (ys := encSpan [(⟨v8, v9⟩ : Span)]) (cap := none) (k := 1) tb_el49 tb_ti71 (by simp) (by simp [encSpan, lvs]) (encSpan_sz _) (by simp) (by simp) (by first | (simp; done) | simpa using (room_d e11).1) ?_
      try simp [← encSpan_append, ← e12, app_len1 e12]
      intros; rfl
     obtain rfl := Option.some.inj h
     refine nP_i ?_
     refine Weak.mixN [some 3] hn0 (by decide) ?_ ?_ rfl
     all_goals first | (simp [inv_cons, inv_nil, pickOb, lvs_encSpan1]; done) | rfl
    | false =>
     replace h := iteF rfl h
     refine AW.cond_false (by simp) ?_
     refine AW.skip ?_
     try simp only [sp_l, sp_r, Post.seq, Post.block, Nat.reduceEqDiff, reduceIte, Nat.zero_ne_one, Nat.one_ne_zero]
     obtain rfl := Option.some.inj h
     refine nP_i ?_
     refine Weak.mixN [some 0] hn0 (by decide) ?_ ?_ rfl
     all_goals first | (simp [inv_cons, inv_nil, pickOb]; done) | rfl
   ·rintro e s hp
    obtain ⟨rfl, hw⟩ := hp
    refine ⟨_, hw, ?_⟩
    try simp only [sp_l, sp_r, Post.seq, Post.block, Nat.reduceEqDiff, reduceIte, Nat.zero_ne_one, Nat.one_ne_zero]
    replace h := ltE h; obtain ⟨v13, e13, h⟩ := h
    apply AW.last
    ·simp [← e13]
     intros; rfl
    obtain rfl := Option.some.inj h
    refine nP_i ?_
    refine Weak.mixN [some 0] hn0 (by decide) ?_ ?_ rfl
    all_goals first | (simp [inv_cons, inv_nil, pickOb]; done) | rfl
  | false =>
   replace h := iteF rfl h
   refine AW.cond_false (by simp) ?_
   refine AW.exit ?_
   try simp only [sp_l, sp_r, Post.seq, Post.block, Nat.reduceEqDiff, reduceIte, Nat.zero_ne_one, Nat.one_ne_zero]
   obtain rfl := Option.some.inj h
   refine xP_i ?_
   refine Weak.mixN [some 0] hn0 (by decide) ?_ ?_ rfl
   all_goals first | (simp [inv_cons, inv_nil, pickOb]; done) | rfl
 ·rintro e s hp
  obtain ⟨rfl, hw⟩ := hp
  refine ⟨_, hw, ?_⟩
  try simp only [sp_l, sp_r, Post.seq, Post.block, Nat.reduceEqDiff, reduceIte, Nat.zero_ne_one, Nat.one_ne_zero]
  refine AW.pin 0 (ty := 71) (sz := 2) (cs := lvs (encSpan y3)) (by simp) hn0 (by omega) rfl ?_
  replace h := bnE h; obtain ⟨v14, e14, h⟩ := h
  replace h := chkE h; obtain ⟨e15, h⟩ := h
  apply AW.step
  ·simp
   intros
   refine xcall_obs [0] en_slices_SortFunc_api_Span (s_slices_SortFunc_api_Span e14) (by decide) (by simp [pickOb, inv_cons, inv_nil]) rfl rfl (by simp) ⟨.l (.own' (by simp [inv_cons, inv_nil]) (by simp)), .l (.s _), trivial⟩ ?_
   try simp
   intros; rfl
  apply AW.step
  ·simp
   intros; rfl
  replace h := chkE h; obtain ⟨e16, h⟩ := h
  refine AW.unpin 0 (ty := 71) (sz := 2) (cs := lvs (encSpan v14)) (by simp) rfl ?_
  refine AW.frzRow 0 (ty := 71) (cap := none) (sz := 2) (es := encSpan v14) (by simp) (by omega) (encSpan_sz _) (by first | exact (room_d e16).2 | simpa using (room_d e16).2 | simp) (by simp [Tm.frz, AV.frz, LV.frz, lenB_e e15]; rfl) (by simp [Ob.frz, LV.frz, lenB_e e15]; rfl) rfl ?_
  obtain rfl := Option.some.inj h
  refine AW.ret ?_
  refine Left.plain hnb (by simp [Try.f73, resV, resC, comp]; rfl) rfl rfl ?_
  simp
theorem en_spans_said_t : Enters Try.prog 73 := enters Try.func73 (by kernel_rfl) rfl
def spans_Norm_t_sh (n : Nat) (a0 : List Span) : Option (List Span) :=
bn (spans_said_t_sh n a0) fun v1 =>
lt (lenI v1) fun v2 =>
bn (iter n (fun (y3 : Int × List Span) =>
lt (ltI y3.1 v2) fun v6 =>
ite' v6 (bn (bn (nth v1 y3.1) fun v8 =>
lt (lenI y3.2) fun v9 =>
bn (lt (gtI v9 0) fun v11 =>
ite' v11 (lt (subI .i64 v9 1) fun v12 =>
bn (nth y3.2 v12) fun v13 =>
lt (addI .i64 v13.to 1) fun v15 =>
lt (leI v8.frm v15) fun v16 =>
some (v16)) (some (false))) fun (y10 : Bool) =>
lt (y10) fun v17 =>
ite' v17 (lt (subI .i64 v9 1) fun v18 =>
bn (nth y3.2 v18) fun v19 =>
lt (maxI v19.to v8.to) fun v21 =>
lt (y3.2.set v18.toNat (⟨v19.frm, v21⟩ : Span)) fun v23 =>
some (v23)) (chk (room (y3.2.length + 1) 16) <|
lt (y3.2 ++ [v8]) fun v28 =>
some (v28))) fun (y7 : List Span) =>
lt (addI .i64 y3.1 1) fun v29 =>
some (.inl (v29, y7))) (some (.inr y3.2))) (0, [])) fun (y4 : List Span) =>
chk (room y4.length 1) <|
some y4
set_option maxRecDepth 8000 in
set_option maxHeartbeats 8000000 in
theorem s_spans_Norm_t {n : Nat} {a0 : List Span} {r : List Span} (h : spans_Norm_t_sh n a0 = some r) : Sound Try.prog 59 [.l (.d true 2 (encSpan a0))] [] (.l (.d false 2 (encSpan r))) [] := by
 unfold spans_Norm_t_sh at h
 refine Sound.of_aw (fn := Try.f59) (c := _) Try.func59 rfl (by simp [Try.f59]) fun cx hG hnb => ?_
 rw [show Try.f59.ntmps = 50 from rfl]
 have hn0 : cx.nb = 0 := hnb
 simp only [st0_mk, initTm, List.map_cons, List.map_nil]
 apply AW.step
 ·simp
  intros; rfl
 apply AW.step
 ·simp
  intros; rfl
 refine AW.seq ?_
 replace h := bnE h; obtain ⟨v1, e1, h⟩ := h
 replace h := ltE h; obtain ⟨v2, e2, h⟩ := h
 apply AW.step
 ·simp [lenI_cast e2]
  intros
  refine xcall_plain en_spans_said_t (s_spans_said_t e1) rfl ⟨.d _ _ _, trivial⟩ ?_
  try simp [lenI_cast e2]
  intros; rfl
 refine AW.block ?_
 replace h := bnE h; obtain ⟨y4, g4, h⟩ := h
 refine AW.iterP g4 (mk := fun gh ls q => (⟨[(3, .l (.r 0 2 0 q.2.length)), (8, .l (.d false 2 (encSpan v1))), (9, .l (.s (.int .i64 v2))), (10, .l (.s (.int .i64 q.1)))], [some ⟨71, 2, true, none, lvs (encSpan q.2)⟩], 50, gh, ls⟩ : St)) (N := fun gh ls => (xP 0 (cx := cx) (fun q => (⟨[(3, .l (.r 0 2 0 q.length))], [some ⟨71, 2, true, none, lvs (encSpan q)⟩], 50, gh, ls⟩ : St)))) ?_ noX ?_ ?_
 ·refine W.nilRow 3 71 2 0 (by simp) rfl rfl ?_
  refine Weak.mixN [some 0] hn0 (by decide) ?_ ?_ rfl
  all_goals first | (simp [inv_cons, inv_nil, pickOb]; done) | rfl
 ·clear h; intro y3 y5 h
  replace h := ltE h; obtain ⟨v6, e6, h⟩ := h
  apply AW.step
  ·simp [← e6]
   intros; rfl
  refine AW.seq ?_
  cases v6 with
  | true =>
   replace h := iteT rfl h
   refine AW.cond_true (by simp) ?_
   refine AW.skip ?_
   try simp only [sp_l, sp_r, Post.seq, Post.block, Nat.reduceEqDiff, reduceIte, Nat.zero_ne_one, Nat.one_ne_zero]
   try simp only [sp_l, sp_r, Post.seq, Post.block, Nat.reduceEqDiff, reduceIte, Nat.zero_ne_one, Nat.one_ne_zero]
   replace h := bnE h; obtain ⟨y7, g7, h⟩ := h
   refine AW.flow (p := fun gh ls => (nP (cx := cx) (fun q => (⟨[(3, .l (.r 0 2 0 q.length)), (8, .l (.d false 2 (encSpan v1))), (9, .l (.s (.int .i64 v2))), (10, .l (.s (.int .i64 y3.1)))], [some ⟨71, 2, true, none, lvs (encSpan q)⟩], 50, gh, ls⟩ : St))) y7) ?_ ?_
   ·replace h := g7; clear g7
    refine AW.block ?_
    replace h := bnE h; obtain ⟨v8, e8, h⟩ := h
    apply AW.step
    ·simp [nth_d e8]
     intros; rfl
    refine AW.seq ?_
    replace h := ltE h; obtain ⟨v9, e9, h⟩ := h
    apply AW.step
    ·simp [lenI_cast e9]
     intros; rfl
    replace h := bnE h; obtain ⟨y10, g10, h⟩ := h
    refine AW.flow (p := fun gh ls => (nP (cx := cx) (fun q => (⟨[(3, .l (.r 0 2 0 y3.2.length)), (5, .l (.p 1 0)), (6, .l (.s (.int .i64 v9))), (8, .l (.d false 2 (encSpan v1))), (9, .l (.s (.int .i64 v2))), (10, .l (.s (.int .i64 y3.1))), (29, .l (.s (.bool q)))], [some ⟨71, 2, true, none, lvs (encSpan y3.2)⟩, some ⟨71, 2, false, none, [.s (.int .i64 v8.frm), .s (.int .i64 v8.to)]⟩], 50, gh, ls⟩ : St))) y10) ?_ ?_
    ·replace h := g10; clear g10
     replace h := ltE h; obtain ⟨v11, e11, h⟩ := h
     cases v11 with
     | true =>
      replace h := iteT rfl h
      replace h := ltE h; obtain ⟨v12, e12, h⟩ := h
      replace h := bnE h; obtain ⟨v13, e13, h⟩ := h
      have f14 := nth_lt e13
      try simp [← e11, ← e12, nth_d e13] at f14
      replace h := ltE h; obtain ⟨v15, e15, h⟩ := h
      replace h := ltE h; obtain ⟨v16, e16, h⟩ := h
      apply AW.drawnR (V := [_, _, _, _, _, _, _, _, _, _, _, _]) mixed [⟨[0], [], [(6, none)], false⟩, ⟨[0], [0], [(16, some 0)], false⟩, ⟨[0], [0, 1], [(17, some 1)], false⟩, ⟨[0], [0, 1, 2], [(5, none), (18, some 2)], false⟩, ⟨[0], [0, 1, 2, 3], [(18, some 2), (19, some 3)], false⟩, ⟨[0], [0, 1, 2], [(3, none), (18, some 2)], false⟩, ⟨[0], [0, 1, 2], [(6, none), (18, some 2)], false⟩, ⟨[0], [0, 1, 2, 6], [(18, some 2), (22, some 6)], false⟩, ⟨[0], [0, 1, 2, 5, 6, 7], [(18, some 2), (21, some 5), (23, some 7)], false⟩, ⟨[0], [0, 1, 2, 5, 6, 7, 8], [(18, some 2), (24, some 8)], false⟩, ⟨[0], [0, 1, 2, 5, 6, 7, 8, 9], [(18, some 2), (25, some 9)], false⟩, ⟨[0], [0, 1, 2, 5, 6, 7, 8, 9, 10], [(18, some 2), (26, some 10)], false⟩, ⟨[], [0, 1, 2, 3, 4, 5, 6, 7, 8, 9, 10, 11], [], false⟩, ⟨[], [0, 1, 2, 3, 4, 5, 6, 7, 8, 9, 10, 11, 12], [], false⟩] 12 (by kernel_rfl) (by kernel_rfl)
      ·refine ⟨?_, ?_, ?_, ?_, ?_, ?_, ?_, ?_, ?_, ?_, ?_, ?_, trivial⟩
       ·intro tm hr
        simp [AllL, rdV] at hr
        simp [hr, ← e11, ← e12, nth_d e13, f14, encSpan_cell (nth_d e13).2 (j := 1) (by decide), lvs1, ← e15, ← e16]
        intros; first | exact KD.mk | exact KD.mkN
       ·intro tm hr
        simp [AllL, rdV] at hr
        simp [hr, ← e11, ← e12, nth_d e13, f14, encSpan_cell (nth_d e13).2 (j := 1) (by decide), lvs1, ← e15, ← e16]
        intros; first | exact KD.mk | exact KD.mkN
       ·intro tm hr
        simp [AllL, rdV] at hr
        simp [hr, ← e11, ← e12, nth_d e13, f14, encSpan_cell (nth_d e13).2 (j := 1) (by decide), lvs1, ← e15, ← e16]
        intros; first | exact KD.mk | exact KD.mkN
       ·intro tm hr
        simp [AllL, rdV] at hr
        simp [hr, ← e11, ← e12, nth_d e13, f14, encSpan_cell (nth_d e13).2 (j := 1) (by decide), lvs1, ← e15, ← e16]
        intros; first | exact KD.mk | exact KD.mkN
       ·intro tm hr
        simp [AllL, rdV] at hr
        simp [hr, ← e11, ← e12, nth_d e13, f14, encSpan_cell (nth_d e13).2 (j := 1) (by decide), lvs1, ← e15, ← e16]
        intros; first | exact KD.mk | exact KD.mkN
       ·intro tm hr
        simp [AllL, rdV] at hr
        simp [hr, ← e11, ← e12, nth_d e13, f14, encSpan_cell (nth_d e13).2 (j := 1) (by decide), lvs1, ← e15, ← e16]
        intros; first | exact KD.mk | exact KD.mkN
       ·intro tm hr
        simp [AllL, rdV] at hr
        simp [hr, ← e11, ← e12, nth_d e13, f14, encSpan_cell (nth_d e13).2 (j := 1) (by decide), lvs1, ← e15, ← e16]
        intros; first | exact KD.mk | exact KD.mkN
       ·intro tm hr
        simp [AllL, rdV] at hr
        simp [hr, ← e11, ← e12, nth_d e13, f14, encSpan_cell (nth_d e13).2 (j := 1) (by decide), lvs1, ← e15, ← e16]
        intros; first | exact KD.mk | exact KD.mkN
       ·intro tm hr
        simp [AllL, rdV] at hr
        simp [hr, ← e11, ← e12, nth_d e13, f14, encSpan_cell (nth_d e13).2 (j := 1) (by decide), lvs1, ← e15, ← e16]
        intros; first | exact KD.mk | exact KD.mkN
       ·intro tm hr
        simp [AllL, rdV] at hr
        simp [hr, ← e11, ← e12, nth_d e13, f14, encSpan_cell (nth_d e13).2 (j := 1) (by decide), lvs1, ← e15, ← e16]
        intros; first | exact KD.mk | exact KD.mkN
       ·intro tm hr
        simp [AllL, rdV] at hr
        simp [hr, ← e11, ← e12, nth_d e13, f14, encSpan_cell (nth_d e13).2 (j := 1) (by decide), lvs1, ← e15, ← e16]
        intros; first | exact KD.mk | exact KD.mkN
       ·intro tm hr
        simp [AllL, rdV] at hr
        simp [hr, ← e11, ← e12, nth_d e13, f14, encSpan_cell (nth_d e13).2 (j := 1) (by decide), lvs1, ← e15, ← e16]
        intros; first | exact KD.mk | exact KD.mkN
      ·rfl
      ·simp [tmD, putD, ← e11, ← e12, nth_d e13, f14, encSpan_cell (nth_d e13).2 (j := 1) (by decide), lvs1, ← e15, ← e16]; rfl
      ·simp [← e11, ← e12, nth_d e13, f14, encSpan_cell (nth_d e13).2 (j := 1) (by decide), lvs1, ← e15, ← e16]
       intros; rfl
      obtain rfl := Option.some.inj h
      refine nP_i ?_
      refine Weak.mixN [some 0, some 1] hn0 (by decide) ?_ ?_ rfl
      all_goals first | (simp [inv_cons, inv_nil, pickOb]; done) | rfl
     | false =>
      replace h := iteF rfl h
      apply AW.drawnR (V := [_, _, _, _, _, _, _, _, _, _, _, _]) mixed [⟨[0], [], [(6, none)], false⟩, ⟨[0], [0], [(16, some 0)], false⟩, ⟨[0], [0, 1], [(17, some 1)], false⟩, ⟨[0], [0, 1, 2], [(5, none), (18, some 2)], false⟩, ⟨[0], [0, 1, 2, 3], [(18, some 2), (19, some 3)], false⟩, ⟨[0], [0, 1, 2], [(3, none), (18, some 2)], false⟩, ⟨[0], [0, 1, 2], [(6, none), (18, some 2)], false⟩, ⟨[0], [0, 1, 2, 6], [(18, some 2), (22, some 6)], false⟩, ⟨[0], [0, 1, 2, 5, 6, 7], [(18, some 2), (21, some 5), (23, some 7)], false⟩, ⟨[0], [0, 1, 2, 5, 6, 7, 8], [(18, some 2), (24, some 8)], false⟩, ⟨[0], [0, 1, 2, 5, 6, 7, 8, 9], [(18, some 2), (25, some 9)], false⟩, ⟨[0], [0, 1, 2, 5, 6, 7, 8, 9, 10], [(18, some 2), (26, some 10)], false⟩, ⟨[], [0, 1, 2, 3, 4, 5, 6, 7, 8, 9, 10, 11], [], false⟩, ⟨[], [0, 1, 2, 3, 4, 5, 6, 7, 8, 9, 10, 11, 12], [], false⟩] 12 (by kernel_rfl) (by kernel_rfl)
      ·refine ⟨?_, ?_, ?_, ?_, ?_, ?_, ?_, ?_, ?_, ?_, ?_, ?_, trivial⟩
       ·intro tm hr
        simp [AllL, rdV] at hr
        simp [hr, ← e11]
        intros; first | exact KD.mk | exact KD.mkN
       ·intro tm hr
        simp [AllL, rdV] at hr
        simp [hr, ← e11]
        intros; first | exact KD.mk | exact KD.mkN
       ·intro tm hr
        simp [AllL, rdV] at hr
        simp [hr, ← e11]
        intros; first | exact KD.mk | exact KD.mkN
       ·intro tm hr
        simp [AllL, rdV] at hr
        simp [hr, ← e11]
        intros; first | exact KD.mk | exact KD.mkN
       ·intro tm hr
        simp [AllL, rdV] at hr
        simp [hr, ← e11]
        intros; first | exact KD.mk | exact KD.mkN
       ·intro tm hr
        simp [AllL, rdV] at hr
        simp [hr, ← e11]
        intros; first | exact KD.mk | exact KD.mkN
       ·intro tm hr
        simp [AllL, rdV] at hr
        simp [hr, ← e11]
        intros; first | exact KD.mk | exact KD.mkN
       ·intro tm hr
        simp [AllL, rdV] at hr
        simp [hr, ← e11]
        intros; first | exact KD.mk | exact KD.mkN
       ·intro tm hr
        simp [AllL, rdV] at hr
        simp [hr, ← e11]
        intros; first | exact KD.mk | exact KD.mkN
       ·intro tm hr
        simp [AllL, rdV] at hr
        simp [hr, ← e11]
        intros; first | exact KD.mk | exact KD.mkN
       ·intro tm hr
        simp [AllL, rdV] at hr
        simp [hr, ← e11]
        intros; first | exact KD.mk | exact KD.mkN
       ·intro tm hr
        simp [AllL, rdV] at hr
        simp [hr, ← e11]
        intros; first | exact KD.mk | exact KD.mkN
      ·rfl
      ·simp [tmD, putD, ← e11]; rfl
      ·simp [← e11]
       intros; rfl
      obtain rfl := Option.some.inj h
      refine nP_i ?_
      refine Weak.mixN [some 0, some 1] hn0 (by decide) ?_ ?_ rfl
      all_goals first | (simp [inv_cons, inv_nil, pickOb]; done) | rfl
    ·rintro e s hp
     obtain ⟨rfl, hw⟩ := hp
     refine ⟨_, hw, ?_⟩
     try simp only [sp_l, sp_r, Post.seq, Post.block, Nat.reduceEqDiff, reduceIte, Nat.zero_ne_one, Nat.one_ne_zero]
     replace h := ltE h; obtain ⟨v17, e17, h⟩ := h
     rw [← e17]
     cases v17 with
     | true =>
      replace h := iteT rfl h
      refine AW.cond_true (by simp) ?_
      replace h := ltE h; obtain ⟨v18, e18, h⟩ := h
      replace h := bnE h; obtain ⟨v19, e19, h⟩ := h
      have f20 := nth_lt e19
      try simp [← e18, nth_d e19] at f20
      replace h := ltE h; obtain ⟨v21, e21, h⟩ := h
      have f22 := nth_lt e19
      try simp [← e18, nth_d e19, f20, encSpan_cell (nth_d e19).2 (j := 1) (by decide), lvs1, ← e21] at f22
      replace h := ltE h; obtain ⟨v23, e23, h⟩ := h
      have f24 := encSpan_put (nth_d e19).2 e23 (j := 1) (cs := [.s (.int .i64 v21)]) (by simp) rfl
      try simp at f24
      have f25 := f20
      try simp only [set_len e23] at f25
      have f26 := f22
      try simp only [set_len e23] at f26
      apply AW.drawnP (V := [_, _, _, _, _, _, _, _, _, _, _, _]) mixed [⟨[0], [], [(3, none)], false⟩, ⟨[0], [], [(6, none)], false⟩, ⟨[0], [1], [(31, some 1)], false⟩, ⟨[0], [], [(3, none)], false⟩, ⟨[0], [], [(6, none)], false⟩, ⟨[0], [4], [(34, some 4)], false⟩, ⟨[0], [3, 4, 5], [(33, some 3), (35, some 5)], false⟩, ⟨[0], [3, 4, 5, 6], [(36, some 6)], false⟩, ⟨[0], [3, 4, 5, 6, 7], [(37, some 7)], false⟩, ⟨[0], [], [(5, none)], false⟩, ⟨[0], [9], [(39, some 9)], false⟩, ⟨[0], [3, 4, 5, 6, 7, 8, 9, 10], [(38, some 8), (40, some 10)], false⟩, ⟨[], [0, 1, 2, 3, 4, 5, 6, 7, 8, 9, 10, 11], [], false⟩, ⟨[], [0, 1, 2, 3, 4, 5, 6, 7, 8, 9, 10, 11, 12], [], false⟩, ⟨[], [0, 1, 2, 3, 4, 5, 6, 7, 8, 9, 10, 11, 12, 13], [], false⟩] 12 (by kernel_rfl) (by kernel_rfl)
      ·refine ⟨?_, ?_, ?_, ?_, ?_, ?_, ?_, ?_, ?_, ?_, ?_, ?_, trivial⟩
       ·intro tm hr
        simp [AllL, rdV] at hr
        simp [hr, ← e18, nth_d e19, f20, encSpan_cell (nth_d e19).2 (j := 1) (by decide), lvs1, ← e21, f22, encSpan_fitj (nth_d e19).2 (j := 1) (m := 1) (by decide), f24, f25, f26]
        intros; first | exact KD.mk | exact KD.mkN
       ·intro tm hr
        simp [AllL, rdV] at hr
        simp [hr, ← e18, nth_d e19, f20, encSpan_cell (nth_d e19).2 (j := 1) (by decide), lvs1, ← e21, f22, encSpan_fitj (nth_d e19).2 (j := 1) (m := 1) (by decide), f24, f25, f26]
        intros; first | exact KD.mk | exact KD.mkN
       ·intro tm hr
        simp [AllL, rdV] at hr
        simp [hr, ← e18, nth_d e19, f20, encSpan_cell (nth_d e19).2 (j := 1) (by decide), lvs1, ← e21, f22, encSpan_fitj (nth_d e19).2 (j := 1) (m := 1) (by decide), f24, f25, f26]
        intros; first | exact KD.mk | exact KD.mkN
       ·intro tm hr
        simp [AllL, rdV] at hr
        simp [hr, ← e18, nth_d e19, f20, encSpan_cell (nth_d e19).2 (j := 1) (by decide), lvs1, ← e21, f22, encSpan_fitj (nth_d e19).2 (j := 1) (m := 1) (by decide), f24, f25, f26]
        intros; first | exact KD.mk | exact KD.mkN
       ·intro tm hr
        simp [AllL, rdV] at hr
        simp [hr, ← e18, nth_d e19, f20, encSpan_cell (nth_d e19).2 (j := 1) (by decide), lvs1, ← e21, f22, encSpan_fitj (nth_d e19).2 (j := 1) (m := 1) (by decide), f24, f25, f26]
        intros; first | exact KD.mk | exact KD.mkN
       ·intro tm hr
        simp [AllL, rdV] at hr
        simp [hr, ← e18, nth_d e19, f20, encSpan_cell (nth_d e19).2 (j := 1) (by decide), lvs1, ← e21, f22, encSpan_fitj (nth_d e19).2 (j := 1) (m := 1) (by decide), f24, f25, f26]
        intros; first | exact KD.mk | exact KD.mkN
       ·intro tm hr
        simp [AllL, rdV] at hr
        simp [hr, ← e18, nth_d e19, f20, encSpan_cell (nth_d e19).2 (j := 1) (by decide), lvs1, ← e21, f22, encSpan_fitj (nth_d e19).2 (j := 1) (m := 1) (by decide), f24, f25, f26]
        intros; first | exact KD.mk | exact KD.mkN
       ·intro tm hr
        simp [AllL, rdV] at hr
        simp [hr, ← e18, nth_d e19, f20, encSpan_cell (nth_d e19).2 (j := 1) (by decide), lvs1, ← e21, f22, encSpan_fitj (nth_d e19).2 (j := 1) (m := 1) (by decide), f24, f25, f26]
        intros; first | exact KD.mk | exact KD.mkN
       ·intro tm hr
        simp [AllL, rdV] at hr
        simp [hr, ← e18, nth_d e19, f20, encSpan_cell (nth_d e19).2 (j := 1) (by decide), lvs1, ← e21, f22, encSpan_fitj (nth_d e19).2 (j := 1) (m := 1) (by decide), f24, f25, f26]
        intros; first | exact KD.mk | exact KD.mkN
       ·intro tm hr
        simp [AllL, rdV] at hr
        simp [hr, ← e18, nth_d e19, f20, encSpan_cell (nth_d e19).2 (j := 1) (by decide), lvs1, ← e21, f22, encSpan_fitj (nth_d e19).2 (j := 1) (m := 1) (by decide), f24, f25, f26]
        intros; first | exact KD.mk | exact KD.mkN
       ·intro tm hr
        simp [AllL, rdV] at hr
        simp [hr, ← e18, nth_d e19, f20, encSpan_cell (nth_d e19).2 (j := 1) (by decide), lvs1, ← e21, f22, encSpan_fitj (nth_d e19).2 (j := 1) (m := 1) (by decide), f24, f25, f26]
        intros; first | exact KD.mk | exact KD.mkN
       ·intro tm hr
        simp [AllL, rdV] at hr
        simp [hr, ← e18, nth_d e19, f20, encSpan_cell (nth_d e19).2 (j := 1) (by decide), lvs1, ← e21, f22, encSpan_fitj (nth_d e19).2 (j := 1) (m := 1) (by decide), f24, f25, f26]
        intros; first | exact KD.mk | exact KD.mkN
      ·rfl
      ·simp [tmD, putD, ← e18, nth_d e19, f20, encSpan_cell (nth_d e19).2 (j := 1) (by decide), lvs1, ← e21, f22, encSpan_fitj (nth_d e19).2 (j := 1) (m := 1) (by decide), f24, f25, f26]; rfl
      ·simp [← e18, nth_d e19, f20, encSpan_cell (nth_d e19).2 (j := 1) (by decide), lvs1, ← e21, f22, encSpan_fitj (nth_d e19).2 (j := 1) (m := 1) (by decide), f24, f25, f26]
       intros; rfl
      refine AW.exit ?_
      try simp only [sp_l, sp_r, Post.seq, Post.block, Nat.reduceEqDiff, reduceIte, Nat.zero_ne_one, Nat.one_ne_zero]
      obtain rfl := Option.some.inj h
      refine nP_i ?_
      refine Weak.mixN [some 0] hn0 (by decide) ?_ ?_ rfl
      all_goals first | (simp [inv_cons, inv_nil, pickOb, set_len e23]; done) | rfl
     | false =>
      replace h := iteF rfl h
      refine AW.cond_false (by simp) ?_
      refine AW.skip ?_
      try simp only [sp_l, sp_r, Post.seq, Post.block, Nat.reduceEqDiff, reduceIte, Nat.zero_ne_one, Nat.one_ne_zero]
      try simp only [sp_l, sp_r, Post.seq, Post.block, Nat.reduceEqDiff, reduceIte, Nat.zero_ne_one, Nat.one_ne_zero]
      replace h := chkE h; obtain ⟨e27, h⟩ := h
      replace h := ltE h; obtain ⟨v28, e28, h⟩ := h
      apply AW.last
      ·simp [← encSpan_append, ← e28, app_len1 e28]
       intros
       refine xrow_own ?_
       try simp [← encSpan_append, ← e28, app_len1 e28]
       intros
       refine xapp_pushN (acc := encSpan y3.2) (ys := encSpan [v8]) (cap := none) (k := 1) tb_el49 tb_ti71 (by simp) (by simp [encSpan, lvs]) (encSpan_sz _) (by simp) (by simp) (by first | (simp; done) | simpa using (room_d e27).1) ?_
       try simp [← encSpan_append, ← e28, app_len1 e28]
       intros; rfl
      obtain rfl := Option.some.inj h
      refine nP_i ?_
      refine Weak.mixN [some 3] hn0 (by decide) ?_ ?_ rfl
      all_goals first | (simp [inv_cons, inv_nil, pickOb, lvs_encSpan1]; done) | rfl
   ·rintro e s hp
    obtain ⟨rfl, hw⟩ := hp
    refine ⟨_, hw, ?_⟩
    try simp only [sp_l, sp_r, Post.seq, Post.block, Nat.reduceEqDiff, reduceIte, Nat.zero_ne_one, Nat.one_ne_zero]
    replace h := ltE h; obtain ⟨v29, e29, h⟩ := h
    apply AW.last
    ·simp [← e29]
     intros; rfl
    obtain rfl := Option.some.inj h
    refine nP_i ?_
    refine Weak.mixN [some 0] hn0 (by decide) ?_ ?_ rfl
    all_goals first | (simp [inv_cons, inv_nil, pickOb]; done) | rfl
  | false =>
   replace h := iteF rfl h
   refine AW.cond_false (by simp) ?_
   refine AW.exit ?_
   try simp only [sp_l, sp_r, Post.seq, Post.block, Nat.reduceEqDiff, reduceIte, Nat.zero_ne_one, Nat.one_ne_zero]
   obtain rfl := Option.some.inj h
   refine xP_i ?_
   refine Weak.mixN [some 0] hn0 (by decide) ?_ ?_ rfl
   all_goals first | (simp [inv_cons, inv_nil, pickOb]; done) | rfl
 ·rintro e s hp
  obtain ⟨rfl, hw⟩ := hp
  refine ⟨_, hw, ?_⟩
  try simp only [sp_l, sp_r, Post.seq, Post.block, Nat.reduceEqDiff, reduceIte, Nat.zero_ne_one, Nat.one_ne_zero]
  apply AW.step
  ·simp
   intros; rfl
  replace h := chkE h; obtain ⟨e30, h⟩ := h
  refine AW.frzRow 0 (ty := 71) (cap := none) (sz := 2) (es := encSpan y4) (by simp) (by omega) (encSpan_sz _) (by first | exact (room_d e30).2 | simpa using (room_d e30).2 | simp) (by simp [Tm.frz, AV.frz, LV.frz]; rfl) (by simp [Ob.frz, LV.frz]; rfl) rfl ?_
  obtain rfl := Option.some.inj h
  refine AW.ret ?_
  refine Left.plain hnb (by simp [Try.f59, resV, resC, comp]; rfl) rfl rfl ?_
  simp
theorem en_spans_Norm_t : Enters Try.prog 59 := enters Try.func59 (by kernel_rfl) rfl
def claims_Give_ftff_sh (n : Nat) (a0 : List Claim) (a1 : List Span) (a2 : Int) (a3 : Int) : Option (List Claim) :=
bn (spans_Norm_t_sh n a1) fun v1 =>
lt (lenI v1) fun v2 =>
bn (iter n (fun (y3 : Int × List Claim) =>
lt (ltI y3.1 v2) fun v6 =>
ite' v6 (bn (nth v1 y3.1) fun v7 =>
chk (room (y3.2.length + 1) 32) <|
lt (y3.2 ++ [(⟨v7.frm, v7.to, a2, a3⟩ : Claim)]) fun v9 =>
lt (addI .i64 y3.1 1) fun v10 =>
some (.inl (v10, v9))) (some (.inr y3.2))) (0, [])) fun (y4 : List Claim) =>
bn (chk (room y4.length 1) <|
bn (claims_pieces_sh n a0 y4) fun v13 =>
bn (iter n (fun (y14 : Int × List Claim × List Claim × ClaimsPiece × List Claim) =>
lt (leI y14.1 16383) fun v17 =>
ite' v17 (bn (claims_next_sh n y14.2.1 y14.1) fun v18 =>
bn (claims_next_sh n y14.2.2.1 y14.1) fun v19 =>
lt (minI v18.1.to v19.1.to) fun v20 =>
bn (lt (gtI v19.1.epoch 0) fun v22 =>
ite' v22 (some ((⟨(⟨v19.1.frm, v20, v19.1.node, v19.1.epoch⟩ : Claim), (⟨v19.1.frm, v20, v19.1.node, v19.1.epoch⟩ : Claim)⟩ : ClaimsPiece))) (some ((⟨(⟨v18.1.frm, v20, v18.1.node, v18.1.epoch⟩ : Claim), (⟨v19.1.frm, v20, v19.1.node, v19.1.epoch⟩ : Claim)⟩ : ClaimsPiece)))) fun (y21 : ClaimsPiece) =>
bn (claims_put_xf_sh n y14.2.2.2.2 y21.a) fun v23 =>
lt (addI .i64 v20 1) fun v24 =>
some (.inl (v24, v18.2, v19.2, (⟨(⟨v18.1.frm, v20, v18.1.node, v18.1.epoch⟩ : Claim), (⟨v19.1.frm, v20, v19.1.node, v19.1.epoch⟩ : Claim)⟩ : ClaimsPiece), v23))) (some (.inr (y14.2.1, y14.2.2.1, y14.2.2.2.2)))) (0, v13.1, v13.2, (⟨(⟨0, 0, 0, 0⟩ : Claim), (⟨0, 0, 0, 0⟩ : Claim)⟩ : ClaimsPiece), [])) fun (y15 : List Claim × List Claim × List Claim) =>
some (y15.2.2)) fun (y11 : List Claim) =>
chk (room y11.length 1) <|
some y11
set_option maxRecDepth 8000 in
set_option maxHeartbeats 8000000 in
theorem s_claims_Give_ftff {n : Nat} {a0 : List Claim} {a1 : List Span} {a2 : Int} {a3 : Int} {r : List Claim} (h : claims_Give_ftff_sh n a0 a1 a2 a3 = some r) : Sound Try.prog 50 [.l (.d false 4 (encClaim a0)), .l (.d true 2 (encSpan a1)), .l (.s (.int .i64 a2)), .l (.s (.int .i64 a3))] [] (.l (.d false 4 (encClaim r))) [] := by
 unfold claims_Give_ftff_sh at h
 refine Sound.of_aw (fn := Try.f50) (c := _) Try.func50 rfl (by simp [Try.f50]) fun cx hG hnb => ?_
 rw [show Try.f50.ntmps = 48 from rfl]
 have hn0 : cx.nb = 0 := hnb
 simp only [st0_mk, initTm, List.map_cons, List.map_nil]
 apply AW.step
 ·simp
  intros; rfl
 apply AW.step
 ·simp
  intros; rfl
 refine AW.seq ?_
 replace h := bnE h; obtain ⟨v1, e1, h⟩ := h
 replace h := ltE h; obtain ⟨v2, e2, h⟩ := h
 apply AW.step
 ·simp [lenI_cast e2]
  intros
  refine xcall_plain en_spans_Norm_t (s_spans_Norm_t e1) rfl ⟨.d _ _ _, trivial⟩ ?_
  try simp [lenI_cast e2]
  intros; rfl
 refine AW.block ?_
 replace h := bnE h; obtain ⟨y4, g4, h⟩ := h
 refine AW.iterP g4 (mk := fun gh ls q => (⟨[(0, .l (.d false 4 (encClaim a0))), (2, .l (.s (.int .i64 a2))), (3, .l (.s (.int .i64 a3))), (9, .l (.r 0 4 0 q.2.length)), (10, .l (.p 1 0)), (15, .l (.d false 2 (encSpan v1))), (16, .l (.s (.int .i64 v2))), (17, .l (.s (.int .i64 q.1)))], [some ⟨63, 4, true, none, lvs (encClaim q.2)⟩, some ⟨24, 1, false, none, [.s (.slice none 0 0)]⟩], 48, gh, ls⟩ : St)) (N := fun gh ls => (xP 0 (cx := cx) (fun q => (⟨[(0, .l (.d false 4 (encClaim a0))), (9, .l (.r 0 4 0 q.length)), (10, .l (.p 1 0))], [some ⟨63, 4, true, none, lvs (encClaim q)⟩, some ⟨24, 1, false, none, [.s (.slice none 0 0)]⟩], 48, gh, ls⟩ : St)))) ?_ noX ?_ ?_
 ·refine W.nilRow 9 63 4 1 (by simp) rfl rfl ?_
  refine Weak.mixN [some 1, some 0] hn0 (by decide) ?_ ?_ rfl
  all_goals first | (simp [inv_cons, inv_nil, pickOb]; done) | rfl
 ·clear h; intro y3 y5 h
  replace h := ltE h; obtain ⟨v6, e6, h⟩ := h
  apply AW.step
  ·simp [← e6]
   intros; rfl
  refine AW.seq ?_
  cases v6 with
  | true =>
   replace h := iteT rfl h
   refine AW.cond_true (by simp) ?_
   refine AW.skip ?_
   try simp only [sp_l, sp_r, Post.seq, Post.block, Nat.reduceEqDiff, reduceIte, Nat.zero_ne_one, Nat.one_ne_zero]
   try simp only [sp_l, sp_r, Post.seq, Post.block, Nat.reduceEqDiff, reduceIte, Nat.zero_ne_one, Nat.one_ne_zero]
   refine AW.seq ?_
   refine AW.block ?_
   replace h := bnE h; obtain ⟨v7, e7, h⟩ := h
   apply AW.step
   ·simp [nth_d e7]
    intros; rfl
   replace h := chkE h; obtain ⟨e8, h⟩ := h
   replace h := ltE h; obtain ⟨v9, e9, h⟩ := h
   apply AW.last
   ·simp [← encClaim_append, ← e9, app_len1 e9]
    intros
    refine xrow_own ?_
    try simp [← encClaim_append, ← e9, app_len1 e9]
    intros
    refine xapp_pushN (acc := encClaim y3.2) (ys := encClaim [(⟨v7.frm, v7.to, a2, a3⟩ : Claim)]) (cap := none) (k := 1) tb_el24 tb_ti63 (by simp) (by simp [encClaim, lvs]) (encClaim_sz _) (by simp) (by simp) (by first | (simp; done) | simpa using (room_d e8).1) ?_
    try simp [← encClaim_append, ← e9, app_len1 e9]
    intros; rfl
   try simp only [sp_l, sp_r, Post.seq, Post.block, Nat.reduceEqDiff, reduceIte, Nat.zero_ne_one, Nat.one_ne_zero]
   replace h := ltE h; obtain ⟨v10, e10, h⟩ := h
   apply AW.last
   ·simp [← e10]
    intros; rfl
   obtain rfl := Option.some.inj h
   refine nP_i ?_
   refine Weak.mixN [some 4, some 1] hn0 (by decide) ?_ ?_ rfl
   all_goals first | (simp [inv_cons, inv_nil, pickOb, lvs_encClaim1]; done) | rfl
  | false =>
   replace h := iteF rfl h
   refine AW.cond_false (by simp) ?_
   refine AW.exit ?_
   try simp only [sp_l, sp_r, Post.seq, Post.block, Nat.reduceEqDiff, reduceIte, Nat.zero_ne_one, Nat.one_ne_zero]
   obtain rfl := Option.some.inj h
   refine xP_i ?_
   refine Weak.mixN [some 0, some 1] hn0 (by decide) ?_ ?_ rfl
   all_goals first | (simp [inv_cons, inv_nil, pickOb]; done) | rfl
 ·rintro e s hp
  obtain ⟨rfl, hw⟩ := hp
  refine ⟨_, hw, ?_⟩
  try simp only [sp_l, sp_r, Post.seq, Post.block, Nat.reduceEqDiff, reduceIte, Nat.zero_ne_one, Nat.one_ne_zero]
  replace h := bnE h; obtain ⟨y11, g11, h⟩ := h
  refine AW.flow (p := fun gh ls => (nP (cx := cx) (fun q => (⟨[(10, .l (.p 0 0))], [some ⟨24, 1, false, none, [.r 1 4 0 q.length]⟩, some ⟨63, 4, true, none, lvs (encClaim q)⟩], 48, gh, ls⟩ : St))) y11) ?_ ?_
  ·replace h := g11; clear g11
   replace h := chkE h; obtain ⟨e12, h⟩ := h
   refine AW.frzRow 0 (ty := 63) (cap := none) (sz := 4) (es := encClaim y4) (by simp) (by omega) (encClaim_sz _) (by first | exact (room_d e12).2 | simpa using (room_d e12).2 | simp) (by simp [Tm.frz, AV.frz, LV.frz]; rfl) (by simp [Ob.frz, LV.frz]; rfl) rfl ?_
   replace h := bnE h; obtain ⟨v13, e13, h⟩ := h
   apply AW.step
   ·simp
    intros
    refine xcall_new en_claims_pieces (s_claims_pieces e13) rfl (by simp) ⟨.same rfl, .same rfl, trivial⟩ ?_
    try simp
    intros; rfl
   refine AW.block ?_
   refine AW.weak (Weak.keep [(10, .l (.p 1 0)), (34, .l (.f 74 [2, 3]))] (by simp)) ?_
   refine AW.rangeG rfl Try.func74 (by kernel_rfl) rfl (by decide) rfl rfl fun cxI1 yl1 hnI1 hY1 => ?_
   have hnJ1 : cxI1.nb = 0 := hnI1.trans hn0
   simp only [initTm, List.map_cons, List.map_nil]
   apply AW.step
   ·simp
    intros; rfl
   apply AW.step
   ·simp
    intros; rfl
   refine AW.block ?_
   replace h := bnE h; obtain ⟨y15, g15, h⟩ := h
   refine AW.iterP g15 (mk := fun gh ls q => (⟨[(0, .l (.s (.func (.yield yl1) #[] #[]))), (1, .l (.p 2 0)), (2, .l (.p 3 0)), (4, .l (.p 4 0)), (5, .l (.s (.int .i64 q.1)))], [none, some ⟨24, 1, false, none, [.r 5 4 0 q.2.2.2.2.length]⟩, some ⟨24, 1, false, none, [.d false 4 (encClaim q.2.1)]⟩, some ⟨24, 1, false, none, [.d false 4 (encClaim q.2.2.1)]⟩, some ⟨122, 8, false, none, [.s (.int .i64 q.2.2.2.1.a.frm), .s (.int .i64 q.2.2.2.1.a.to), .s (.int .i64 q.2.2.2.1.a.node), .s (.int .i64 q.2.2.2.1.a.epoch), .s (.int .i64 q.2.2.2.1.b.frm), .s (.int .i64 q.2.2.2.1.b.to), .s (.int .i64 q.2.2.2.1.b.node), .s (.int .i64 q.2.2.2.1.b.epoch)]⟩, some ⟨63, 4, true, none, lvs (encClaim q.2.2.2.2)⟩], 44, gh, ls⟩ : St)) (N := fun gh ls => (xP 0 (cx := cxI1) (fun q => (⟨[], [none, some ⟨24, 1, false, none, [.r 4 4 0 q.2.2.length]⟩, some ⟨24, 1, false, none, [.d false 4 (encClaim q.1)]⟩, some ⟨24, 1, false, none, [.d false 4 (encClaim q.2.1)]⟩, some ⟨63, 4, true, none, lvs (encClaim q.2.2)⟩], 44, gh, ls⟩ : St)))) ?_ noX ?_ ?_
   ·refine W.nilCell 1 0 63 4 5 rfl rfl rfl rfl rfl ?_
    refine Weak.mixB 0 [some 0, some 1, some 2, some 3, some 4, some 5] hnJ1 (by decide) (by decide) ?_ ?_ ?_
    all_goals first | (simp [inv_cons, inv_nil, pickOb]; done) | rfl
   ·clear h; intro y14 y16 h
    refine AW.seq ?_
    replace h := ltE h; obtain ⟨v17, e17, h⟩ := h
    apply AW.step
    ·simp [← e17]
     intros; rfl
    cases v17 with
    | true =>
     replace h := iteT rfl h
     refine AW.cond_true (by simp) ?_
     refine AW.skip ?_
     try simp only [sp_l, sp_r, Post.seq, Post.block, Nat.reduceEqDiff, reduceIte, Nat.zero_ne_one, Nat.one_ne_zero]
     try simp only [sp_l, sp_r, Post.seq, Post.block, Nat.reduceEqDiff, reduceIte, Nat.zero_ne_one, Nat.one_ne_zero]
     refine AW.seq ?_
     refine AW.block ?_
     replace h := bnE h; obtain ⟨v18, e18, h⟩ := h
     apply AW.step
     ·simp
      intros
      refine xcall_plain en_claims_next (s_claims_next e18) rfl ⟨.same rfl, .same rfl, trivial⟩ ?_
      try simp
      intros; rfl
     replace h := bnE h; obtain ⟨v19, e19, h⟩ := h
     apply AW.step
     ·simp
      intros
      refine xcall_plain en_claims_next (s_claims_next e19) rfl ⟨.same rfl, .same rfl, trivial⟩ ?_
      try simp
      intros; rfl
     replace h := ltE h; obtain ⟨v20, e20, h⟩ := h
     apply AW.step
     ·simp [← e20]
      intros; rfl
     apply AW.step
     ·simp
      intros; rfl
     refine AW.stepYK ?_
     apply xopsY.yield hY1 0 2 rfl rfl rfl (by decide)
     ·simp
      intros; rfl
     ·rfl
     ·first | trivial | simp
     ·rfl
     ·rfl
     ·simp [puts]; rfl
     intro cxR1 hnR1
     have hnS1 : cxR1.nb = 0 := hnR1.trans hnJ1
     apply AW.last
     ·simp
      intros; rfl
     refine ⟨rfl, ?_⟩
     refine AW.block ?_
     replace h := bnE h; obtain ⟨y21, g21, h⟩ := h
     refine AW.flow (p := fun gh ls => (nP (cx := cxR1) (fun q => (⟨[(10, .l (.p 1 0)), (13, .l (.p 6 0))], [none, some ⟨24, 1, false, none, [.r 5 4 0 y14.2.2.2.2.length]⟩, some ⟨24, 1, false, none, [.d false 4 (encClaim v18.2)]⟩, some ⟨24, 1, false, none, [.d false 4 (encClaim v19.2)]⟩, some ⟨122, 8, false, none, [.s (.int .i64 v18.1.frm), .s (.int .i64 v20), .s (.int .i64 v18.1.node), .s (.int .i64 v18.1.epoch), .s (.int .i64 v19.1.frm), .s (.int .i64 v20), .s (.int .i64 v19.1.node), .s (.int .i64 v19.1.epoch)]⟩, some ⟨63, 4, true, none, lvs (encClaim y14.2.2.2.2)⟩, some ⟨122, 8, false, none, [.s (.int .i64 q.a.frm), .s (.int .i64 q.a.to), .s (.int .i64 q.a.node), .s (.int .i64 q.a.epoch), .s (.int .i64 q.b.frm), .s (.int .i64 q.b.to), .s (.int .i64 q.b.node), .s (.int .i64 q.b.epoch)]⟩], 48, gh, ls⟩ : St))) y21) ?_ ?_
     ·replace h := g21; clear g21
      replace h := ltE h; obtain ⟨v22, e22, h⟩ := h
      apply AW.step
      ·simp [← e22]
       intros; rfl
      cases v22 with
      | true =>
       replace h := iteT rfl h
       refine AW.cond_true (by simp) ?_
       apply AW.last
       ·simp
        intros; rfl
       obtain rfl := Option.some.inj h
       refine nP_i ?_
       refine Weak.mixB 0 [some 0, some 1, some 2, some 3, some 4, some 5, some 6] hnS1 (by decide) (by decide) ?_ ?_ ?_
       all_goals first | (simp [inv_cons, inv_nil, pickOb]; done) | rfl
      | false =>
       replace h := iteF rfl h
       refine AW.cond_false (by simp) ?_
       refine AW.skip ?_
       try simp only [sp_l, sp_r, Post.seq, Post.block, Nat.reduceEqDiff, reduceIte, Nat.zero_ne_one, Nat.one_ne_zero]
       obtain rfl := Option.some.inj h
       refine nP_i ?_
       refine Weak.mixB 0 [some 0, some 1, some 2, some 3, some 4, some 5, some 6] hnS1 (by decide) (by decide) ?_ ?_ ?_
       all_goals first | (simp [inv_cons, inv_nil, pickOb]; done) | rfl
     ·rintro e s hp
      obtain ⟨rfl, hw⟩ := hp
      refine ⟨_, hw, ?_⟩
      try simp only [sp_l, sp_r, Post.seq, Post.block, Nat.reduceEqDiff, reduceIte, Nat.zero_ne_one, Nat.one_ne_zero]
      replace h := bnE h; obtain ⟨v23, e23, h⟩ := h
      apply AW.last
      ·simp [obAfter, outR, keptR, inv_cons, inv_nil]
       intros
       refine xcall_obs [5] en_claims_put_xf (s_claims_put_xf e23) (by decide) (by simp [pickOb, inv_cons, inv_nil]) rfl rfl (by simp) ⟨.l (.own' (by simp [inv_cons, inv_nil]) (by simp)), .g ⟨.s _, .s _, .s _, .s _, trivial⟩, trivial⟩ ?_
       try simp [obAfter, outR, keptR, inv_cons, inv_nil]
       intros; rfl
      refine ⟨_, _, rfl, ?_⟩
      refine xops_Y _ _ _ rfl ?_
      simp [puts]
      try intros
      unfold KK
      refine AW.cond_false (by simp) ?_
      refine AW.skip ?_
      try simp only [sp_l, sp_r, Post.seq, Post.block, Nat.reduceEqDiff, reduceIte, Nat.zero_ne_one, Nat.one_ne_zero]
      try simp only [sp_l, sp_r, Post.seq, Post.block, Nat.reduceEqDiff, reduceIte, Nat.zero_ne_one, Nat.one_ne_zero]
      replace h := ltE h; obtain ⟨v24, e24, h⟩ := h
      apply AW.last
      ·simp [← e24]
       intros; rfl
      obtain rfl := Option.some.inj h
      refine nP_i ?_
      refine Weak.mixB 0 [some 0, some 1, some 2, some 3, some 4, some 5] hnJ1 (by decide) (by decide) ?_ ?_ ?_
      all_goals first | (simp [inv_cons, inv_nil, pickOb]; done) | rfl
    | false =>
     replace h := iteF rfl h
     refine AW.cond_false (by simp) ?_
     refine AW.exit ?_
     try simp only [sp_l, sp_r, Post.seq, Post.block, Nat.reduceEqDiff, reduceIte, Nat.zero_ne_one, Nat.one_ne_zero]
     obtain rfl := Option.some.inj h
     refine xP_i ?_
     refine Weak.mixB 0 [some 0, some 1, some 2, some 3, some 5] hnJ1 (by decide) (by decide) ?_ ?_ ?_
     all_goals first | (simp [inv_cons, inv_nil, pickOb]; done) | rfl
   ·rintro e s hp
    obtain ⟨rfl, hw⟩ := hp
    refine ⟨_, hw, ?_⟩
    try simp only [sp_l, sp_r, Post.seq, Post.block, Nat.reduceEqDiff, reduceIte, Nat.zero_ne_one, Nat.one_ne_zero]
    refine ⟨_, _, rfl, ?_⟩
    try simp only []
    try simp only [sp_l, sp_r, Post.seq, Post.block, Nat.reduceEqDiff, reduceIte, Nat.zero_ne_one, Nat.one_ne_zero]
    obtain rfl := Option.some.inj h
    refine nP_i ?_
    refine Weak.mixN [some 1, some 4] hn0 (by decide) ?_ ?_ rfl
    all_goals first | (simp [inv_cons, inv_nil, pickOb]; done) | rfl
  ·rintro e s hp
   obtain ⟨rfl, hw⟩ := hp
   refine ⟨_, hw, ?_⟩
   try simp only [sp_l, sp_r, Post.seq, Post.block, Nat.reduceEqDiff, reduceIte, Nat.zero_ne_one, Nat.one_ne_zero]
   apply AW.step
   ·simp
    intros; rfl
   replace h := chkE h; obtain ⟨e25, h⟩ := h
   refine AW.frzRow 1 (ty := 63) (cap := none) (sz := 4) (es := encClaim y11) (by simp) (by omega) (encClaim_sz _) (by first | exact (room_d e25).2 | simpa using (room_d e25).2 | simp) (by simp [Tm.frz, AV.frz, LV.frz]; rfl) (by simp [Ob.frz, LV.frz]; rfl) rfl ?_
   obtain rfl := Option.some.inj h
   refine AW.ret ?_
   refine Left.plain hnb (by simp [Try.f50, resV, resC, comp]; rfl) rfl rfl ?_
   simp
theorem en_claims_Give_ftff : Enters Try.prog 50 := enters Try.func50 (by kernel_rfl) rfl
def vote_won_sh (n : Nat) (a0 : Node) : Option Node :=
lt (lenI a0.claims) fun v1 =>
bn (iter n (fun (y2 : Int × List Span) =>
lt (ltI y2.1 v1) fun v5 =>
ite' v5 (bn (bn (nth a0.claims y2.1) fun v7 =>
bn (lt (eqI v7.node a0.master) fun v9 =>
ite' v9 (lt (ltI v7.epoch a0.asked) fun v10 =>
some (v10)) (some (false))) fun (y8 : Bool) =>
lt (y8) fun v11 =>
ite' v11 (chk (room (y2.2.length + 1) 16) <|
lt (y2.2 ++ [(⟨v7.frm, v7.to⟩ : Span)]) fun v13 =>
some (v13)) (some (y2.2))) fun (y6 : List Span) =>
lt (addI .i64 y2.1 1) fun v14 =>
some (.inl (v14, y6))) (some (.inr y2.2))) (0, [])) fun (y3 : List Span) =>
chk (room y3.length 1) <|
bn (claims_Give_ftff_sh n a0.claims y3 a0.id a0.asked) fun v16 =>
some (⟨a0.count, a0.id, -1, a0.epoch, a0.voted, v16, a0.db, a0.moves, a0.last, a0.seen, (⟨(⟨a0.id, a0.asked⟩ : Rid), a0.feed.off, a0.feed.back, a0.feed.rid, a0.feed.off⟩ : Feed), a0.watch, 0, [], 0⟩ : Node)
set_option maxRecDepth 8000 in
set_option maxHeartbeats 8000000 in
theorem s_vote_won {n : Nat} {a0 : Node} {r : Node} (h : vote_won_sh n a0 = some r) : Sound Try.prog 32 [.g [.s (.int .i64 a0.count), .s (.int .i64 a0.id), .s (.int .i64 a0.master), .s (.int .i64 a0.epoch), .s (.int .i64 a0.voted), .d false 4 (encClaim a0.claims), .d false 6 (encPair a0.db), .d false 4 (encMove a0.moves), .s (.int .i64 a0.last), .d false 3 (encSeen a0.seen), .s (.int .i64 a0.feed.rid.node), .s (.int .i64 a0.feed.rid.epoch), .s (.int .i64 a0.feed.off), .d false 7 (encEffect a0.feed.back), .s (.int .i64 a0.feed.prev.node), .s (.int .i64 a0.feed.prev.epoch), .s (.int .i64 a0.feed.upto), .d false 1 (encI a0.watch.heard), .d false 1 (encLI a0.watch.says), .s (.int .i64 a0.asked), .d false 1 (encI a0.votes), .s (.int .i64 a0.wait)]] [] (.g [.s (.int .i64 r.count), .s (.int .i64 r.id), .s (.int .i64 r.master), .s (.int .i64 r.epoch), .s (.int .i64 r.voted), .d false 4 (encClaim r.claims), .d false 6 (encPair r.db), .d false 4 (encMove r.moves), .s (.int .i64 r.last), .d false 3 (encSeen r.seen), .s (.int .i64 r.feed.rid.node), .s (.int .i64 r.feed.rid.epoch), .s (.int .i64 r.feed.off), .d false 7 (encEffect r.feed.back), .s (.int .i64 r.feed.prev.node), .s (.int .i64 r.feed.prev.epoch), .s (.int .i64 r.feed.upto), .d false 1 (encI r.watch.heard), .d false 1 (encLI r.watch.says), .s (.int .i64 r.asked), .d false 1 (encI r.votes), .s (.int .i64 r.wait)]) [] := by
 unfold vote_won_sh at h
 refine Sound.of_aw (fn := Try.f32) (c := _) Try.func32 rfl (by simp [Try.f32]) fun cx hG hnb => ?_
 rw [show Try.f32.ntmps = 65 from rfl]
 have hn0 : cx.nb = 0 := hnb
 simp only [st0_mk, initTm, List.map_cons, List.map_nil]
 apply AW.step
 ·simp
  intros; rfl
 apply AW.step
 ·simp
  intros; rfl
 refine AW.seq ?_
 replace h := ltE h; obtain ⟨v1, e1, h⟩ := h
 apply AW.step
 ·simp [lenI_cast e1]
  intros; rfl
 refine AW.block ?_
 replace h := bnE h; obtain ⟨y3, g3, h⟩ := h
 refine AW.iterP g3 (mk := fun gh ls q => (⟨[(1, .l (.p 0 0)), (2, .l (.p 1 0)), (3, .l (.r 2 2 0 q.2.length)), (7, .l (.d false 4 (encClaim a0.claims))), (8, .l (.s (.int .i64 v1))), (9, .l (.s (.int .i64 q.1)))], [some ⟨38, 22, false, none, [.s (.int .i64 a0.count), .s (.int .i64 a0.id), .s (.int .i64 a0.master), .s (.int .i64 a0.epoch), .s (.int .i64 a0.voted), .d false 4 (encClaim a0.claims), .d false 6 (encPair a0.db), .d false 4 (encMove a0.moves), .s (.int .i64 a0.last), .d false 3 (encSeen a0.seen), .s (.int .i64 a0.feed.rid.node), .s (.int .i64 a0.feed.rid.epoch), .s (.int .i64 a0.feed.off), .d false 7 (encEffect a0.feed.back), .s (.int .i64 a0.feed.prev.node), .s (.int .i64 a0.feed.prev.epoch), .s (.int .i64 a0.feed.upto), .d false 1 (encI a0.watch.heard), .d false 1 (encLI a0.watch.says), .s (.int .i64 a0.asked), .d false 1 (encI a0.votes), .s (.int .i64 a0.wait)]⟩, some ⟨38, 22, false, none, [.s (.int .i64 0), .s (.int .i64 0), .s (.int .i64 0), .s (.int .i64 0), .s (.int .i64 0), .s (.slice none 0 0), .s (.slice none 0 0), .s (.slice none 0 0), .s (.int .i64 0), .s (.slice none 0 0), .s (.int .i64 0), .s (.int .i64 0), .s (.int .i64 0), .s (.slice none 0 0), .s (.int .i64 0), .s (.int .i64 0), .s (.int .i64 0), .s (.slice none 0 0), .s (.slice none 0 0), .s (.int .i64 0), .s (.slice none 0 0), .s (.int .i64 0)]⟩, some ⟨71, 2, true, none, lvs (encSpan q.2)⟩], 65, gh, ls⟩ : St)) (N := fun gh ls => (xP 0 (cx := cx) (fun q => (⟨[(1, .l (.p 0 0)), (2, .l (.p 1 0)), (3, .l (.r 2 2 0 q.length))], [some ⟨38, 22, false, none, [.s (.int .i64 a0.count), .s (.int .i64 a0.id), .s (.int .i64 a0.master), .s (.int .i64 a0.epoch), .s (.int .i64 a0.voted), .d false 4 (encClaim a0.claims), .d false 6 (encPair a0.db), .d false 4 (encMove a0.moves), .s (.int .i64 a0.last), .d false 3 (encSeen a0.seen), .s (.int .i64 a0.feed.rid.node), .s (.int .i64 a0.feed.rid.epoch), .s (.int .i64 a0.feed.off), .d false 7 (encEffect a0.feed.back), .s (.int .i64 a0.feed.prev.node), .s (.int .i64 a0.feed.prev.epoch), .s (.int .i64 a0.feed.upto), .d false 1 (encI a0.watch.heard), .d false 1 (encLI a0.watch.says), .s (.int .i64 a0.asked), .d false 1 (encI a0.votes), .s (.int .i64 a0.wait)]⟩, some ⟨38, 22, false, none, [.s (.int .i64 0), .s (.int .i64 0), .s (.int .i64 0), .s (.int .i64 0), .s (.int .i64 0), .s (.slice none 0 0), .s (.slice none 0 0), .s (.slice none 0 0), .s (.int .i64 0), .s (.slice none 0 0), .s (.int .i64 0), .s (.int .i64 0), .s (.int .i64 0), .s (.slice none 0 0), .s (.int .i64 0), .s (.int .i64 0), .s (.int .i64 0), .s (.slice none 0 0), .s (.slice none 0 0), .s (.int .i64 0), .s (.slice none 0 0), .s (.int .i64 0)]⟩, some ⟨71, 2, true, none, lvs (encSpan q)⟩], 65, gh, ls⟩ : St)))) ?_ noX ?_ ?_
 ·refine W.nilRow 3 71 2 2 (by simp) rfl rfl ?_
  refine Weak.mixN [some 0, some 1, some 2] hn0 (by decide) ?_ ?_ rfl
  all_goals first | (simp [inv_cons, inv_nil, pickOb]; done) | rfl
 ·clear h; intro y2 y4 h
  replace h := ltE h; obtain ⟨v5, e5, h⟩ := h
  apply AW.step
  ·simp [← e5]
   intros; rfl
  refine AW.seq ?_
  cases v5 with
  | true =>
   replace h := iteT rfl h
   refine AW.cond_true (by simp) ?_
   refine AW.skip ?_
   try simp only [sp_l, sp_r, Post.seq, Post.block, Nat.reduceEqDiff, reduceIte, Nat.zero_ne_one, Nat.one_ne_zero]
   try simp only [sp_l, sp_r, Post.seq, Post.block, Nat.reduceEqDiff, reduceIte, Nat.zero_ne_one, Nat.one_ne_zero]
   replace h := bnE h; obtain ⟨y6, g6, h⟩ := h
   refine AW.flow (p := fun gh ls => (nP (cx := cx) (fun q => (⟨[(1, .l (.p 0 0)), (2, .l (.p 1 0)), (3, .l (.r 2 2 0 q.length)), (7, .l (.d false 4 (encClaim a0.claims))), (8, .l (.s (.int .i64 v1))), (9, .l (.s (.int .i64 y2.1)))], [some ⟨38, 22, false, none, [.s (.int .i64 a0.count), .s (.int .i64 a0.id), .s (.int .i64 a0.master), .s (.int .i64 a0.epoch), .s (.int .i64 a0.voted), .d false 4 (encClaim a0.claims), .d false 6 (encPair a0.db), .d false 4 (encMove a0.moves), .s (.int .i64 a0.last), .d false 3 (encSeen a0.seen), .s (.int .i64 a0.feed.rid.node), .s (.int .i64 a0.feed.rid.epoch), .s (.int .i64 a0.feed.off), .d false 7 (encEffect a0.feed.back), .s (.int .i64 a0.feed.prev.node), .s (.int .i64 a0.feed.prev.epoch), .s (.int .i64 a0.feed.upto), .d false 1 (encI a0.watch.heard), .d false 1 (encLI a0.watch.says), .s (.int .i64 a0.asked), .d false 1 (encI a0.votes), .s (.int .i64 a0.wait)]⟩, some ⟨38, 22, false, none, [.s (.int .i64 0), .s (.int .i64 0), .s (.int .i64 0), .s (.int .i64 0), .s (.int .i64 0), .s (.slice none 0 0), .s (.slice none 0 0), .s (.slice none 0 0), .s (.int .i64 0), .s (.slice none 0 0), .s (.int .i64 0), .s (.int .i64 0), .s (.int .i64 0), .s (.slice none 0 0), .s (.int .i64 0), .s (.int .i64 0), .s (.int .i64 0), .s (.slice none 0 0), .s (.slice none 0 0), .s (.int .i64 0), .s (.slice none 0 0), .s (.int .i64 0)]⟩, some ⟨71, 2, true, none, lvs (encSpan q)⟩], 65, gh, ls⟩ : St))) y6) ?_ ?_
   ·replace h := g6; clear g6
    refine AW.block ?_
    replace h := bnE h; obtain ⟨v7, e7, h⟩ := h
    apply AW.step
    ·simp [nth_d e7]
     intros; rfl
    replace h := bnE h; obtain ⟨y8, g8, h⟩ := h
    refine AW.flow (p := fun gh ls => (nP (cx := cx) (fun q => (⟨[(1, .l (.p 0 0)), (2, .l (.p 1 0)), (3, .l (.r 2 2 0 y2.2.length)), (5, .l (.p 3 0)), (7, .l (.d false 4 (encClaim a0.claims))), (8, .l (.s (.int .i64 v1))), (9, .l (.s (.int .i64 y2.1))), (24, .l (.s (.bool q)))], [some ⟨38, 22, false, none, [.s (.int .i64 a0.count), .s (.int .i64 a0.id), .s (.int .i64 a0.master), .s (.int .i64 a0.epoch), .s (.int .i64 a0.voted), .d false 4 (encClaim a0.claims), .d false 6 (encPair a0.db), .d false 4 (encMove a0.moves), .s (.int .i64 a0.last), .d false 3 (encSeen a0.seen), .s (.int .i64 a0.feed.rid.node), .s (.int .i64 a0.feed.rid.epoch), .s (.int .i64 a0.feed.off), .d false 7 (encEffect a0.feed.back), .s (.int .i64 a0.feed.prev.node), .s (.int .i64 a0.feed.prev.epoch), .s (.int .i64 a0.feed.upto), .d false 1 (encI a0.watch.heard), .d false 1 (encLI a0.watch.says), .s (.int .i64 a0.asked), .d false 1 (encI a0.votes), .s (.int .i64 a0.wait)]⟩, some ⟨38, 22, false, none, [.s (.int .i64 0), .s (.int .i64 0), .s (.int .i64 0), .s (.int .i64 0), .s (.int .i64 0), .s (.slice none 0 0), .s (.slice none 0 0), .s (.slice none 0 0), .s (.int .i64 0), .s (.slice none 0 0), .s (.int .i64 0), .s (.int .i64 0), .s (.int .i64 0), .s (.slice none 0 0), .s (.int .i64 0), .s (.int .i64 0), .s (.int .i64 0), .s (.slice none 0 0), .s (.slice none 0 0), .s (.int .i64 0), .s (.slice none 0 0), .s (.int .i64 0)]⟩, some ⟨71, 2, true, none, lvs (encSpan y2.2)⟩, some ⟨63, 4, false, none, [.s (.int .i64 v7.frm), .s (.int .i64 v7.to), .s (.int .i64 v7.node), .s (.int .i64 v7.epoch)]⟩], 65, gh, ls⟩ : St))) y8) ?_ ?_
    ·replace h := g8; clear g8
     replace h := ltE h; obtain ⟨v9, e9, h⟩ := h
     cases v9 with
     | true =>
      replace h := iteT rfl h
      replace h := ltE h; obtain ⟨v10, e10, h⟩ := h
      apply AW.last
      ·simp [← e9, ← e10]
       intros; rfl
      obtain rfl := Option.some.inj h
      refine nP_i ?_
      refine Weak.mixN [some 0, some 1, some 2, some 3] hn0 (by decide) ?_ ?_ rfl
      all_goals first | (simp [inv_cons, inv_nil, pickOb]; done) | rfl
     | false =>
      replace h := iteF rfl h
      apply AW.last
      ·simp [← e9]
       intros; rfl
      obtain rfl := Option.some.inj h
      refine nP_i ?_
      refine Weak.mixN [some 0, some 1, some 2, some 3] hn0 (by decide) ?_ ?_ rfl
      all_goals first | (simp [inv_cons, inv_nil, pickOb]; done) | rfl
    ·rintro e s hp
     obtain ⟨rfl, hw⟩ := hp
     refine ⟨_, hw, ?_⟩
     try simp only [sp_l, sp_r, Post.seq, Post.block, Nat.reduceEqDiff, reduceIte, Nat.zero_ne_one, Nat.one_ne_zero]
     replace h := ltE h; obtain ⟨v11, e11, h⟩ := h
     rw [← e11]
     cases v11 with
     | true =>
      replace h := iteT rfl h
      refine AW.cond_true (by simp) ?_
      replace h := chkE h; obtain ⟨e12, h⟩ := h
      replace h := ltE h; obtain ⟨v13, e13, h⟩ := h
      apply AW.last
      ·simp [← encSpan_append, ← e13, app_len1 e13]
       intros
       refine xrow_own ?_
       try simp [← encSpan_append, ← e13, app_len1 e13]
       intros
       refine xapp_pushN (acc := encSpan y2.2) (ys := encSpan [(⟨v7.frm, v7.to⟩ : Span)]) (cap := none) (k := 1) tb_el49 tb_ti71 (by simp) (by simp [encSpan, lvs]) (encSpan_sz _) (by simp) (by simp) (by first | (simp; done) | simpa using (room_d e12).1) ?_
       try simp [← encSpan_append, ← e13, app_len1 e13]
       intros; rfl
      obtain rfl := Option.some.inj h
      refine nP_i ?_
      refine Weak.mixN [some 0, some 1, some 5] hn0 (by decide) ?_ ?_ rfl
      all_goals first | (simp [inv_cons, inv_nil, pickOb, lvs_encSpan1]; done) | rfl
     | false =>
      replace h := iteF rfl h
      refine AW.cond_false (by simp) ?_
      refine AW.skip ?_
      try simp only [sp_l, sp_r, Post.seq, Post.block, Nat.reduceEqDiff, reduceIte, Nat.zero_ne_one, Nat.one_ne_zero]
      obtain rfl := Option.some.inj h
      refine nP_i ?_
      refine Weak.mixN [some 0, some 1, some 2] hn0 (by decide) ?_ ?_ rfl
      all_goals first | (simp [inv_cons, inv_nil, pickOb]; done) | rfl
   ·rintro e s hp
    obtain ⟨rfl, hw⟩ := hp
    refine ⟨_, hw, ?_⟩
    try simp only [sp_l, sp_r, Post.seq, Post.block, Nat.reduceEqDiff, reduceIte, Nat.zero_ne_one, Nat.one_ne_zero]
    replace h := ltE h; obtain ⟨v14, e14, h⟩ := h
    apply AW.last
    ·simp [← e14]
     intros; rfl
    obtain rfl := Option.some.inj h
    refine nP_i ?_
    refine Weak.mixN [some 0, some 1, some 2] hn0 (by decide) ?_ ?_ rfl
    all_goals first | (simp [inv_cons, inv_nil, pickOb]; done) | rfl
  | false =>
   replace h := iteF rfl h
   refine AW.cond_false (by simp) ?_
   refine AW.exit ?_
   try simp only [sp_l, sp_r, Post.seq, Post.block, Nat.reduceEqDiff, reduceIte, Nat.zero_ne_one, Nat.one_ne_zero]
   obtain rfl := Option.some.inj h
   refine xP_i ?_
   refine Weak.mixN [some 0, some 1, some 2] hn0 (by decide) ?_ ?_ rfl
   all_goals first | (simp [inv_cons, inv_nil, pickOb]; done) | rfl
 ·rintro e s hp
  obtain ⟨rfl, hw⟩ := hp
  refine ⟨_, hw, ?_⟩
  try simp only [sp_l, sp_r, Post.seq, Post.block, Nat.reduceEqDiff, reduceIte, Nat.zero_ne_one, Nat.one_ne_zero]
  replace h := chkE h; obtain ⟨e15, h⟩ := h
  replace h := bnE h; obtain ⟨v16, e16, h⟩ := h
  apply AW.step
  ·simp
   intros
   refine xcall_plain en_claims_Give_ftff (s_claims_Give_ftff e16) rfl ⟨.same rfl, .rowd (by simp) rfl (by omega) (encSpan_sz _) (by simp) (by first | exact (room_d e15).2 | simpa using (room_d e15).2 | simp), .same rfl, .same rfl, trivial⟩ ?_
   try simp
   intros; rfl
  apply AW.step
  ·simp
   intros; rfl
  apply AW.step
  ·simp
   intros; rfl
  apply AW.step
  ·simp
   intros; rfl
  apply AW.step
  ·simp
   intros; rfl
  refine AW.nilCellD 1 20 1 rfl rfl rfl rfl ?_
  obtain rfl := Option.some.inj h
  refine AW.ret ?_
  refine Left.plain hnb (by simp [Try.f32, resV, resC, comp]; rfl) rfl rfl ?_
  simp
theorem en_vote_won : Enters Try.prog 32 := enters Try.func32 (by kernel_rfl) rfl
def vote_Count_sh (n : Nat) (a0 : Node) (a1 : Msg) : Option (Node × Bool) :=
bn (claims_Own_own_sh n a0) fun v1 =>
bn (claims_Masters_sh n v1.claims) fun v2 =>
bn (lt (eqI v1.master (-1)) fun v4 =>
ite' v4 (some (true)) (lt (ltI v1.asked 1) fun v5 =>
ite' v5 (some (true)) (lt (neI v1.asked a1.epoch) fun v6 =>
ite' v6 (some (true)) (bn (slices_Contains_int_sh n v2 a1.frm) fun v7 =>
lt (notB v7) fun v8 =>
some (v8))))) fun (y3 : Bool) =>
lt (y3) fun v9 =>
ite' v9 (chk (room v1.votes.length 1) <|
some (v1, false)) (chk (room v1.votes.length 1) <|
bn (slices_BinarySearch_int_sh n v1.votes a1.frm) fun v12 =>
bn (lt (notB v12.2) fun v14 =>
ite' v14 (chk (insB v1.votes v12.1) <|
lt (insL v1.votes v12.1.toNat a1.frm) fun v16 =>
some (v16)) (some (v1.votes))) fun (y13 : List Int) =>
lt (lenI y13) fun v17 =>
lt (mulI .i64 2 v17) fun v18 =>
lt (lenI v2) fun v19 =>
lt (leI v18 v19) fun v20 =>
ite' v20 (chk (room y13.length 1) <|
some ((⟨v1.count, v1.id, v1.master, v1.epoch, v1.voted, v1.claims, v1.db, v1.moves, v1.last, v1.seen, v1.feed, v1.watch, v1.asked, y13, v1.wait⟩ : Node), false)) (chk (room y13.length 1) <|
bn (vote_won_sh n (⟨v1.count, v1.id, v1.master, v1.epoch, v1.voted, v1.claims, v1.db, v1.moves, v1.last, v1.seen, v1.feed, v1.watch, v1.asked, y13, v1.wait⟩ : Node)) fun v23 =>
some (v23, true)))
set_option maxRecDepth 8000 in
set_option maxHeartbeats 8000000 in
theorem s_vote_Count {n : Nat} {a0 : Node} {a1 : Msg} {r : Node × Bool} (h : vote_Count_sh n a0 a1 = some r) : Sound Try.prog 15 [.g [.s (.int .i64 a0.count), .s (.int .i64 a0.id), .s (.int .i64 a0.master), .s (.int .i64 a0.epoch), .s (.int .i64 a0.voted), .d false 4 (encClaim a0.claims), .d false 6 (encPair a0.db), .d false 4 (encMove a0.moves), .s (.int .i64 a0.last), .d false 3 (encSeen a0.seen), .s (.int .i64 a0.feed.rid.node), .s (.int .i64 a0.feed.rid.epoch), .s (.int .i64 a0.feed.off), .d false 7 (encEffect a0.feed.back), .s (.int .i64 a0.feed.prev.node), .s (.int .i64 a0.feed.prev.epoch), .s (.int .i64 a0.feed.upto), .d false 1 (encI a0.watch.heard), .d false 1 (encLI a0.watch.says), .s (.int .i64 a0.asked), .d false 1 (encI a0.votes), .s (.int .i64 a0.wait)], .g [.s (.int .i64 a1.kind), .s (.int .i64 a1.frm), .s (.int .i64 a1.to), .s (.int .i64 a1.epoch), .d false 4 (encClaim a1.claims), .d false 1 (encI a1.nodes), .s (.int .i64 a1.node), .s (.int .i64 a1.slot), .s (.int .i64 a1.num), .s (.int .i64 a1.rid.node), .s (.int .i64 a1.rid.epoch), .s (.int .i64 a1.prev.node), .s (.int .i64 a1.prev.epoch), .s (.int .i64 a1.off), .d false 7 (encEffect a1.effects)]] [] (.t [(true, [.s (.int .i64 r.1.count), .s (.int .i64 r.1.id), .s (.int .i64 r.1.master), .s (.int .i64 r.1.epoch), .s (.int .i64 r.1.voted), .d false 4 (encClaim r.1.claims), .d false 6 (encPair r.1.db), .d false 4 (encMove r.1.moves), .s (.int .i64 r.1.last), .d false 3 (encSeen r.1.seen), .s (.int .i64 r.1.feed.rid.node), .s (.int .i64 r.1.feed.rid.epoch), .s (.int .i64 r.1.feed.off), .d false 7 (encEffect r.1.feed.back), .s (.int .i64 r.1.feed.prev.node), .s (.int .i64 r.1.feed.prev.epoch), .s (.int .i64 r.1.feed.upto), .d false 1 (encI r.1.watch.heard), .d false 1 (encLI r.1.watch.says), .s (.int .i64 r.1.asked), .d false 1 (encI r.1.votes), .s (.int .i64 r.1.wait)]), (false, [.s (.bool r.2)])]) [] := by
 unfold vote_Count_sh at h
 refine Sound.of_aw (fn := Try.f15) (c := _) Try.func15 rfl (by simp [Try.f15]) fun cx hG hnb => ?_
 rw [show Try.f15.ntmps = 65 from rfl]
 have hn0 : cx.nb = 0 := hnb
 simp only [st0_mk, initTm, List.map_cons, List.map_nil]
 apply AW.step
 ·simp
  intros; rfl
 replace h := bnE h; obtain ⟨v1, e1, h⟩ := h
 apply AW.step
 ·simp [outR]
  intros
  refine xcall_new en_claims_Own_own (s_claims_Own_own e1) rfl (by simp) ⟨.same rfl, trivial⟩ ?_
  try simp [outR]
  intros; rfl
 replace h := bnE h; obtain ⟨v2, e2, h⟩ := h
 apply AW.step
 ·simp
  intros
  refine xcall_plain en_claims_Masters (s_claims_Masters e2) rfl ⟨.same rfl, trivial⟩ ?_
  try simp
  intros; rfl
 refine AW.seq ?_
 replace h := bnE h; obtain ⟨y3, g3, h⟩ := h
 refine AW.flow (p := fun gh ls => (nP (cx := cx) (fun q => (⟨[(2, .l (.p 0 0)), (3, .l (.p 1 0)), (4, .l (.p 2 0)), (6, .l (.d false 1 (encI v2))), (35, .l (.s (.bool q)))], [some ⟨38, 22, false, none, [.s (.int .i64 v1.count), .s (.int .i64 v1.id), .s (.int .i64 v1.master), .s (.int .i64 v1.epoch), .s (.int .i64 v1.voted), .d false 4 (encClaim v1.claims), .d false 6 (encPair v1.db), .d false 4 (encMove v1.moves), .s (.int .i64 v1.last), .d false 3 (encSeen v1.seen), .s (.int .i64 v1.feed.rid.node), .s (.int .i64 v1.feed.rid.epoch), .s (.int .i64 v1.feed.off), .d false 7 (encEffect v1.feed.back), .s (.int .i64 v1.feed.prev.node), .s (.int .i64 v1.feed.prev.epoch), .s (.int .i64 v1.feed.upto), .d false 1 (encI v1.watch.heard), .d false 1 (encLI v1.watch.says), .s (.int .i64 v1.asked), .r 3 1 0 v1.votes.length, .s (.int .i64 v1.wait)]⟩, some ⟨45, 15, false, none, [.s (.int .i64 a1.kind), .s (.int .i64 a1.frm), .s (.int .i64 a1.to), .s (.int .i64 a1.epoch), .d false 4 (encClaim a1.claims), .d false 1 (encI a1.nodes), .s (.int .i64 a1.node), .s (.int .i64 a1.slot), .s (.int .i64 a1.num), .s (.int .i64 a1.rid.node), .s (.int .i64 a1.rid.epoch), .s (.int .i64 a1.prev.node), .s (.int .i64 a1.prev.epoch), .s (.int .i64 a1.off), .d false 7 (encEffect a1.effects)]⟩, some ⟨38, 22, false, none, [.s (.int .i64 0), .s (.int .i64 0), .s (.int .i64 0), .s (.int .i64 0), .s (.int .i64 0), .s (.slice none 0 0), .s (.slice none 0 0), .s (.slice none 0 0), .s (.int .i64 0), .s (.slice none 0 0), .s (.int .i64 0), .s (.int .i64 0), .s (.int .i64 0), .s (.slice none 0 0), .s (.int .i64 0), .s (.int .i64 0), .s (.int .i64 0), .s (.slice none 0 0), .s (.slice none 0 0), .s (.int .i64 0), .s (.slice none 0 0), .s (.int .i64 0)]⟩, some ⟨3, 1, true, none, lvs (encI v1.votes)⟩], 65, gh, ls⟩ : St))) y3) ?_ ?_
 ·replace h := g3; clear g3
  replace h := ltE h; obtain ⟨v4, e4, h⟩ := h
  cases v4 with
  | true =>
   replace h := iteT rfl h
   apply AW.last
   ·simp [← e4]
    intros; rfl
   obtain rfl := Option.some.inj h
   refine nP_i ?_
   refine Weak.mixN [some 0, some 1, some 2, some 3] hn0 (by decide) ?_ ?_ rfl
   all_goals first | (simp [inv_cons, inv_nil, pickOb]; done) | rfl
  | false =>
   replace h := iteF rfl h
   replace h := ltE h; obtain ⟨v5, e5, h⟩ := h
   cases v5 with
   | true =>
    replace h := iteT rfl h
    apply AW.last
    ·simp [← e4, ← e5]
     intros; rfl
    obtain rfl := Option.some.inj h
    refine nP_i ?_
    refine Weak.mixN [some 0, some 1, some 2, some 3] hn0 (by decide) ?_ ?_ rfl
    all_goals first | (simp [inv_cons, inv_nil, pickOb]; done) | rfl
   | false =>
    replace h := iteF rfl h
    replace h := ltE h; obtain ⟨v6, e6, h⟩ := h
    cases v6 with
    | true =>
     replace h := iteT rfl h
     apply AW.last
     ·simp [← e4, ← e5, ← e6]
      intros; rfl
     obtain rfl := Option.some.inj h
     refine nP_i ?_
     refine Weak.mixN [some 0, some 1, some 2, some 3] hn0 (by decide) ?_ ?_ rfl
     all_goals first | (simp [inv_cons, inv_nil, pickOb]; done) | rfl
    | false =>
     replace h := iteF rfl h
     replace h := bnE h; obtain ⟨v7, e7, h⟩ := h
     replace h := ltE h; obtain ⟨v8, e8, h⟩ := h
     apply AW.last
     ·simp [← e4, ← e5, ← e6, ← e8]
      intros
      refine xcall_plain en_slices_Contains_int (s_slices_Contains_int e7) rfl ⟨.same rfl, .same rfl, trivial⟩ ?_
      try simp [← e4, ← e5, ← e6, ← e8]
      intros; rfl
     obtain rfl := Option.some.inj h
     refine nP_i ?_
     refine Weak.mixN [some 0, some 1, some 2, some 3] hn0 (by decide) ?_ ?_ rfl
     all_goals first | (simp [inv_cons, inv_nil, pickOb]; done) | rfl
 ·rintro e s hp
  obtain ⟨rfl, hw⟩ := hp
  refine ⟨_, hw, ?_⟩
  try simp only [sp_l, sp_r, Post.seq, Post.block, Nat.reduceEqDiff, reduceIte, Nat.zero_ne_one, Nat.one_ne_zero]
  replace h := ltE h; obtain ⟨v9, e9, h⟩ := h
  rw [← e9]
  cases v9 with
  | true =>
   replace h := iteT rfl h
   refine AW.cond_true (by simp) ?_
   apply AW.step
   ·simp
    intros; rfl
   replace h := chkE h; obtain ⟨e10, h⟩ := h
   refine AW.frzRow 3 (ty := 3) (cap := none) (sz := 1) (es := encI v1.votes) (by simp) (by omega) (encI_sz _) (by first | exact (room_d e10).2 | simpa using (room_d e10).2 | simp) (by simp [Tm.frz, AV.frz, LV.frz]; rfl) (by simp [Ob.frz, LV.frz]; rfl) rfl ?_
   obtain rfl := Option.some.inj h
   refine AW.ret ?_
   refine Left.plain hnb (by simp [Try.f15, resV, resC, comp]; rfl) rfl rfl ?_
   simp
  | false =>
   replace h := iteF rfl h
   refine AW.cond_false (by simp) ?_
   refine AW.skip ?_
   try simp only [sp_l, sp_r, Post.seq, Post.block, Nat.reduceEqDiff, reduceIte, Nat.zero_ne_one, Nat.one_ne_zero]
   try simp only [sp_l, sp_r, Post.seq, Post.block, Nat.reduceEqDiff, reduceIte, Nat.zero_ne_one, Nat.one_ne_zero]
   replace h := chkE h; obtain ⟨e11, h⟩ := h
   replace h := bnE h; obtain ⟨v12, e12, h⟩ := h
   apply AW.step
   ·simp
    intros
    refine xcall_plain en_slices_BinarySearch_int (s_slices_BinarySearch_int e12) rfl ⟨.rowd (by simp) rfl (by omega) (encI_sz _) (by simp) (by first | exact (room_d e11).2 | simpa using (room_d e11).2 | simp), .same rfl, trivial⟩ ?_
    try simp
    intros; rfl
   replace h := bnE h; obtain ⟨y13, g13, h⟩ := h
   refine AW.flow (p := fun gh ls => (nP (cx := cx) (fun q => (⟨[(2, .l (.p 0 0)), (4, .l (.p 1 0)), (6, .l (.d false 1 (encI v2)))], [some ⟨38, 22, false, none, [.s (.int .i64 v1.count), .s (.int .i64 v1.id), .s (.int .i64 v1.master), .s (.int .i64 v1.epoch), .s (.int .i64 v1.voted), .d false 4 (encClaim v1.claims), .d false 6 (encPair v1.db), .d false 4 (encMove v1.moves), .s (.int .i64 v1.last), .d false 3 (encSeen v1.seen), .s (.int .i64 v1.feed.rid.node), .s (.int .i64 v1.feed.rid.epoch), .s (.int .i64 v1.feed.off), .d false 7 (encEffect v1.feed.back), .s (.int .i64 v1.feed.prev.node), .s (.int .i64 v1.feed.prev.epoch), .s (.int .i64 v1.feed.upto), .d false 1 (encI v1.watch.heard), .d false 1 (encLI v1.watch.says), .s (.int .i64 v1.asked), .r 2 1 0 q.length, .s (.int .i64 v1.wait)]⟩, some ⟨38, 22, false, none, [.s (.int .i64 0), .s (.int .i64 0), .s (.int .i64 0), .s (.int .i64 0), .s (.int .i64 0), .s (.slice none 0 0), .s (.slice none 0 0), .s (.slice none 0 0), .s (.int .i64 0), .s (.slice none 0 0), .s (.int .i64 0), .s (.int .i64 0), .s (.int .i64 0), .s (.slice none 0 0), .s (.int .i64 0), .s (.int .i64 0), .s (.int .i64 0), .s (.slice none 0 0), .s (.slice none 0 0), .s (.int .i64 0), .s (.slice none 0 0), .s (.int .i64 0)]⟩, some ⟨3, 1, true, none, lvs (encI q)⟩], 65, gh, ls⟩ : St))) y13) ?_ ?_
   ·replace h := g13; clear g13
    replace h := ltE h; obtain ⟨v14, e14, h⟩ := h
    apply AW.step
    ·simp [← e14]
     intros; rfl
    cases v14 with
    | true =>
     replace h := iteT rfl h
     refine AW.cond_true (by simp) ?_
     replace h := chkE h; obtain ⟨e15, h⟩ := h
     replace h := ltE h; obtain ⟨v16, e16, h⟩ := h
     apply AW.last
     ·simp [obAfter, outR, keptR, inv_cons, inv_nil, ← e16, insL_len e15 e16]
      intros
      refine xrow_own ?_
      try simp [obAfter, outR, keptR, inv_cons, inv_nil, ← e16, insL_len e15 e16]
      intros
      refine xcall_rowsN [3, 4] [5, 6] ⟨_, rfl, rfl, _, rfl, rfl, rfl, rfl⟩ en_in_I (si_I v1.votes v12.1 a1.frm e15) (by decide) rfl rfl (by simp [pickOb, lvs_encI1]) rfl rfl rfl (by simp) (by simp) ⟨.l (.own (by simp [inv_cons, inv_nil])), .l (.s _), .l (.own (by simp [inv_cons, inv_nil])), trivial⟩ ?_
      try simp [obAfter, outR, keptR, inv_cons, inv_nil, ← e16, insL_len e15 e16]
      intros; rfl
     obtain rfl := Option.some.inj h
     refine nP_i ?_
     refine Weak.mixN [some 0, some 2, some 5] hn0 (by decide) ?_ ?_ rfl
     all_goals first | (simp [inv_cons, inv_nil, pickOb]; done) | rfl
    | false =>
     replace h := iteF rfl h
     refine AW.cond_false (by simp) ?_
     refine AW.skip ?_
     try simp only [sp_l, sp_r, Post.seq, Post.block, Nat.reduceEqDiff, reduceIte, Nat.zero_ne_one, Nat.one_ne_zero]
     obtain rfl := Option.some.inj h
     refine nP_i ?_
     refine Weak.mixN [some 0, some 2, some 3] hn0 (by decide) ?_ ?_ rfl
     all_goals first | (simp [inv_cons, inv_nil, pickOb]; done) | rfl
   ·rintro e s hp
    obtain ⟨rfl, hw⟩ := hp
    refine ⟨_, hw, ?_⟩
    try simp only [sp_l, sp_r, Post.seq, Post.block, Nat.reduceEqDiff, reduceIte, Nat.zero_ne_one, Nat.one_ne_zero]
    refine AW.seq ?_
    replace h := ltE h; obtain ⟨v17, e17, h⟩ := h
    replace h := ltE h; obtain ⟨v18, e18, h⟩ := h
    replace h := ltE h; obtain ⟨v19, e19, h⟩ := h
    replace h := ltE h; obtain ⟨v20, e20, h⟩ := h
    apply AW.step
    ·simp [lenI_cast e17, ← e18, lenI_cast e19, ← e20]
     intros; rfl
    cases v20 with
    | true =>
     replace h := iteT rfl h
     refine AW.cond_true (by simp) ?_
     apply AW.step
     ·simp
      intros; rfl
     replace h := chkE h; obtain ⟨e21, h⟩ := h
     refine AW.frzRow 2 (ty := 3) (cap := none) (sz := 1) (es := encI y13) (by simp) (by omega) (encI_sz _) (by first | exact (room_d e21).2 | simpa using (room_d e21).2 | simp) (by simp [Tm.frz, AV.frz, LV.frz]; rfl) (by simp [Ob.frz, LV.frz]; rfl) rfl ?_
     obtain rfl := Option.some.inj h
     refine AW.ret ?_
     refine Left.plain hnb (by simp [Try.f15, resV, resC, comp]; rfl) rfl rfl ?_
     simp
    | false =>
     replace h := iteF rfl h
     refine AW.cond_false (by simp) ?_
     refine AW.skip ?_
     try simp only [sp_l, sp_r, Post.seq, Post.block, Nat.reduceEqDiff, reduceIte, Nat.zero_ne_one, Nat.one_ne_zero]
     try simp only [sp_l, sp_r, Post.seq, Post.block, Nat.reduceEqDiff, reduceIte, Nat.zero_ne_one, Nat.one_ne_zero]
     replace h := chkE h; obtain ⟨e22, h⟩ := h
     refine AW.frzRow 2 (ty := 3) (cap := none) (sz := 1) (es := encI y13) (by simp) (by omega) (encI_sz _) (by first | exact (room_d e22).2 | simpa using (room_d e22).2 | simp) (by simp [Tm.frz, AV.frz, LV.frz]; rfl) (by simp [Ob.frz, LV.frz]; rfl) rfl ?_
     replace h := bnE h; obtain ⟨v23, e23, h⟩ := h
     apply AW.step
     ·simp
      intros
      refine xcall_plain en_vote_won (s_vote_won e23) rfl ⟨.same rfl, trivial⟩ ?_
      try simp
      intros; rfl
     obtain rfl := Option.some.inj h
     refine AW.ret ?_
     refine Left.plain hnb (by simp [Try.f15, resV, resC, comp]; rfl) rfl rfl ?_
     simp
theorem en_vote_Count : Enters Try.prog 15 := enters Try.func15 (by kernel_rfl) rfl
end Go.Proofs.Ytaibolmbafacpaa

/- Walks, printed: r1_Mark, r1_marks, r1_Has, r1_Has_ff, r1_Mix, r1_Norm, r13_Owned, r1_marks_ff, r1_Mix_fff, r1_Norm_f, r13_marks, r13_Of, r13_more, r13_more_xf, r13_Gi -/
namespace Go.Proofs.Ytaibolmbafacpaa
open Go Go.RowKit
set_option linter.unusedVariables false
set_option linter.unusedSimpArgs false
def r1_Mark_sh (n : Nat) (a0 : List Int) (a1 : Int) : Option (List Int) :=
lt (lenI a0) fun v1 =>
bn (iter n (fun (y2 : Int) =>
bn (lt (gtI y2 0) fun v6 =>
ite' v6 (lt (subI .i64 y2 1) fun v7 =>
bn (nth a0 v7) fun v8 =>
lt (geI v8 a1) fun v9 =>
some (v9)) (some (false))) fun (y5 : Bool) =>
lt (y5) fun v10 =>
ite' v10 (lt (subI .i64 y2 1) fun v11 =>
some (.inl v11)) (some (.inr y2))) v1) fun (y3 : Int) =>
bn (lt (ltI a1 0) fun v13 =>
ite' v13 (some (true)) (lt (gtI a1 16384) fun v14 =>
ite' v14 (some (true)) (lt (lenI a0) fun v15 =>
lt (ltI y3 v15) fun v16 =>
ite' v16 (bn (nth a0 y3) fun v17 =>
lt (eqI v17 a1) fun v18 =>
some (v18)) (some (false))))) fun (y12 : Bool) =>
lt (y12) fun v19 =>
ite' v19 (some a0) (bn (segh a0 y3) fun v20 =>
chk (room v20.length 8) <|
chk (room (v20.length + 1) 8) <|
lt (v20 ++ [a1]) fun v24 =>
bn (segl a0 y3) fun v25 =>
chk (room (v24.length + v25.length) 8) <|
lt (v24 ++ v25) fun v28 =>
chk (room v28.length 1) <|
some v28)
def r1_Has_ff_sh (n : Nat) (a0 : List Span) (a1 : Int) : Option Bool :=
bn (iter n (fun (y1 : Int) =>
lt (lenI a0) fun v4 =>
lt (ltI y1 v4) fun v5 =>
ite' v5 (bn (lt (geI a1 0) fun v7 =>
ite' v7 (lt (ltI a1 16384) fun v8 =>
ite' v8 (bn (nth a0 y1) fun v9 =>
lt (leI v9.frm a1) fun v10 =>
ite' v10 (lt (leI a1 v9.to) fun v11 =>
some (v11)) (some (false))) (some (false))) (some (false))) fun (y6 : Bool) =>
lt (y6) fun v12 =>
ite' v12 (some (.inr (.inr true))) (lt (addI .i64 y1 1) fun v13 =>
some (.inl v13))) (some (.inr (.inl ())))) 0) fun (y2 : Unit ⊕ Bool) =>
sm y2 (fun y14 => some false) (fun y15 => some y15)
def r1_marks_ff_sh (n : Nat) (a0 : List Span) (a1 : List Span) : Option (List Int) :=
chk (room 2 1) <|
bn (iter n (fun (y1 : List Int × Int) =>
lt (lenI a0) fun v5 =>
lt (lenI a1) fun v6 =>
lt (addI .i64 v5 v6) fun v7 =>
lt (ltI y1.2 v7) fun v8 =>
ite' v8 (bn (bn (lt (ltI y1.2 v5) fun v11 =>
ite' v11 (bn (nth a0 y1.2) fun v12 =>
some (v12)) (lt (subI .i64 y1.2 v5) fun v13 =>
bn (nth a1 v13) fun v14 =>
some (v14))) fun (y10 : Span) =>
bn (lt (leI y10.frm y10.to) fun v16 =>
ite' v16 (bn (r1_Mark_sh n y1.1 y10.frm) fun v17 =>
some (v17)) (some (y1.1))) fun (y15 : List Int) =>
bn (lt (leI y10.frm y10.to) fun v19 =>
ite' v19 (lt (ltI y10.to 16384) fun v20 =>
some (v20)) (some (false))) fun (y18 : Bool) =>
lt (y18) fun v21 =>
ite' v21 (lt (addI .i64 y10.to 1) fun v22 =>
bn (r1_Mark_sh n y15 v22) fun v23 =>
some (v23)) (some (y15))) fun (y9 : List Int) =>
lt (addI .i64 y1.2 1) fun v24 =>
some (.inl (y9, v24))) (some (.inr y1.1))) ([0, 16384], 0)) fun (y2 : List Int) =>
some y2
def r1_Mix_fff_sh (n : Nat) (a0 : Int) (a1 : List Span) (a2 : List Span) : Option (List Span) :=
bn (r1_marks_ff_sh n a1 a2) fun v1 =>
bn (iter n (fun (y2 : Int × List Span) =>
lt (addI .i64 y2.1 1) fun v5 =>
lt (lenI v1) fun v6 =>
lt (ltI v5 v6) fun v7 =>
ite' v7 (bn (bn (nth v1 y2.1) fun v9 =>
bn (r1_Has_ff_sh n a1 v9) fun v10 =>
bn (r1_Has_ff_sh n a2 v9) fun v11 =>
bn (ite' v10 (some ((true, true))) (some ((false, v11)))) fun (y12 : Bool × Bool) =>
bn (lt (eqI a0 1) fun v14 =>
ite' v14 (lt (y12.1) fun v15 =>
ite' v15 (lt (notB v11) fun v16 =>
some (v16)) (some (false))) (lt (eqI a0 2) fun v17 =>
ite' v17 (lt (y12.1) fun v18 =>
ite' v18 (some (v11)) (some (false))) (some (y12.2)))) fun (y13 : Bool) =>
lt (notB y13) fun v19 =>
ite' v19 (some (y2.2)) (bn (lt (lenI y2.2) fun v21 =>
lt (gtI v21 0) fun v22 =>
ite' v22 (lt (subI .i64 v21 1) fun v23 =>
bn (nth y2.2 v23) fun v24 =>
bn (nth v1 y2.1) fun v26 =>
lt (subI .i64 v26 1) fun v27 =>
lt (eqI v24.to v27) fun v28 =>
some (v28)) (some (false))) fun (y20 : Bool) =>
lt (y20) fun v29 =>
ite' v29 (lt (lenI y2.2) fun v30 =>
lt (subI .i64 v30 1) fun v31 =>
lt (addI .i64 y2.1 1) fun v32 =>
bn (nth v1 v32) fun v33 =>
lt (subI .i64 v33 1) fun v34 =>
bn (nth y2.2 v31) fun v35 =>
lt (y2.2.set v31.toNat (⟨v35.frm, v34⟩ : Span)) fun v37 =>
some (v37)) (bn (nth v1 y2.1) fun v40 =>
lt (addI .i64 y2.1 1) fun v41 =>
bn (nth v1 v41) fun v42 =>
lt (subI .i64 v42 1) fun v43 =>
chk (room (y2.2.length + 1) 16) <|
lt (y2.2 ++ [(⟨v40, v43⟩ : Span)]) fun v45 =>
some (v45)))) fun (y8 : List Span) =>
lt (addI .i64 y2.1 1) fun v46 =>
some (.inl (v46, y8))) (some (.inr y2.2))) (0, [])) fun (y3 : List Span) =>
chk (room y3.length 1) <|
some y3
def r1_Norm_f_sh (n : Nat) (a0 : List Span) : Option (List Span) :=
bn (r1_Mix_fff_sh n 0 a0 []) fun v1 =>
some v1
def r13_marks_sh (n : Nat) (a0 : List Int) (a1 : List Claim) : Option (List Int) :=
bn (iter n (fun (y1 : List Int × Int) =>
lt (lenI a1) fun v4 =>
lt (ltI y1.2 v4) fun v5 =>
ite' v5 (bn (nth a1 y1.2) fun v6 =>
bn (r1_Mark_sh n y1.1 v6.frm) fun v7 =>
lt (addI .i64 v6.to 1) fun v8 =>
bn (r1_Mark_sh n v7 v8) fun v9 =>
lt (addI .i64 y1.2 1) fun v10 =>
some (.inl (v9, v10))) (some (.inr y1.1))) (a0, 0)) fun (y2 : List Int) =>
some y2
def r13_Of_sh (n : Nat) (a0 : List Claim) (a1 : Int) : Option (Int × Int) :=
bn (iter n (fun (y1 : Int) =>
lt (lenI a0) fun v4 =>
lt (ltI y1 v4) fun v5 =>
ite' v5 (bn (bn (nth a0 y1) fun v7 =>
lt (leI v7.frm a1) fun v8 =>
ite' v8 (lt (leI a1 v7.to) fun v9 =>
some (v9)) (some (false))) fun (y6 : Bool) =>
lt (y6) fun v10 =>
ite' v10 (bn (nth a0 y1) fun v11 =>
some (.inr (.inr (v11.node, v11.epoch)))) (lt (addI .i64 y1 1) fun v12 =>
some (.inl v12))) (some (.inr (.inl ())))) 0) fun (y2 : Unit ⊕ (Int × Int)) =>
sm y2 (fun y13 => some (-1, 0)) (fun y14 => some y14)
def r13_more_xf_sh (n : Nat) (a0 : List Claim) (a1 : Claim) : Option (List Claim) :=
lt (lenI a0) fun v1 =>
lt (subI .i64 v1 1) fun v2 =>
bn (lt (geI v2 0) fun v4 =>
ite' v4 (bn (nth a0 v2) fun v5 =>
lt (subI .i64 a1.frm 1) fun v7 =>
lt (eqI v5.to v7) fun v8 =>
ite' v8 (lt (eqI v5.node a1.node) fun v10 =>
ite' v10 (lt (eqI v5.epoch a1.epoch) fun v12 =>
some (v12)) (some (false))) (some (false))) (some (false))) fun (y3 : Bool) =>
lt (y3) fun v13 =>
ite' v13 (bn (nth a0 v2) fun v14 =>
lt (a0.set v2.toNat (⟨v14.frm, a1.to, v14.node, v14.epoch⟩ : Claim)) fun v16 =>
some v16) (chk (room (a0.length + 1) 32) <|
lt (a0 ++ [a1]) fun v20 =>
some v20)
def r13_Give_sh (n : Nat) (a0 : List Claim) (a1 : List Span) (a2 : Int) (a3 : Int) : Option (List Claim) :=
bn (r1_Norm_f_sh n a1) fun v1 =>
bn (r13_marks_sh n [] a0) fun v2 =>
bn (iter n (fun (y3 : List Int × Int) =>
lt (lenI v1) fun v6 =>
lt (ltI y3.2 v6) fun v7 =>
ite' v7 (bn (nth v1 y3.2) fun v8 =>
bn (r1_Mark_sh n y3.1 v8.frm) fun v9 =>
lt (addI .i64 v8.to 1) fun v10 =>
bn (r1_Mark_sh n v9 v10) fun v11 =>
lt (addI .i64 y3.2 1) fun v12 =>
some (.inl (v11, v12))) (some (.inr y3.1))) (v2, 0)) fun (y4 : List Int) =>
bn (iter n (fun (y13 : Int × List Claim) =>
lt (addI .i64 y13.1 1) fun v16 =>
lt (lenI y4) fun v17 =>
lt (ltI v16 v17) fun v18 =>
ite' v18 (bn (bn (nth y4 y13.1) fun v20 =>
bn (r13_Of_sh n a0 v20) fun v21 =>
bn (bn (r1_Has_ff_sh n v1 v20) fun v23 =>
ite' v23 (some ((a2, a3))) (some ((v21.1, v21.2)))) fun (y22 : Int × Int) =>
lt (geI y22.1 0) fun v24 =>
ite' v24 (bn (nth y4 y13.1) fun v25 =>
lt (addI .i64 y13.1 1) fun v26 =>
bn (nth y4 v26) fun v27 =>
lt (subI .i64 v27 1) fun v28 =>
bn (r13_more_xf_sh n y13.2 (⟨v25, v28, y22.1, y22.2⟩ : Claim)) fun v29 =>
some (v29)) (some (y13.2))) fun (y19 : List Claim) =>
lt (addI .i64 y13.1 1) fun v30 =>
some (.inl (v30, y19))) (some (.inr y13.2))) (0, [])) fun (y14 : List Claim) =>
chk (room y14.length 1) <|
some y14
end Go.Proofs.Ytaibolmbafacpaa

