/- Part 4 of the proof. -/
import Derived.Test.YthjenkmbbnjcnaaPb3
import Derived.Test.YthjenkmbbnjcnaaRows
import Derived.ProofKit
/- Walks, printed: bits_Len64, bits_Len, cmp_isNaN_int, cmp_Compare_int, spans_said_1, slices_insertionSortCmpFunc_api_Span, slices_pdqsortCmpFunc_api_Span, slices_SortF -/
namespace Go.Proofs.Ythjenkmbbnjcnaa
open Go Go.RowKit
set_option linter.unusedVariables false
set_option linter.unusedSimpArgs false
def bits_Len64_sh (n : Nat) (a0 : Int) : Option Int :=
bn (lt (geI a0 4294967296) fun v2 =>
ite' v2 (bn (shrI .u64 a0 32) fun v3 =>
some ((v3, 32))) (some ((a0, 0)))) fun (y1 : Int × Int) =>
bn (lt (geI y1.1 65536) fun v5 =>
ite' v5 (bn (shrI .u64 y1.1 16) fun v6 =>
lt (addI .i64 y1.2 16) fun v7 =>
some ((v6, v7))) (some ((y1.1, y1.2)))) fun (y4 : Int × Int) =>
bn (lt (geI y4.1 256) fun v9 =>
ite' v9 (bn (shrI .u64 y4.1 8) fun v10 =>
lt (addI .i64 y4.2 8) fun v11 =>
some ((v10, v11))) (some ((y4.1, y4.2)))) fun (y8 : Int × Int) =>
lt (cvI .u8 y8.1) fun v12 =>
bn (atS ⟨#[0, 1, 2, 2, 3, 3, 3, 3, 4, 4, 4, 4, 4, 4, 4, 4, 5, 5, 5, 5, 5, 5, 5, 5, 5, 5, 5, 5, 5, 5, 5, 5, 6, 6, 6, 6, 6, 6, 6, 6, 6, 6, 6, 6, 6, 6, 6, 6, 6, 6, 6, 6, 6, 6, 6, 6, 6, 6, 6, 6, 6, 6, 6, 6, 7, 7, 7, 7, 7, 7, 7, 7, 7, 7, 7, 7, 7, 7, 7, 7, 7, 7, 7, 7, 7, 7, 7, 7, 7, 7, 7, 7, 7, 7, 7, 7, 7, 7, 7, 7, 7, 7, 7, 7, 7, 7, 7, 7, 7, 7, 7, 7, 7, 7, 7, 7, 7, 7, 7, 7, 7, 7, 7, 7, 7, 7, 7, 7, 8, 8, 8, 8, 8, 8, 8, 8, 8, 8, 8, 8, 8, 8, 8, 8, 8, 8, 8, 8, 8, 8, 8, 8, 8, 8, 8, 8, 8, 8, 8, 8, 8, 8, 8, 8, 8, 8, 8, 8, 8, 8, 8, 8, 8, 8, 8, 8, 8, 8, 8, 8, 8, 8, 8, 8, 8, 8, 8, 8, 8, 8, 8, 8, 8, 8, 8, 8, 8, 8, 8, 8, 8, 8, 8, 8, 8, 8, 8, 8, 8, 8, 8, 8, 8, 8, 8, 8, 8, 8, 8, 8, 8, 8, 8, 8, 8, 8, 8, 8, 8, 8, 8, 8, 8, 8, 8, 8, 8, 8, 8, 8, 8, 8, 8, 8, 8, 8, 8, 8, 8, 8, 8, 8, 8, 8, 8, 8]⟩ v12) fun v13 =>
lt (cvI .i64 v13) fun v15 =>
lt (addI .i64 y8.2 v15) fun v16 =>
some v16
set_option maxRecDepth 8000 in
set_option maxHeartbeats 2000000 in
theorem s_bits_Len64 {n : Nat} {a0 : Int} {r : Int} (h : bits_Len64_sh n a0 = some r) : Sound Try.prog 106 [.l (.s (.int .u64 a0))] [] (.l (.s (.int .i64 r))) [] := by
 unfold bits_Len64_sh at h
 refine Sound.of_aw (fn := Try.f106) (c := _) Try.func106 rfl (by simp [Try.f106]) fun cx hG hnb => ?_
 rw [show Try.f106.ntmps = 25 from rfl]
 have hn0 : cx.nb = 0 := hnb
 simp only [st0_mk, initTm, List.map_cons, List.map_nil]
 apply AW.step
 ·simp
  intros; rfl
 replace h := bnE h; obtain ⟨y1, g1, h⟩ := h
 refine AW.flow (p := fun gh ls => (nP (cx := cx) (fun q => (⟨[(0, .l (.s (.int .u64 q.1))), (2, .l (.s (.int .i64 q.2)))], [], 25, gh, ls⟩ : St))) y1) ?_ ?_
 ·replace h := g1; clear g1
  replace h := ltE h; obtain ⟨v2, e2, h⟩ := h
  apply AW.step
  ·simp [← e2]
   intros; rfl
  cases v2 with
  | true =>
   replace h := iteT rfl h
   refine AW.cond_true (by simp) ?_
   replace h := bnE h; obtain ⟨v3, e3, h⟩ := h
   apply AW.step
   ·simp [e3]
    intros; rfl
   apply AW.last
   ·simp
    intros; rfl
   obtain rfl := Option.some.inj h
   refine nP_i ?_
   refine Weak.mixN [] hn0 (by decide) ?_ ?_ rfl
   all_goals first | (simp [inv_cons, inv_nil, pickOb]; done) | rfl
  | false =>
   replace h := iteF rfl h
   refine AW.cond_false (by simp) ?_
   refine AW.skip ?_
   try simp only [sp_l, sp_r, Post.seq, Post.block, Nat.reduceEqDiff, reduceIte, Nat.zero_ne_one, Nat.one_ne_zero]
   obtain rfl := Option.some.inj h
   refine nP_i ?_
   refine Weak.mixN [] hn0 (by decide) ?_ ?_ rfl
   all_goals first | (simp [inv_cons, inv_nil, pickOb]; done) | rfl
 ·rintro e s hp
  obtain ⟨rfl, hw⟩ := hp
  refine ⟨_, hw, ?_⟩
  try simp only [sp_l, sp_r, Post.seq, Post.block, Nat.reduceEqDiff, reduceIte, Nat.zero_ne_one, Nat.one_ne_zero]
  replace h := bnE h; obtain ⟨y4, g4, h⟩ := h
  refine AW.flow (p := fun gh ls => (nP (cx := cx) (fun q => (⟨[(0, .l (.s (.int .u64 q.1))), (2, .l (.s (.int .i64 q.2)))], [], 25, gh, ls⟩ : St))) y4) ?_ ?_
  ·replace h := g4; clear g4
   replace h := ltE h; obtain ⟨v5, e5, h⟩ := h
   apply AW.step
   ·simp [← e5]
    intros; rfl
   cases v5 with
   | true =>
    replace h := iteT rfl h
    refine AW.cond_true (by simp) ?_
    replace h := bnE h; obtain ⟨v6, e6, h⟩ := h
    apply AW.step
    ·simp [e6]
     intros; rfl
    replace h := ltE h; obtain ⟨v7, e7, h⟩ := h
    apply AW.last
    ·simp [← e7]
     intros; rfl
    obtain rfl := Option.some.inj h
    refine nP_i ?_
    refine Weak.mixN [] hn0 (by decide) ?_ ?_ rfl
    all_goals first | (simp [inv_cons, inv_nil, pickOb]; done) | rfl
   | false =>
    replace h := iteF rfl h
    refine AW.cond_false (by simp) ?_
    refine AW.skip ?_
    try simp only [sp_l, sp_r, Post.seq, Post.block, Nat.reduceEqDiff, reduceIte, Nat.zero_ne_one, Nat.one_ne_zero]
    obtain rfl := Option.some.inj h
    refine nP_i ?_
    refine Weak.mixN [] hn0 (by decide) ?_ ?_ rfl
    all_goals first | (simp [inv_cons, inv_nil, pickOb]; done) | rfl
  ·rintro e s hp
   obtain ⟨rfl, hw⟩ := hp
   refine ⟨_, hw, ?_⟩
   try simp only [sp_l, sp_r, Post.seq, Post.block, Nat.reduceEqDiff, reduceIte, Nat.zero_ne_one, Nat.one_ne_zero]
   replace h := bnE h; obtain ⟨y8, g8, h⟩ := h
   refine AW.flow (p := fun gh ls => (nP (cx := cx) (fun q => (⟨[(0, .l (.s (.int .u64 q.1))), (2, .l (.s (.int .i64 q.2)))], [], 25, gh, ls⟩ : St))) y8) ?_ ?_
   ·replace h := g8; clear g8
    replace h := ltE h; obtain ⟨v9, e9, h⟩ := h
    apply AW.step
    ·simp [← e9]
     intros; rfl
    cases v9 with
    | true =>
     replace h := iteT rfl h
     refine AW.cond_true (by simp) ?_
     replace h := bnE h; obtain ⟨v10, e10, h⟩ := h
     apply AW.step
     ·simp [e10]
      intros; rfl
     replace h := ltE h; obtain ⟨v11, e11, h⟩ := h
     apply AW.last
     ·simp [← e11]
      intros; rfl
     obtain rfl := Option.some.inj h
     refine nP_i ?_
     refine Weak.mixN [] hn0 (by decide) ?_ ?_ rfl
     all_goals first | (simp [inv_cons, inv_nil, pickOb]; done) | rfl
    | false =>
     replace h := iteF rfl h
     refine AW.cond_false (by simp) ?_
     refine AW.skip ?_
     try simp only [sp_l, sp_r, Post.seq, Post.block, Nat.reduceEqDiff, reduceIte, Nat.zero_ne_one, Nat.one_ne_zero]
     obtain rfl := Option.some.inj h
     refine nP_i ?_
     refine Weak.mixN [] hn0 (by decide) ?_ ?_ rfl
     all_goals first | (simp [inv_cons, inv_nil, pickOb]; done) | rfl
   ·rintro e s hp
    obtain ⟨rfl, hw⟩ := hp
    refine ⟨_, hw, ?_⟩
    try simp only [sp_l, sp_r, Post.seq, Post.block, Nat.reduceEqDiff, reduceIte, Nat.zero_ne_one, Nat.one_ne_zero]
    replace h := ltE h; obtain ⟨v12, e12, h⟩ := h
    replace h := bnE h; obtain ⟨v13, e13, h⟩ := h
    have f14 := atS_d e13
    try simp [← e12] at f14
    replace h := ltE h; obtain ⟨v15, e15, h⟩ := h
    replace h := ltE h; obtain ⟨v16, e16, h⟩ := h
    apply AW.step
    ·simp [← e12, f14, ← e15, ← e16]
     intros; rfl
    obtain rfl := Option.some.inj h
    refine AW.ret ?_
    refine Left.plain hnb (by simp [Try.f106, resV, resC, comp]; rfl) rfl rfl ?_
    simp
theorem en_bits_Len64 : Enters Try.prog 106 := enters Try.func106 (by kernel_rfl) rfl
def bits_Len_sh (n : Nat) (a0 : Int) : Option Int :=
bn (bits_Len64_sh n a0) fun v1 =>
some v1
set_option maxRecDepth 8000 in
set_option maxHeartbeats 2000000 in
theorem s_bits_Len {n : Nat} {a0 : Int} {r : Int} (h : bits_Len_sh n a0 = some r) : Sound Try.prog 71 [.l (.s (.int .u64 a0))] [] (.l (.s (.int .i64 r))) [] := by
 unfold bits_Len_sh at h
 refine Sound.of_aw (fn := Try.f71) (c := _) Try.func71 rfl (by simp [Try.f71]) fun cx hG hnb => ?_
 rw [show Try.f71.ntmps = 8 from rfl]
 have hn0 : cx.nb = 0 := hnb
 simp only [st0_mk, initTm, List.map_cons, List.map_nil]
 apply AW.step
 ·simp
  intros; rfl
 refine AW.seq ?_
 refine AW.cond_false (by simp) ?_
 refine AW.skip ?_
 try simp only [sp_l, sp_r, Post.seq, Post.block, Nat.reduceEqDiff, reduceIte, Nat.zero_ne_one, Nat.one_ne_zero]
 try simp only [sp_l, sp_r, Post.seq, Post.block, Nat.reduceEqDiff, reduceIte, Nat.zero_ne_one, Nat.one_ne_zero]
 replace h := bnE h; obtain ⟨v1, e1, h⟩ := h
 apply AW.step
 ·simp
  intros
  refine xcall_plain en_bits_Len64 (s_bits_Len64 e1) rfl ⟨.same rfl, trivial⟩ ?_
  try simp
  intros; rfl
 obtain rfl := Option.some.inj h
 refine AW.ret ?_
 refine Left.plain hnb (by simp [Try.f71, resV, resC, comp]; rfl) rfl rfl ?_
 simp
theorem en_bits_Len : Enters Try.prog 71 := enters Try.func71 (by kernel_rfl) rfl
def cmp_isNaN_int_sh (n : Nat) (a0 : Int) : Option Bool :=
lt (neI a0 a0) fun v1 =>
some v1
set_option maxRecDepth 8000 in
set_option maxHeartbeats 2000000 in
theorem s_cmp_isNaN_int {n : Nat} {a0 : Int} {r : Bool} (h : cmp_isNaN_int_sh n a0 = some r) : Sound Try.prog 112 [.l (.s (.int .i64 a0))] [] (.l (.s (.bool r))) [] := by
 unfold cmp_isNaN_int_sh at h
 refine Sound.of_aw (fn := Try.f112) (c := _) Try.func112 rfl (by simp [Try.f112]) fun cx hG hnb => ?_
 rw [show Try.f112.ntmps = 6 from rfl]
 have hn0 : cx.nb = 0 := hnb
 simp only [st0_mk, initTm, List.map_cons, List.map_nil]
 apply AW.step
 ·simp
  intros; rfl
 replace h := ltE h; obtain ⟨v1, e1, h⟩ := h
 apply AW.step
 ·simp [← e1]
  intros; rfl
 obtain rfl := Option.some.inj h
 refine AW.ret ?_
 refine Left.plain hnb (by simp [Try.f112, resV, resC, comp]; rfl) rfl rfl ?_
 simp
theorem en_cmp_isNaN_int : Enters Try.prog 112 := enters Try.func112 (by kernel_rfl) rfl
def cmp_Compare_int_sh (n : Nat) (a0 : Int) (a1 : Int) : Option Int :=
bn (cmp_isNaN_int_sh n a0) fun v1 =>
bn (cmp_isNaN_int_sh n a1) fun v2 =>
ite' v1 (ite' v2 (some 0) (some (-1))) (ite' v2 (some 1) (lt (ltI a0 a1) fun v3 =>
ite' v3 (some (-1)) (lt (gtI a0 a1) fun v4 =>
ite' v4 (some 1) (some 0))))
set_option maxRecDepth 8000 in
set_option maxHeartbeats 2000000 in
theorem s_cmp_Compare_int {n : Nat} {a0 : Int} {a1 : Int} {r : Int} (h : cmp_Compare_int_sh n a0 a1 = some r) : Sound Try.prog 83 [.l (.s (.int .i64 a0)), .l (.s (.int .i64 a1))] [] (.l (.s (.int .i64 r))) [] := by
 unfold cmp_Compare_int_sh at h
 refine Sound.of_aw (fn := Try.f83) (c := _) Try.func83 rfl (by simp [Try.f83]) fun cx hG hnb => ?_
 rw [show Try.f83.ntmps = 20 from rfl]
 have hn0 : cx.nb = 0 := hnb
 simp only [st0_mk, initTm, List.map_cons, List.map_nil]
 apply AW.step
 ·simp
  intros; rfl
 replace h := bnE h; obtain ⟨v1, e1, h⟩ := h
 apply AW.step
 ·simp
  intros
  refine xcall_plain en_cmp_isNaN_int (s_cmp_isNaN_int e1) rfl ⟨.same rfl, trivial⟩ ?_
  try simp
  intros; rfl
 replace h := bnE h; obtain ⟨v2, e2, h⟩ := h
 apply AW.step
 ·simp
  intros
  refine xcall_plain en_cmp_isNaN_int (s_cmp_isNaN_int e2) rfl ⟨.same rfl, trivial⟩ ?_
  try simp
  intros; rfl
 refine AW.seq ?_
 apply AW.step
 ·simp
  intros; rfl
 cases v1 with
 | true =>
  replace h := iteT rfl h
  refine AW.cond_true (by simp) ?_
  refine AW.seq ?_
  apply AW.step
  ·simp
   intros; rfl
  cases v2 with
  | true =>
   replace h := iteT rfl h
   refine AW.cond_true (by simp) ?_
   apply AW.step
   ·simp
    intros; rfl
   obtain rfl := Option.some.inj h
   refine AW.ret ?_
   refine Left.plain hnb (by simp [Try.f83, resV, resC, comp]; rfl) rfl rfl ?_
   simp
  | false =>
   replace h := iteF rfl h
   refine AW.cond_false (by simp) ?_
   refine AW.skip ?_
   try simp only [sp_l, sp_r, Post.seq, Post.block, Nat.reduceEqDiff, reduceIte, Nat.zero_ne_one, Nat.one_ne_zero]
   try simp only [sp_l, sp_r, Post.seq, Post.block, Nat.reduceEqDiff, reduceIte, Nat.zero_ne_one, Nat.one_ne_zero]
   apply AW.step
   ·simp
    intros; rfl
   obtain rfl := Option.some.inj h
   refine AW.ret ?_
   refine Left.plain hnb (by simp [Try.f83, resV, resC, comp]; rfl) rfl rfl ?_
   simp
 | false =>
  replace h := iteF rfl h
  refine AW.cond_false (by simp) ?_
  refine AW.skip ?_
  try simp only [sp_l, sp_r, Post.seq, Post.block, Nat.reduceEqDiff, reduceIte, Nat.zero_ne_one, Nat.one_ne_zero]
  try simp only [sp_l, sp_r, Post.seq, Post.block, Nat.reduceEqDiff, reduceIte, Nat.zero_ne_one, Nat.one_ne_zero]
  refine AW.seq ?_
  apply AW.step
  ·simp
   intros; rfl
  cases v2 with
  | true =>
   replace h := iteT rfl h
   refine AW.cond_true (by simp) ?_
   apply AW.step
   ·simp
    intros; rfl
   obtain rfl := Option.some.inj h
   refine AW.ret ?_
   refine Left.plain hnb (by simp [Try.f83, resV, resC, comp]; rfl) rfl rfl ?_
   simp
  | false =>
   replace h := iteF rfl h
   refine AW.cond_false (by simp) ?_
   refine AW.skip ?_
   try simp only [sp_l, sp_r, Post.seq, Post.block, Nat.reduceEqDiff, reduceIte, Nat.zero_ne_one, Nat.one_ne_zero]
   try simp only [sp_l, sp_r, Post.seq, Post.block, Nat.reduceEqDiff, reduceIte, Nat.zero_ne_one, Nat.one_ne_zero]
   refine AW.seq ?_
   replace h := ltE h; obtain ⟨v3, e3, h⟩ := h
   apply AW.step
   ·simp [← e3]
    intros; rfl
   cases v3 with
   | true =>
    replace h := iteT rfl h
    refine AW.cond_true (by simp) ?_
    apply AW.step
    ·simp
     intros; rfl
    obtain rfl := Option.some.inj h
    refine AW.ret ?_
    refine Left.plain hnb (by simp [Try.f83, resV, resC, comp]; rfl) rfl rfl ?_
    simp
   | false =>
    replace h := iteF rfl h
    refine AW.cond_false (by simp) ?_
    refine AW.skip ?_
    try simp only [sp_l, sp_r, Post.seq, Post.block, Nat.reduceEqDiff, reduceIte, Nat.zero_ne_one, Nat.one_ne_zero]
    try simp only [sp_l, sp_r, Post.seq, Post.block, Nat.reduceEqDiff, reduceIte, Nat.zero_ne_one, Nat.one_ne_zero]
    refine AW.seq ?_
    replace h := ltE h; obtain ⟨v4, e4, h⟩ := h
    apply AW.step
    ·simp [← e4]
     intros; rfl
    cases v4 with
    | true =>
     replace h := iteT rfl h
     refine AW.cond_true (by simp) ?_
     apply AW.step
     ·simp
      intros; rfl
     obtain rfl := Option.some.inj h
     refine AW.ret ?_
     refine Left.plain hnb (by simp [Try.f83, resV, resC, comp]; rfl) rfl rfl ?_
     simp
    | false =>
     replace h := iteF rfl h
     refine AW.cond_false (by simp) ?_
     refine AW.skip ?_
     try simp only [sp_l, sp_r, Post.seq, Post.block, Nat.reduceEqDiff, reduceIte, Nat.zero_ne_one, Nat.one_ne_zero]
     try simp only [sp_l, sp_r, Post.seq, Post.block, Nat.reduceEqDiff, reduceIte, Nat.zero_ne_one, Nat.one_ne_zero]
     apply AW.step
     ·simp
      intros; rfl
     obtain rfl := Option.some.inj h
     refine AW.ret ?_
     refine Left.plain hnb (by simp [Try.f83, resV, resC, comp]; rfl) rfl rfl ?_
     simp
theorem en_cmp_Compare_int : Enters Try.prog 83 := enters Try.func83 (by kernel_rfl) rfl
def spans_said_1_sh (n : Nat) (a0 : Span) (a1 : Span) : Option Int :=
bn (cmp_Compare_int_sh n a0.frm a1.frm) fun v1 =>
some v1
set_option maxRecDepth 8000 in
set_option maxHeartbeats 2000000 in
theorem s_spans_said_1 {n : Nat} {a0 : Span} {a1 : Span} {r : Int} (h : spans_said_1_sh n a0 a1 = some r) : Sound Try.prog 95 [.g [.s (.int .i64 a0.frm), .s (.int .i64 a0.to)], .g [.s (.int .i64 a1.frm), .s (.int .i64 a1.to)]] [] (.l (.s (.int .i64 r))) [] := by
 unfold spans_said_1_sh at h
 refine Sound.of_aw (fn := Try.f95) (c := _) Try.func95 rfl (by simp [Try.f95]) fun cx hG hnb => ?_
 rw [show Try.f95.ntmps = 10 from rfl]
 have hn0 : cx.nb = 0 := hnb
 simp only [st0_mk, initTm, List.map_cons, List.map_nil]
 apply AW.step
 ·simp
  intros; rfl
 replace h := bnE h; obtain ⟨v1, e1, h⟩ := h
 apply AW.step
 ·simp
  intros
  refine xcall_plain en_cmp_Compare_int (s_cmp_Compare_int e1) rfl ⟨.same rfl, .same rfl, trivial⟩ ?_
  try simp
  intros; rfl
 obtain rfl := Option.some.inj h
 refine AW.ret ?_
 refine Left.plain hnb (by simp [Try.f95, resV, resC, comp]; rfl) rfl rfl ?_
 simp
theorem en_spans_said_1 : Enters Try.prog 95 := enters Try.func95 (by kernel_rfl) rfl
def slices_insertionSortCmpFunc_api_Span_sh (n : Nat) (a0 : List Span) (a1 : Int) (a2 : Int) : Option (List Span) :=
lt (addI .i64 a1 1) fun v1 =>
bn (iter n (fun (y2 : Int × List Span) =>
lt (ltI y2.1 a2) fun v5 =>
ite' v5 (bn (iter n (fun (y6 : Int × List Span) =>
bn (lt (gtI y6.1 a1) fun v10 =>
ite' v10 (bn (nth y6.2 y6.1) fun v11 =>
lt (subI .i64 y6.1 1) fun v13 =>
bn (nth y6.2 v13) fun v14 =>
bn (spans_said_1_sh n v11 v14) fun v16 =>
lt (ltI v16 0) fun v17 =>
some (v17)) (some (false))) fun (y9 : Bool) =>
lt (y9) fun v18 =>
ite' v18 (lt (subI .i64 y6.1 1) fun v19 =>
bn (nth y6.2 v19) fun v20 =>
bn (nth y6.2 y6.1) fun v22 =>
lt (y6.2.set y6.1.toNat v20) fun v25 =>
bn (nth v25 v19) fun v30 =>
lt (v25.set v19.toNat v22) fun v32 =>
some (.inl (v19, v32))) (some (.inr y6.2))) (y2.1, y2.2)) fun (y7 : List Span) =>
lt (addI .i64 y2.1 1) fun v41 =>
some (.inl (v41, y7))) (some (.inr y2.2))) (v1, a0)) fun (y3 : List Span) =>
some y3
set_option maxRecDepth 8000 in
set_option maxHeartbeats 2000000 in
theorem s_slices_insertionSortCmpFunc_api_Span {n : Nat} {a0 : List Span} {a1 : Int} {a2 : Int} {r : List Span} (h : slices_insertionSortCmpFunc_api_Span_sh n a0 a1 a2 = some r) : Sound Try.prog 142 [.l (.r 0 2 0 a0.length), .l (.s (.int .i64 a1)), .l (.s (.int .i64 a2)), .l (.s (.func (.func 95) #[] #[]))] [⟨43, 2, false, some 0, lvs (encSpan a0)⟩] (.t []) [some ⟨43, 2, false, some 0, lvs (encSpan r)⟩] := by
 unfold slices_insertionSortCmpFunc_api_Span_sh at h
 refine Sound.of_aw (fn := Try.f142) (c := _) Try.func142 rfl (by simp [Try.f142]) fun cx hG hnb => ?_
 rw [show Try.f142.ntmps = 53 from rfl]
 have hn0 : cx.nb = 1 := hnb
 simp only [st0_mk, initTm, List.map_cons, List.map_nil]
 replace h := ltE h; obtain ⟨v1, e1, h⟩ := h
 apply AW.step
 ·simp [← e1]
  intros; rfl
 refine AW.block ?_
 replace h := bnE h; obtain ⟨y3, g3, h⟩ := h
 refine AW.iterP g3 (mk := fun gh ls q => (⟨[(0, .l (.r 0 2 0 q.2.length)), (1, .l (.s (.int .i64 a1))), (2, .l (.s (.int .i64 a2))), (3, .l (.s (.func (.func 95) #[] #[]))), (8, .l (.s (.int .i64 q.1)))], [some ⟨43, 2, false, some 0, lvs (encSpan q.2)⟩], 53, gh, ls⟩ : St)) (N := fun gh ls => (xP 0 (cx := cx) (fun q => (⟨[], [some ⟨43, 2, false, some 0, lvs (encSpan q)⟩], 53, gh, ls⟩ : St)))) ?_ noX ?_ ?_
 ·refine Weak.mixB 1 [some 0] hn0 (by decide) (by decide) ?_ ?_ ?_
  all_goals first | (simp [inv_cons, inv_nil, pickOb]; done) | rfl
 ·clear h; intro y2 y4 h
  refine AW.seq ?_
  replace h := ltE h; obtain ⟨v5, e5, h⟩ := h
  apply AW.step
  ·simp [← e5]
   intros; rfl
  cases v5 with
  | true =>
   replace h := iteT rfl h
   refine AW.cond_true (by simp) ?_
   refine AW.skip ?_
   try simp only [sp_l, sp_r, Post.seq, Post.block, Nat.reduceEqDiff, reduceIte, Nat.zero_ne_one, Nat.one_ne_zero]
   try simp only [sp_l, sp_r, Post.seq, Post.block, Nat.reduceEqDiff, reduceIte, Nat.zero_ne_one, Nat.one_ne_zero]
   refine AW.seq ?_
   refine AW.block ?_
   apply AW.step
   ·simp
    intros; rfl
   refine AW.block ?_
   replace h := bnE h; obtain ⟨y7, g7, h⟩ := h
   refine AW.iterP g7 (mk := fun gh ls q => (⟨[(0, .l (.r 0 2 0 q.2.length)), (1, .l (.s (.int .i64 a1))), (2, .l (.s (.int .i64 a2))), (3, .l (.s (.func (.func 95) #[] #[]))), (8, .l (.s (.int .i64 y2.1))), (9, .l (.s (.int .i64 q.1)))], [some ⟨43, 2, false, some 0, lvs (encSpan q.2)⟩], 53, gh, ls⟩ : St)) (N := fun gh ls => (xP 2 (cx := cx) (fun q => (⟨[(0, .l (.r 0 2 0 q.length)), (1, .l (.s (.int .i64 a1))), (2, .l (.s (.int .i64 a2))), (3, .l (.s (.func (.func 95) #[] #[]))), (8, .l (.s (.int .i64 y2.1)))], [some ⟨43, 2, false, some 0, lvs (encSpan q)⟩], 53, gh, ls⟩ : St)))) ?_ noX ?_ ?_
   ·refine Weak.mixB 1 [some 0] hn0 (by decide) (by decide) ?_ ?_ ?_
    all_goals first | (simp [inv_cons, inv_nil, pickOb]; done) | rfl
   ·clear h; intro y6 y8 h
    refine AW.seq ?_
    replace h := bnE h; obtain ⟨y9, g9, h⟩ := h
    refine AW.flow (p := fun gh ls => (nP (cx := cx) (fun q => (⟨[(0, .l (.r 0 2 0 y6.2.length)), (1, .l (.s (.int .i64 a1))), (2, .l (.s (.int .i64 a2))), (3, .l (.s (.func (.func 95) #[] #[]))), (8, .l (.s (.int .i64 y2.1))), (9, .l (.s (.int .i64 y6.1))), (34, .l (.s (.bool q)))], [some ⟨43, 2, false, some 0, lvs (encSpan y6.2)⟩], 53, gh, ls⟩ : St))) y9) ?_ ?_
    ·replace h := g9; clear g9
     replace h := ltE h; obtain ⟨v10, e10, h⟩ := h
     cases v10 with
     | true =>
      replace h := iteT rfl h
      replace h := bnE h; obtain ⟨v11, e11, h⟩ := h
      have f12 := nth_lt e11
      try simp [← e10, nth_d e11] at f12
      replace h := ltE h; obtain ⟨v13, e13, h⟩ := h
      replace h := bnE h; obtain ⟨v14, e14, h⟩ := h
      have f15 := nth_lt e14
      try simp [← e10, nth_d e11, f12, encSpan_seg0 (nth_d e11).2 (k := 2) (by decide), encSpan_fit (nth_d e11).2 (show 2 ≤ 2 by decide), lvs1, ← e13, nth_d e14] at f15
      replace h := bnE h; obtain ⟨v16, e16, h⟩ := h
      replace h := ltE h; obtain ⟨v17, e17, h⟩ := h
      apply AW.drawnR (V := [_, _, _, _, _, _, _, _, _, _, _, _, _, _]) mixed [⟨[0], [], [(9, none)], false⟩, ⟨[0], [], [(1, none)], false⟩, ⟨[0], [0, 1], [(18, some 0), (19, some 1)], false⟩, ⟨[0], [0, 1, 2], [(20, some 2)], false⟩, ⟨[0], [0, 1, 2, 3], [(3, none), (21, some 3)], false⟩, ⟨[0], [0, 1, 2, 3], [(0, none), (21, some 3)], false⟩, ⟨[0], [0, 1, 2, 3], [(9, none), (21, some 3)], false⟩, ⟨[0], [0, 1, 2, 3, 5, 6], [(21, some 3), (23, some 5), (24, some 6)], false⟩, ⟨[0], [0, 1, 2, 3, 5, 6, 7], [(21, some 3), (25, some 7)], false⟩, ⟨[0], [0, 1, 2, 3], [(0, none), (21, some 3)], false⟩, ⟨[0], [0, 1, 2, 3], [(9, none), (21, some 3)], false⟩, ⟨[0], [0, 1, 2, 3, 10], [(21, some 3), (28, some 10)], false⟩, ⟨[0], [0, 1, 2, 3, 9, 10, 11], [(21, some 3), (27, some 9), (29, some 11)], false⟩, ⟨[0], [0, 1, 2, 3, 9, 10, 11, 12], [(21, some 3), (30, some 12)], false⟩, ⟨[], [0, 1, 2, 3, 4, 5, 6, 7, 8, 9, 10, 11, 12, 13], [], false⟩, ⟨[], [0, 1, 2, 3, 4, 5, 6, 7, 8, 9, 10, 11, 12, 13, 14], [], false⟩, ⟨[], [0, 1, 2, 3, 4, 5, 6, 7, 8, 9, 10, 11, 12, 13, 14, 15], [], false⟩] 14 (by kernel_rfl) (by kernel_rfl)
      ·refine ⟨?_, ?_, ?_, ?_, ?_, ?_, ?_, ?_, ?_, ?_, ?_, ?_, ?_, ?_, trivial⟩
       ·intro tm hr
        simp [AllL, rdV] at hr
        simp [hr, ← e10, nth_d e11, f12, encSpan_seg0 (nth_d e11).2 (k := 2) (by decide), encSpan_fit (nth_d e11).2 (show 2 ≤ 2 by decide), lvs1, ← e13, nth_d e14, f15, encSpan_seg0 (nth_d e14).2 (k := 2) (by decide), encSpan_fit (nth_d e14).2 (show 2 ≤ 2 by decide), ← e17]
        intros; first | exact KD.mk | exact KD.mkN
       ·intro tm hr
        simp [AllL, rdV] at hr
        simp [hr, ← e10, nth_d e11, f12, encSpan_seg0 (nth_d e11).2 (k := 2) (by decide), encSpan_fit (nth_d e11).2 (show 2 ≤ 2 by decide), lvs1, ← e13, nth_d e14, f15, encSpan_seg0 (nth_d e14).2 (k := 2) (by decide), encSpan_fit (nth_d e14).2 (show 2 ≤ 2 by decide), ← e17]
        intros; first | exact KD.mk | exact KD.mkN
       ·intro tm hr
        simp [AllL, rdV] at hr
        simp [hr, ← e10, nth_d e11, f12, encSpan_seg0 (nth_d e11).2 (k := 2) (by decide), encSpan_fit (nth_d e11).2 (show 2 ≤ 2 by decide), lvs1, ← e13, nth_d e14, f15, encSpan_seg0 (nth_d e14).2 (k := 2) (by decide), encSpan_fit (nth_d e14).2 (show 2 ≤ 2 by decide), ← e17]
        intros; first | exact KD.mk | exact KD.mkN
       ·intro tm hr
        simp [AllL, rdV] at hr
        simp [hr, ← e10, nth_d e11, f12, encSpan_seg0 (nth_d e11).2 (k := 2) (by decide), encSpan_fit (nth_d e11).2 (show 2 ≤ 2 by decide), lvs1, ← e13, nth_d e14, f15, encSpan_seg0 (nth_d e14).2 (k := 2) (by decide), encSpan_fit (nth_d e14).2 (show 2 ≤ 2 by decide), ← e17]
        intros; first | exact KD.mk | exact KD.mkN
       ·intro tm hr
        simp [AllL, rdV] at hr
        simp [hr, ← e10, nth_d e11, f12, encSpan_seg0 (nth_d e11).2 (k := 2) (by decide), encSpan_fit (nth_d e11).2 (show 2 ≤ 2 by decide), lvs1, ← e13, nth_d e14, f15, encSpan_seg0 (nth_d e14).2 (k := 2) (by decide), encSpan_fit (nth_d e14).2 (show 2 ≤ 2 by decide), ← e17]
        intros; first | exact KD.mk | exact KD.mkN
       ·intro tm hr
        simp [AllL, rdV] at hr
        simp [hr, ← e10, nth_d e11, f12, encSpan_seg0 (nth_d e11).2 (k := 2) (by decide), encSpan_fit (nth_d e11).2 (show 2 ≤ 2 by decide), lvs1, ← e13, nth_d e14, f15, encSpan_seg0 (nth_d e14).2 (k := 2) (by decide), encSpan_fit (nth_d e14).2 (show 2 ≤ 2 by decide), ← e17]
        intros; first | exact KD.mk | exact KD.mkN
       ·intro tm hr
        simp [AllL, rdV] at hr
        simp [hr, ← e10, nth_d e11, f12, encSpan_seg0 (nth_d e11).2 (k := 2) (by decide), encSpan_fit (nth_d e11).2 (show 2 ≤ 2 by decide), lvs1, ← e13, nth_d e14, f15, encSpan_seg0 (nth_d e14).2 (k := 2) (by decide), encSpan_fit (nth_d e14).2 (show 2 ≤ 2 by decide), ← e17]
        intros; first | exact KD.mk | exact KD.mkN
       ·intro tm hr
        simp [AllL, rdV] at hr
        simp [hr, ← e10, nth_d e11, f12, encSpan_seg0 (nth_d e11).2 (k := 2) (by decide), encSpan_fit (nth_d e11).2 (show 2 ≤ 2 by decide), lvs1, ← e13, nth_d e14, f15, encSpan_seg0 (nth_d e14).2 (k := 2) (by decide), encSpan_fit (nth_d e14).2 (show 2 ≤ 2 by decide), ← e17]
        intros; first | exact KD.mk | exact KD.mkN
       ·intro tm hr
        simp [AllL, rdV] at hr
        simp [hr, ← e10, nth_d e11, f12, encSpan_seg0 (nth_d e11).2 (k := 2) (by decide), encSpan_fit (nth_d e11).2 (show 2 ≤ 2 by decide), lvs1, ← e13, nth_d e14, f15, encSpan_seg0 (nth_d e14).2 (k := 2) (by decide), encSpan_fit (nth_d e14).2 (show 2 ≤ 2 by decide), ← e17]
        intros; first | exact KD.mk | exact KD.mkN
       ·intro tm hr
        simp [AllL, rdV] at hr
        simp [hr, ← e10, nth_d e11, f12, encSpan_seg0 (nth_d e11).2 (k := 2) (by decide), encSpan_fit (nth_d e11).2 (show 2 ≤ 2 by decide), lvs1, ← e13, nth_d e14, f15, encSpan_seg0 (nth_d e14).2 (k := 2) (by decide), encSpan_fit (nth_d e14).2 (show 2 ≤ 2 by decide), ← e17]
        intros; first | exact KD.mk | exact KD.mkN
       ·intro tm hr
        simp [AllL, rdV] at hr
        simp [hr, ← e10, nth_d e11, f12, encSpan_seg0 (nth_d e11).2 (k := 2) (by decide), encSpan_fit (nth_d e11).2 (show 2 ≤ 2 by decide), lvs1, ← e13, nth_d e14, f15, encSpan_seg0 (nth_d e14).2 (k := 2) (by decide), encSpan_fit (nth_d e14).2 (show 2 ≤ 2 by decide), ← e17]
        intros; first | exact KD.mk | exact KD.mkN
       ·intro tm hr
        simp [AllL, rdV] at hr
        simp [hr, ← e10, nth_d e11, f12, encSpan_seg0 (nth_d e11).2 (k := 2) (by decide), encSpan_fit (nth_d e11).2 (show 2 ≤ 2 by decide), lvs1, ← e13, nth_d e14, f15, encSpan_seg0 (nth_d e14).2 (k := 2) (by decide), encSpan_fit (nth_d e14).2 (show 2 ≤ 2 by decide), ← e17]
        intros; first | exact KD.mk | exact KD.mkN
       ·intro tm hr
        simp [AllL, rdV] at hr
        simp [hr, ← e10, nth_d e11, f12, encSpan_seg0 (nth_d e11).2 (k := 2) (by decide), encSpan_fit (nth_d e11).2 (show 2 ≤ 2 by decide), lvs1, ← e13, nth_d e14, f15, encSpan_seg0 (nth_d e14).2 (k := 2) (by decide), encSpan_fit (nth_d e14).2 (show 2 ≤ 2 by decide), ← e17]
        intros; first | exact KD.mk | exact KD.mkN
       ·intro tm hr
        simp [AllL, rdV] at hr
        simp [hr, ← e10, nth_d e11, f12, encSpan_seg0 (nth_d e11).2 (k := 2) (by decide), encSpan_fit (nth_d e11).2 (show 2 ≤ 2 by decide), lvs1, ← e13, nth_d e14, f15, encSpan_seg0 (nth_d e14).2 (k := 2) (by decide), encSpan_fit (nth_d e14).2 (show 2 ≤ 2 by decide), ← e17]
        intros; first | exact KD.mk | exact KD.mkN
      ·rfl
      ·simp [tmD, putD, ← e10, nth_d e11, f12, encSpan_seg0 (nth_d e11).2 (k := 2) (by decide), encSpan_fit (nth_d e11).2 (show 2 ≤ 2 by decide), lvs1, ← e13, nth_d e14, f15, encSpan_seg0 (nth_d e14).2 (k := 2) (by decide), encSpan_fit (nth_d e14).2 (show 2 ≤ 2 by decide), ← e17]; rfl
      ·simp [← e10, nth_d e11, f12, encSpan_seg0 (nth_d e11).2 (k := 2) (by decide), encSpan_fit (nth_d e11).2 (show 2 ≤ 2 by decide), lvs1, ← e13, nth_d e14, f15, encSpan_seg0 (nth_d e14).2 (k := 2) (by decide), encSpan_fit (nth_d e14).2 (show 2 ≤ 2 by decide), ← e17]
       intros
       refine xcall_plain en_spans_said_1 (s_spans_said_1 e16) rfl ⟨.same rfl, .same rfl, trivial⟩ ?_
       try simp [← e10, nth_d e11, f12, encSpan_seg0 (nth_d e11).2 (k := 2) (by decide), encSpan_fit (nth_d e11).2 (show 2 ≤ 2 by decide), lvs1, ← e13, nth_d e14, f15, encSpan_seg0 (nth_d e14).2 (k := 2) (by decide), encSpan_fit (nth_d e14).2 (show 2 ≤ 2 by decide), ← e17]
       intros; rfl
      obtain rfl := Option.some.inj h
      refine nP_i ?_
      refine Weak.mixB 1 [some 0] hn0 (by decide) (by decide) ?_ ?_ ?_
      all_goals first | (simp [inv_cons, inv_nil, pickOb]; done) | rfl
     | false =>
      replace h := iteF rfl h
      apply AW.drawnR (V := [_, _, _, _, _, _, _, _, _, _, _, _, _, _]) mixed [⟨[0], [], [(9, none)], false⟩, ⟨[0], [], [(1, none)], false⟩, ⟨[0], [0, 1], [(18, some 0), (19, some 1)], false⟩, ⟨[0], [0, 1, 2], [(20, some 2)], false⟩, ⟨[0], [0, 1, 2, 3], [(3, none), (21, some 3)], false⟩, ⟨[0], [0, 1, 2, 3], [(0, none), (21, some 3)], false⟩, ⟨[0], [0, 1, 2, 3], [(9, none), (21, some 3)], false⟩, ⟨[0], [0, 1, 2, 3, 5, 6], [(21, some 3), (23, some 5), (24, some 6)], false⟩, ⟨[0], [0, 1, 2, 3, 5, 6, 7], [(21, some 3), (25, some 7)], false⟩, ⟨[0], [0, 1, 2, 3], [(0, none), (21, some 3)], false⟩, ⟨[0], [0, 1, 2, 3], [(9, none), (21, some 3)], false⟩, ⟨[0], [0, 1, 2, 3, 10], [(21, some 3), (28, some 10)], false⟩, ⟨[0], [0, 1, 2, 3, 9, 10, 11], [(21, some 3), (27, some 9), (29, some 11)], false⟩, ⟨[0], [0, 1, 2, 3, 9, 10, 11, 12], [(21, some 3), (30, some 12)], false⟩, ⟨[], [0, 1, 2, 3, 4, 5, 6, 7, 8, 9, 10, 11, 12, 13], [], false⟩, ⟨[], [0, 1, 2, 3, 4, 5, 6, 7, 8, 9, 10, 11, 12, 13, 14], [], false⟩, ⟨[], [0, 1, 2, 3, 4, 5, 6, 7, 8, 9, 10, 11, 12, 13, 14, 15], [], false⟩] 14 (by kernel_rfl) (by kernel_rfl)
      ·refine ⟨?_, ?_, ?_, ?_, ?_, ?_, ?_, ?_, ?_, ?_, ?_, ?_, ?_, ?_, trivial⟩
       ·intro tm hr
        simp [AllL, rdV] at hr
        simp [hr, ← e10]
        intros; first | exact KD.mk | exact KD.mkN
       ·intro tm hr
        simp [AllL, rdV] at hr
        simp [hr, ← e10]
        intros; first | exact KD.mk | exact KD.mkN
       ·intro tm hr
        simp [AllL, rdV] at hr
        simp [hr, ← e10]
        intros; first | exact KD.mk | exact KD.mkN
       ·intro tm hr
        simp [AllL, rdV] at hr
        simp [hr, ← e10]
        intros; first | exact KD.mk | exact KD.mkN
       ·intro tm hr
        simp [AllL, rdV] at hr
        simp [hr, ← e10]
        intros; first | exact KD.mk | exact KD.mkN
       ·intro tm hr
        simp [AllL, rdV] at hr
        simp [hr, ← e10]
        intros; first | exact KD.mk | exact KD.mkN
       ·intro tm hr
        simp [AllL, rdV] at hr
        simp [hr, ← e10]
        intros; first | exact KD.mk | exact KD.mkN
       ·intro tm hr
        simp [AllL, rdV] at hr
        simp [hr, ← e10]
        intros; first | exact KD.mk | exact KD.mkN
       ·intro tm hr
        simp [AllL, rdV] at hr
        simp [hr, ← e10]
        intros; first | exact KD.mk | exact KD.mkN
       ·intro tm hr
        simp [AllL, rdV] at hr
        simp [hr, ← e10]
        intros; first | exact KD.mk | exact KD.mkN
       ·intro tm hr
        simp [AllL, rdV] at hr
        simp [hr, ← e10]
        intros; first | exact KD.mk | exact KD.mkN
       ·intro tm hr
        simp [AllL, rdV] at hr
        simp [hr, ← e10]
        intros; first | exact KD.mk | exact KD.mkN
       ·intro tm hr
        simp [AllL, rdV] at hr
        simp [hr, ← e10]
        intros; first | exact KD.mk | exact KD.mkN
       ·intro tm hr
        simp [AllL, rdV] at hr
        simp [hr, ← e10]
        intros; first | exact KD.mk | exact KD.mkN
      ·rfl
      ·simp [tmD, putD, ← e10]; rfl
      ·simp [← e10]
       intros; rfl
      obtain rfl := Option.some.inj h
      refine nP_i ?_
      refine Weak.mixB 1 [some 0] hn0 (by decide) (by decide) ?_ ?_ ?_
      all_goals first | (simp [inv_cons, inv_nil, pickOb]; done) | rfl
    ·rintro e s hp
     obtain ⟨rfl, hw⟩ := hp
     refine ⟨_, hw, ?_⟩
     try simp only [sp_l, sp_r, Post.seq, Post.block, Nat.reduceEqDiff, reduceIte, Nat.zero_ne_one, Nat.one_ne_zero]
     replace h := ltE h; obtain ⟨v18, e18, h⟩ := h
     rw [← e18]
     cases v18 with
     | true =>
      replace h := iteT rfl h
      refine AW.cond_true (by simp) ?_
      refine AW.skip ?_
      try simp only [sp_l, sp_r, Post.seq, Post.block, Nat.reduceEqDiff, reduceIte, Nat.zero_ne_one, Nat.one_ne_zero]
      try simp only [sp_l, sp_r, Post.seq, Post.block, Nat.reduceEqDiff, reduceIte, Nat.zero_ne_one, Nat.one_ne_zero]
      refine AW.seq ?_
      refine AW.block ?_
      replace h := ltE h; obtain ⟨v19, e19, h⟩ := h
      replace h := bnE h; obtain ⟨v20, e20, h⟩ := h
      have f21 := nth_lt e20
      try simp [← e19, nth_d e20] at f21
      replace h := bnE h; obtain ⟨v22, e22, h⟩ := h
      have f23 := nth_lt e22
      try simp [← e19, nth_d e20, f21, encSpan_seg0 (nth_d e20).2 (k := 2) (by decide), encSpan_fit (nth_d e20).2 (show 2 ≤ 2 by decide), lvs1, nth_d e22] at f23
      have f24 := nth_lt e22
      try simp [← e19, nth_d e20, f21, encSpan_seg0 (nth_d e20).2 (k := 2) (by decide), encSpan_fit (nth_d e20).2 (show 2 ≤ 2 by decide), lvs1, nth_d e22, f23, encSpan_seg0 (nth_d e22).2 (k := 2) (by decide), encSpan_fit (nth_d e22).2 (show 2 ≤ 2 by decide)] at f24
      replace h := ltE h; obtain ⟨v25, e25, h⟩ := h
      have f26 := encSpan_put0 (nth_d e22).2 e25 (cs := [.s (.int .i64 v20.frm), .s (.int .i64 v20.to)]) (by simp) rfl
      try simp at f26
      have f27 := f21
      try simp only [set_len e25] at f27
      have f28 := f23
      try simp only [set_len e25] at f28
      have f29 := f24
      try simp only [set_len e25] at f29
      replace h := bnE h; obtain ⟨v30, e30, h⟩ := h
      have f31 := nth_lt e30
      try simp [← e19, nth_d e20, f21, encSpan_seg0 (nth_d e20).2 (k := 2) (by decide), encSpan_fit (nth_d e20).2 (show 2 ≤ 2 by decide), lvs1, nth_d e22, f23, encSpan_seg0 (nth_d e22).2 (k := 2) (by decide), encSpan_fit (nth_d e22).2 (show 2 ≤ 2 by decide), f24, f26, f27, f28, f29, nth_d e30] at f31
      replace h := ltE h; obtain ⟨v32, e32, h⟩ := h
      have f33 := encSpan_put0 (nth_d e30).2 e32 (cs := [.s (.int .i64 v22.frm), .s (.int .i64 v22.to)]) (by simp) rfl
      try simp at f33
      have f34 := f21
      try simp only [set_len e32] at f34
      have f35 := f23
      try simp only [set_len e32] at f35
      have f36 := f24
      try simp only [set_len e32] at f36
      have f37 := f27
      try simp only [set_len e32] at f37
      have f38 := f28
      try simp only [set_len e32] at f38
      have f39 := f29
      try simp only [set_len e32] at f39
      have f40 := f31
      try simp only [set_len e32] at f40
      apply AW.drawnF (V := [_, _, _, _, _, _, _, _, _, _, _, _, _, _, _, _]) (M := [[some ⟨43, 2, false, some 0, lvs (encSpan y6.2)⟩], [some ⟨43, 2, false, some 0, lvs (encSpan v25)⟩]]) mixed [⟨[0], [], [(0, none)], false⟩, ⟨[0], [], [(9, none)], false⟩, ⟨[0, 1], [], [(0, none)], false⟩, ⟨[0, 1], [], [(9, none)], false⟩, ⟨[0, 1], [3], [(40, some 3)], false⟩, ⟨[0], [], [(0, none)], false⟩, ⟨[0], [], [(9, none)], false⟩, ⟨[0], [6], [(43, some 6)], false⟩, ⟨[0], [5, 6, 7], [(42, some 5), (44, some 7)], false⟩, ⟨[0], [5, 6, 7, 8], [(45, some 8)], false⟩, ⟨[0], [], [(0, none)], false⟩, ⟨[0], [], [(9, none)], false⟩, ⟨[0], [10, 11], [(47, some 10), (48, some 11)], false⟩, ⟨[0], [10, 11, 12], [(49, some 12)], false⟩, ⟨[0], [0, 1, 5, 6, 7, 8, 9, 10, 11, 12, 13], [(37, some 0), (38, some 1)], false⟩, ⟨[0], [0, 1, 5, 6, 7, 8, 9, 10, 11, 12, 13, 14], [(46, some 9), (51, some 14)], true⟩, ⟨[], [0, 1, 2, 3, 4, 5, 6, 7, 8, 9, 10, 11, 12, 13, 14, 15], [], false⟩, ⟨[], [0, 1, 2, 3, 4, 5, 6, 7, 8, 9, 10, 11, 12, 13, 14, 15, 16], [], false⟩] 16 1 (by kernel_rfl) (by kernel_rfl)
      ·rfl
      ·refine ⟨?_, ?_, ⟨?_, ?_⟩, ⟨?_, ?_⟩, ⟨?_, ?_⟩, ?_, ?_, ?_, ?_, ?_, ?_, ?_, ?_, ?_, ?_, ?_, trivial⟩
       ·intro tm hr
        simp [AllL, rdV] at hr
        simp [hr, ← e19, nth_d e20, f21, encSpan_seg0 (nth_d e20).2 (k := 2) (by decide), encSpan_fit (nth_d e20).2 (show 2 ≤ 2 by decide), lvs1, nth_d e22, f23, encSpan_seg0 (nth_d e22).2 (k := 2) (by decide), encSpan_fit (nth_d e22).2 (show 2 ≤ 2 by decide), f24, f26, f27, f28, f29, nth_d e30, f31, set_len e25, encSpan_fit (nth_d e30).2 (show 2 ≤ 2 by decide), f33, f34, f35, f36, f37, f38, f39, f40]
        intros; first | exact KD.mk | exact KD.mkN
       ·intro tm hr
        simp [AllL, rdV] at hr
        simp [hr, ← e19, nth_d e20, f21, encSpan_seg0 (nth_d e20).2 (k := 2) (by decide), encSpan_fit (nth_d e20).2 (show 2 ≤ 2 by decide), lvs1, nth_d e22, f23, encSpan_seg0 (nth_d e22).2 (k := 2) (by decide), encSpan_fit (nth_d e22).2 (show 2 ≤ 2 by decide), f24, f26, f27, f28, f29, nth_d e30, f31, set_len e25, encSpan_fit (nth_d e30).2 (show 2 ≤ 2 by decide), f33, f34, f35, f36, f37, f38, f39, f40]
        intros; first | exact KD.mk | exact KD.mkN
       ·intro tm hr
        simp [AllL, rdV] at hr
        simp [hr, ← e19, nth_d e20, f21, encSpan_seg0 (nth_d e20).2 (k := 2) (by decide), encSpan_fit (nth_d e20).2 (show 2 ≤ 2 by decide), lvs1, nth_d e22, f23, encSpan_seg0 (nth_d e22).2 (k := 2) (by decide), encSpan_fit (nth_d e22).2 (show 2 ≤ 2 by decide), f24, f26, f27, f28, f29, nth_d e30, f31, set_len e25, encSpan_fit (nth_d e30).2 (show 2 ≤ 2 by decide), f33, f34, f35, f36, f37, f38, f39, f40]
        intros; first | exact KD.mk | exact KD.mkN
       ·intro tm hr
        simp [AllL, rdV] at hr
        simp [hr, ← e19, nth_d e20, f21, encSpan_seg0 (nth_d e20).2 (k := 2) (by decide), encSpan_fit (nth_d e20).2 (show 2 ≤ 2 by decide), lvs1, nth_d e22, f23, encSpan_seg0 (nth_d e22).2 (k := 2) (by decide), encSpan_fit (nth_d e22).2 (show 2 ≤ 2 by decide), f24, f26, f27, f28, f29, nth_d e30, f31, set_len e25, encSpan_fit (nth_d e30).2 (show 2 ≤ 2 by decide), f33, f34, f35, f36, f37, f38, f39, f40]
        intros; first | exact KD.mk | exact KD.mkN
       ·intro tm hr
        simp [AllL, rdV] at hr
        simp [hr, ← e19, nth_d e20, f21, encSpan_seg0 (nth_d e20).2 (k := 2) (by decide), encSpan_fit (nth_d e20).2 (show 2 ≤ 2 by decide), lvs1, nth_d e22, f23, encSpan_seg0 (nth_d e22).2 (k := 2) (by decide), encSpan_fit (nth_d e22).2 (show 2 ≤ 2 by decide), f24, f26, f27, f28, f29, nth_d e30, f31, set_len e25, encSpan_fit (nth_d e30).2 (show 2 ≤ 2 by decide), f33, f34, f35, f36, f37, f38, f39, f40]
        intros; first | exact KD.mk | exact KD.mkN
       ·intro tm hr
        simp [AllL, rdV] at hr
        simp [hr, ← e19, nth_d e20, f21, encSpan_seg0 (nth_d e20).2 (k := 2) (by decide), encSpan_fit (nth_d e20).2 (show 2 ≤ 2 by decide), lvs1, nth_d e22, f23, encSpan_seg0 (nth_d e22).2 (k := 2) (by decide), encSpan_fit (nth_d e22).2 (show 2 ≤ 2 by decide), f24, f26, f27, f28, f29, nth_d e30, f31, set_len e25, encSpan_fit (nth_d e30).2 (show 2 ≤ 2 by decide), f33, f34, f35, f36, f37, f38, f39, f40]
        intros; first | exact KD.mk | exact KD.mkN
       ·intro tm hr
        simp [AllL, rdV] at hr
        simp [hr, ← e19, nth_d e20, f21, encSpan_seg0 (nth_d e20).2 (k := 2) (by decide), encSpan_fit (nth_d e20).2 (show 2 ≤ 2 by decide), lvs1, nth_d e22, f23, encSpan_seg0 (nth_d e22).2 (k := 2) (by decide), encSpan_fit (nth_d e22).2 (show 2 ≤ 2 by decide), f24, f26, f27, f28, f29, nth_d e30, f31, set_len e25, encSpan_fit (nth_d e30).2 (show 2 ≤ 2 by decide), f33, f34, f35, f36, f37, f38, f39, f40]
        intros; first | exact KD.mk | exact KD.mkN
       ·intro tm hr
        simp [AllL, rdV] at hr
        simp [hr, ← e19, nth_d e20, f21, encSpan_seg0 (nth_d e20).2 (k := 2) (by decide), encSpan_fit (nth_d e20).2 (show 2 ≤ 2 by decide), lvs1, nth_d e22, f23, encSpan_seg0 (nth_d e22).2 (k := 2) (by decide), encSpan_fit (nth_d e22).2 (show 2 ≤ 2 by decide), f24, f26, f27, f28, f29, nth_d e30, f31, set_len e25, encSpan_fit (nth_d e30).2 (show 2 ≤ 2 by decide), f33, f34, f35, f36, f37, f38, f39, f40]
        intros; first | exact KD.mk | exact KD.mkN
       ·intro tm hr
        simp [AllL, rdV] at hr
        simp [hr, ← e19, nth_d e20, f21, encSpan_seg0 (nth_d e20).2 (k := 2) (by decide), encSpan_fit (nth_d e20).2 (show 2 ≤ 2 by decide), lvs1, nth_d e22, f23, encSpan_seg0 (nth_d e22).2 (k := 2) (by decide), encSpan_fit (nth_d e22).2 (show 2 ≤ 2 by decide), f24, f26, f27, f28, f29, nth_d e30, f31, set_len e25, encSpan_fit (nth_d e30).2 (show 2 ≤ 2 by decide), f33, f34, f35, f36, f37, f38, f39, f40]
        intros; first | exact KD.mk | exact KD.mkN
       ·intro tm hr
        simp [AllL, rdV] at hr
        simp [hr, ← e19, nth_d e20, f21, encSpan_seg0 (nth_d e20).2 (k := 2) (by decide), encSpan_fit (nth_d e20).2 (show 2 ≤ 2 by decide), lvs1, nth_d e22, f23, encSpan_seg0 (nth_d e22).2 (k := 2) (by decide), encSpan_fit (nth_d e22).2 (show 2 ≤ 2 by decide), f24, f26, f27, f28, f29, nth_d e30, f31, set_len e25, encSpan_fit (nth_d e30).2 (show 2 ≤ 2 by decide), f33, f34, f35, f36, f37, f38, f39, f40]
        intros; first | exact KD.mk | exact KD.mkN
       ·intro tm hr
        simp [AllL, rdV] at hr
        simp [hr, ← e19, nth_d e20, f21, encSpan_seg0 (nth_d e20).2 (k := 2) (by decide), encSpan_fit (nth_d e20).2 (show 2 ≤ 2 by decide), lvs1, nth_d e22, f23, encSpan_seg0 (nth_d e22).2 (k := 2) (by decide), encSpan_fit (nth_d e22).2 (show 2 ≤ 2 by decide), f24, f26, f27, f28, f29, nth_d e30, f31, set_len e25, encSpan_fit (nth_d e30).2 (show 2 ≤ 2 by decide), f33, f34, f35, f36, f37, f38, f39, f40]
        intros; first | exact KD.mk | exact KD.mkN
       ·intro tm hr
        simp [AllL, rdV] at hr
        simp [hr, ← e19, nth_d e20, f21, encSpan_seg0 (nth_d e20).2 (k := 2) (by decide), encSpan_fit (nth_d e20).2 (show 2 ≤ 2 by decide), lvs1, nth_d e22, f23, encSpan_seg0 (nth_d e22).2 (k := 2) (by decide), encSpan_fit (nth_d e22).2 (show 2 ≤ 2 by decide), f24, f26, f27, f28, f29, nth_d e30, f31, set_len e25, encSpan_fit (nth_d e30).2 (show 2 ≤ 2 by decide), f33, f34, f35, f36, f37, f38, f39, f40]
        intros; first | exact KD.mk | exact KD.mkN
       ·intro tm hr
        simp [AllL, rdV] at hr
        simp [hr, ← e19, nth_d e20, f21, encSpan_seg0 (nth_d e20).2 (k := 2) (by decide), encSpan_fit (nth_d e20).2 (show 2 ≤ 2 by decide), lvs1, nth_d e22, f23, encSpan_seg0 (nth_d e22).2 (k := 2) (by decide), encSpan_fit (nth_d e22).2 (show 2 ≤ 2 by decide), f24, f26, f27, f28, f29, nth_d e30, f31, set_len e25, encSpan_fit (nth_d e30).2 (show 2 ≤ 2 by decide), f33, f34, f35, f36, f37, f38, f39, f40]
        intros; first | exact KD.mk | exact KD.mkN
       ·intro tm hr
        simp [AllL, rdV] at hr
        simp [hr, ← e19, nth_d e20, f21, encSpan_seg0 (nth_d e20).2 (k := 2) (by decide), encSpan_fit (nth_d e20).2 (show 2 ≤ 2 by decide), lvs1, nth_d e22, f23, encSpan_seg0 (nth_d e22).2 (k := 2) (by decide), encSpan_fit (nth_d e22).2 (show 2 ≤ 2 by decide), f24, f26, f27, f28, f29, nth_d e30, f31, set_len e25, encSpan_fit (nth_d e30).2 (show 2 ≤ 2 by decide), f33, f34, f35, f36, f37, f38, f39, f40]
        intros; first | exact KD.mk | exact KD.mkN
       ·intro tm hr
        simp [AllL, rdV] at hr
        simp [hr, ← e19, nth_d e20, f21, encSpan_seg0 (nth_d e20).2 (k := 2) (by decide), encSpan_fit (nth_d e20).2 (show 2 ≤ 2 by decide), lvs1, nth_d e22, f23, encSpan_seg0 (nth_d e22).2 (k := 2) (by decide), encSpan_fit (nth_d e22).2 (show 2 ≤ 2 by decide), f24, f26, f27, f28, f29, nth_d e30, f31, set_len e25, encSpan_fit (nth_d e30).2 (show 2 ≤ 2 by decide), f33, f34, f35, f36, f37, f38, f39, f40]
        intros; first | exact KD.mk | exact KD.mkN
       ·intro tm hr
        simp [AllL, rdV] at hr
        simp [hr, ← e19, nth_d e20, f21, encSpan_seg0 (nth_d e20).2 (k := 2) (by decide), encSpan_fit (nth_d e20).2 (show 2 ≤ 2 by decide), lvs1, nth_d e22, f23, encSpan_seg0 (nth_d e22).2 (k := 2) (by decide), encSpan_fit (nth_d e22).2 (show 2 ≤ 2 by decide), f24, f26, f27, f28, f29, nth_d e30, f31, set_len e25, encSpan_fit (nth_d e30).2 (show 2 ≤ 2 by decide), f33, f34, f35, f36, f37, f38, f39, f40]
        intros; first | exact KD.mk | exact KD.mkN
       ·intro tm hr
        simp [AllL, rdV] at hr
        simp [hr, ← e19, nth_d e20, f21, encSpan_seg0 (nth_d e20).2 (k := 2) (by decide), encSpan_fit (nth_d e20).2 (show 2 ≤ 2 by decide), lvs1, nth_d e22, f23, encSpan_seg0 (nth_d e22).2 (k := 2) (by decide), encSpan_fit (nth_d e22).2 (show 2 ≤ 2 by decide), f24, f26, f27, f28, f29, nth_d e30, f31, set_len e25, encSpan_fit (nth_d e30).2 (show 2 ≤ 2 by decide), f33, f34, f35, f36, f37, f38, f39, f40]
        intros; first | exact KD.mk | exact KD.mkN
       ·intro tm hr
        simp [AllL, rdV] at hr
        simp [hr, ← e19, nth_d e20, f21, encSpan_seg0 (nth_d e20).2 (k := 2) (by decide), encSpan_fit (nth_d e20).2 (show 2 ≤ 2 by decide), lvs1, nth_d e22, f23, encSpan_seg0 (nth_d e22).2 (k := 2) (by decide), encSpan_fit (nth_d e22).2 (show 2 ≤ 2 by decide), f24, f26, f27, f28, f29, nth_d e30, f31, set_len e25, encSpan_fit (nth_d e30).2 (show 2 ≤ 2 by decide), f33, f34, f35, f36, f37, f38, f39, f40]
        intros; first | exact KD.mk | exact KD.mkN
       ·intro tm hr
        simp [AllL, rdV] at hr
        simp [hr, ← e19, nth_d e20, f21, encSpan_seg0 (nth_d e20).2 (k := 2) (by decide), encSpan_fit (nth_d e20).2 (show 2 ≤ 2 by decide), lvs1, nth_d e22, f23, encSpan_seg0 (nth_d e22).2 (k := 2) (by decide), encSpan_fit (nth_d e22).2 (show 2 ≤ 2 by decide), f24, f26, f27, f28, f29, nth_d e30, f31, set_len e25, encSpan_fit (nth_d e30).2 (show 2 ≤ 2 by decide), f33, f34, f35, f36, f37, f38, f39, f40]
        intros; first | exact KD.mk | exact KD.mkN
      ·rfl
      ·simp [tmD, putD, ← e19, nth_d e20, f21, encSpan_seg0 (nth_d e20).2 (k := 2) (by decide), encSpan_fit (nth_d e20).2 (show 2 ≤ 2 by decide), lvs1, nth_d e22, f23, encSpan_seg0 (nth_d e22).2 (k := 2) (by decide), encSpan_fit (nth_d e22).2 (show 2 ≤ 2 by decide), f24, f26, f27, f28, f29, nth_d e30, f31, set_len e25, encSpan_fit (nth_d e30).2 (show 2 ≤ 2 by decide), f33, f34, f35, f36, f37, f38, f39, f40]; rfl
      ·simp [← e19, nth_d e20, f21, encSpan_seg0 (nth_d e20).2 (k := 2) (by decide), encSpan_fit (nth_d e20).2 (show 2 ≤ 2 by decide), lvs1, nth_d e22, f23, encSpan_seg0 (nth_d e22).2 (k := 2) (by decide), encSpan_fit (nth_d e22).2 (show 2 ≤ 2 by decide), f24, f26, f27, f28, f29, nth_d e30, f31, set_len e25, encSpan_fit (nth_d e30).2 (show 2 ≤ 2 by decide), f33, f34, f35, f36, f37, f38, f39, f40]
       intros; rfl
      try simp only [sp_l, sp_r, Post.seq, Post.block, Nat.reduceEqDiff, reduceIte, Nat.zero_ne_one, Nat.one_ne_zero]
      apply AW.last
      ·simp [← e19]
       intros; rfl
      obtain rfl := Option.some.inj h
      refine nP_i ?_
      refine Weak.mixB 1 [some 0] hn0 (by decide) (by decide) ?_ ?_ ?_
      all_goals first | (simp [inv_cons, inv_nil, pickOb, set_len e25, set_len e32]; done) | rfl
     | false =>
      replace h := iteF rfl h
      refine AW.cond_false (by simp) ?_
      refine AW.exit ?_
      try simp only [sp_l, sp_r, Post.seq, Post.block, Nat.reduceEqDiff, reduceIte, Nat.zero_ne_one, Nat.one_ne_zero]
      obtain rfl := Option.some.inj h
      refine xP_i ?_
      refine Weak.mixB 1 [some 0] hn0 (by decide) (by decide) ?_ ?_ ?_
      all_goals first | (simp [inv_cons, inv_nil, pickOb]; done) | rfl
   ·rintro e s hp
    obtain ⟨rfl, hw⟩ := hp
    refine ⟨_, hw, ?_⟩
    try simp only [sp_l, sp_r, Post.seq, Post.block, Nat.reduceEqDiff, reduceIte, Nat.zero_ne_one, Nat.one_ne_zero]
    replace h := ltE h; obtain ⟨v41, e41, h⟩ := h
    apply AW.last
    ·simp [← e41]
     intros; rfl
    obtain rfl := Option.some.inj h
    refine nP_i ?_
    refine Weak.mixB 1 [some 0] hn0 (by decide) (by decide) ?_ ?_ ?_
    all_goals first | (simp [inv_cons, inv_nil, pickOb]; done) | rfl
  | false =>
   replace h := iteF rfl h
   refine AW.cond_false (by simp) ?_
   refine AW.exit ?_
   try simp only [sp_l, sp_r, Post.seq, Post.block, Nat.reduceEqDiff, reduceIte, Nat.zero_ne_one, Nat.one_ne_zero]
   obtain rfl := Option.some.inj h
   refine xP_i ?_
   refine Weak.mixB 1 [some 0] hn0 (by decide) (by decide) ?_ ?_ ?_
   all_goals first | (simp [inv_cons, inv_nil, pickOb]; done) | rfl
 ·rintro e s hp
  obtain ⟨rfl, hw⟩ := hp
  refine ⟨_, hw, ?_⟩
  try simp only [sp_l, sp_r, Post.seq, Post.block, Nat.reduceEqDiff, reduceIte, Nat.zero_ne_one, Nat.one_ne_zero]
  obtain rfl := Option.some.inj h
  refine Left.of (av := _) (by simp [Try.f142, resV, resC, comp]; rfl) ?_
  exact LeftV.mix 1 [some 0] hn0 rfl (by decide) rfl (by simp [pickOb, inv_cons, inv_nil]) (by simp [inv_cons, inv_nil])
theorem en_slices_insertionSortCmpFunc_api_Span : Enters Try.prog 142 := enters Try.func142 (by kernel_rfl) rfl
def slices_pdqsortCmpFunc_api_Span_sh (n : Nat) (a0 : List Span) (a1 : Int) (a2 : Int) (a3 : Int) : Option (List Span) :=
bn (iter n (fun (y1 : Unit) =>
lt (subI .i64 a2 a1) fun v4 =>
lt (leI v4 12) fun v5 =>
ite' v5 (bn (slices_insertionSortCmpFunc_api_Span_sh n a0 a1 a2) fun v6 =>
chk (lenB v6 a0) <|
some (.inr v6)) (none)) ()) fun (y2 : List Span) =>
some y2
set_option maxRecDepth 8000 in
set_option maxHeartbeats 2000000 in
theorem s_slices_pdqsortCmpFunc_api_Span {n : Nat} {a0 : List Span} {a1 : Int} {a2 : Int} {a3 : Int} {r : List Span} (h : slices_pdqsortCmpFunc_api_Span_sh n a0 a1 a2 a3 = some r) : Sound Try.prog 122 [.l (.r 0 2 0 a0.length), .l (.s (.int .i64 a1)), .l (.s (.int .i64 a2)), .l (.s (.int .i64 a3)), .l (.s (.func (.func 95) #[] #[]))] [⟨43, 2, false, some 0, lvs (encSpan a0)⟩] (.t []) [some ⟨43, 2, false, some 0, lvs (encSpan r)⟩] := by
 unfold slices_pdqsortCmpFunc_api_Span_sh at h
 refine Sound.of_aw (fn := Try.f122) (c := _) Try.func122 rfl (by simp [Try.f122]) fun cx hG hnb => ?_
 rw [show Try.f122.ntmps = 148 from rfl]
 have hn0 : cx.nb = 1 := hnb
 simp only [st0_mk, initTm, List.map_cons, List.map_nil]
 apply AW.step
 ·simp
  intros; rfl
 apply AW.step
 ·simp
  intros; rfl
 refine AW.block ?_
 replace h := bnE h; obtain ⟨y2, g2, h⟩ := h
 refine AW.iterP g2 (mk := fun gh ls _ => (⟨[(0, .l (.r 0 2 0 a0.length)), (1, .l (.s (.int .i64 a1))), (2, .l (.s (.int .i64 a2))), (3, .l (.s (.int .i64 a3))), (4, .l (.s (.func (.func 95) #[] #[]))), (10, .l (.s (.bool true))), (11, .l (.s (.bool true)))], [some ⟨43, 2, false, some 0, lvs (encSpan a0)⟩], 148, gh, ls⟩ : St)) (N := fun gh ls => (rP (cx := cx) (P := Try.prog) Try.f122 (fun q => .t []) (fun q => [some ⟨43, 2, false, some 0, lvs (encSpan q)⟩]))) ?_ noR ?_ ?_
 ·refine Weak.mixB 1 [some 0] hn0 (by decide) (by decide) ?_ ?_ ?_
  all_goals first | (simp [inv_cons, inv_nil, pickOb]; done) | rfl
 ·clear h; intro y1 y3 h
  refine AW.block ?_
  replace h := ltE h; obtain ⟨v4, e4, h⟩ := h
  apply AW.step
  ·simp [← e4]
   intros; rfl
  refine AW.seq ?_
  replace h := ltE h; obtain ⟨v5, e5, h⟩ := h
  apply AW.step
  ·simp [← e5]
   intros; rfl
  cases v5 with
  | true =>
   replace h := iteT rfl h
   refine AW.cond_true (by simp) ?_
   replace h := bnE h; obtain ⟨v6, e6, h⟩ := h
   replace h := chkE h; obtain ⟨e7, h⟩ := h
   apply AW.step
   ·simp
    intros
    refine xcall_obs [0] en_slices_insertionSortCmpFunc_api_Span (s_slices_insertionSortCmpFunc_api_Span e6) (by decide) (by simp [pickOb, inv_cons, inv_nil]) rfl rfl (by simp) ⟨.l (.own' (by simp [inv_cons, inv_nil]) (by simp)), .l (.s _), .l (.s _), .l (.s _), trivial⟩ ?_
    try simp
    intros; rfl
   obtain rfl := Option.some.inj h
   refine AW.ret ?_
   try simp only [sp_l, sp_r, Post.seq, Post.block, Nat.reduceEqDiff, reduceIte, Nat.zero_ne_one, Nat.one_ne_zero]
   refine rP_i ?_
   refine Left.of (av := _) (by simp [Try.f122, resV, resC, comp]; rfl) ?_
   exact LeftV.mix 1 [some 0] hn0 rfl (by decide) rfl (by simp [pickOb, inv_cons, inv_nil, lenB_e e7]) (by simp [inv_cons, inv_nil, lenB_e e7])
  | false =>
   replace h := iteF rfl h
   refine AW.cond_false (by simp) ?_
   cases h
 ·rintro e s hp
  obtain ⟨rfl, hl⟩ := hp
  refine ⟨_, Weak.refl _, ?_⟩
  obtain rfl := Option.some.inj h
  exact hl
theorem en_slices_pdqsortCmpFunc_api_Span : Enters Try.prog 122 := enters Try.func122 (by kernel_rfl) rfl
def slices_SortFunc_api_Span_sh (n : Nat) (a0 : List Span) : Option (List Span) :=
lt (lenI a0) fun v1 =>
lt (cvI .u64 v1) fun v2 =>
bn (bits_Len_sh n v2) fun v3 =>
bn (slices_pdqsortCmpFunc_api_Span_sh n a0 0 v1 v3) fun v4 =>
chk (lenB v4 a0) <|
some v4
set_option maxRecDepth 8000 in
set_option maxHeartbeats 2000000 in
theorem s_slices_SortFunc_api_Span {n : Nat} {a0 : List Span} {r : List Span} (h : slices_SortFunc_api_Span_sh n a0 = some r) : Sound Try.prog 94 [.l (.r 0 2 0 a0.length), .l (.s (.func (.func 95) #[] #[]))] [⟨43, 2, false, some 0, lvs (encSpan a0)⟩] (.t []) [some ⟨43, 2, false, some 0, lvs (encSpan r)⟩] := by
 unfold slices_SortFunc_api_Span_sh at h
 refine Sound.of_aw (fn := Try.f94) (c := _) Try.func94 rfl (by simp [Try.f94]) fun cx hG hnb => ?_
 rw [show Try.f94.ntmps = 14 from rfl]
 have hn0 : cx.nb = 1 := hnb
 simp only [st0_mk, initTm, List.map_cons, List.map_nil]
 replace h := ltE h; obtain ⟨v1, e1, h⟩ := h
 apply AW.step
 ·simp [lenI_cast e1]
  intros; rfl
 replace h := ltE h; obtain ⟨v2, e2, h⟩ := h
 replace h := bnE h; obtain ⟨v3, e3, h⟩ := h
 replace h := bnE h; obtain ⟨v4, e4, h⟩ := h
 replace h := chkE h; obtain ⟨e5, h⟩ := h
 apply AW.last
 ·simp [← e2]
  intros
  refine xcall_plain en_bits_Len (s_bits_Len e3) rfl ⟨.same rfl, trivial⟩ ?_
  try simp [← e2]
  intros
  refine xcall_obs [0] en_slices_pdqsortCmpFunc_api_Span (s_slices_pdqsortCmpFunc_api_Span e4) (by decide) (by simp [pickOb, inv_cons, inv_nil]) rfl rfl (by simp) ⟨.l (.own' (by simp [inv_cons, inv_nil]) (by simp)), .l (.s _), .l (.s _), .l (.s _), .l (.s _), trivial⟩ ?_
  try simp [← e2]
  intros; rfl
 obtain rfl := Option.some.inj h
 refine Left.of (av := _) (by simp [Try.f94, resV, resC, comp]; rfl) ?_
 exact LeftV.mix 1 [some 0] hn0 rfl (by decide) rfl (by simp [pickOb, inv_cons, inv_nil, lenB_e e5]) (by simp [inv_cons, inv_nil, lenB_e e5])
theorem en_slices_SortFunc_api_Span : Enters Try.prog 94 := enters Try.func94 (by kernel_rfl) rfl
def spans_said_sh (n : Nat) (a0 : List Span) : Option (List Span) :=
lt (lenI a0) fun v1 =>
bn (iter n (fun (y2 : Int × List Span) =>
lt (ltI y2.1 v1) fun v5 =>
ite' v5 (bn (bn (nth a0 y2.1) fun v7 =>
lt (maxI v7.frm 0) fun v8 =>
lt (minI v7.to 16383) fun v9 =>
lt (leI v8 v9) fun v10 =>
ite' v10 (chk (room (y2.2.length + 1) 16) <|
lt (y2.2 ++ [(⟨v8, v9⟩ : Span)]) fun v12 =>
some (v12)) (some (y2.2))) fun (y6 : List Span) =>
lt (addI .i64 y2.1 1) fun v13 =>
some (.inl (v13, y6))) (some (.inr y2.2))) (0, [])) fun (y3 : List Span) =>
bn (slices_SortFunc_api_Span_sh n y3) fun v14 =>
chk (lenB v14 y3) <|
chk (room v14.length 1) <|
some v14
set_option maxRecDepth 8000 in
set_option maxHeartbeats 2000000 in
theorem s_spans_said {n : Nat} {a0 : List Span} {r : List Span} (h : spans_said_sh n a0 = some r) : Sound Try.prog 69 [.l (.d false 2 (encSpan a0))] [] (.l (.d false 2 (encSpan r))) [] := by
 unfold spans_said_sh at h
 refine Sound.of_aw (fn := Try.f69) (c := _) Try.func69 rfl (by simp [Try.f69]) fun cx hG hnb => ?_
 rw [show Try.f69.ntmps = 32 from rfl]
 have hn0 : cx.nb = 0 := hnb
 simp only [st0_mk, initTm, List.map_cons, List.map_nil]
 apply AW.step
 ·simp
  intros; rfl
 apply AW.step
 ·simp
  intros; rfl
 refine AW.seq ?_
 replace h := ltE h; obtain ⟨v1, e1, h⟩ := h
 apply AW.step
 ·simp [lenI_cast e1]
  intros; rfl
 refine AW.block ?_
 replace h := bnE h; obtain ⟨y3, g3, h⟩ := h
 refine AW.iterP g3 (mk := fun gh ls q => (⟨[(3, .l (.r 0 2 0 q.2.length)), (6, .l (.d false 2 (encSpan a0))), (7, .l (.s (.int .i64 v1))), (8, .l (.s (.int .i64 q.1)))], [some ⟨43, 2, true, none, lvs (encSpan q.2)⟩], 32, gh, ls⟩ : St)) (N := fun gh ls => (xP 0 (cx := cx) (fun q => (⟨[(3, .l (.r 0 2 0 q.length))], [some ⟨43, 2, true, none, lvs (encSpan q)⟩], 32, gh, ls⟩ : St)))) ?_ noX ?_ ?_
 ·refine W.nilRow 3 43 2 0 (by simp) rfl rfl ?_
  refine Weak.mixN [some 0] hn0 (by decide) ?_ ?_ rfl
  all_goals first | (simp [inv_cons, inv_nil, pickOb]; done) | rfl
 ·clear h; intro y2 y4 h
  replace h := ltE h; obtain ⟨v5, e5, h⟩ := h
  apply AW.step
  ·simp [← e5]
   intros; rfl
  refine AW.seq ?_
  cases v5 with
  | true =>
   replace h := iteT rfl h
   refine AW.cond_true (by simp) ?_
   refine AW.skip ?_
   try simp only [sp_l, sp_r, Post.seq, Post.block, Nat.reduceEqDiff, reduceIte, Nat.zero_ne_one, Nat.one_ne_zero]
   try simp only [sp_l, sp_r, Post.seq, Post.block, Nat.reduceEqDiff, reduceIte, Nat.zero_ne_one, Nat.one_ne_zero]
   replace h := bnE h; obtain ⟨y6, g6, h⟩ := h
   refine AW.flow (p := fun gh ls => (nP (cx := cx) (fun q => (⟨[(3, .l (.r 0 2 0 q.length)), (6, .l (.d false 2 (encSpan a0))), (7, .l (.s (.int .i64 v1))), (8, .l (.s (.int .i64 y2.1)))], [some ⟨43, 2, true, none, lvs (encSpan q)⟩], 32, gh, ls⟩ : St))) y6) ?_ ?_
   ·replace h := g6; clear g6
    refine AW.block ?_
    replace h := bnE h; obtain ⟨v7, e7, h⟩ := h
    apply AW.step
    ·simp [nth_d e7]
     intros; rfl
    replace h := ltE h; obtain ⟨v8, e8, h⟩ := h
    replace h := ltE h; obtain ⟨v9, e9, h⟩ := h
    apply AW.step
    ·simp [← e8, ← e9]
     intros; rfl
    replace h := ltE h; obtain ⟨v10, e10, h⟩ := h
    apply AW.step
    ·simp [← e10]
     intros; rfl
    cases v10 with
    | true =>
     replace h := iteT rfl h
     refine AW.cond_true (by simp) ?_
     replace h := chkE h; obtain ⟨e11, h⟩ := h
     replace h := ltE h; obtain ⟨v12, e12, h⟩ := h
     apply AW.last
     ·simp [← encSpan_append, ← e12, app_len1 e12]
      intros
      refine xrow_own ?_
      try simp [← encSpan_append, ← e12, app_len1 e12]
      intros
      refine xapp_pushN (acc := encSpan y2.2) (ys := encSpan [(⟨v8, v9⟩ : Span)]) (cap := none) (k := 1) tb_el29 tb_ti43 (by simp) (by simp [encSpan, lvs]) (encSpan_sz _) (by simp) (by simp) (by first | (simp; done) | simpa using (room_d e11).1) ?_
      try simp [← encSpan_append, ← e12, app_len1 e12]
      intros; rfl
     obtain rfl := Option.some.inj h
     refine nP_i ?_
     refine Weak.mixN [some 3] hn0 (by decide) ?_ ?_ rfl
     all_goals first | (simp [inv_cons, inv_nil, pickOb, lvs_encSpan1]; done) | rfl
    | false =>
     replace h := iteF rfl h
     refine AW.cond_false (by simp) ?_
     refine AW.skip ?_
     try simp only [sp_l, sp_r, Post.seq, Post.block, Nat.reduceEqDiff, reduceIte, Nat.zero_ne_one, Nat.one_ne_zero]
     obtain rfl := Option.some.inj h
     refine nP_i ?_
     refine Weak.mixN [some 0] hn0 (by decide) ?_ ?_ rfl
     all_goals first | (simp [inv_cons, inv_nil, pickOb]; done) | rfl
   ·rintro e s hp
    obtain ⟨rfl, hw⟩ := hp
    refine ⟨_, hw, ?_⟩
    try simp only [sp_l, sp_r, Post.seq, Post.block, Nat.reduceEqDiff, reduceIte, Nat.zero_ne_one, Nat.one_ne_zero]
    replace h := ltE h; obtain ⟨v13, e13, h⟩ := h
    apply AW.last
    ·simp [← e13]
     intros; rfl
    obtain rfl := Option.some.inj h
    refine nP_i ?_
    refine Weak.mixN [some 0] hn0 (by decide) ?_ ?_ rfl
    all_goals first | (simp [inv_cons, inv_nil, pickOb]; done) | rfl
  | false =>
   replace h := iteF rfl h
   refine AW.cond_false (by simp) ?_
   refine AW.exit ?_
   try simp only [sp_l, sp_r, Post.seq, Post.block, Nat.reduceEqDiff, reduceIte, Nat.zero_ne_one, Nat.one_ne_zero]
   obtain rfl := Option.some.inj h
   refine xP_i ?_
   refine Weak.mixN [some 0] hn0 (by decide) ?_ ?_ rfl
   all_goals first | (simp [inv_cons, inv_nil, pickOb]; done) | rfl
 ·rintro e s hp
  obtain ⟨rfl, hw⟩ := hp
  refine ⟨_, hw, ?_⟩
  try simp only [sp_l, sp_r, Post.seq, Post.block, Nat.reduceEqDiff, reduceIte, Nat.zero_ne_one, Nat.one_ne_zero]
  refine AW.pin 0 (ty := 43) (sz := 2) (cs := lvs (encSpan y3)) (by simp) hn0 (by omega) rfl ?_
  replace h := bnE h; obtain ⟨v14, e14, h⟩ := h
  replace h := chkE h; obtain ⟨e15, h⟩ := h
  apply AW.step
  ·simp
   intros
   refine xcall_obs [0] en_slices_SortFunc_api_Span (s_slices_SortFunc_api_Span e14) (by decide) (by simp [pickOb, inv_cons, inv_nil]) rfl rfl (by simp) ⟨.l (.own' (by simp [inv_cons, inv_nil]) (by simp)), .l (.s _), trivial⟩ ?_
   try simp
   intros; rfl
  apply AW.step
  ·simp
   intros; rfl
  replace h := chkE h; obtain ⟨e16, h⟩ := h
  refine AW.unpin 0 (ty := 43) (sz := 2) (cs := lvs (encSpan v14)) (by simp) rfl ?_
  refine AW.frzRow 0 (ty := 43) (cap := none) (sz := 2) (es := encSpan v14) (by simp) (by omega) (encSpan_sz _) (by first | exact (room_d e16).2 | simpa using (room_d e16).2 | simp) (by simp [Tm.frz, AV.frz, LV.frz, lenB_e e15]; rfl) (by simp [Ob.frz, LV.frz, lenB_e e15]; rfl) rfl ?_
  obtain rfl := Option.some.inj h
  refine AW.ret ?_
  refine Left.plain hnb (by simp [Try.f69, resV, resC, comp]; rfl) rfl rfl ?_
  simp
theorem en_spans_said : Enters Try.prog 69 := enters Try.func69 (by kernel_rfl) rfl
def spans_Norm_sh (n : Nat) (a0 : List Span) : Option (List Span) :=
bn (spans_said_sh n a0) fun v1 =>
lt (lenI v1) fun v2 =>
bn (iter n (fun (y3 : Int × List Span) =>
lt (ltI y3.1 v2) fun v6 =>
ite' v6 (bn (bn (nth v1 y3.1) fun v8 =>
lt (lenI y3.2) fun v9 =>
bn (lt (gtI v9 0) fun v11 =>
ite' v11 (lt (subI .i64 v9 1) fun v12 =>
bn (nth y3.2 v12) fun v13 =>
lt (addI .i64 v13.to 1) fun v15 =>
lt (leI v8.frm v15) fun v16 =>
some (v16)) (some (false))) fun (y10 : Bool) =>
lt (y10) fun v17 =>
ite' v17 (lt (subI .i64 v9 1) fun v18 =>
bn (nth y3.2 v18) fun v19 =>
lt (maxI v19.to v8.to) fun v21 =>
lt (y3.2.set v18.toNat (⟨v19.frm, v21⟩ : Span)) fun v23 =>
some (v23)) (chk (room (y3.2.length + 1) 16) <|
lt (y3.2 ++ [v8]) fun v28 =>
some (v28))) fun (y7 : List Span) =>
lt (addI .i64 y3.1 1) fun v29 =>
some (.inl (v29, y7))) (some (.inr y3.2))) (0, [])) fun (y4 : List Span) =>
chk (room y4.length 1) <|
some y4
set_option maxRecDepth 8000 in
set_option maxHeartbeats 2000000 in
theorem s_spans_Norm {n : Nat} {a0 : List Span} {r : List Span} (h : spans_Norm_sh n a0 = some r) : Sound Try.prog 49 [.l (.d false 2 (encSpan a0))] [] (.l (.d false 2 (encSpan r))) [] := by
 unfold spans_Norm_sh at h
 refine Sound.of_aw (fn := Try.f49) (c := _) Try.func49 rfl (by simp [Try.f49]) fun cx hG hnb => ?_
 rw [show Try.f49.ntmps = 50 from rfl]
 have hn0 : cx.nb = 0 := hnb
 simp only [st0_mk, initTm, List.map_cons, List.map_nil]
 apply AW.step
 ·simp
  intros; rfl
 apply AW.step
 ·simp
  intros; rfl
 refine AW.seq ?_
 replace h := bnE h; obtain ⟨v1, e1, h⟩ := h
 replace h := ltE h; obtain ⟨v2, e2, h⟩ := h
 apply AW.step
 ·simp [lenI_cast e2]
  intros
  refine xcall_plain en_spans_said (s_spans_said e1) rfl ⟨.same rfl, trivial⟩ ?_
  try simp [lenI_cast e2]
  intros; rfl
 refine AW.block ?_
 replace h := bnE h; obtain ⟨y4, g4, h⟩ := h
 refine AW.iterP g4 (mk := fun gh ls q => (⟨[(3, .l (.r 0 2 0 q.2.length)), (8, .l (.d false 2 (encSpan v1))), (9, .l (.s (.int .i64 v2))), (10, .l (.s (.int .i64 q.1)))], [some ⟨43, 2, true, none, lvs (encSpan q.2)⟩], 50, gh, ls⟩ : St)) (N := fun gh ls => (xP 0 (cx := cx) (fun q => (⟨[(3, .l (.r 0 2 0 q.length))], [some ⟨43, 2, true, none, lvs (encSpan q)⟩], 50, gh, ls⟩ : St)))) ?_ noX ?_ ?_
 ·refine W.nilRow 3 43 2 0 (by simp) rfl rfl ?_
  refine Weak.mixN [some 0] hn0 (by decide) ?_ ?_ rfl
  all_goals first | (simp [inv_cons, inv_nil, pickOb]; done) | rfl
 ·clear h; intro y3 y5 h
  replace h := ltE h; obtain ⟨v6, e6, h⟩ := h
  apply AW.step
  ·simp [← e6]
   intros; rfl
  refine AW.seq ?_
  cases v6 with
  | true =>
   replace h := iteT rfl h
   refine AW.cond_true (by simp) ?_
   refine AW.skip ?_
   try simp only [sp_l, sp_r, Post.seq, Post.block, Nat.reduceEqDiff, reduceIte, Nat.zero_ne_one, Nat.one_ne_zero]
   try simp only [sp_l, sp_r, Post.seq, Post.block, Nat.reduceEqDiff, reduceIte, Nat.zero_ne_one, Nat.one_ne_zero]
   replace h := bnE h; obtain ⟨y7, g7, h⟩ := h
   refine AW.flow (p := fun gh ls => (nP (cx := cx) (fun q => (⟨[(3, .l (.r 0 2 0 q.length)), (8, .l (.d false 2 (encSpan v1))), (9, .l (.s (.int .i64 v2))), (10, .l (.s (.int .i64 y3.1)))], [some ⟨43, 2, true, none, lvs (encSpan q)⟩], 50, gh, ls⟩ : St))) y7) ?_ ?_
   ·replace h := g7; clear g7
    refine AW.block ?_
    replace h := bnE h; obtain ⟨v8, e8, h⟩ := h
    apply AW.step
    ·simp [nth_d e8]
     intros; rfl
    refine AW.seq ?_
    replace h := ltE h; obtain ⟨v9, e9, h⟩ := h
    apply AW.step
    ·simp [lenI_cast e9]
     intros; rfl
    replace h := bnE h; obtain ⟨y10, g10, h⟩ := h
    refine AW.flow (p := fun gh ls => (nP (cx := cx) (fun q => (⟨[(3, .l (.r 0 2 0 y3.2.length)), (5, .l (.p 1 0)), (6, .l (.s (.int .i64 v9))), (8, .l (.d false 2 (encSpan v1))), (9, .l (.s (.int .i64 v2))), (10, .l (.s (.int .i64 y3.1))), (29, .l (.s (.bool q)))], [some ⟨43, 2, true, none, lvs (encSpan y3.2)⟩, some ⟨43, 2, false, none, [.s (.int .i64 v8.frm), .s (.int .i64 v8.to)]⟩], 50, gh, ls⟩ : St))) y10) ?_ ?_
    ·replace h := g10; clear g10
     replace h := ltE h; obtain ⟨v11, e11, h⟩ := h
     cases v11 with
     | true =>
      replace h := iteT rfl h
      replace h := ltE h; obtain ⟨v12, e12, h⟩ := h
      replace h := bnE h; obtain ⟨v13, e13, h⟩ := h
      have f14 := nth_lt e13
      try simp [← e11, ← e12, nth_d e13] at f14
      replace h := ltE h; obtain ⟨v15, e15, h⟩ := h
      replace h := ltE h; obtain ⟨v16, e16, h⟩ := h
      apply AW.drawnR (V := [_, _, _, _, _, _, _, _, _, _, _, _]) mixed [⟨[0], [], [(6, none)], false⟩, ⟨[0], [0], [(16, some 0)], false⟩, ⟨[0], [0, 1], [(17, some 1)], false⟩, ⟨[0], [0, 1, 2], [(5, none), (18, some 2)], false⟩, ⟨[0], [0, 1, 2, 3], [(18, some 2), (19, some 3)], false⟩, ⟨[0], [0, 1, 2], [(3, none), (18, some 2)], false⟩, ⟨[0], [0, 1, 2], [(6, none), (18, some 2)], false⟩, ⟨[0], [0, 1, 2, 6], [(18, some 2), (22, some 6)], false⟩, ⟨[0], [0, 1, 2, 5, 6, 7], [(18, some 2), (21, some 5), (23, some 7)], false⟩, ⟨[0], [0, 1, 2, 5, 6, 7, 8], [(18, some 2), (24, some 8)], false⟩, ⟨[0], [0, 1, 2, 5, 6, 7, 8, 9], [(18, some 2), (25, some 9)], false⟩, ⟨[0], [0, 1, 2, 5, 6, 7, 8, 9, 10], [(18, some 2), (26, some 10)], false⟩, ⟨[], [0, 1, 2, 3, 4, 5, 6, 7, 8, 9, 10, 11], [], false⟩, ⟨[], [0, 1, 2, 3, 4, 5, 6, 7, 8, 9, 10, 11, 12], [], false⟩] 12 (by kernel_rfl) (by kernel_rfl)
      ·refine ⟨?_, ?_, ?_, ?_, ?_, ?_, ?_, ?_, ?_, ?_, ?_, ?_, trivial⟩
       ·intro tm hr
        simp [AllL, rdV] at hr
        simp [hr, ← e11, ← e12, nth_d e13, f14, encSpan_cell (nth_d e13).2 (j := 1) (by decide), lvs1, ← e15, ← e16]
        intros; first | exact KD.mk | exact KD.mkN
       ·intro tm hr
        simp [AllL, rdV] at hr
        simp [hr, ← e11, ← e12, nth_d e13, f14, encSpan_cell (nth_d e13).2 (j := 1) (by decide), lvs1, ← e15, ← e16]
        intros; first | exact KD.mk | exact KD.mkN
       ·intro tm hr
        simp [AllL, rdV] at hr
        simp [hr, ← e11, ← e12, nth_d e13, f14, encSpan_cell (nth_d e13).2 (j := 1) (by decide), lvs1, ← e15, ← e16]
        intros; first | exact KD.mk | exact KD.mkN
       ·intro tm hr
        simp [AllL, rdV] at hr
        simp [hr, ← e11, ← e12, nth_d e13, f14, encSpan_cell (nth_d e13).2 (j := 1) (by decide), lvs1, ← e15, ← e16]
        intros; first | exact KD.mk | exact KD.mkN
       ·intro tm hr
        simp [AllL, rdV] at hr
        simp [hr, ← e11, ← e12, nth_d e13, f14, encSpan_cell (nth_d e13).2 (j := 1) (by decide), lvs1, ← e15, ← e16]
        intros; first | exact KD.mk | exact KD.mkN
       ·intro tm hr
        simp [AllL, rdV] at hr
        simp [hr, ← e11, ← e12, nth_d e13, f14, encSpan_cell (nth_d e13).2 (j := 1) (by decide), lvs1, ← e15, ← e16]
        intros; first | exact KD.mk | exact KD.mkN
       ·intro tm hr
        simp [AllL, rdV] at hr
        simp [hr, ← e11, ← e12, nth_d e13, f14, encSpan_cell (nth_d e13).2 (j := 1) (by decide), lvs1, ← e15, ← e16]
        intros; first | exact KD.mk | exact KD.mkN
       ·intro tm hr
        simp [AllL, rdV] at hr
        simp [hr, ← e11, ← e12, nth_d e13, f14, encSpan_cell (nth_d e13).2 (j := 1) (by decide), lvs1, ← e15, ← e16]
        intros; first | exact KD.mk | exact KD.mkN
       ·intro tm hr
        simp [AllL, rdV] at hr
        simp [hr, ← e11, ← e12, nth_d e13, f14, encSpan_cell (nth_d e13).2 (j := 1) (by decide), lvs1, ← e15, ← e16]
        intros; first | exact KD.mk | exact KD.mkN
       ·intro tm hr
        simp [AllL, rdV] at hr
        simp [hr, ← e11, ← e12, nth_d e13, f14, encSpan_cell (nth_d e13).2 (j := 1) (by decide), lvs1, ← e15, ← e16]
        intros; first | exact KD.mk | exact KD.mkN
       ·intro tm hr
        simp [AllL, rdV] at hr
        simp [hr, ← e11, ← e12, nth_d e13, f14, encSpan_cell (nth_d e13).2 (j := 1) (by decide), lvs1, ← e15, ← e16]
        intros; first | exact KD.mk | exact KD.mkN
       ·intro tm hr
        simp [AllL, rdV] at hr
        simp [hr, ← e11, ← e12, nth_d e13, f14, encSpan_cell (nth_d e13).2 (j := 1) (by decide), lvs1, ← e15, ← e16]
        intros; first | exact KD.mk | exact KD.mkN
      ·rfl
      ·simp [tmD, putD, ← e11, ← e12, nth_d e13, f14, encSpan_cell (nth_d e13).2 (j := 1) (by decide), lvs1, ← e15, ← e16]; rfl
      ·simp [← e11, ← e12, nth_d e13, f14, encSpan_cell (nth_d e13).2 (j := 1) (by decide), lvs1, ← e15, ← e16]
       intros; rfl
      obtain rfl := Option.some.inj h
      refine nP_i ?_
      refine Weak.mixN [some 0, some 1] hn0 (by decide) ?_ ?_ rfl
      all_goals first | (simp [inv_cons, inv_nil, pickOb]; done) | rfl
     | false =>
      replace h := iteF rfl h
      apply AW.drawnR (V := [_, _, _, _, _, _, _, _, _, _, _, _]) mixed [⟨[0], [], [(6, none)], false⟩, ⟨[0], [0], [(16, some 0)], false⟩, ⟨[0], [0, 1], [(17, some 1)], false⟩, ⟨[0], [0, 1, 2], [(5, none), (18, some 2)], false⟩, ⟨[0], [0, 1, 2, 3], [(18, some 2), (19, some 3)], false⟩, ⟨[0], [0, 1, 2], [(3, none), (18, some 2)], false⟩, ⟨[0], [0, 1, 2], [(6, none), (18, some 2)], false⟩, ⟨[0], [0, 1, 2, 6], [(18, some 2), (22, some 6)], false⟩, ⟨[0], [0, 1, 2, 5, 6, 7], [(18, some 2), (21, some 5), (23, some 7)], false⟩, ⟨[0], [0, 1, 2, 5, 6, 7, 8], [(18, some 2), (24, some 8)], false⟩, ⟨[0], [0, 1, 2, 5, 6, 7, 8, 9], [(18, some 2), (25, some 9)], false⟩, ⟨[0], [0, 1, 2, 5, 6, 7, 8, 9, 10], [(18, some 2), (26, some 10)], false⟩, ⟨[], [0, 1, 2, 3, 4, 5, 6, 7, 8, 9, 10, 11], [], false⟩, ⟨[], [0, 1, 2, 3, 4, 5, 6, 7, 8, 9, 10, 11, 12], [], false⟩] 12 (by kernel_rfl) (by kernel_rfl)
      ·refine ⟨?_, ?_, ?_, ?_, ?_, ?_, ?_, ?_, ?_, ?_, ?_, ?_, trivial⟩
       ·intro tm hr
        simp [AllL, rdV] at hr
        simp [hr, ← e11]
        intros; first | exact KD.mk | exact KD.mkN
       ·intro tm hr
        simp [AllL, rdV] at hr
        simp [hr, ← e11]
        intros; first | exact KD.mk | exact KD.mkN
       ·intro tm hr
        simp [AllL, rdV] at hr
        simp [hr, ← e11]
        intros; first | exact KD.mk | exact KD.mkN
       ·intro tm hr
        simp [AllL, rdV] at hr
        simp [hr, ← e11]
        intros; first | exact KD.mk | exact KD.mkN
       ·intro tm hr
        simp [AllL, rdV] at hr
        simp [hr, ← e11]
        intros; first | exact KD.mk | exact KD.mkN
       ·intro tm hr
        simp [AllL, rdV] at hr
        simp [hr, ← e11]
        intros; first | exact KD.mk | exact KD.mkN
       ·intro tm hr
        simp [AllL, rdV] at hr
        simp [hr, ← e11]
        intros; first | exact KD.mk | exact KD.mkN
       ·intro tm hr
        simp [AllL, rdV] at hr
        simp [hr, ← e11]
        intros; first | exact KD.mk | exact KD.mkN
       ·intro tm hr
        simp [AllL, rdV] at hr
        simp [hr, ← e11]
        intros; first | exact KD.mk | exact KD.mkN
       ·intro tm hr
        simp [AllL, rdV] at hr
        simp [hr, ← e11]
        intros; first | exact KD.mk | exact KD.mkN
       ·intro tm hr
        simp [AllL, rdV] at hr
        simp [hr, ← e11]
        intros; first | exact KD.mk | exact KD.mkN
       ·intro tm hr
        simp [AllL, rdV] at hr
        simp [hr, ← e11]
        intros; first | exact KD.mk | exact KD.mkN
      ·rfl
      ·simp [tmD, putD, ← e11]; rfl
      ·simp [← e11]
       intros; rfl
      obtain rfl := Option.some.inj h
      refine nP_i ?_
      refine Weak.mixN [some 0, some 1] hn0 (by decide) ?_ ?_ rfl
      all_goals first | (simp [inv_cons, inv_nil, pickOb]; done) | rfl
    ·rintro e s hp
     obtain ⟨rfl, hw⟩ := hp
     refine ⟨_, hw, ?_⟩
     try simp only [sp_l, sp_r, Post.seq, Post.block, Nat.reduceEqDiff, reduceIte, Nat.zero_ne_one, Nat.one_ne_zero]
     replace h := ltE h; obtain ⟨v17, e17, h⟩ := h
     rw [← e17]
     cases v17 with
     | true =>
      replace h := iteT rfl h
      refine AW.cond_true (by simp) ?_
      replace h := ltE h; obtain ⟨v18, e18, h⟩ := h
      replace h := bnE h; obtain ⟨v19, e19, h⟩ := h
      have f20 := nth_lt e19
      try simp [← e18, nth_d e19] at f20
      replace h := ltE h; obtain ⟨v21, e21, h⟩ := h
      have f22 := nth_lt e19
      try simp [← e18, nth_d e19, f20, encSpan_cell (nth_d e19).2 (j := 1) (by decide), lvs1, ← e21] at f22
      replace h := ltE h; obtain ⟨v23, e23, h⟩ := h
      have f24 := encSpan_put (nth_d e19).2 e23 (j := 1) (cs := [.s (.int .i64 v21)]) (by simp) rfl
      try simp at f24
      have f25 := f20
      try simp only [set_len e23] at f25
      have f26 := f22
      try simp only [set_len e23] at f26
      apply AW.drawnP (V := [_, _, _, _, _, _, _, _, _, _, _, _]) mixed [⟨[0], [], [(3, none)], false⟩, ⟨[0], [], [(6, none)], false⟩, ⟨[0], [1], [(31, some 1)], false⟩, ⟨[0], [], [(3, none)], false⟩, ⟨[0], [], [(6, none)], false⟩, ⟨[0], [4], [(34, some 4)], false⟩, ⟨[0], [3, 4, 5], [(33, some 3), (35, some 5)], false⟩, ⟨[0], [3, 4, 5, 6], [(36, some 6)], false⟩, ⟨[0], [3, 4, 5, 6, 7], [(37, some 7)], false⟩, ⟨[0], [], [(5, none)], false⟩, ⟨[0], [9], [(39, some 9)], false⟩, ⟨[0], [3, 4, 5, 6, 7, 8, 9, 10], [(38, some 8), (40, some 10)], false⟩, ⟨[], [0, 1, 2, 3, 4, 5, 6, 7, 8, 9, 10, 11], [], false⟩, ⟨[], [0, 1, 2, 3, 4, 5, 6, 7, 8, 9, 10, 11, 12], [], false⟩, ⟨[], [0, 1, 2, 3, 4, 5, 6, 7, 8, 9, 10, 11, 12, 13], [], false⟩] 12 (by kernel_rfl) (by kernel_rfl)
      ·refine ⟨?_, ?_, ?_, ?_, ?_, ?_, ?_, ?_, ?_, ?_, ?_, ?_, trivial⟩
       ·intro tm hr
        simp [AllL, rdV] at hr
        simp [hr, ← e18, nth_d e19, f20, encSpan_cell (nth_d e19).2 (j := 1) (by decide), lvs1, ← e21, f22, encSpan_fitj (nth_d e19).2 (j := 1) (m := 1) (by decide), f24, f25, f26]
        intros; first | exact KD.mk | exact KD.mkN
       ·intro tm hr
        simp [AllL, rdV] at hr
        simp [hr, ← e18, nth_d e19, f20, encSpan_cell (nth_d e19).2 (j := 1) (by decide), lvs1, ← e21, f22, encSpan_fitj (nth_d e19).2 (j := 1) (m := 1) (by decide), f24, f25, f26]
        intros; first | exact KD.mk | exact KD.mkN
       ·intro tm hr
        simp [AllL, rdV] at hr
        simp [hr, ← e18, nth_d e19, f20, encSpan_cell (nth_d e19).2 (j := 1) (by decide), lvs1, ← e21, f22, encSpan_fitj (nth_d e19).2 (j := 1) (m := 1) (by decide), f24, f25, f26]
        intros; first | exact KD.mk | exact KD.mkN
       ·intro tm hr
        simp [AllL, rdV] at hr
        simp [hr, ← e18, nth_d e19, f20, encSpan_cell (nth_d e19).2 (j := 1) (by decide), lvs1, ← e21, f22, encSpan_fitj (nth_d e19).2 (j := 1) (m := 1) (by decide), f24, f25, f26]
        intros; first | exact KD.mk | exact KD.mkN
       ·intro tm hr
        simp [AllL, rdV] at hr
        simp [hr, ← e18, nth_d e19, f20, encSpan_cell (nth_d e19).2 (j := 1) (by decide), lvs1, ← e21, f22, encSpan_fitj (nth_d e19).2 (j := 1) (m := 1) (by decide), f24, f25, f26]
        intros; first | exact KD.mk | exact KD.mkN
       ·intro tm hr
        simp [AllL, rdV] at hr
        simp [hr, ← e18, nth_d e19, f20, encSpan_cell (nth_d e19).2 (j := 1) (by decide), lvs1, ← e21, f22, encSpan_fitj (nth_d e19).2 (j := 1) (m := 1) (by decide), f24, f25, f26]
        intros; first | exact KD.mk | exact KD.mkN
       ·intro tm hr
        simp [AllL, rdV] at hr
        simp [hr, ← e18, nth_d e19, f20, encSpan_cell (nth_d e19).2 (j := 1) (by decide), lvs1, ← e21, f22, encSpan_fitj (nth_d e19).2 (j := 1) (m := 1) (by decide), f24, f25, f26]
        intros; first | exact KD.mk | exact KD.mkN
       ·intro tm hr
        simp [AllL, rdV] at hr
        simp [hr, ← e18, nth_d e19, f20, encSpan_cell (nth_d e19).2 (j := 1) (by decide), lvs1, ← e21, f22, encSpan_fitj (nth_d e19).2 (j := 1) (m := 1) (by decide), f24, f25, f26]
        intros; first | exact KD.mk | exact KD.mkN
       ·intro tm hr
        simp [AllL, rdV] at hr
        simp [hr, ← e18, nth_d e19, f20, encSpan_cell (nth_d e19).2 (j := 1) (by decide), lvs1, ← e21, f22, encSpan_fitj (nth_d e19).2 (j := 1) (m := 1) (by decide), f24, f25, f26]
        intros; first | exact KD.mk | exact KD.mkN
       ·intro tm hr
        simp [AllL, rdV] at hr
        simp [hr, ← e18, nth_d e19, f20, encSpan_cell (nth_d e19).2 (j := 1) (by decide), lvs1, ← e21, f22, encSpan_fitj (nth_d e19).2 (j := 1) (m := 1) (by decide), f24, f25, f26]
        intros; first | exact KD.mk | exact KD.mkN
       ·intro tm hr
        simp [AllL, rdV] at hr
        simp [hr, ← e18, nth_d e19, f20, encSpan_cell (nth_d e19).2 (j := 1) (by decide), lvs1, ← e21, f22, encSpan_fitj (nth_d e19).2 (j := 1) (m := 1) (by decide), f24, f25, f26]
        intros; first | exact KD.mk | exact KD.mkN
       ·intro tm hr
        simp [AllL, rdV] at hr
        simp [hr, ← e18, nth_d e19, f20, encSpan_cell (nth_d e19).2 (j := 1) (by decide), lvs1, ← e21, f22, encSpan_fitj (nth_d e19).2 (j := 1) (m := 1) (by decide), f24, f25, f26]
        intros; first | exact KD.mk | exact KD.mkN
      ·rfl
      ·simp [tmD, putD, ← e18, nth_d e19, f20, encSpan_cell (nth_d e19).2 (j := 1) (by decide), lvs1, ← e21, f22, encSpan_fitj (nth_d e19).2 (j := 1) (m := 1) (by decide), f24, f25, f26]; rfl
      ·simp [← e18, nth_d e19, f20, encSpan_cell (nth_d e19).2 (j := 1) (by decide), lvs1, ← e21, f22, encSpan_fitj (nth_d e19).2 (j := 1) (m := 1) (by decide), f24, f25, f26]
       intros; rfl
      refine AW.exit ?_
      try simp only [sp_l, sp_r, Post.seq, Post.block, Nat.reduceEqDiff, reduceIte, Nat.zero_ne_one, Nat.one_ne_zero]
      obtain rfl := Option.some.inj h
      refine nP_i ?_
      refine Weak.mixN [some 0] hn0 (by decide) ?_ ?_ rfl
      all_goals first | (simp [inv_cons, inv_nil, pickOb, set_len e23]; done) | rfl
     | false =>
      replace h := iteF rfl h
      refine AW.cond_false (by simp) ?_
      refine AW.skip ?_
      try simp only [sp_l, sp_r, Post.seq, Post.block, Nat.reduceEqDiff, reduceIte, Nat.zero_ne_one, Nat.one_ne_zero]
      try simp only [sp_l, sp_r, Post.seq, Post.block, Nat.reduceEqDiff, reduceIte, Nat.zero_ne_one, Nat.one_ne_zero]
      replace h := chkE h; obtain ⟨e27, h⟩ := h
      replace h := ltE h; obtain ⟨v28, e28, h⟩ := h
      apply AW.last
      ·simp [← encSpan_append, ← e28, app_len1 e28]
       intros
       refine xrow_own ?_
       try simp [← encSpan_append, ← e28, app_len1 e28]
       intros
       refine xapp_pushN (acc := encSpan y3.2) (ys := encSpan [v8]) (cap := none) (k := 1) tb_el29 tb_ti43 (by simp) (by simp [encSpan, lvs]) (encSpan_sz _) (by simp) (by simp) (by first | (simp; done) | simpa using (room_d e27).1) ?_
       try simp [← encSpan_append, ← e28, app_len1 e28]
       intros; rfl
      obtain rfl := Option.some.inj h
      refine nP_i ?_
      refine Weak.mixN [some 3] hn0 (by decide) ?_ ?_ rfl
      all_goals first | (simp [inv_cons, inv_nil, pickOb, lvs_encSpan1]; done) | rfl
   ·rintro e s hp
    obtain ⟨rfl, hw⟩ := hp
    refine ⟨_, hw, ?_⟩
    try simp only [sp_l, sp_r, Post.seq, Post.block, Nat.reduceEqDiff, reduceIte, Nat.zero_ne_one, Nat.one_ne_zero]
    replace h := ltE h; obtain ⟨v29, e29, h⟩ := h
    apply AW.last
    ·simp [← e29]
     intros; rfl
    obtain rfl := Option.some.inj h
    refine nP_i ?_
    refine Weak.mixN [some 0] hn0 (by decide) ?_ ?_ rfl
    all_goals first | (simp [inv_cons, inv_nil, pickOb]; done) | rfl
  | false =>
   replace h := iteF rfl h
   refine AW.cond_false (by simp) ?_
   refine AW.exit ?_
   try simp only [sp_l, sp_r, Post.seq, Post.block, Nat.reduceEqDiff, reduceIte, Nat.zero_ne_one, Nat.one_ne_zero]
   obtain rfl := Option.some.inj h
   refine xP_i ?_
   refine Weak.mixN [some 0] hn0 (by decide) ?_ ?_ rfl
   all_goals first | (simp [inv_cons, inv_nil, pickOb]; done) | rfl
 ·rintro e s hp
  obtain ⟨rfl, hw⟩ := hp
  refine ⟨_, hw, ?_⟩
  try simp only [sp_l, sp_r, Post.seq, Post.block, Nat.reduceEqDiff, reduceIte, Nat.zero_ne_one, Nat.one_ne_zero]
  apply AW.step
  ·simp
   intros; rfl
  replace h := chkE h; obtain ⟨e30, h⟩ := h
  refine AW.frzRow 0 (ty := 43) (cap := none) (sz := 2) (es := encSpan y4) (by simp) (by omega) (encSpan_sz _) (by first | exact (room_d e30).2 | simpa using (room_d e30).2 | simp) (by simp [Tm.frz, AV.frz, LV.frz]; rfl) (by simp [Ob.frz, LV.frz]; rfl) rfl ?_
  obtain rfl := Option.some.inj h
  refine AW.ret ?_
  refine Left.plain hnb (by simp [Try.f49, resV, resC, comp]; rfl) rfl rfl ?_
  simp
theorem en_spans_Norm : Enters Try.prog 49 := enters Try.func49 (by kernel_rfl) rfl
def claims_pieces_sh (n : Nat) (a0 : List Claim) (a1 : List Claim) : Option (List Claim × List Claim) :=
some (a0, a1)
set_option maxRecDepth 8000 in
set_option maxHeartbeats 2000000 in
theorem s_claims_pieces {n : Nat} {a0 : List Claim} {a1 : List Claim} {r : List Claim × List Claim} (h : claims_pieces_sh n a0 a1 = some r) : Sound Try.prog 47 [.l (.d false 4 (encClaim a0)), .l (.d false 4 (encClaim a1))] [] (.l (.f 67 [0, 1])) [some ⟨24, 1, false, none, [.d false 4 (encClaim r.1)]⟩, some ⟨24, 1, false, none, [.d false 4 (encClaim r.2)]⟩] := by
 unfold claims_pieces_sh at h
 refine Sound.of_aw (fn := Try.f47) (c := _) Try.func47 rfl (by simp [Try.f47]) fun cx hG hnb => ?_
 rw [show Try.f47.ntmps = 6 from rfl]
 have hn0 : cx.nb = 0 := hnb
 simp only [st0_mk, initTm, List.map_cons, List.map_nil]
 apply AW.step
 ·simp
  intros; rfl
 apply AW.step
 ·simp
  intros; rfl
 obtain rfl := Option.some.inj h
 refine AW.ret ?_
 refine Left.of (av := _) (by simp [Try.f47, resV, resC, comp]; rfl) ?_
 exact LeftV.mix 0 [some 0, some 1] hn0 rfl (by decide) rfl (by simp [pickOb, inv_cons, inv_nil]) (by simp [inv_cons, inv_nil])
theorem en_claims_pieces : Enters Try.prog 47 := enters Try.func47 (by kernel_rfl) rfl
def claims_next_sh (n : Nat) (a0 : List Claim) (a1 : Int) : Option (Claim × List Claim) :=
bn (iter n (fun (y1 : List Claim) =>
bn (lt (lenI y1) fun v5 =>
lt (gtI v5 0) fun v6 =>
ite' v6 (bn (nth y1 0) fun v7 =>
lt (ltI v7.to a1) fun v8 =>
some (v8)) (some (false))) fun (y4 : Bool) =>
lt (y4) fun v9 =>
ite' v9 (bn (segl y1 1) fun v10 =>
some (.inl v10)) (some (.inr y1))) a0) fun (y2 : List Claim) =>
bn (bn (lt (lenI y2) fun v14 =>
lt (gtI v14 0) fun v15 =>
ite' v15 (bn (nth y2 0) fun v16 =>
lt (leI v16.frm a1) fun v17 =>
some (v17)) (some (false))) fun (y13 : Bool) =>
lt (y13) fun v18 =>
ite' v18 (bn (nth y2 0) fun v19 =>
some ((⟨a1, v19.to, v19.node, v19.epoch⟩ : Claim))) (lt (lenI y2) fun v20 =>
lt (gtI v20 0) fun v21 =>
ite' v21 (bn (nth y2 0) fun v22 =>
lt (subI .i64 v22.frm 1) fun v23 =>
some ((⟨a1, v23, 0, 0⟩ : Claim))) (some ((⟨a1, 16383, 0, 0⟩ : Claim))))) fun (y12 : Claim) =>
some (y12, y2)
set_option maxRecDepth 8000 in
set_option maxHeartbeats 2000000 in
theorem s_claims_next {n : Nat} {a0 : List Claim} {a1 : Int} {r : Claim × List Claim} (h : claims_next_sh n a0 a1 = some r) : Sound Try.prog 68 [.l (.d false 4 (encClaim a0)), .l (.s (.int .i64 a1))] [] (.t [(true, [.s (.int .i64 r.1.frm), .s (.int .i64 r.1.to), .s (.int .i64 r.1.node), .s (.int .i64 r.1.epoch)]), (false, [.d false 4 (encClaim r.2)])]) [] := by
 unfold claims_next_sh at h
 refine Sound.of_aw (fn := Try.f68) (c := _) Try.func68 rfl (by simp [Try.f68]) fun cx hG hnb => ?_
 rw [show Try.f68.ntmps = 51 from rfl]
 have hn0 : cx.nb = 0 := hnb
 simp only [st0_mk, initTm, List.map_cons, List.map_nil]
 apply AW.step
 ·simp
  intros; rfl
 refine AW.seq ?_
 refine AW.block ?_
 replace h := bnE h; obtain ⟨y2, g2, h⟩ := h
 refine AW.iterP g2 (mk := fun gh ls q => (⟨[(0, .l (.d false 4 (encClaim q))), (1, .l (.s (.int .i64 a1))), (4, .l (.p 0 0))], [some ⟨41, 4, false, none, [.s (.int .i64 0), .s (.int .i64 0), .s (.int .i64 0), .s (.int .i64 0)]⟩], 51, gh, ls⟩ : St)) (N := fun gh ls => (xP 0 (cx := cx) (fun q => (⟨[(0, .l (.d false 4 (encClaim q))), (1, .l (.s (.int .i64 a1))), (4, .l (.p 0 0))], [some ⟨41, 4, false, none, [.s (.int .i64 0), .s (.int .i64 0), .s (.int .i64 0), .s (.int .i64 0)]⟩], 51, gh, ls⟩ : St)))) ?_ noX ?_ ?_
 ·refine Weak.mixN [some 0] hn0 (by decide) ?_ ?_ rfl
  all_goals first | (simp [inv_cons, inv_nil, pickOb]; done) | rfl
 ·clear h; intro y1 y3 h
  refine AW.seq ?_
  replace h := bnE h; obtain ⟨y4, g4, h⟩ := h
  refine AW.flow (p := fun gh ls => (nP (cx := cx) (fun q => (⟨[(0, .l (.d false 4 (encClaim y1))), (1, .l (.s (.int .i64 a1))), (4, .l (.p 0 0)), (17, .l (.s (.bool q)))], [some ⟨41, 4, false, none, [.s (.int .i64 0), .s (.int .i64 0), .s (.int .i64 0), .s (.int .i64 0)]⟩], 51, gh, ls⟩ : St))) y4) ?_ ?_
  ·replace h := g4; clear g4
   replace h := ltE h; obtain ⟨v5, e5, h⟩ := h
   replace h := ltE h; obtain ⟨v6, e6, h⟩ := h
   cases v6 with
   | true =>
    replace h := iteT rfl h
    replace h := bnE h; obtain ⟨v7, e7, h⟩ := h
    replace h := ltE h; obtain ⟨v8, e8, h⟩ := h
    apply AW.last
    ·simp [lenI_cast e5, ← e6, (show y1[0]? = some v7 from (nth_d e7).2), ← e8]
     intros; rfl
    obtain rfl := Option.some.inj h
    refine nP_i ?_
    refine Weak.mixN [some 0] hn0 (by decide) ?_ ?_ rfl
    all_goals first | (simp [inv_cons, inv_nil, pickOb]; done) | rfl
   | false =>
    replace h := iteF rfl h
    apply AW.last
    ·simp [lenI_cast e5, ← e6]
     intros; rfl
    obtain rfl := Option.some.inj h
    refine nP_i ?_
    refine Weak.mixN [some 0] hn0 (by decide) ?_ ?_ rfl
    all_goals first | (simp [inv_cons, inv_nil, pickOb]; done) | rfl
  ·rintro e s hp
   obtain ⟨rfl, hw⟩ := hp
   refine ⟨_, hw, ?_⟩
   try simp only [sp_l, sp_r, Post.seq, Post.block, Nat.reduceEqDiff, reduceIte, Nat.zero_ne_one, Nat.one_ne_zero]
   replace h := ltE h; obtain ⟨v9, e9, h⟩ := h
   rw [← e9]
   cases v9 with
   | true =>
    replace h := iteT rfl h
    refine AW.cond_true (by simp) ?_
    refine AW.skip ?_
    try simp only [sp_l, sp_r, Post.seq, Post.block, Nat.reduceEqDiff, reduceIte, Nat.zero_ne_one, Nat.one_ne_zero]
    try simp only [sp_l, sp_r, Post.seq, Post.block, Nat.reduceEqDiff, reduceIte, Nat.zero_ne_one, Nat.one_ne_zero]
    refine AW.block ?_
    replace h := bnE h; obtain ⟨v10, e10, h⟩ := h
    have f11 := encClaim_segl e10
    try simp at f11
    apply AW.last
    ·simp [f11]
     intros; rfl
    obtain rfl := Option.some.inj h
    refine nP_i ?_
    refine Weak.mixN [some 0] hn0 (by decide) ?_ ?_ rfl
    all_goals first | (simp [inv_cons, inv_nil, pickOb]; done) | rfl
   | false =>
    replace h := iteF rfl h
    refine AW.cond_false (by simp) ?_
    refine AW.exit ?_
    try simp only [sp_l, sp_r, Post.seq, Post.block, Nat.reduceEqDiff, reduceIte, Nat.zero_ne_one, Nat.one_ne_zero]
    obtain rfl := Option.some.inj h
    refine xP_i ?_
    refine Weak.mixN [some 0] hn0 (by decide) ?_ ?_ rfl
    all_goals first | (simp [inv_cons, inv_nil, pickOb]; done) | rfl
 ·rintro e s hp
  obtain ⟨rfl, hw⟩ := hp
  refine ⟨_, hw, ?_⟩
  try simp only [sp_l, sp_r, Post.seq, Post.block, Nat.reduceEqDiff, reduceIte, Nat.zero_ne_one, Nat.one_ne_zero]
  apply AW.step
  ·simp
   intros; rfl
  replace h := bnE h; obtain ⟨y12, g12, h⟩ := h
  refine AW.flow (p := fun gh ls => (nP (cx := cx) (fun q => (⟨[(0, .l (.d false 4 (encClaim y2))), (4, .l (.p 0 0)), (6, .l (.p 1 0))], [some ⟨41, 4, false, none, [.s (.int .i64 0), .s (.int .i64 0), .s (.int .i64 0), .s (.int .i64 0)]⟩, some ⟨41, 4, false, none, [.s (.int .i64 q.frm), .s (.int .i64 q.to), .s (.int .i64 q.node), .s (.int .i64 q.epoch)]⟩], 51, gh, ls⟩ : St))) y12) ?_ ?_
  ·replace h := g12; clear g12
   refine AW.block ?_
   replace h := bnE h; obtain ⟨y13, g13, h⟩ := h
   refine AW.flow (p := fun gh ls => (nP (cx := cx) (fun q => (⟨[(0, .l (.d false 4 (encClaim y2))), (1, .l (.s (.int .i64 a1))), (4, .l (.p 0 0)), (6, .l (.p 1 0)), (22, .l (.s (.bool q)))], [some ⟨41, 4, false, none, [.s (.int .i64 0), .s (.int .i64 0), .s (.int .i64 0), .s (.int .i64 0)]⟩, some ⟨41, 4, false, none, [.s (.int .i64 a1), .s (.int .i64 16383), .s (.int .i64 0), .s (.int .i64 0)]⟩], 51, gh, ls⟩ : St))) y13) ?_ ?_
   ·replace h := g13; clear g13
    replace h := ltE h; obtain ⟨v14, e14, h⟩ := h
    replace h := ltE h; obtain ⟨v15, e15, h⟩ := h
    cases v15 with
    | true =>
     replace h := iteT rfl h
     replace h := bnE h; obtain ⟨v16, e16, h⟩ := h
     replace h := ltE h; obtain ⟨v17, e17, h⟩ := h
     apply AW.last
     ·simp [lenI_cast e14, ← e15, (show y2[0]? = some v16 from (nth_d e16).2), ← e17]
      intros; rfl
     obtain rfl := Option.some.inj h
     refine nP_i ?_
     refine Weak.mixN [some 0, some 1] hn0 (by decide) ?_ ?_ rfl
     all_goals first | (simp [inv_cons, inv_nil, pickOb]; done) | rfl
    | false =>
     replace h := iteF rfl h
     apply AW.last
     ·simp [lenI_cast e14, ← e15]
      intros; rfl
     obtain rfl := Option.some.inj h
     refine nP_i ?_
     refine Weak.mixN [some 0, some 1] hn0 (by decide) ?_ ?_ rfl
     all_goals first | (simp [inv_cons, inv_nil, pickOb]; done) | rfl
   ·rintro e s hp
    obtain ⟨rfl, hw⟩ := hp
    refine ⟨_, hw, ?_⟩
    try simp only [sp_l, sp_r, Post.seq, Post.block, Nat.reduceEqDiff, reduceIte, Nat.zero_ne_one, Nat.one_ne_zero]
    replace h := ltE h; obtain ⟨v18, e18, h⟩ := h
    rw [← e18]
    cases v18 with
    | true =>
     replace h := iteT rfl h
     refine AW.cond_true (by simp) ?_
     replace h := bnE h; obtain ⟨v19, e19, h⟩ := h
     apply AW.step
     ·simp [(show y2[0]? = some v19 from (nth_d e19).2)]
      intros; rfl
     apply AW.last
     ·simp
      intros; rfl
     obtain rfl := Option.some.inj h
     refine nP_i ?_
     refine Weak.mixN [some 0, some 1] hn0 (by decide) ?_ ?_ rfl
     all_goals first | (simp [inv_cons, inv_nil, pickOb]; done) | rfl
    | false =>
     replace h := iteF rfl h
     refine AW.cond_false (by simp) ?_
     replace h := ltE h; obtain ⟨v20, e20, h⟩ := h
     replace h := ltE h; obtain ⟨v21, e21, h⟩ := h
     apply AW.step
     ·simp [lenI_cast e20, ← e21]
      intros; rfl
     cases v21 with
     | true =>
      replace h := iteT rfl h
      refine AW.cond_true (by simp) ?_
      replace h := bnE h; obtain ⟨v22, e22, h⟩ := h
      replace h := ltE h; obtain ⟨v23, e23, h⟩ := h
      apply AW.last
      ·simp [(show y2[0]? = some v22 from (nth_d e22).2), ← e23]
       intros; rfl
      obtain rfl := Option.some.inj h
      refine nP_i ?_
      refine Weak.mixN [some 0, some 1] hn0 (by decide) ?_ ?_ rfl
      all_goals first | (simp [inv_cons, inv_nil, pickOb]; done) | rfl
     | false =>
      replace h := iteF rfl h
      refine AW.cond_false (by simp) ?_
      refine AW.skip ?_
      try simp only [sp_l, sp_r, Post.seq, Post.block, Nat.reduceEqDiff, reduceIte, Nat.zero_ne_one, Nat.one_ne_zero]
      obtain rfl := Option.some.inj h
      refine nP_i ?_
      refine Weak.mixN [some 0, some 1] hn0 (by decide) ?_ ?_ rfl
      all_goals first | (simp [inv_cons, inv_nil, pickOb]; done) | rfl
  ·rintro e s hp
   obtain ⟨rfl, hw⟩ := hp
   refine ⟨_, hw, ?_⟩
   try simp only [sp_l, sp_r, Post.seq, Post.block, Nat.reduceEqDiff, reduceIte, Nat.zero_ne_one, Nat.one_ne_zero]
   apply AW.step
   ·simp
    intros; rfl
   obtain rfl := Option.some.inj h
   refine AW.ret ?_
   refine Left.plain hnb (by simp [Try.f68, resV, resC, comp]; rfl) rfl rfl ?_
   simp
theorem en_claims_next : Enters Try.prog 68 := enters Try.func68 (by kernel_rfl) rfl
def claims_touch_sh (n : Nat) (a0 : Claim) (a1 : Claim) : Option Bool :=
bn (lt (addI .i64 a0.to 1) fun v2 =>
lt (eqI v2 a1.frm) fun v3 =>
ite' v3 (lt (eqI a0.node a1.node) fun v4 =>
ite' v4 (lt (eqI a0.epoch a1.epoch) fun v5 =>
some (v5)) (some (false))) (some (false))) fun (y1 : Bool) =>
some y1
set_option maxRecDepth 8000 in
set_option maxHeartbeats 2000000 in
theorem s_claims_touch {n : Nat} {a0 : Claim} {a1 : Claim} {r : Bool} (h : claims_touch_sh n a0 a1 = some r) : Sound Try.prog 53 [.g [.s (.int .i64 a0.frm), .s (.int .i64 a0.to), .s (.int .i64 a0.node), .s (.int .i64 a0.epoch)], .g [.s (.int .i64 a1.frm), .s (.int .i64 a1.to), .s (.int .i64 a1.node), .s (.int .i64 a1.epoch)]] [] (.l (.s (.bool r))) [] := by
 unfold claims_touch_sh at h
 refine Sound.of_aw (fn := Try.f53) (c := _) Try.func53 rfl (by simp [Try.f53]) fun cx hG hnb => ?_
 rw [show Try.f53.ntmps = 25 from rfl]
 have hn0 : cx.nb = 0 := hnb
 simp only [st0_mk, initTm, List.map_cons, List.map_nil]
 apply AW.step
 ·simp
  intros; rfl
 replace h := bnE h; obtain ⟨y1, g1, h⟩ := h
 refine AW.flow (p := fun gh ls => (nP (cx := cx) (fun q => (⟨[(4, .l (.s (.bool q)))], [], 25, gh, ls⟩ : St))) y1) ?_ ?_
 ·replace h := g1; clear g1
  replace h := ltE h; obtain ⟨v2, e2, h⟩ := h
  replace h := ltE h; obtain ⟨v3, e3, h⟩ := h
  cases v3 with
  | true =>
   replace h := iteT rfl h
   replace h := ltE h; obtain ⟨v4, e4, h⟩ := h
   cases v4 with
   | true =>
    replace h := iteT rfl h
    replace h := ltE h; obtain ⟨v5, e5, h⟩ := h
    apply AW.last
    ·simp [← e2, ← e3, ← e4, ← e5]
     intros; rfl
    obtain rfl := Option.some.inj h
    refine nP_i ?_
    refine Weak.mixN [] hn0 (by decide) ?_ ?_ rfl
    all_goals first | (simp [inv_cons, inv_nil, pickOb]; done) | rfl
   | false =>
    replace h := iteF rfl h
    apply AW.last
    ·simp [← e2, ← e3, ← e4]
     intros; rfl
    obtain rfl := Option.some.inj h
    refine nP_i ?_
    refine Weak.mixN [] hn0 (by decide) ?_ ?_ rfl
    all_goals first | (simp [inv_cons, inv_nil, pickOb]; done) | rfl
  | false =>
   replace h := iteF rfl h
   apply AW.last
   ·simp [← e2, ← e3]
    intros; rfl
   obtain rfl := Option.some.inj h
   refine nP_i ?_
   refine Weak.mixN [] hn0 (by decide) ?_ ?_ rfl
   all_goals first | (simp [inv_cons, inv_nil, pickOb]; done) | rfl
 ·rintro e s hp
  obtain ⟨rfl, hw⟩ := hp
  refine ⟨_, hw, ?_⟩
  try simp only [sp_l, sp_r, Post.seq, Post.block, Nat.reduceEqDiff, reduceIte, Nat.zero_ne_one, Nat.one_ne_zero]
  obtain rfl := Option.some.inj h
  refine AW.ret ?_
  refine Left.plain hnb (by simp [Try.f53, resV, resC, comp]; rfl) rfl rfl ?_
  simp
theorem en_claims_touch : Enters Try.prog 53 := enters Try.func53 (by kernel_rfl) rfl
def claims_put_xf_sh (n : Nat) (a0 : List Claim) (a1 : Claim) : Option (List Claim) :=
bn (lt (lenI a0) fun v2 =>
lt (eqI a1.epoch 0) fun v3 =>
ite' v3 (some (a0)) (bn (lt (gtI v2 0) fun v5 =>
ite' v5 (lt (subI .i64 v2 1) fun v6 =>
bn (nth a0 v6) fun v7 =>
bn (claims_touch_sh n v7 a1) fun v9 =>
some (v9)) (some (false))) fun (y4 : Bool) =>
lt (y4) fun v10 =>
ite' v10 (lt (subI .i64 v2 1) fun v11 =>
bn (nth a0 v11) fun v12 =>
lt (a0.set v11.toNat (⟨v12.frm, a1.to, v12.node, v12.epoch⟩ : Claim)) fun v14 =>
some (v14)) (chk (room (a0.length + 1) 32) <|
lt (a0 ++ [a1]) fun v18 =>
some (v18)))) fun (y1 : List Claim) =>
some y1
set_option maxRecDepth 8000 in
set_option maxHeartbeats 2000000 in
theorem s_claims_put_xf {n : Nat} {a0 : List Claim} {a1 : Claim} {r : List Claim} (h : claims_put_xf_sh n a0 a1 = some r) : Sound Try.prog 48 [.l (.r 0 4 0 a0.length), .g [.s (.int .i64 a1.frm), .s (.int .i64 a1.to), .s (.int .i64 a1.node), .s (.int .i64 a1.epoch)]] [⟨41, 4, true, none, lvs (encClaim a0)⟩] (.l (.r 0 4 0 r.length)) [some ⟨41, 4, true, none, lvs (encClaim r)⟩] := by
 unfold claims_put_xf_sh at h
 refine Sound.of_aw (fn := Try.f48) (c := _) Try.func48 rfl (by simp [Try.f48]) fun cx hG hnb => ?_
 rw [show Try.f48.ntmps = 36 from rfl]
 have hn0 : cx.nb = 1 := hnb
 simp only [st0_mk, initTm, List.map_cons, List.map_nil]
 apply AW.step
 ·simp
  intros; rfl
 replace h := bnE h; obtain ⟨y1, g1, h⟩ := h
 refine AW.flow (p := fun gh ls => (nP (cx := cx) (fun q => (⟨[(0, .l (.r 0 4 0 q.length))], [some ⟨41, 4, true, none, lvs (encClaim q)⟩], 36, gh, ls⟩ : St))) y1) ?_ ?_
 ·replace h := g1; clear g1
  replace h := ltE h; obtain ⟨v2, e2, h⟩ := h
  apply AW.step
  ·simp [lenI_cast e2]
   intros; rfl
  refine AW.block ?_
  replace h := ltE h; obtain ⟨v3, e3, h⟩ := h
  apply AW.step
  ·simp [← e3]
   intros; rfl
  cases v3 with
  | true =>
   replace h := iteT rfl h
   refine AW.cond_true (by simp) ?_
   refine AW.skip ?_
   try simp only [sp_l, sp_r, Post.seq, Post.block, Nat.reduceEqDiff, reduceIte, Nat.zero_ne_one, Nat.one_ne_zero]
   obtain rfl := Option.some.inj h
   refine nP_i ?_
   refine Weak.mixB 1 [some 0] hn0 (by decide) (by decide) ?_ ?_ ?_
   all_goals first | (simp [inv_cons, inv_nil, pickOb]; done) | rfl
  | false =>
   replace h := iteF rfl h
   refine AW.cond_false (by simp) ?_
   replace h := bnE h; obtain ⟨y4, g4, h⟩ := h
   refine AW.flow (p := fun gh ls => (nP (cx := cx) (fun q => (⟨[(0, .l (.r 0 4 0 a0.length)), (3, .l (.p 1 0)), (5, .l (.s (.int .i64 v2))), (16, .l (.s (.bool q)))], [some ⟨41, 4, true, none, lvs (encClaim a0)⟩, some ⟨41, 4, false, none, [.s (.int .i64 a1.frm), .s (.int .i64 a1.to), .s (.int .i64 a1.node), .s (.int .i64 a1.epoch)]⟩], 36, gh, ls⟩ : St))) y4) ?_ ?_
   ·replace h := g4; clear g4
    replace h := ltE h; obtain ⟨v5, e5, h⟩ := h
    cases v5 with
    | true =>
     replace h := iteT rfl h
     replace h := ltE h; obtain ⟨v6, e6, h⟩ := h
     replace h := bnE h; obtain ⟨v7, e7, h⟩ := h
     have f8 := nth_lt e7
     try simp [← e5, ← e6, nth_d e7] at f8
     replace h := bnE h; obtain ⟨v9, e9, h⟩ := h
     apply AW.drawnR (V := [_, _, _, _, _, _, _, _, _]) mixed [⟨[0], [], [(5, none)], false⟩, ⟨[0], [0], [(17, some 0)], false⟩, ⟨[0], [0, 1], [(18, some 1)], false⟩, ⟨[0], [0, 1, 2], [(0, none), (19, some 2)], false⟩, ⟨[0], [0, 1, 2], [(5, none), (19, some 2)], false⟩, ⟨[0], [0, 1, 2, 4], [(19, some 2), (21, some 4)], false⟩, ⟨[0], [0, 1, 2, 3, 4, 5], [(19, some 2), (20, some 3), (22, some 5)], false⟩, ⟨[0], [0, 1, 2, 3, 4, 5, 6], [(19, some 2), (23, some 6)], false⟩, ⟨[0], [0, 1, 2], [(3, none), (19, some 2)], false⟩, ⟨[], [0, 1, 2, 3, 4, 5, 6, 7, 8], [], false⟩, ⟨[], [0, 1, 2, 3, 4, 5, 6, 7, 8, 9], [], false⟩, ⟨[], [0, 1, 2, 3, 4, 5, 6, 7, 8, 9, 10], [], false⟩] 9 (by kernel_rfl) (by kernel_rfl)
     ·refine ⟨?_, ?_, ?_, ?_, ?_, ?_, ?_, ?_, ?_, trivial⟩
      ·intro tm hr
       simp [AllL, rdV] at hr
       simp [hr, ← e5, ← e6, nth_d e7, f8, encClaim_seg0 (nth_d e7).2 (k := 4) (by decide), encClaim_fit (nth_d e7).2 (show 4 ≤ 4 by decide), lvs1]
       intros; first | exact KD.mk | exact KD.mkN
      ·intro tm hr
       simp [AllL, rdV] at hr
       simp [hr, ← e5, ← e6, nth_d e7, f8, encClaim_seg0 (nth_d e7).2 (k := 4) (by decide), encClaim_fit (nth_d e7).2 (show 4 ≤ 4 by decide), lvs1]
       intros; first | exact KD.mk | exact KD.mkN
      ·intro tm hr
       simp [AllL, rdV] at hr
       simp [hr, ← e5, ← e6, nth_d e7, f8, encClaim_seg0 (nth_d e7).2 (k := 4) (by decide), encClaim_fit (nth_d e7).2 (show 4 ≤ 4 by decide), lvs1]
       intros; first | exact KD.mk | exact KD.mkN
      ·intro tm hr
       simp [AllL, rdV] at hr
       simp [hr, ← e5, ← e6, nth_d e7, f8, encClaim_seg0 (nth_d e7).2 (k := 4) (by decide), encClaim_fit (nth_d e7).2 (show 4 ≤ 4 by decide), lvs1]
       intros; first | exact KD.mk | exact KD.mkN
      ·intro tm hr
       simp [AllL, rdV] at hr
       simp [hr, ← e5, ← e6, nth_d e7, f8, encClaim_seg0 (nth_d e7).2 (k := 4) (by decide), encClaim_fit (nth_d e7).2 (show 4 ≤ 4 by decide), lvs1]
       intros; first | exact KD.mk | exact KD.mkN
      ·intro tm hr
       simp [AllL, rdV] at hr
       simp [hr, ← e5, ← e6, nth_d e7, f8, encClaim_seg0 (nth_d e7).2 (k := 4) (by decide), encClaim_fit (nth_d e7).2 (show 4 ≤ 4 by decide), lvs1]
       intros; first | exact KD.mk | exact KD.mkN
      ·intro tm hr
       simp [AllL, rdV] at hr
       simp [hr, ← e5, ← e6, nth_d e7, f8, encClaim_seg0 (nth_d e7).2 (k := 4) (by decide), encClaim_fit (nth_d e7).2 (show 4 ≤ 4 by decide), lvs1]
       intros; first | exact KD.mk | exact KD.mkN
      ·intro tm hr
       simp [AllL, rdV] at hr
       simp [hr, ← e5, ← e6, nth_d e7, f8, encClaim_seg0 (nth_d e7).2 (k := 4) (by decide), encClaim_fit (nth_d e7).2 (show 4 ≤ 4 by decide), lvs1]
       intros; first | exact KD.mk | exact KD.mkN
      ·intro tm hr
       simp [AllL, rdV] at hr
       simp [hr, ← e5, ← e6, nth_d e7, f8, encClaim_seg0 (nth_d e7).2 (k := 4) (by decide), encClaim_fit (nth_d e7).2 (show 4 ≤ 4 by decide), lvs1]
       intros; first | exact KD.mk | exact KD.mkN
     ·rfl
     ·simp [tmD, putD, ← e5, ← e6, nth_d e7, f8, encClaim_seg0 (nth_d e7).2 (k := 4) (by decide), encClaim_fit (nth_d e7).2 (show 4 ≤ 4 by decide), lvs1]; rfl
     ·simp [← e5, ← e6, nth_d e7, f8, encClaim_seg0 (nth_d e7).2 (k := 4) (by decide), encClaim_fit (nth_d e7).2 (show 4 ≤ 4 by decide), lvs1]
      intros
      refine xcall_plain en_claims_touch (s_claims_touch e9) rfl ⟨.same rfl, .same rfl, trivial⟩ ?_
      try simp [← e5, ← e6, nth_d e7, f8, encClaim_seg0 (nth_d e7).2 (k := 4) (by decide), encClaim_fit (nth_d e7).2 (show 4 ≤ 4 by decide), lvs1]
      intros; rfl
     obtain rfl := Option.some.inj h
     refine nP_i ?_
     refine Weak.mixB 1 [some 0, some 1] hn0 (by decide) (by decide) ?_ ?_ ?_
     all_goals first | (simp [inv_cons, inv_nil, pickOb]; done) | rfl
    | false =>
     replace h := iteF rfl h
     apply AW.drawnR (V := [_, _, _, _, _, _, _, _, _]) mixed [⟨[0], [], [(5, none)], false⟩, ⟨[0], [0], [(17, some 0)], false⟩, ⟨[0], [0, 1], [(18, some 1)], false⟩, ⟨[0], [0, 1, 2], [(0, none), (19, some 2)], false⟩, ⟨[0], [0, 1, 2], [(5, none), (19, some 2)], false⟩, ⟨[0], [0, 1, 2, 4], [(19, some 2), (21, some 4)], false⟩, ⟨[0], [0, 1, 2, 3, 4, 5], [(19, some 2), (20, some 3), (22, some 5)], false⟩, ⟨[0], [0, 1, 2, 3, 4, 5, 6], [(19, some 2), (23, some 6)], false⟩, ⟨[0], [0, 1, 2], [(3, none), (19, some 2)], false⟩, ⟨[], [0, 1, 2, 3, 4, 5, 6, 7, 8], [], false⟩, ⟨[], [0, 1, 2, 3, 4, 5, 6, 7, 8, 9], [], false⟩, ⟨[], [0, 1, 2, 3, 4, 5, 6, 7, 8, 9, 10], [], false⟩] 9 (by kernel_rfl) (by kernel_rfl)
     ·refine ⟨?_, ?_, ?_, ?_, ?_, ?_, ?_, ?_, ?_, trivial⟩
      ·intro tm hr
       simp [AllL, rdV] at hr
       simp [hr, ← e5]
       intros; first | exact KD.mk | exact KD.mkN
      ·intro tm hr
       simp [AllL, rdV] at hr
       simp [hr, ← e5]
       intros; first | exact KD.mk | exact KD.mkN
      ·intro tm hr
       simp [AllL, rdV] at hr
       simp [hr, ← e5]
       intros; first | exact KD.mk | exact KD.mkN
      ·intro tm hr
       simp [AllL, rdV] at hr
       simp [hr, ← e5]
       intros; first | exact KD.mk | exact KD.mkN
      ·intro tm hr
       simp [AllL, rdV] at hr
       simp [hr, ← e5]
       intros; first | exact KD.mk | exact KD.mkN
      ·intro tm hr
       simp [AllL, rdV] at hr
       simp [hr, ← e5]
       intros; first | exact KD.mk | exact KD.mkN
      ·intro tm hr
       simp [AllL, rdV] at hr
       simp [hr, ← e5]
       intros; first | exact KD.mk | exact KD.mkN
      ·intro tm hr
       simp [AllL, rdV] at hr
       simp [hr, ← e5]
       intros; first | exact KD.mk | exact KD.mkN
      ·intro tm hr
       simp [AllL, rdV] at hr
       simp [hr, ← e5]
       intros; first | exact KD.mk | exact KD.mkN
     ·rfl
     ·simp [tmD, putD, ← e5]; rfl
     ·simp [← e5]
      intros; rfl
     obtain rfl := Option.some.inj h
     refine nP_i ?_
     refine Weak.mixB 1 [some 0, some 1] hn0 (by decide) (by decide) ?_ ?_ ?_
     all_goals first | (simp [inv_cons, inv_nil, pickOb]; done) | rfl
   ·rintro e s hp
    obtain ⟨rfl, hw⟩ := hp
    refine ⟨_, hw, ?_⟩
    try simp only [sp_l, sp_r, Post.seq, Post.block, Nat.reduceEqDiff, reduceIte, Nat.zero_ne_one, Nat.one_ne_zero]
    replace h := ltE h; obtain ⟨v10, e10, h⟩ := h
    rw [← e10]
    cases v10 with
    | true =>
     replace h := iteT rfl h
     refine AW.cond_true (by simp) ?_
     replace h := ltE h; obtain ⟨v11, e11, h⟩ := h
     replace h := bnE h; obtain ⟨v12, e12, h⟩ := h
     have f13 := nth_lt e12
     try simp [← e11, nth_d e12] at f13
     replace h := ltE h; obtain ⟨v14, e14, h⟩ := h
     have f15 := encClaim_put (nth_d e12).2 e14 (j := 1) (cs := [.s (.int .i64 a1.to)]) (by simp) rfl
     try simp at f15
     have f16 := f13
     try simp only [set_len e14] at f16
     apply AW.last
     ·simp [← e11, nth_d e12, f13, encClaim_fitj (nth_d e12).2 (j := 1) (m := 1) (by decide), f15, f16]
      intros; rfl
     obtain rfl := Option.some.inj h
     refine nP_i ?_
     refine Weak.mixB 1 [some 0] hn0 (by decide) (by decide) ?_ ?_ ?_
     all_goals first | (simp [inv_cons, inv_nil, pickOb, set_len e14]; done) | rfl
    | false =>
     replace h := iteF rfl h
     refine AW.cond_false (by simp) ?_
     replace h := chkE h; obtain ⟨e17, h⟩ := h
     replace h := ltE h; obtain ⟨v18, e18, h⟩ := h
     apply AW.last
     ·simp [St.grow, obsBut, ← encClaim_append, ← e18, app_len1 e18]
      intros
      refine xrow_own ?_
      try simp [St.grow, obsBut, ← encClaim_append, ← e18, app_len1 e18]
      intros
      refine xapp_push (acc := encClaim a0) (ys := encClaim [a1]) (cap := none) (k := 1) tb_el24 tb_ti41 (by simp) (by simp [encClaim, lvs]) (encClaim_sz _) (by simp) (by simp) (by first | (simp; done) | simpa using (room_d e17).1) ?_
      try simp [St.grow, obsBut, ← encClaim_append, ← e18, app_len1 e18]
      intros; rfl
     obtain rfl := Option.some.inj h
     refine nP_i ?_
     refine Weak.mixB 1 [some 0] hn0 (by decide) (by decide) ?_ ?_ ?_
     all_goals first | (simp [inv_cons, inv_nil, pickOb, lvs_encClaim1]; done) | rfl
 ·rintro e s hp
  obtain ⟨rfl, hw⟩ := hp
  refine ⟨_, hw, ?_⟩
  try simp only [sp_l, sp_r, Post.seq, Post.block, Nat.reduceEqDiff, reduceIte, Nat.zero_ne_one, Nat.one_ne_zero]
  apply AW.step
  ·simp
   intros; rfl
  obtain rfl := Option.some.inj h
  refine AW.ret ?_
  refine Left.of (av := _) (by simp [Try.f48, resV, resC, comp]; rfl) ?_
  exact LeftV.mix 1 [some 0] hn0 rfl (by decide) rfl (by simp [pickOb, inv_cons, inv_nil]) (by simp [inv_cons, inv_nil])
theorem en_claims_put_xf : Enters Try.prog 48 := enters Try.func48 (by kernel_rfl) rfl
def claims_Give_sh (n : Nat) (a0 : List Claim) (a1 : List Span) (a2 : Int) (a3 : Int) : Option (List Claim) :=
bn (spans_Norm_sh n a1) fun v1 =>
lt (lenI v1) fun v2 =>
bn (iter n (fun (y3 : Int × List Claim) =>
lt (ltI y3.1 v2) fun v6 =>
ite' v6 (bn (nth v1 y3.1) fun v7 =>
chk (room (y3.2.length + 1) 32) <|
lt (y3.2 ++ [(⟨v7.frm, v7.to, a2, a3⟩ : Claim)]) fun v9 =>
lt (addI .i64 y3.1 1) fun v10 =>
some (.inl (v10, v9))) (some (.inr y3.2))) (0, [])) fun (y4 : List Claim) =>
bn (chk (room y4.length 1) <|
bn (claims_pieces_sh n a0 y4) fun v13 =>
bn (iter n (fun (y14 : Int × List Claim × List Claim × ClaimsPiece × List Claim) =>
lt (leI y14.1 16383) fun v17 =>
ite' v17 (bn (claims_next_sh n y14.2.1 y14.1) fun v18 =>
bn (claims_next_sh n y14.2.2.1 y14.1) fun v19 =>
lt (minI v18.1.to v19.1.to) fun v20 =>
bn (lt (gtI v19.1.epoch 0) fun v22 =>
ite' v22 (some ((⟨(⟨v19.1.frm, v20, v19.1.node, v19.1.epoch⟩ : Claim), (⟨v19.1.frm, v20, v19.1.node, v19.1.epoch⟩ : Claim)⟩ : ClaimsPiece))) (some ((⟨(⟨v18.1.frm, v20, v18.1.node, v18.1.epoch⟩ : Claim), (⟨v19.1.frm, v20, v19.1.node, v19.1.epoch⟩ : Claim)⟩ : ClaimsPiece)))) fun (y21 : ClaimsPiece) =>
bn (claims_put_xf_sh n y14.2.2.2.2 y21.a) fun v23 =>
lt (addI .i64 v20 1) fun v24 =>
some (.inl (v24, v18.2, v19.2, (⟨(⟨v18.1.frm, v20, v18.1.node, v18.1.epoch⟩ : Claim), (⟨v19.1.frm, v20, v19.1.node, v19.1.epoch⟩ : Claim)⟩ : ClaimsPiece), v23))) (some (.inr (y14.2.1, y14.2.2.1, y14.2.2.2.2)))) (0, v13.1, v13.2, (⟨(⟨0, 0, 0, 0⟩ : Claim), (⟨0, 0, 0, 0⟩ : Claim)⟩ : ClaimsPiece), [])) fun (y15 : List Claim × List Claim × List Claim) =>
some (y15.2.2)) fun (y11 : List Claim) =>
chk (room y11.length 1) <|
some y11
set_option maxRecDepth 8000 in
set_option maxHeartbeats 2000000 in
theorem s_claims_Give {n : Nat} {a0 : List Claim} {a1 : List Span} {a2 : Int} {a3 : Int} {r : List Claim} (h : claims_Give_sh n a0 a1 a2 a3 = some r) : Sound Try.prog 19 [.l (.d false 4 (encClaim a0)), .l (.d false 2 (encSpan a1)), .l (.s (.int .i64 a2)), .l (.s (.int .i64 a3))] [] (.l (.d false 4 (encClaim r))) [] := by
 unfold claims_Give_sh at h
 refine Sound.of_aw (fn := Try.f19) (c := _) Try.func19 rfl (by simp [Try.f19]) fun cx hG hnb => ?_
 rw [show Try.f19.ntmps = 48 from rfl]
 have hn0 : cx.nb = 0 := hnb
 simp only [st0_mk, initTm, List.map_cons, List.map_nil]
 apply AW.step
 ·simp
  intros; rfl
 apply AW.step
 ·simp
  intros; rfl
 refine AW.seq ?_
 replace h := bnE h; obtain ⟨v1, e1, h⟩ := h
 replace h := ltE h; obtain ⟨v2, e2, h⟩ := h
 apply AW.step
 ·simp [lenI_cast e2]
  intros
  refine xcall_plain en_spans_Norm (s_spans_Norm e1) rfl ⟨.same rfl, trivial⟩ ?_
  try simp [lenI_cast e2]
  intros; rfl
 refine AW.block ?_
 replace h := bnE h; obtain ⟨y4, g4, h⟩ := h
 refine AW.iterP g4 (mk := fun gh ls q => (⟨[(0, .l (.d false 4 (encClaim a0))), (2, .l (.s (.int .i64 a2))), (3, .l (.s (.int .i64 a3))), (9, .l (.r 0 4 0 q.2.length)), (10, .l (.p 1 0)), (15, .l (.d false 2 (encSpan v1))), (16, .l (.s (.int .i64 v2))), (17, .l (.s (.int .i64 q.1)))], [some ⟨41, 4, true, none, lvs (encClaim q.2)⟩, some ⟨24, 1, false, none, [.s (.slice none 0 0)]⟩], 48, gh, ls⟩ : St)) (N := fun gh ls => (xP 0 (cx := cx) (fun q => (⟨[(0, .l (.d false 4 (encClaim a0))), (9, .l (.r 0 4 0 q.length)), (10, .l (.p 1 0))], [some ⟨41, 4, true, none, lvs (encClaim q)⟩, some ⟨24, 1, false, none, [.s (.slice none 0 0)]⟩], 48, gh, ls⟩ : St)))) ?_ noX ?_ ?_
 ·refine W.nilRow 9 41 4 1 (by simp) rfl rfl ?_
  refine Weak.mixN [some 1, some 0] hn0 (by decide) ?_ ?_ rfl
  all_goals first | (simp [inv_cons, inv_nil, pickOb]; done) | rfl
 ·clear h; intro y3 y5 h
  replace h := ltE h; obtain ⟨v6, e6, h⟩ := h
  apply AW.step
  ·simp [← e6]
   intros; rfl
  refine AW.seq ?_
  cases v6 with
  | true =>
   replace h := iteT rfl h
   refine AW.cond_true (by simp) ?_
   refine AW.skip ?_
   try simp only [sp_l, sp_r, Post.seq, Post.block, Nat.reduceEqDiff, reduceIte, Nat.zero_ne_one, Nat.one_ne_zero]
   try simp only [sp_l, sp_r, Post.seq, Post.block, Nat.reduceEqDiff, reduceIte, Nat.zero_ne_one, Nat.one_ne_zero]
   refine AW.seq ?_
   refine AW.block ?_
   replace h := bnE h; obtain ⟨v7, e7, h⟩ := h
   apply AW.step
   ·simp [nth_d e7]
    intros; rfl
   replace h := chkE h; obtain ⟨e8, h⟩ := h
   replace h := ltE h; obtain ⟨v9, e9, h⟩ := h
   apply AW.last
   ·simp [← encClaim_append, ← e9, app_len1 e9]
    intros
    refine xrow_own ?_
    try simp [← encClaim_append, ← e9, app_len1 e9]
    intros
    refine xapp_pushN (acc := encClaim y3.2) (ys := encClaim [(⟨v7.frm, v7.to, a2, a3⟩ : Claim)]) (cap := none) (k := 1) tb_el24 tb_ti41 (by simp) (by simp [encClaim, lvs]) (encClaim_sz _) (by simp) (by simp) (by first | (simp; done) | simpa using (room_d e8).1) ?_
    try simp [← encClaim_append, ← e9, app_len1 e9]
    intros; rfl
   try simp only [sp_l, sp_r, Post.seq, Post.block, Nat.reduceEqDiff, reduceIte, Nat.zero_ne_one, Nat.one_ne_zero]
   replace h := ltE h; obtain ⟨v10, e10, h⟩ := h
   apply AW.last
   ·simp [← e10]
    intros; rfl
   obtain rfl := Option.some.inj h
   refine nP_i ?_
   refine Weak.mixN [some 4, some 1] hn0 (by decide) ?_ ?_ rfl
   all_goals first | (simp [inv_cons, inv_nil, pickOb, lvs_encClaim1]; done) | rfl
  | false =>
   replace h := iteF rfl h
   refine AW.cond_false (by simp) ?_
   refine AW.exit ?_
   try simp only [sp_l, sp_r, Post.seq, Post.block, Nat.reduceEqDiff, reduceIte, Nat.zero_ne_one, Nat.one_ne_zero]
   obtain rfl := Option.some.inj h
   refine xP_i ?_
   refine Weak.mixN [some 0, some 1] hn0 (by decide) ?_ ?_ rfl
   all_goals first | (simp [inv_cons, inv_nil, pickOb]; done) | rfl
 ·rintro e s hp
  obtain ⟨rfl, hw⟩ := hp
  refine ⟨_, hw, ?_⟩
  try simp only [sp_l, sp_r, Post.seq, Post.block, Nat.reduceEqDiff, reduceIte, Nat.zero_ne_one, Nat.one_ne_zero]
  replace h := bnE h; obtain ⟨y11, g11, h⟩ := h
  refine AW.flow (p := fun gh ls => (nP (cx := cx) (fun q => (⟨[(10, .l (.p 0 0))], [some ⟨24, 1, false, none, [.r 1 4 0 q.length]⟩, some ⟨41, 4, true, none, lvs (encClaim q)⟩], 48, gh, ls⟩ : St))) y11) ?_ ?_
  ·replace h := g11; clear g11
   replace h := chkE h; obtain ⟨e12, h⟩ := h
   refine AW.frzRow 0 (ty := 41) (cap := none) (sz := 4) (es := encClaim y4) (by simp) (by omega) (encClaim_sz _) (by first | exact (room_d e12).2 | simpa using (room_d e12).2 | simp) (by simp [Tm.frz, AV.frz, LV.frz]; rfl) (by simp [Ob.frz, LV.frz]; rfl) rfl ?_
   replace h := bnE h; obtain ⟨v13, e13, h⟩ := h
   apply AW.step
   ·simp
    intros
    refine xcall_new en_claims_pieces (s_claims_pieces e13) rfl (by simp) ⟨.same rfl, .same rfl, trivial⟩ ?_
    try simp
    intros; rfl
   refine AW.block ?_
   refine AW.weak (Weak.keep [(10, .l (.p 1 0)), (34, .l (.f 67 [2, 3]))] (by simp)) ?_
   refine AW.rangeG rfl Try.func67 (by kernel_rfl) rfl (by decide) rfl rfl fun cxI1 yl1 hnI1 hY1 => ?_
   have hnJ1 : cxI1.nb = 0 := hnI1.trans hn0
   simp only [initTm, List.map_cons, List.map_nil]
   apply AW.step
   ·simp
    intros; rfl
   apply AW.step
   ·simp
    intros; rfl
   refine AW.block ?_
   replace h := bnE h; obtain ⟨y15, g15, h⟩ := h
   refine AW.iterP g15 (mk := fun gh ls q => (⟨[(0, .l (.s (.func (.yield yl1) #[] #[]))), (1, .l (.p 2 0)), (2, .l (.p 3 0)), (4, .l (.p 4 0)), (5, .l (.s (.int .i64 q.1)))], [none, some ⟨24, 1, false, none, [.r 5 4 0 q.2.2.2.2.length]⟩, some ⟨24, 1, false, none, [.d false 4 (encClaim q.2.1)]⟩, some ⟨24, 1, false, none, [.d false 4 (encClaim q.2.2.1)]⟩, some ⟨95, 8, false, none, [.s (.int .i64 q.2.2.2.1.a.frm), .s (.int .i64 q.2.2.2.1.a.to), .s (.int .i64 q.2.2.2.1.a.node), .s (.int .i64 q.2.2.2.1.a.epoch), .s (.int .i64 q.2.2.2.1.b.frm), .s (.int .i64 q.2.2.2.1.b.to), .s (.int .i64 q.2.2.2.1.b.node), .s (.int .i64 q.2.2.2.1.b.epoch)]⟩, some ⟨41, 4, true, none, lvs (encClaim q.2.2.2.2)⟩], 44, gh, ls⟩ : St)) (N := fun gh ls => (xP 0 (cx := cxI1) (fun q => (⟨[], [none, some ⟨24, 1, false, none, [.r 4 4 0 q.2.2.length]⟩, some ⟨24, 1, false, none, [.d false 4 (encClaim q.1)]⟩, some ⟨24, 1, false, none, [.d false 4 (encClaim q.2.1)]⟩, some ⟨41, 4, true, none, lvs (encClaim q.2.2)⟩], 44, gh, ls⟩ : St)))) ?_ noX ?_ ?_
   ·refine W.nilCell 1 0 41 4 5 rfl rfl rfl rfl rfl ?_
    refine Weak.mixB 0 [some 0, some 1, some 2, some 3, some 4, some 5] hnJ1 (by decide) (by decide) ?_ ?_ ?_
    all_goals first | (simp [inv_cons, inv_nil, pickOb]; done) | rfl
   ·clear h; intro y14 y16 h
    refine AW.seq ?_
    replace h := ltE h; obtain ⟨v17, e17, h⟩ := h
    apply AW.step
    ·simp [← e17]
     intros; rfl
    cases v17 with
    | true =>
     replace h := iteT rfl h
     refine AW.cond_true (by simp) ?_
     refine AW.skip ?_
     try simp only [sp_l, sp_r, Post.seq, Post.block, Nat.reduceEqDiff, reduceIte, Nat.zero_ne_one, Nat.one_ne_zero]
     try simp only [sp_l, sp_r, Post.seq, Post.block, Nat.reduceEqDiff, reduceIte, Nat.zero_ne_one, Nat.one_ne_zero]
     refine AW.seq ?_
     refine AW.block ?_
     replace h := bnE h; obtain ⟨v18, e18, h⟩ := h
     apply AW.step
     ·simp
      intros
      refine xcall_plain en_claims_next (s_claims_next e18) rfl ⟨.same rfl, .same rfl, trivial⟩ ?_
      try simp
      intros; rfl
     replace h := bnE h; obtain ⟨v19, e19, h⟩ := h
     apply AW.step
     ·simp
      intros
      refine xcall_plain en_claims_next (s_claims_next e19) rfl ⟨.same rfl, .same rfl, trivial⟩ ?_
      try simp
      intros; rfl
     replace h := ltE h; obtain ⟨v20, e20, h⟩ := h
     apply AW.step
     ·simp [← e20]
      intros; rfl
     apply AW.step
     ·simp
      intros; rfl
     refine AW.stepYK ?_
     apply xopsY.yield hY1 0 2 rfl rfl rfl (by decide)
     ·simp
      intros; rfl
     ·rfl
     ·first | trivial | simp
     ·rfl
     ·rfl
     ·simp [puts]; rfl
     intro cxR1 hnR1
     have hnS1 : cxR1.nb = 0 := hnR1.trans hnJ1
     apply AW.last
     ·simp
      intros; rfl
     refine ⟨rfl, ?_⟩
     refine AW.block ?_
     replace h := bnE h; obtain ⟨y21, g21, h⟩ := h
     refine AW.flow (p := fun gh ls => (nP (cx := cxR1) (fun q => (⟨[(10, .l (.p 1 0)), (13, .l (.p 6 0))], [none, some ⟨24, 1, false, none, [.r 5 4 0 y14.2.2.2.2.length]⟩, some ⟨24, 1, false, none, [.d false 4 (encClaim v18.2)]⟩, some ⟨24, 1, false, none, [.d false 4 (encClaim v19.2)]⟩, some ⟨95, 8, false, none, [.s (.int .i64 v18.1.frm), .s (.int .i64 v20), .s (.int .i64 v18.1.node), .s (.int .i64 v18.1.epoch), .s (.int .i64 v19.1.frm), .s (.int .i64 v20), .s (.int .i64 v19.1.node), .s (.int .i64 v19.1.epoch)]⟩, some ⟨41, 4, true, none, lvs (encClaim y14.2.2.2.2)⟩, some ⟨95, 8, false, none, [.s (.int .i64 q.a.frm), .s (.int .i64 q.a.to), .s (.int .i64 q.a.node), .s (.int .i64 q.a.epoch), .s (.int .i64 q.b.frm), .s (.int .i64 q.b.to), .s (.int .i64 q.b.node), .s (.int .i64 q.b.epoch)]⟩], 48, gh, ls⟩ : St))) y21) ?_ ?_
     ·replace h := g21; clear g21
      replace h := ltE h; obtain ⟨v22, e22, h⟩ := h
      apply AW.step
      ·simp [← e22]
       intros; rfl
      cases v22 with
      | true =>
       replace h := iteT rfl h
       refine AW.cond_true (by simp) ?_
       apply AW.last
       ·simp
        intros; rfl
       obtain rfl := Option.some.inj h
       refine nP_i ?_
       refine Weak.mixB 0 [some 0, some 1, some 2, some 3, some 4, some 5, some 6] hnS1 (by decide) (by decide) ?_ ?_ ?_
       all_goals first | (simp [inv_cons, inv_nil, pickOb]; done) | rfl
      | false =>
       replace h := iteF rfl h
       refine AW.cond_false (by simp) ?_
       refine AW.skip ?_
       try simp only [sp_l, sp_r, Post.seq, Post.block, Nat.reduceEqDiff, reduceIte, Nat.zero_ne_one, Nat.one_ne_zero]
       obtain rfl := Option.some.inj h
       refine nP_i ?_
       refine Weak.mixB 0 [some 0, some 1, some 2, some 3, some 4, some 5, some 6] hnS1 (by decide) (by decide) ?_ ?_ ?_
       all_goals first | (simp [inv_cons, inv_nil, pickOb]; done) | rfl
     ·rintro e s hp
      obtain ⟨rfl, hw⟩ := hp
      refine ⟨_, hw, ?_⟩
      try simp only [sp_l, sp_r, Post.seq, Post.block, Nat.reduceEqDiff, reduceIte, Nat.zero_ne_one, Nat.one_ne_zero]
      replace h := bnE h; obtain ⟨v23, e23, h⟩ := h
      apply AW.last
      ·simp [obAfter, outR, keptR, inv_cons, inv_nil]
       intros
       refine xcall_obs [5] en_claims_put_xf (s_claims_put_xf e23) (by decide) (by simp [pickOb, inv_cons, inv_nil]) rfl rfl (by simp) ⟨.l (.own' (by simp [inv_cons, inv_nil]) (by simp)), .g ⟨.s _, .s _, .s _, .s _, trivial⟩, trivial⟩ ?_
       try simp [obAfter, outR, keptR, inv_cons, inv_nil]
       intros; rfl
      refine ⟨_, _, rfl, ?_⟩
      refine xops_Y _ _ _ rfl ?_
      simp [puts]
      try intros
      unfold KK
      refine AW.cond_false (by simp) ?_
      refine AW.skip ?_
      try simp only [sp_l, sp_r, Post.seq, Post.block, Nat.reduceEqDiff, reduceIte, Nat.zero_ne_one, Nat.one_ne_zero]
      try simp only [sp_l, sp_r, Post.seq, Post.block, Nat.reduceEqDiff, reduceIte, Nat.zero_ne_one, Nat.one_ne_zero]
      replace h := ltE h; obtain ⟨v24, e24, h⟩ := h
      apply AW.last
      ·simp [← e24]
       intros; rfl
      obtain rfl := Option.some.inj h
      refine nP_i ?_
      refine Weak.mixB 0 [some 0, some 1, some 2, some 3, some 4, some 5] hnJ1 (by decide) (by decide) ?_ ?_ ?_
      all_goals first | (simp [inv_cons, inv_nil, pickOb]; done) | rfl
    | false =>
     replace h := iteF rfl h
     refine AW.cond_false (by simp) ?_
     refine AW.exit ?_
     try simp only [sp_l, sp_r, Post.seq, Post.block, Nat.reduceEqDiff, reduceIte, Nat.zero_ne_one, Nat.one_ne_zero]
     obtain rfl := Option.some.inj h
     refine xP_i ?_
     refine Weak.mixB 0 [some 0, some 1, some 2, some 3, some 5] hnJ1 (by decide) (by decide) ?_ ?_ ?_
     all_goals first | (simp [inv_cons, inv_nil, pickOb]; done) | rfl
   ·rintro e s hp
    obtain ⟨rfl, hw⟩ := hp
    refine ⟨_, hw, ?_⟩
    try simp only [sp_l, sp_r, Post.seq, Post.block, Nat.reduceEqDiff, reduceIte, Nat.zero_ne_one, Nat.one_ne_zero]
    refine ⟨_, _, rfl, ?_⟩
    try simp only []
    try simp only [sp_l, sp_r, Post.seq, Post.block, Nat.reduceEqDiff, reduceIte, Nat.zero_ne_one, Nat.one_ne_zero]
    obtain rfl := Option.some.inj h
    refine nP_i ?_
    refine Weak.mixN [some 1, some 4] hn0 (by decide) ?_ ?_ rfl
    all_goals first | (simp [inv_cons, inv_nil, pickOb]; done) | rfl
  ·rintro e s hp
   obtain ⟨rfl, hw⟩ := hp
   refine ⟨_, hw, ?_⟩
   try simp only [sp_l, sp_r, Post.seq, Post.block, Nat.reduceEqDiff, reduceIte, Nat.zero_ne_one, Nat.one_ne_zero]
   apply AW.step
   ·simp
    intros; rfl
   replace h := chkE h; obtain ⟨e25, h⟩ := h
   refine AW.frzRow 1 (ty := 41) (cap := none) (sz := 4) (es := encClaim y11) (by simp) (by omega) (encClaim_sz _) (by first | exact (room_d e25).2 | simpa using (room_d e25).2 | simp) (by simp [Tm.frz, AV.frz, LV.frz]; rfl) (by simp [Ob.frz, LV.frz]; rfl) rfl ?_
   obtain rfl := Option.some.inj h
   refine AW.ret ?_
   refine Left.plain hnb (by simp [Try.f19, resV, resC, comp]; rfl) rfl rfl ?_
   simp
theorem en_claims_Give : Enters Try.prog 19 := enters Try.func19 (by kernel_rfl) rfl
def claims_Join_sh (n : Nat) (a0 : List Claim) (a1 : List Claim) : Option (List Claim) :=
bn (bn (claims_pieces_sh n a0 a1) fun v2 =>
bn (iter n (fun (y3 : Int × List Claim × List Claim × ClaimsPiece × List Claim) =>
lt (leI y3.1 16383) fun v6 =>
ite' v6 (bn (claims_next_sh n y3.2.1 y3.1) fun v7 =>
bn (claims_next_sh n y3.2.2.1 y3.1) fun v8 =>
lt (minI v7.1.to v8.1.to) fun v9 =>
bn (bn (lt (gtI v7.1.epoch v8.1.epoch) fun v12 =>
ite' v12 (some (true)) (lt (eqI v7.1.epoch v8.1.epoch) fun v13 =>
ite' v13 (lt (gtI v7.1.node v8.1.node) fun v14 =>
some (v14)) (some (false)))) fun (y11 : Bool) =>
lt (y11) fun v15 =>
ite' v15 (bn (claims_put_xf_sh n y3.2.2.2.2 (⟨v7.1.frm, v9, v7.1.node, v7.1.epoch⟩ : Claim)) fun v16 =>
some (v16)) (bn (claims_put_xf_sh n y3.2.2.2.2 (⟨v8.1.frm, v9, v8.1.node, v8.1.epoch⟩ : Claim)) fun v17 =>
some (v17))) fun (y10 : List Claim) =>
lt (addI .i64 v9 1) fun v18 =>
some (.inl (v18, v7.2, v8.2, (⟨(⟨v7.1.frm, v9, v7.1.node, v7.1.epoch⟩ : Claim), (⟨v8.1.frm, v9, v8.1.node, v8.1.epoch⟩ : Claim)⟩ : ClaimsPiece), y10))) (some (.inr (y3.2.1, y3.2.2.1, y3.2.2.2.2)))) (0, v2.1, v2.2, (⟨(⟨0, 0, 0, 0⟩ : Claim), (⟨0, 0, 0, 0⟩ : Claim)⟩ : ClaimsPiece), [])) fun (y4 : List Claim × List Claim × List Claim) =>
some (y4.2.2)) fun (y1 : List Claim) =>
chk (room y1.length 1) <|
some y1
set_option maxRecDepth 8000 in
set_option maxHeartbeats 2000000 in
theorem s_claims_Join {n : Nat} {a0 : List Claim} {a1 : List Claim} {r : List Claim} (h : claims_Join_sh n a0 a1 = some r) : Sound Try.prog 16 [.l (.d false 4 (encClaim a0)), .l (.d false 4 (encClaim a1))] [] (.l (.d false 4 (encClaim r))) [] := by
 unfold claims_Join_sh at h
 refine Sound.of_aw (fn := Try.f16) (c := _) Try.func16 rfl (by simp [Try.f16]) fun cx hG hnb => ?_
 rw [show Try.f16.ntmps = 45 from rfl]
 have hn0 : cx.nb = 0 := hnb
 simp only [st0_mk, initTm, List.map_cons, List.map_nil]
 apply AW.step
 ·simp
  intros; rfl
 apply AW.step
 ·simp
  intros; rfl
 replace h := bnE h; obtain ⟨y1, g1, h⟩ := h
 refine AW.flow (p := fun gh ls => (nP (cx := cx) (fun q => (⟨[(5, .l (.p 0 0))], [some ⟨24, 1, false, none, [.r 1 4 0 q.length]⟩, some ⟨41, 4, true, none, lvs (encClaim q)⟩], 45, gh, ls⟩ : St))) y1) ?_ ?_
 ·replace h := g1; clear g1
  replace h := bnE h; obtain ⟨v2, e2, h⟩ := h
  apply AW.step
  ·simp
   intros
   refine xcall_new en_claims_pieces (s_claims_pieces e2) rfl (by simp) ⟨.same rfl, .same rfl, trivial⟩ ?_
   try simp
   intros; rfl
  refine AW.block ?_
  refine AW.weak (Weak.keep [(5, .l (.p 0 0)), (9, .l (.f 67 [1, 2]))] (by simp)) ?_
  refine AW.rangeG rfl Try.func67 (by kernel_rfl) rfl (by decide) rfl rfl fun cxI1 yl1 hnI1 hY1 => ?_
  have hnJ1 : cxI1.nb = 0 := hnI1.trans hn0
  simp only [initTm, List.map_cons, List.map_nil]
  apply AW.step
  ·simp
   intros; rfl
  apply AW.step
  ·simp
   intros; rfl
  refine AW.block ?_
  replace h := bnE h; obtain ⟨y4, g4, h⟩ := h
  refine AW.iterP g4 (mk := fun gh ls q => (⟨[(0, .l (.s (.func (.yield yl1) #[] #[]))), (1, .l (.p 1 0)), (2, .l (.p 2 0)), (4, .l (.p 3 0)), (5, .l (.s (.int .i64 q.1)))], [some ⟨24, 1, false, none, [.r 4 4 0 q.2.2.2.2.length]⟩, some ⟨24, 1, false, none, [.d false 4 (encClaim q.2.1)]⟩, some ⟨24, 1, false, none, [.d false 4 (encClaim q.2.2.1)]⟩, some ⟨95, 8, false, none, [.s (.int .i64 q.2.2.2.1.a.frm), .s (.int .i64 q.2.2.2.1.a.to), .s (.int .i64 q.2.2.2.1.a.node), .s (.int .i64 q.2.2.2.1.a.epoch), .s (.int .i64 q.2.2.2.1.b.frm), .s (.int .i64 q.2.2.2.1.b.to), .s (.int .i64 q.2.2.2.1.b.node), .s (.int .i64 q.2.2.2.1.b.epoch)]⟩, some ⟨41, 4, true, none, lvs (encClaim q.2.2.2.2)⟩], 44, gh, ls⟩ : St)) (N := fun gh ls => (xP 0 (cx := cxI1) (fun q => (⟨[], [some ⟨24, 1, false, none, [.r 3 4 0 q.2.2.length]⟩, some ⟨24, 1, false, none, [.d false 4 (encClaim q.1)]⟩, some ⟨24, 1, false, none, [.d false 4 (encClaim q.2.1)]⟩, some ⟨41, 4, true, none, lvs (encClaim q.2.2)⟩], 44, gh, ls⟩ : St)))) ?_ noX ?_ ?_
  ·refine W.nilCell 0 0 41 4 4 rfl rfl rfl rfl rfl ?_
   refine Weak.mixB 0 [some 0, some 1, some 2, some 3, some 4] hnJ1 (by decide) (by decide) ?_ ?_ ?_
   all_goals first | (simp [inv_cons, inv_nil, pickOb]; done) | rfl
  ·clear h; intro y3 y5 h
   refine AW.seq ?_
   replace h := ltE h; obtain ⟨v6, e6, h⟩ := h
   apply AW.step
   ·simp [← e6]
    intros; rfl
   cases v6 with
   | true =>
    replace h := iteT rfl h
    refine AW.cond_true (by simp) ?_
    refine AW.skip ?_
    try simp only [sp_l, sp_r, Post.seq, Post.block, Nat.reduceEqDiff, reduceIte, Nat.zero_ne_one, Nat.one_ne_zero]
    try simp only [sp_l, sp_r, Post.seq, Post.block, Nat.reduceEqDiff, reduceIte, Nat.zero_ne_one, Nat.one_ne_zero]
    refine AW.seq ?_
    refine AW.block ?_
    replace h := bnE h; obtain ⟨v7, e7, h⟩ := h
    apply AW.step
    ·simp
     intros
     refine xcall_plain en_claims_next (s_claims_next e7) rfl ⟨.same rfl, .same rfl, trivial⟩ ?_
     try simp
     intros; rfl
    replace h := bnE h; obtain ⟨v8, e8, h⟩ := h
    apply AW.step
    ·simp
     intros
     refine xcall_plain en_claims_next (s_claims_next e8) rfl ⟨.same rfl, .same rfl, trivial⟩ ?_
     try simp
     intros; rfl
    replace h := ltE h; obtain ⟨v9, e9, h⟩ := h
    apply AW.step
    ·simp [← e9]
     intros; rfl
    apply AW.step
    ·simp
     intros; rfl
    refine AW.stepYK ?_
    apply xopsY.yield hY1 0 2 rfl rfl rfl (by decide)
    ·simp
     intros; rfl
    ·rfl
    ·first | trivial | simp
    ·rfl
    ·rfl
    ·simp [puts]; rfl
    intro cxR1 hnR1
    have hnS1 : cxR1.nb = 0 := hnR1.trans hnJ1
    apply AW.last
    ·simp
     intros; rfl
    refine ⟨rfl, ?_⟩
    replace h := bnE h; obtain ⟨y10, g10, h⟩ := h
    refine AW.flowR (p := fun gh ls => (nP (cx := cxR1) (fun q => (⟨[], [some ⟨24, 1, false, none, [.r 4 4 0 q.length]⟩, some ⟨24, 1, false, none, [.d false 4 (encClaim v7.2)]⟩, some ⟨24, 1, false, none, [.d false 4 (encClaim v8.2)]⟩, some ⟨95, 8, false, none, [.s (.int .i64 v7.1.frm), .s (.int .i64 v9), .s (.int .i64 v7.1.node), .s (.int .i64 v7.1.epoch), .s (.int .i64 v8.1.frm), .s (.int .i64 v9), .s (.int .i64 v8.1.node), .s (.int .i64 v8.1.epoch)]⟩, some ⟨41, 4, true, none, lvs (encClaim q)⟩], 45, gh, ls⟩ : St))) y10) ?_ ?_
    ·replace h := g10; clear g10
     refine AW.block ?_
     replace h := bnE h; obtain ⟨y11, g11, h⟩ := h
     refine AW.flow (p := fun gh ls => (nP (cx := cxR1) (fun q => (⟨[(5, .l (.p 0 0)), (6, .l (.p 5 0)), (35, .l (.s (.bool q)))], [some ⟨24, 1, false, none, [.r 4 4 0 y3.2.2.2.2.length]⟩, some ⟨24, 1, false, none, [.d false 4 (encClaim v7.2)]⟩, some ⟨24, 1, false, none, [.d false 4 (encClaim v8.2)]⟩, some ⟨95, 8, false, none, [.s (.int .i64 v7.1.frm), .s (.int .i64 v9), .s (.int .i64 v7.1.node), .s (.int .i64 v7.1.epoch), .s (.int .i64 v8.1.frm), .s (.int .i64 v9), .s (.int .i64 v8.1.node), .s (.int .i64 v8.1.epoch)]⟩, some ⟨41, 4, true, none, lvs (encClaim y3.2.2.2.2)⟩, some ⟨95, 8, false, none, [.s (.int .i64 v7.1.frm), .s (.int .i64 v9), .s (.int .i64 v7.1.node), .s (.int .i64 v7.1.epoch), .s (.int .i64 v8.1.frm), .s (.int .i64 v9), .s (.int .i64 v8.1.node), .s (.int .i64 v8.1.epoch)]⟩], 45, gh, ls⟩ : St))) y11) ?_ ?_
     ·replace h := g11; clear g11
      replace h := ltE h; obtain ⟨v12, e12, h⟩ := h
      cases v12 with
      | true =>
       replace h := iteT rfl h
       apply AW.last
       ·simp [← e12]
        intros; rfl
       obtain rfl := Option.some.inj h
       refine nP_i ?_
       refine Weak.mixB 0 [some 0, some 1, some 2, some 3, some 4, some 5] hnS1 (by decide) (by decide) ?_ ?_ ?_
       all_goals first | (simp [inv_cons, inv_nil, pickOb]; done) | rfl
      | false =>
       replace h := iteF rfl h
       replace h := ltE h; obtain ⟨v13, e13, h⟩ := h
       cases v13 with
       | true =>
        replace h := iteT rfl h
        replace h := ltE h; obtain ⟨v14, e14, h⟩ := h
        apply AW.last
        ·simp [← e12, ← e13, ← e14]
         intros; rfl
        obtain rfl := Option.some.inj h
        refine nP_i ?_
        refine Weak.mixB 0 [some 0, some 1, some 2, some 3, some 4, some 5] hnS1 (by decide) (by decide) ?_ ?_ ?_
        all_goals first | (simp [inv_cons, inv_nil, pickOb]; done) | rfl
       | false =>
        replace h := iteF rfl h
        apply AW.last
        ·simp [← e12, ← e13]
         intros; rfl
        obtain rfl := Option.some.inj h
        refine nP_i ?_
        refine Weak.mixB 0 [some 0, some 1, some 2, some 3, some 4, some 5] hnS1 (by decide) (by decide) ?_ ?_ ?_
        all_goals first | (simp [inv_cons, inv_nil, pickOb]; done) | rfl
     ·rintro e s hp
      obtain ⟨rfl, hw⟩ := hp
      refine ⟨_, hw, ?_⟩
      try simp only [sp_l, sp_r, Post.seq, Post.block, Nat.reduceEqDiff, reduceIte, Nat.zero_ne_one, Nat.one_ne_zero]
      replace h := ltE h; obtain ⟨v15, e15, h⟩ := h
      rw [← e15]
      cases v15 with
      | true =>
       replace h := iteT rfl h
       refine AW.cond_true (by simp) ?_
       replace h := bnE h; obtain ⟨v16, e16, h⟩ := h
       apply AW.last
       ·simp [obAfter, outR, keptR, inv_cons, inv_nil]
        intros
        refine xcall_obs [4] en_claims_put_xf (s_claims_put_xf e16) (by decide) (by simp [pickOb, inv_cons, inv_nil]) rfl rfl (by simp) ⟨.l (.own' (by simp [inv_cons, inv_nil]) (by simp)), .g ⟨.s _, .s _, .s _, .s _, trivial⟩, trivial⟩ ?_
        try simp [obAfter, outR, keptR, inv_cons, inv_nil]
        intros; rfl
       obtain rfl := Option.some.inj h
       refine nP_i ?_
       refine Weak.mixB 0 [some 0, some 1, some 2, some 3, some 4] hnS1 (by decide) (by decide) ?_ ?_ ?_
       all_goals first | (simp [inv_cons, inv_nil, pickOb]; done) | rfl
      | false =>
       replace h := iteF rfl h
       refine AW.cond_false (by simp) ?_
       replace h := bnE h; obtain ⟨v17, e17, h⟩ := h
       apply AW.last
       ·simp [obAfter, outR, keptR, inv_cons, inv_nil]
        intros
        refine xcall_obs [4] en_claims_put_xf (s_claims_put_xf e17) (by decide) (by simp [pickOb, inv_cons, inv_nil]) rfl rfl (by simp) ⟨.l (.own' (by simp [inv_cons, inv_nil]) (by simp)), .g ⟨.s _, .s _, .s _, .s _, trivial⟩, trivial⟩ ?_
        try simp [obAfter, outR, keptR, inv_cons, inv_nil]
        intros; rfl
       obtain rfl := Option.some.inj h
       refine nP_i ?_
       refine Weak.mixB 0 [some 0, some 1, some 2, some 3, some 4] hnS1 (by decide) (by decide) ?_ ?_ ?_
       all_goals first | (simp [inv_cons, inv_nil, pickOb]; done) | rfl
    ·rintro e s hp
     obtain ⟨rfl, hw⟩ := hp
     refine ⟨_, hw, ?_⟩
     try simp only [sp_l, sp_r, Post.seq, Post.block, Nat.reduceEqDiff, reduceIte, Nat.zero_ne_one, Nat.one_ne_zero]
     refine ⟨_, _, rfl, ?_⟩
     refine xops_Y _ _ _ rfl ?_
     simp [puts]
     try intros
     unfold KK
     refine AW.cond_false (by simp) ?_
     refine AW.skip ?_
     try simp only [sp_l, sp_r, Post.seq, Post.block, Nat.reduceEqDiff, reduceIte, Nat.zero_ne_one, Nat.one_ne_zero]
     try simp only [sp_l, sp_r, Post.seq, Post.block, Nat.reduceEqDiff, reduceIte, Nat.zero_ne_one, Nat.one_ne_zero]
     replace h := ltE h; obtain ⟨v18, e18, h⟩ := h
     apply AW.last
     ·simp [← e18]
      intros; rfl
     obtain rfl := Option.some.inj h
     refine nP_i ?_
     refine Weak.mixB 0 [some 0, some 1, some 2, some 3, some 4] hnJ1 (by decide) (by decide) ?_ ?_ ?_
     all_goals first | (simp [inv_cons, inv_nil, pickOb]; done) | rfl
   | false =>
    replace h := iteF rfl h
    refine AW.cond_false (by simp) ?_
    refine AW.exit ?_
    try simp only [sp_l, sp_r, Post.seq, Post.block, Nat.reduceEqDiff, reduceIte, Nat.zero_ne_one, Nat.one_ne_zero]
    obtain rfl := Option.some.inj h
    refine xP_i ?_
    refine Weak.mixB 0 [some 0, some 1, some 2, some 4] hnJ1 (by decide) (by decide) ?_ ?_ ?_
    all_goals first | (simp [inv_cons, inv_nil, pickOb]; done) | rfl
  ·rintro e s hp
   obtain ⟨rfl, hw⟩ := hp
   refine ⟨_, hw, ?_⟩
   try simp only [sp_l, sp_r, Post.seq, Post.block, Nat.reduceEqDiff, reduceIte, Nat.zero_ne_one, Nat.one_ne_zero]
   refine ⟨_, _, rfl, ?_⟩
   try simp only []
   try simp only [sp_l, sp_r, Post.seq, Post.block, Nat.reduceEqDiff, reduceIte, Nat.zero_ne_one, Nat.one_ne_zero]
   obtain rfl := Option.some.inj h
   refine nP_i ?_
   refine Weak.mixN [some 0, some 3] hn0 (by decide) ?_ ?_ rfl
   all_goals first | (simp [inv_cons, inv_nil, pickOb]; done) | rfl
 ·rintro e s hp
  obtain ⟨rfl, hw⟩ := hp
  refine ⟨_, hw, ?_⟩
  try simp only [sp_l, sp_r, Post.seq, Post.block, Nat.reduceEqDiff, reduceIte, Nat.zero_ne_one, Nat.one_ne_zero]
  apply AW.step
  ·simp
   intros; rfl
  replace h := chkE h; obtain ⟨e19, h⟩ := h
  refine AW.frzRow 1 (ty := 41) (cap := none) (sz := 4) (es := encClaim y1) (by simp) (by omega) (encClaim_sz _) (by first | exact (room_d e19).2 | simpa using (room_d e19).2 | simp) (by simp [Tm.frz, AV.frz, LV.frz]; rfl) (by simp [Ob.frz, LV.frz]; rfl) rfl ?_
  obtain rfl := Option.some.inj h
  refine AW.ret ?_
  refine Left.plain hnb (by simp [Try.f16, resV, resC, comp]; rfl) rfl rfl ?_
  simp
theorem en_claims_Join : Enters Try.prog 16 := enters Try.func16 (by kernel_rfl) rfl
def claims_Of_sh (n : Nat) (a0 : List Claim) (a1 : Int) : Option (Int × Int × Bool) :=
lt (lenI a0) fun v1 =>
bn (iter n (fun (y2 : Int) =>
lt (ltI y2 v1) fun v5 =>
ite' v5 (bn (nth a0 y2) fun v6 =>
bn (lt (leI v6.frm a1) fun v8 =>
ite' v8 (lt (leI a1 v6.to) fun v9 =>
some (v9)) (some (false))) fun (y7 : Bool) =>
lt (y7) fun v10 =>
ite' v10 (some (.inr (.inr (v6.node, v6.epoch, true)))) (lt (addI .i64 y2 1) fun v11 =>
some (.inl v11))) (some (.inr (.inl ())))) 0) fun (y3 : Unit ⊕ (Int × Int × Bool)) =>
sm y3 (fun y12 => some (0, 0, false)) (fun y13 => some y13)
set_option maxRecDepth 8000 in
set_option maxHeartbeats 2000000 in
theorem s_claims_Of {n : Nat} {a0 : List Claim} {a1 : Int} {r : Int × Int × Bool} (h : claims_Of_sh n a0 a1 = some r) : Sound Try.prog 20 [.l (.d false 4 (encClaim a0)), .l (.s (.int .i64 a1))] [] (.t [(false, [.s (.int .i64 r.1)]), (false, [.s (.int .i64 r.2.1)]), (false, [.s (.bool r.2.2)])]) [] := by
 unfold claims_Of_sh at h
 refine Sound.of_aw (fn := Try.f20) (c := _) Try.func20 rfl (by simp [Try.f20]) fun cx hG hnb => ?_
 rw [show Try.f20.ntmps = 30 from rfl]
 have hn0 : cx.nb = 0 := hnb
 simp only [st0_mk, initTm, List.map_cons, List.map_nil]
 apply AW.step
 ·simp
  intros; rfl
 refine AW.seq ?_
 replace h := ltE h; obtain ⟨v1, e1, h⟩ := h
 apply AW.step
 ·simp [lenI_cast e1]
  intros; rfl
 refine AW.block ?_
 replace h := bnE h; obtain ⟨y3, g3, h⟩ := h
 refine AW.iterP g3 (mk := fun gh ls q => (⟨[(1, .l (.s (.int .i64 a1))), (9, .l (.d false 4 (encClaim a0))), (10, .l (.s (.int .i64 v1))), (11, .l (.s (.int .i64 q)))], [], 30, gh, ls⟩ : St)) (N := fun gh ls => (sp (xP 0 (cx := cx) (fun _ => (⟨[], [], 30, gh, ls⟩ : St))) (rP (cx := cx) (P := Try.prog) Try.f20 (fun q => .t [(false, [.s (.int .i64 q.1)]), (false, [.s (.int .i64 q.2.1)]), (false, [.s (.bool q.2.2)])]) (fun q => [])))) ?_ (noS noX noR) ?_ ?_
 ·refine Weak.mixN [] hn0 (by decide) ?_ ?_ rfl
  all_goals first | (simp [inv_cons, inv_nil, pickOb]; done) | rfl
 ·clear h; intro y2 y4 h
  replace h := ltE h; obtain ⟨v5, e5, h⟩ := h
  apply AW.step
  ·simp [← e5]
   intros; rfl
  refine AW.seq ?_
  cases v5 with
  | true =>
   replace h := iteT rfl h
   refine AW.cond_true (by simp) ?_
   refine AW.skip ?_
   try simp only [sp_l, sp_r, Post.seq, Post.block, Nat.reduceEqDiff, reduceIte, Nat.zero_ne_one, Nat.one_ne_zero]
   try simp only [sp_l, sp_r, Post.seq, Post.block, Nat.reduceEqDiff, reduceIte, Nat.zero_ne_one, Nat.one_ne_zero]
   refine AW.seq ?_
   refine AW.block ?_
   replace h := bnE h; obtain ⟨v6, e6, h⟩ := h
   apply AW.step
   ·simp [nth_d e6]
    intros; rfl
   replace h := bnE h; obtain ⟨y7, g7, h⟩ := h
   refine AW.flow (p := fun gh ls => (nP (cx := cx) (fun q => (⟨[(1, .l (.s (.int .i64 a1))), (8, .l (.p 0 0)), (9, .l (.d false 4 (encClaim a0))), (10, .l (.s (.int .i64 v1))), (11, .l (.s (.int .i64 y2))), (24, .l (.s (.bool q)))], [some ⟨41, 4, false, none, [.s (.int .i64 v6.frm), .s (.int .i64 v6.to), .s (.int .i64 v6.node), .s (.int .i64 v6.epoch)]⟩], 30, gh, ls⟩ : St))) y7) ?_ ?_
   ·replace h := g7; clear g7
    replace h := ltE h; obtain ⟨v8, e8, h⟩ := h
    cases v8 with
    | true =>
     replace h := iteT rfl h
     replace h := ltE h; obtain ⟨v9, e9, h⟩ := h
     apply AW.last
     ·simp [← e8, ← e9]
      intros; rfl
     obtain rfl := Option.some.inj h
     refine nP_i ?_
     refine Weak.mixN [some 0] hn0 (by decide) ?_ ?_ rfl
     all_goals first | (simp [inv_cons, inv_nil, pickOb]; done) | rfl
    | false =>
     replace h := iteF rfl h
     apply AW.last
     ·simp [← e8]
      intros; rfl
     obtain rfl := Option.some.inj h
     refine nP_i ?_
     refine Weak.mixN [some 0] hn0 (by decide) ?_ ?_ rfl
     all_goals first | (simp [inv_cons, inv_nil, pickOb]; done) | rfl
   ·rintro e s hp
    obtain ⟨rfl, hw⟩ := hp
    refine ⟨_, hw, ?_⟩
    try simp only [sp_l, sp_r, Post.seq, Post.block, Nat.reduceEqDiff, reduceIte, Nat.zero_ne_one, Nat.one_ne_zero]
    replace h := ltE h; obtain ⟨v10, e10, h⟩ := h
    rw [← e10]
    cases v10 with
    | true =>
     replace h := iteT rfl h
     refine AW.cond_true (by simp) ?_
     apply AW.drawnP (V := [_, _, _, _, _]) mixed [⟨[0], [], [(8, none)], false⟩, ⟨[0], [0], [(25, some 0)], false⟩, ⟨[0], [], [(8, none)], false⟩, ⟨[0], [2], [(27, some 2)], false⟩, ⟨[0], [0, 1], [(26, some 1)], false⟩, ⟨[], [0, 1, 2, 3, 4], [], false⟩, ⟨[], [0, 1, 2, 3, 4, 5], [], false⟩] 5 (by kernel_rfl) (by kernel_rfl)
     ·refine ⟨?_, ?_, ?_, ?_, ?_, trivial⟩
      ·intro tm hr
       simp [AllL, rdV] at hr
       simp [hr]
       intros; first | exact KD.mk | exact KD.mkN
      ·intro tm hr
       simp [AllL, rdV] at hr
       simp [hr]
       intros; first | exact KD.mk | exact KD.mkN
      ·intro tm hr
       simp [AllL, rdV] at hr
       simp [hr]
       intros; first | exact KD.mk | exact KD.mkN
      ·intro tm hr
       simp [AllL, rdV] at hr
       simp [hr]
       intros; first | exact KD.mk | exact KD.mkN
      ·intro tm hr
       simp [AllL, rdV] at hr
       simp [hr]
       intros; first | exact KD.mk | exact KD.mkN
     ·rfl
     ·simp [tmD, putD]; rfl
     ·simp
      intros; rfl
     obtain rfl := Option.some.inj h
     refine AW.ret ?_
     try simp only [sp_l, sp_r, Post.seq, Post.block, Nat.reduceEqDiff, reduceIte, Nat.zero_ne_one, Nat.one_ne_zero]
     refine rP_i ?_
     refine Left.plain hnb (by simp [Try.f20, resV, resC, comp]; rfl) rfl rfl ?_
     simp
    | false =>
     replace h := iteF rfl h
     refine AW.cond_false (by simp) ?_
     refine AW.skip ?_
     try simp only [sp_l, sp_r, Post.seq, Post.block, Nat.reduceEqDiff, reduceIte, Nat.zero_ne_one, Nat.one_ne_zero]
     try simp only [sp_l, sp_r, Post.seq, Post.block, Nat.reduceEqDiff, reduceIte, Nat.zero_ne_one, Nat.one_ne_zero]
     replace h := ltE h; obtain ⟨v11, e11, h⟩ := h
     apply AW.last
     ·simp [← e11]
      intros; rfl
     obtain rfl := Option.some.inj h
     refine nP_i ?_
     refine Weak.mixN [] hn0 (by decide) ?_ ?_ rfl
     all_goals first | (simp [inv_cons, inv_nil, pickOb]; done) | rfl
  | false =>
   replace h := iteF rfl h
   refine AW.cond_false (by simp) ?_
   refine AW.exit ?_
   try simp only [sp_l, sp_r, Post.seq, Post.block, Nat.reduceEqDiff, reduceIte, Nat.zero_ne_one, Nat.one_ne_zero]
   obtain rfl := Option.some.inj h
   try simp only [sp_l, sp_r]
   refine xP_i ?_
   refine Weak.mixN [] hn0 (by decide) ?_ ?_ rfl
   all_goals first | (simp [inv_cons, inv_nil, pickOb]; done) | rfl
 ·rintro e s hp
  rcases y3 with y12 | y13
  ·replace h := smL h
   obtain ⟨rfl, hw⟩ := hp
   refine ⟨_, hw, ?_⟩
   try simp only [sp_l, sp_r, Post.seq, Post.block, Nat.reduceEqDiff, reduceIte, Nat.zero_ne_one, Nat.one_ne_zero]
   apply AW.step
   ·simp
    intros; rfl
   obtain rfl := Option.some.inj h
   refine AW.ret ?_
   refine Left.plain hnb (by simp [Try.f20, resV, resC, comp]; rfl) rfl rfl ?_
   simp
  ·replace h := smR h
   obtain ⟨rfl, hl⟩ := hp
   refine ⟨_, Weak.refl _, ?_⟩
   obtain rfl := Option.some.inj h
   exact hl
theorem en_claims_Of : Enters Try.prog 20 := enters Try.func20 (by kernel_rfl) rfl
end Go.Proofs.Ythjenkmbbnjcnaa

/- What the program's Join makes. -/
namespace Go.Proofs.Ythjenkmbbnjcnaa
open Go Go.RowKit
set_option linter.unusedVariables false
set_option linter.unusedSimpArgs false
theorem BdP.fin {β : Type} {a : Int} {out : List (Int × Int × β)} {f : Int → Option β} (h : BdP a out f) (hf : ∀ s, a ≤ s → f s = none) : FinP out f := by
  refine ⟨h.can, fun s => ?_⟩
  rcases Decidable.em (s < a) with h1 | h1
  · exact h.fn s h1
  · rw [hf s (by omega)]
    exact fnP_none fun p hp hc => by have := h.pos p hp; omega
theorem BdP.rng {a : Int} {out : List Claim} {f : Int → Option (Int × Int)} (h : BdP a (out.map cP) f) (hf : ∀ s, s < 0 → f s = none) : ∀ x ∈ out, 0 ≤ x.frm ∧ x.frm ≤ x.to ∧ x.to < a := by
  intro x hx
  have a1 : x.to < a := h.pos _ (List.mem_map_of_mem hx)
  obtain ⟨a2, a3⟩ := canP_mem h.can (List.mem_map_of_mem hx)
  have a5 : x.frm ≤ x.to := a2
  have a6 := h.fn x.frm (by omega)
  rw [a3 x.frm (Int.le_refl _) a5] at a6
  refine ⟨?_, a5, a1⟩
  rcases Decidable.em (x.frm < 0) with h1 | h1
  · rw [hf x.frm h1] at a6
    simp at a6
  · omega
/-- What a claim tells of its slots: nothing, if it has no epoch. -/
def valC (c : Claim) : Option (Int × Int) := if c.epoch = 0 then none else some (c.node, c.epoch)
theorem GoodC.tail {c : Claim} {l : List Claim} (h : GoodC (c :: l)) : GoodC l := ⟨canP.tail (p := cP c) h.1, fun x hx => h.2 x (by simp [hx])⟩
structure NextC (l : List Claim) (at_ : Int) (c : Claim) (r : List Claim) : Prop where
  frm : c.frm = at_
  le : at_ ≤ c.to
  last : c.to ≤ 16383
  val : ∀ s, at_ ≤ s → s ≤ c.to → fC l s = valC c
  good : GoodC r
  rest : ∀ s, at_ ≤ s → fC r s = fC l s
  num : 0 ≤ c.node ∧ 0 ≤ c.epoch ∧ (c.epoch = 0 → c.node = 0)
theorem next_ok {l : List Claim} {at_ : Int} (hl : GoodC l) (h0 : 0 ≤ at_ ∧ at_ ≤ 16383) : Rn (claims_next_sh big l at_) fun r => NextC l at_ r.1 r.2 := by
  unfold claims_next_sh
  have hlen := hl.len
  refine Rn.bn (P := fun r => GoodC r ∧ (∀ s, at_ ≤ s → fC r s = fC l s) ∧ ∀ c t, r = c :: t → at_ ≤ c.to) (Rn.iter _ (fun j r => r = l.drop j ∧ GoodC r ∧ ∀ s, at_ ≤ s → fC r s = fC l s) l.length (by unfold big; omega) ⟨by simp, hl, fun s _ => rfl⟩ fun j r hj hI => ?_) fun r hr => ?_
  · obtain ⟨hd, hg, hf⟩ := hI
    cases r with
    | nil => exact Rn.bnE (v := false) rfl (Rn.lt (Rn.ite (fun h => by simp at h) fun _ => Rn.some ⟨hg, hf, fun c t h => by simp at h⟩))
    | cons c t =>
      have hjl : j < l.length := by
        rcases Nat.lt_or_ge j l.length with h | h
        · exact h
        · rw [List.drop_eq_nil_of_le h] at hd
          simp at hd
      have ht : t = l.drop (j + 1) := by
        rw [List.drop_eq_getElem_cons hjl] at hd
        exact (List.cons.inj hd).2
      refine Rn.bnE (v := ltI c.to at_) ?_ (Rn.lt (Rn.ite (fun h => ?_) fun h => ?_))
      · simp only [lt_eq]
        rw [gt_t (by rw [lenI_eq]; simp), ite_t]
        rfl
      · have h1 : c.to < at_ := of_decide_eq_true h
        refine Rn.bnE (v := t) ?_ (Rn.some ⟨hjl, ht, hg.tail, fun s hs => ?_⟩)
        · have := segl_nat (l := c :: t) (i := 1) (by simp)
          exact this
        · rw [← hf s hs]
          exact (fnP_out (p := cP c) fun hc => by have h2 : s ≤ c.to := hc.2; omega).symm
      · have h1 := of_decide_eq_false (p := c.to < at_) h
        refine Rn.some ⟨hg, hf, fun c' t' he => ?_⟩
        rw [← (List.cons.inj he).1]
        omega
  · obtain ⟨hg, hf, hh⟩ := hr
    cases r with
    | nil =>
      refine Rn.bnE (v := ⟨at_, 16383, 0, 0⟩) rfl (Rn.some ⟨rfl, h0.2, Int.le_refl _, fun s h1 h2 => ?_, hg, hf, by simp⟩)
      rw [← hf s h1]
      rfl
    | cons c t =>
      have hc := hg.2 c (by simp)
      have ht := hh c t rfl
      have hn : nth (c :: t) 0 = some c := rfl
      rcases Decidable.em (c.frm ≤ at_) with h1 | h1
      · refine Rn.bnE (v := ⟨at_, c.to, c.node, c.epoch⟩) ?_ (Rn.some ⟨rfl, ht, hc.2.2.1, fun s g1 g2 => ?_, hg, hf, ?_⟩)
        · refine Rn.eqv (Rn.bnE (v := true) ?_ (Rn.lt (Rn.ite (fun _ => Rn.bnE hn (Rn.some rfl)) fun h => by simp at h)))
          simp only [lt_eq]
          rw [gt_t (by rw [lenI_eq]; simp), ite_t, hn]
          simp only [bn_some]
          rw [le_t h1]
        · rw [← hf s g1]
          have g2' : s ≤ c.to := g2
          have : fC (c :: t) s = some (c.node, c.epoch) := fnP_head (p := cP c) (show c.frm ≤ s by omega) g2'
          rw [this]
          unfold valC
          rw [if_neg (show ¬ c.epoch = 0 by omega)]
        · exact ⟨hc.2.2.2.1, by have := hc.2.2.2.2; show (0 : Int) ≤ c.epoch; omega, fun h => by have := hc.2.2.2.2; have h' : c.epoch = 0 := h; omega⟩
      · refine Rn.bnE (v := ⟨at_, c.frm - 1, 0, 0⟩) ?_ (Rn.some ⟨rfl, by show at_ ≤ c.frm - 1; omega, by show c.frm - 1 ≤ 16383; omega, fun s g1 g2 => ?_, hg, hf, by simp⟩)
        · refine Rn.eqv (Rn.bnE (v := false) ?_ (Rn.lt (Rn.ite (fun h => by simp at h) fun _ => Rn.lt (Rn.lt (Rn.ite (fun _ => Rn.bnE hn (Rn.lt (Rn.some ?_))) fun h => ?_)))))
          · simp only [lt_eq]
            rw [gt_t (by rw [lenI_eq]; simp), ite_t, hn]
            simp only [bn_some]
            rw [le_f (by omega)]
          · rw [subI_64 (by omega) (by omega)]
          · have : gtI (lenI (c :: t)) 0 = true := gt_t (by rw [lenI_eq]; simp)
            rw [this] at h
            simp at h
        · rw [← hf s g1]
          have g2' : s ≤ c.frm - 1 := g2
          have e1 : fC (c :: t) s = fC t s := fnP_out (p := cP c) fun hc2 => by have h2 : c.frm ≤ s := hc2.1; omega
          rw [e1]
          exact fnP_below (p := cP c) hg.1 (show s ≤ c.to by omega)
theorem put_ok {l : List Claim} {c : Claim} (hl : l.length ≤ 1000000) (hb : ∀ x ∈ l, inB x.to) (hc : inB c.frm) : Rn (claims_put_xf_sh big l c) fun m => m.map cP = (if c.epoch = 0 then l.map cP else putP (l.map cP) (cP c)) ∧ m.length ≤ l.length + 1 := by
  unfold claims_put_xf_sh
  refine Rn.bn (P := fun m => m.map cP = (if c.epoch = 0 then l.map cP else putP (l.map cP) (cP c)) ∧ m.length ≤ l.length + 1) (Rn.lt (Rn.lt (Rn.ite (fun h => ?_) fun h => ?_))) fun m hm => Rn.some hm
  · have he : c.epoch = 0 := of_decide_eq_true h
    exact Rn.some ⟨by rw [if_pos he], by omega⟩
  · have he : c.epoch ≠ 0 := of_decide_eq_false h
    rw [if_neg he]
    rcases Decidable.em (l = []) with rfl | hne
    · refine Rn.bnE (v := false) rfl (Rn.lt (Rn.ite (fun h => by simp at h) fun _ => Rn.chk rfl (Rn.lt (Rn.some ⟨rfl, by simp⟩))))
    · obtain ⟨k, x, rfl⟩ : ∃ k x, l = k ++ [x] := ⟨l.dropLast, l.getLast hne, (List.dropLast_concat_getLast hne).symm⟩
      have hx := hb x (by simp)
      unfold inB at hx hc
      have e1 : subI .i64 (lenI (k ++ [x])) 1 = ((k.length : Nat) : Int) := by
        rw [lenI_eq, subI_64 (by omega) (by omega)]
        simp
      have hk : k.length < (k ++ [x]).length := by simp
      have hn : nth (k ++ [x]) ((k.length : Nat) : Int) = some x := by rw [nth_some hk]; simp
      have hm : putP ((k ++ [x]).map cP) (cP c) = if x.to + 1 = c.frm ∧ (x.node, x.epoch) = (c.node, c.epoch) then k.map cP ++ [(x.frm, c.to, (x.node, x.epoch))] else (k ++ [x]).map cP ++ [cP c] := by
        unfold putP
        rw [List.map_append, show [x].map cP = [cP x] from rfl, List.getLast?_concat]
        simp only [List.dropLast_concat]
        rfl
      rw [hm]
      have ht : claims_touch_sh big x c = some (decide (x.to + 1 = c.frm ∧ (x.node, x.epoch) = (c.node, c.epoch))) := by
        unfold claims_touch_sh
        simp only [lt_eq]
        rw [addI_64 (by omega) (by omega)]
        rcases Decidable.em (x.to + 1 = c.frm) with h1 | h1
        · rw [eq_t h1, ite_t]
          rcases Decidable.em (x.node = c.node) with h2 | h2
          · rw [eq_t h2, ite_t]
            simp [eqI, h1, h2, bn_some]
          · rw [eq_f h2, ite_f]
            simp [h2, bn_some]
        · rw [eq_f h1, ite_f]
          simp [h1, bn_some]
      refine Rn.bnE (v := decide (x.to + 1 = c.frm ∧ (x.node, x.epoch) = (c.node, c.epoch))) ?_ (Rn.lt (Rn.ite (fun h => ?_) fun h => ?_))
      · simp only [lt_eq]
        rw [gt_t (by rw [lenI_eq]; simp), ite_t, e1, hn]
        simp only [bn_some]
        rw [ht]
        rfl
      · have hq := of_decide_eq_true h
        rw [if_pos hq]
        refine Rn.lt ?_
        rw [e1]
        refine Rn.bnE hn (Rn.lt (Rn.some ⟨?_, by simp⟩))
        rw [Int.toNat_natCast, List.set_append_right _ _ (by omega), Nat.sub_self]
        simp [cP]
      · have hq := of_decide_eq_false h
        rw [if_neg hq]
        exact Rn.chk (by simp [room]; simp at hl; omega) (Rn.lt (Rn.some ⟨by simp, by simp⟩))
def epo : Option (Int × Int) → Int
  | some v => v.2
  | none => 0
def nod : Option (Int × Int) → Int
  | some v => v.1
  | none => 0
/-- Of two the one that counts. -/
def joinV (x y : Option (Int × Int)) : Option (Int × Int) := if epo y < epo x ∨ (epo x = epo y ∧ nod y < nod x) then x else y
def joinF (f g : Int → Option (Int × Int)) (s : Int) : Option (Int × Int) := joinV (f s) (g s)
theorem joinV_none : joinV none none = none := by simp [joinV]
theorem joinF_tells {f g : Int → Option (Int × Int)} (hf : Tells f) (hg : Tells g) : Tells (joinF f g) := by
  intro s v h
  unfold joinF joinV at h
  split at h
  · exact hf s v h
  · exact hg s v h
theorem Tells.none {f : Int → Option (Int × Int)} (h : Tells f) {s : Int} (hs : s < 0 ∨ 16384 ≤ s) : f s = Option.none := by
  cases hf : f s with
  | none => rfl
  | some v => exact absurd (h s v hf).1 (by omega)
theorem epo_val {c : Claim} : epo (valC c) = c.epoch := by
  unfold valC
  split
  · rename_i h
    simp [epo, h]
  · rfl
theorem nod_val {c : Claim} (h : c.epoch = 0 → c.node = 0) : nod (valC c) = c.node := by
  unfold valC
  split
  · rename_i h1
    simp [nod, h h1]
  · rfl
/-- One more piece of what is told, by put. -/
theorem put_step {out : List Claim} {f : Int → Option (Int × Int)} {a b : Int} {c : Claim} (h : BdP a (out.map cP) f) (ht : Tells f) (ho : out.length ≤ 1000000) (ha : 0 ≤ a ∧ a ≤ 16384) (h1 : c.frm = a) (h2 : c.to = b) (h3 : a ≤ b)
    (hv : ∀ s, a ≤ s → s ≤ b → f s = valC c) : Rn (claims_put_xf_sh big out c) fun m => BdP (b + 1) (m.map cP) f ∧ m.length ≤ out.length + 1 := by
  have hr := h.rng fun s hs => ht.none (.inl hs)
  refine (put_ok ho (fun x hx => by have := hr x hx; unfold inB; omega) (by unfold inB; omega)).mono fun m hm => ⟨?_, hm.2⟩
  rw [hm.1]
  split
  · rename_i he
    exact h.skip (by omega) fun s g1 g2 => by rw [hv s g1 (by omega), valC, if_pos he]
  · rename_i he
    have := h.put (b := b) (v := (c.node, c.epoch)) h3 fun s g1 g2 => by rw [hv s g1 g2, valC, if_neg he]
    rwa [show cP c = (a, b, (c.node, c.epoch)) by rw [← h1, ← h2]; rfl]
theorem Join_ok {a b : List Claim} (ha : GoodC a) (hb : GoodC b) : Rn (claims_Join_sh big a b) fun r => FinP (r.map cP) (joinF (fC a) (fC b)) := by
  unfold claims_Join_sh
  have ht : Tells (joinF (fC a) (fC b)) := joinF_tells ha.tells hb.tells
  refine Rn.bn (P := fun r => FinP (r.map cP) (joinF (fC a) (fC b)) ∧ r.length ≤ 16384) (Rn.bnE (v := (a, b)) rfl (Rn.bn (P := fun y => FinP (y.2.2.map cP) (joinF (fC a) (fC b)) ∧ y.2.2.length ≤ 16384) (Rn.iter _ (fun j y => ∃ at_ a' b' p out, y = (at_, a', b', p, out) ∧ (j : Int) ≤ at_ ∧ at_ ≤ 16384 ∧ GoodC a' ∧ GoodC b' ∧ (∀ s, at_ ≤ s → fC a' s = fC a s) ∧ (∀ s, at_ ≤ s → fC b' s = fC b s) ∧ BdP at_ (out.map cP) (joinF (fC a) (fC b)) ∧ out.length ≤ j) 16384 (by unfold big; omega)
    ⟨0, a, b, _, [], rfl, Int.le_refl _, by omega, ha, hb, fun s _ => rfl, fun s _ => rfl, BdP.nil fun s hs => ht.none (.inl hs), by simp⟩ fun j y hj hI => ?_) fun y hy => Rn.some hy)) fun r hr => Rn.chk (by have := hr.2; simp [room]; omega) (Rn.some hr.1)
  obtain ⟨at_, a', b', p, out, rfl, i1, i2, i3, i4, i5, i6, i7, i8⟩ := hI
  refine Rn.lt (Rn.ite (fun hd => ?_) fun hd => ?_)
  · have hat : at_ ≤ 16383 := of_decide_eq_true hd
    refine Rn.bn (next_ok i3 ⟨by omega, hat⟩) fun x hx => Rn.bn (next_ok i4 ⟨by omega, hat⟩) fun z hz => Rn.lt ?_
    obtain ⟨x1, x2⟩ := x
    obtain ⟨z1, z2⟩ := z
    have hmin : minI x1.to z1.to = min x1.to z1.to := rfl
    have hto : at_ ≤ minI x1.to z1.to ∧ minI x1.to z1.to ≤ 16383 ∧ minI x1.to z1.to ≤ x1.to ∧ minI x1.to z1.to ≤ z1.to := by
      have q1 := hx.le
      have q2 := hz.le
      have q3 := hx.last
      have q4 := hz.last
      simp only at q1 q2 q3 q4
      rw [hmin]
      omega
    simp only
    generalize minI x1.to z1.to = to_ at hto
    obtain ⟨p1, p2, p3, p4⟩ := hto
    have hF : ∀ s, at_ ≤ s → s ≤ to_ → joinF (fC a) (fC b) s = joinV (valC x1) (valC z1) := by
      intro s g1 g2
      unfold joinF
      rw [← i5 s g1, ← i6 s g1, hx.val s g1 (by simp only; omega), hz.val s g1 (by simp only; omega)]
    have hcond : ∀ (c : Claim), (joinV (valC x1) (valC z1) = valC c) → c.frm = at_ → c.to = to_ → Rn (bn (claims_put_xf_sh big out c) fun v16 => some v16) fun m => BdP (to_ + 1) (m.map cP) (joinF (fC a) (fC b)) ∧ m.length ≤ out.length + 1 := by
      intro c hc e1 e2
      exact Rn.bn (put_step i7 ht (by omega) ⟨by omega, i2⟩ e1 e2 p1 fun s g1 g2 => by rw [hF s g1 g2, hc]) fun m hm => Rn.some hm
    have hx6 := hx.num
    have hz6 := hz.num
    simp only at hx6 hz6
    refine Rn.bn (P := fun m => BdP (to_ + 1) (m.map cP) (joinF (fC a) (fC b)) ∧ m.length ≤ out.length + 1) ?_ fun m hm => Rn.lt (Rn.some ⟨by omega, to_ + 1, x2, z2, ⟨⟨x1.frm, to_, x1.node, x1.epoch⟩, ⟨z1.frm, to_, z1.node, z1.epoch⟩⟩, m, ?_, by omega, by omega, hx.good, hz.good, fun s hs => ?_, fun s hs => ?_, hm.1, by omega⟩)
    · refine Rn.bnE (v := decide (z1.epoch < x1.epoch ∨ (x1.epoch = z1.epoch ∧ z1.node < x1.node))) ?_ (Rn.lt (Rn.ite (fun h => ?_) fun h => ?_))
      · simp only [lt_eq]
        rcases Int.lt_trichotomy z1.epoch x1.epoch with h1 | h1 | h1
        · rw [gt_t h1, ite_t]
          simp [h1]
        · rw [gt_f (by omega), ite_f, eq_t h1.symm, ite_t]
          simp [h1, gtI]
        · rw [gt_f (by omega), ite_f, eq_f (by omega), ite_f]
          have e1 : ¬ z1.epoch < x1.epoch := by omega
          have e2 : ¬ x1.epoch = z1.epoch := by omega
          simp [e1, e2]
      · refine hcond ⟨x1.frm, to_, x1.node, x1.epoch⟩ ?_ hx.frm rfl
        have hq := of_decide_eq_true h
        unfold joinV
        rw [epo_val, epo_val, nod_val hx6.2.2, nod_val hz6.2.2, if_pos hq]
        rfl
      · refine hcond ⟨z1.frm, to_, z1.node, z1.epoch⟩ ?_ hz.frm rfl
        have hq := of_decide_eq_false h
        unfold joinV
        rw [epo_val, epo_val, nod_val hx6.2.2, nod_val hz6.2.2, if_neg hq]
        rfl
    · rw [addI_64 (by omega) (by omega)]
    · rw [hx.rest s (by omega), i5 s (by omega)]
    · rw [hz.rest s (by omega), i6 s (by omega)]
  · have hat : at_ = 16384 := by
      have := of_decide_eq_false (p := at_ ≤ 16383) hd
      omega
    subst hat
    exact Rn.some ⟨i7.fin fun s hs => ht.none (.inr hs), show out.length ≤ 16384 by omega⟩
end Go.Proofs.Ythjenkmbbnjcnaa

/- Walks, printed: spans_said_t, spans_Norm_t, claims_Give_ftff, l13_awake, l2_Make, l13_Make, l13_ClaimsJoin, l13_ClaimsNewer -/
namespace Go.Proofs.Ythjenkmbbnjcnaa
open Go Go.RowKit
set_option linter.unusedVariables false
set_option linter.unusedSimpArgs false
def spans_said_t_sh (n : Nat) (a0 : List Span) : Option (List Span) :=
lt (lenI a0) fun v1 =>
bn (iter n (fun (y2 : Int × List Span) =>
lt (ltI y2.1 v1) fun v5 =>
ite' v5 (bn (bn (nth a0 y2.1) fun v7 =>
lt (maxI v7.frm 0) fun v8 =>
lt (minI v7.to 16383) fun v9 =>
lt (leI v8 v9) fun v10 =>
ite' v10 (chk (room (y2.2.length + 1) 16) <|
lt (y2.2 ++ [(⟨v8, v9⟩ : Span)]) fun v12 =>
some (v12)) (some (y2.2))) fun (y6 : List Span) =>
lt (addI .i64 y2.1 1) fun v13 =>
some (.inl (v13, y6))) (some (.inr y2.2))) (0, [])) fun (y3 : List Span) =>
bn (slices_SortFunc_api_Span_sh n y3) fun v14 =>
chk (lenB v14 y3) <|
chk (room v14.length 1) <|
some v14
set_option maxRecDepth 8000 in
set_option maxHeartbeats 2000000 in
theorem s_spans_said_t {n : Nat} {a0 : List Span} {r : List Span} (h : spans_said_t_sh n a0 = some r) : Sound Try.prog 69 [.l (.d true 2 (encSpan a0))] [] (.l (.d false 2 (encSpan r))) [] := by
 unfold spans_said_t_sh at h
 refine Sound.of_aw (fn := Try.f69) (c := _) Try.func69 rfl (by simp [Try.f69]) fun cx hG hnb => ?_
 rw [show Try.f69.ntmps = 32 from rfl]
 have hn0 : cx.nb = 0 := hnb
 simp only [st0_mk, initTm, List.map_cons, List.map_nil]
 apply AW.step
 ·simp
  intros; rfl
 apply AW.step
 ·simp
  intros; rfl
 refine AW.seq ?_
 replace h := ltE h; obtain ⟨v1, e1, h⟩ := h
 apply AW.step
 ·simp [lenI_cast e1]
  intros; rfl
 refine AW.block ?_
 replace h := bnE h; obtain ⟨y3, g3, h⟩ := h
 refine AW.iterP g3 (mk := fun gh ls q => (⟨[(3, .l (.r 0 2 0 q.2.length)), (6, .l (.d true 2 (encSpan a0))), (7, .l (.s (.int .i64 v1))), (8, .l (.s (.int .i64 q.1)))], [some ⟨43, 2, true, none, lvs (encSpan q.2)⟩], 32, gh, ls⟩ : St)) (N := fun gh ls => (xP 0 (cx := cx) (fun q => (⟨[(3, .l (.r 0 2 0 q.length))], [some ⟨43, 2, true, none, lvs (encSpan q)⟩], 32, gh, ls⟩ : St)))) ?_ noX ?_ ?_
 ·refine W.nilRow 3 43 2 0 (by simp) rfl rfl ?_
  refine Weak.mixN [some 0] hn0 (by decide) ?_ ?_ rfl
  all_goals first | (simp [inv_cons, inv_nil, pickOb]; done) | rfl
 ·clear h; intro y2 y4 h
  replace h := ltE h; obtain ⟨v5, e5, h⟩ := h
  apply AW.step
  ·simp [← e5]
   intros; rfl
  refine AW.seq ?_
  cases v5 with
  | true =>
   replace h := iteT rfl h
   refine AW.cond_true (by simp) ?_
   refine AW.skip ?_
   try simp only [sp_l, sp_r, Post.seq, Post.block, Nat.reduceEqDiff, reduceIte, Nat.zero_ne_one, Nat.one_ne_zero]
   try simp only [sp_l, sp_r, Post.seq, Post.block, Nat.reduceEqDiff, reduceIte, Nat.zero_ne_one, Nat.one_ne_zero]
   replace h := bnE h; obtain ⟨y6, g6, h⟩ := h
   refine AW.flow (p := fun gh ls => (nP (cx := cx) (fun q => (⟨[(3, .l (.r 0 2 0 q.length)), (6, .l (.d true 2 (encSpan a0))), (7, .l (.s (.int .i64 v1))), (8, .l (.s (.int .i64 y2.1)))], [some ⟨43, 2, true, none, lvs (encSpan q)⟩], 32, gh, ls⟩ : St))) y6) ?_ ?_
   ·replace h := g6; clear g6
    refine AW.block ?_
    replace h := bnE h; obtain ⟨v7, e7, h⟩ := h
    apply AW.step
    ·simp [nth_d e7]
     intros; rfl
    replace h := ltE h; obtain ⟨v8, e8, h⟩ := h
    replace h := ltE h; obtain ⟨v9, e9, h⟩ := h
    apply AW.step
    ·simp [← e8, ← e9]
     intros; rfl
    replace h := ltE h; obtain ⟨v10, e10, h⟩ := h
    apply AW.step
    ·simp [← e10]
     intros; rfl
    cases v10 with
    | true =>
     replace h := iteT rfl h
     refine AW.cond_true (by simp) ?_
     replace h := chkE h; obtain ⟨e11, h⟩ := h
     replace h := ltE h; obtain ⟨v12, e12, h⟩ := h
     apply AW.last
     ·simp [← encSpan_append, ← e12, app_len1 e12]
      intros
      refine xrow_own ?_
      try simp [← encSpan_append, ← e12, app_len1 e12]
      intros
      refine xapp_pushN (acc := encSpan y2.2) (ys := encSpan [(⟨v8, v9⟩ : Span)]) (cap := none) (k := 1) tb_el29 tb_ti43 (by simp) (by simp [encSpan, lvs]) (encSpan_sz _) (by simp) (by simp) (by first | (simp; done) | simpa using (room_d e11).1) ?_
      try simp [← encSpan_append, ← e12, app_len1 e12]
      intros; rfl
     obtain rfl := Option.some.inj h
     refine nP_i ?_
     refine Weak.mixN [some 3] hn0 (by decide) ?_ ?_ rfl
     all_goals first | (simp [inv_cons, inv_nil, pickOb, lvs_encSpan1]; done) | rfl
    | false =>
     replace h := iteF rfl h
     refine AW.cond_false (by simp) ?_
     refine AW.skip ?_
     try simp only [sp_l, sp_r, Post.seq, Post.block, Nat.reduceEqDiff, reduceIte, Nat.zero_ne_one, Nat.one_ne_zero]
     obtain rfl := Option.some.inj h
     refine nP_i ?_
     refine Weak.mixN [some 0] hn0 (by decide) ?_ ?_ rfl
     all_goals first | (simp [inv_cons, inv_nil, pickOb]; done) | rfl
   ·rintro e s hp
    obtain ⟨rfl, hw⟩ := hp
    refine ⟨_, hw, ?_⟩
    try simp only [sp_l, sp_r, Post.seq, Post.block, Nat.reduceEqDiff, reduceIte, Nat.zero_ne_one, Nat.one_ne_zero]
    replace h := ltE h; obtain ⟨v13, e13, h⟩ := h
    apply AW.last
    ·simp [← e13]
     intros; rfl
    obtain rfl := Option.some.inj h
    refine nP_i ?_
    refine Weak.mixN [some 0] hn0 (by decide) ?_ ?_ rfl
    all_goals first | (simp [inv_cons, inv_nil, pickOb]; done) | rfl
  | false =>
   replace h := iteF rfl h
   refine AW.cond_false (by simp) ?_
   refine AW.exit ?_
   try simp only [sp_l, sp_r, Post.seq, Post.block, Nat.reduceEqDiff, reduceIte, Nat.zero_ne_one, Nat.one_ne_zero]
   obtain rfl := Option.some.inj h
   refine xP_i ?_
   refine Weak.mixN [some 0] hn0 (by decide) ?_ ?_ rfl
   all_goals first | (simp [inv_cons, inv_nil, pickOb]; done) | rfl
 ·rintro e s hp
  obtain ⟨rfl, hw⟩ := hp
  refine ⟨_, hw, ?_⟩
  try simp only [sp_l, sp_r, Post.seq, Post.block, Nat.reduceEqDiff, reduceIte, Nat.zero_ne_one, Nat.one_ne_zero]
  refine AW.pin 0 (ty := 43) (sz := 2) (cs := lvs (encSpan y3)) (by simp) hn0 (by omega) rfl ?_
  replace h := bnE h; obtain ⟨v14, e14, h⟩ := h
  replace h := chkE h; obtain ⟨e15, h⟩ := h
  apply AW.step
  ·simp
   intros
   refine xcall_obs [0] en_slices_SortFunc_api_Span (s_slices_SortFunc_api_Span e14) (by decide) (by simp [pickOb, inv_cons, inv_nil]) rfl rfl (by simp) ⟨.l (.own' (by simp [inv_cons, inv_nil]) (by simp)), .l (.s _), trivial⟩ ?_
   try simp
   intros; rfl
  apply AW.step
  ·simp
   intros; rfl
  replace h := chkE h; obtain ⟨e16, h⟩ := h
  refine AW.unpin 0 (ty := 43) (sz := 2) (cs := lvs (encSpan v14)) (by simp) rfl ?_
  refine AW.frzRow 0 (ty := 43) (cap := none) (sz := 2) (es := encSpan v14) (by simp) (by omega) (encSpan_sz _) (by first | exact (room_d e16).2 | simpa using (room_d e16).2 | simp) (by simp [Tm.frz, AV.frz, LV.frz, lenB_e e15]; rfl) (by simp [Ob.frz, LV.frz, lenB_e e15]; rfl) rfl ?_
  obtain rfl := Option.some.inj h
  refine AW.ret ?_
  refine Left.plain hnb (by simp [Try.f69, resV, resC, comp]; rfl) rfl rfl ?_
  simp
theorem en_spans_said_t : Enters Try.prog 69 := enters Try.func69 (by kernel_rfl) rfl
def spans_Norm_t_sh (n : Nat) (a0 : List Span) : Option (List Span) :=
bn (spans_said_t_sh n a0) fun v1 =>
lt (lenI v1) fun v2 =>
bn (iter n (fun (y3 : Int × List Span) =>
lt (ltI y3.1 v2) fun v6 =>
ite' v6 (bn (bn (nth v1 y3.1) fun v8 =>
lt (lenI y3.2) fun v9 =>
bn (lt (gtI v9 0) fun v11 =>
ite' v11 (lt (subI .i64 v9 1) fun v12 =>
bn (nth y3.2 v12) fun v13 =>
lt (addI .i64 v13.to 1) fun v15 =>
lt (leI v8.frm v15) fun v16 =>
some (v16)) (some (false))) fun (y10 : Bool) =>
lt (y10) fun v17 =>
ite' v17 (lt (subI .i64 v9 1) fun v18 =>
bn (nth y3.2 v18) fun v19 =>
lt (maxI v19.to v8.to) fun v21 =>
lt (y3.2.set v18.toNat (⟨v19.frm, v21⟩ : Span)) fun v23 =>
some (v23)) (chk (room (y3.2.length + 1) 16) <|
lt (y3.2 ++ [v8]) fun v28 =>
some (v28))) fun (y7 : List Span) =>
lt (addI .i64 y3.1 1) fun v29 =>
some (.inl (v29, y7))) (some (.inr y3.2))) (0, [])) fun (y4 : List Span) =>
chk (room y4.length 1) <|
some y4
set_option maxRecDepth 8000 in
set_option maxHeartbeats 2000000 in
theorem s_spans_Norm_t {n : Nat} {a0 : List Span} {r : List Span} (h : spans_Norm_t_sh n a0 = some r) : Sound Try.prog 49 [.l (.d true 2 (encSpan a0))] [] (.l (.d false 2 (encSpan r))) [] := by
 unfold spans_Norm_t_sh at h
 refine Sound.of_aw (fn := Try.f49) (c := _) Try.func49 rfl (by simp [Try.f49]) fun cx hG hnb => ?_
 rw [show Try.f49.ntmps = 50 from rfl]
 have hn0 : cx.nb = 0 := hnb
 simp only [st0_mk, initTm, List.map_cons, List.map_nil]
 apply AW.step
 ·simp
  intros; rfl
 apply AW.step
 ·simp
  intros; rfl
 refine AW.seq ?_
 replace h := bnE h; obtain ⟨v1, e1, h⟩ := h
 replace h := ltE h; obtain ⟨v2, e2, h⟩ := h
 apply AW.step
 ·simp [lenI_cast e2]
  intros
  refine xcall_plain en_spans_said_t (s_spans_said_t e1) rfl ⟨.d _ _ _, trivial⟩ ?_
  try simp [lenI_cast e2]
  intros; rfl
 refine AW.block ?_
 replace h := bnE h; obtain ⟨y4, g4, h⟩ := h
 refine AW.iterP g4 (mk := fun gh ls q => (⟨[(3, .l (.r 0 2 0 q.2.length)), (8, .l (.d false 2 (encSpan v1))), (9, .l (.s (.int .i64 v2))), (10, .l (.s (.int .i64 q.1)))], [some ⟨43, 2, true, none, lvs (encSpan q.2)⟩], 50, gh, ls⟩ : St)) (N := fun gh ls => (xP 0 (cx := cx) (fun q => (⟨[(3, .l (.r 0 2 0 q.length))], [some ⟨43, 2, true, none, lvs (encSpan q)⟩], 50, gh, ls⟩ : St)))) ?_ noX ?_ ?_
 ·refine W.nilRow 3 43 2 0 (by simp) rfl rfl ?_
  refine Weak.mixN [some 0] hn0 (by decide) ?_ ?_ rfl
  all_goals first | (simp [inv_cons, inv_nil, pickOb]; done) | rfl
 ·clear h; intro y3 y5 h
  replace h := ltE h; obtain ⟨v6, e6, h⟩ := h
  apply AW.step
  ·simp [← e6]
   intros; rfl
  refine AW.seq ?_
  cases v6 with
  | true =>
   replace h := iteT rfl h
   refine AW.cond_true (by simp) ?_
   refine AW.skip ?_
   try simp only [sp_l, sp_r, Post.seq, Post.block, Nat.reduceEqDiff, reduceIte, Nat.zero_ne_one, Nat.one_ne_zero]
   try simp only [sp_l, sp_r, Post.seq, Post.block, Nat.reduceEqDiff, reduceIte, Nat.zero_ne_one, Nat.one_ne_zero]
   replace h := bnE h; obtain ⟨y7, g7, h⟩ := h
   refine AW.flow (p := fun gh ls => (nP (cx := cx) (fun q => (⟨[(3, .l (.r 0 2 0 q.length)), (8, .l (.d false 2 (encSpan v1))), (9, .l (.s (.int .i64 v2))), (10, .l (.s (.int .i64 y3.1)))], [some ⟨43, 2, true, none, lvs (encSpan q)⟩], 50, gh, ls⟩ : St))) y7) ?_ ?_
   ·replace h := g7; clear g7
    refine AW.block ?_
    replace h := bnE h; obtain ⟨v8, e8, h⟩ := h
    apply AW.step
    ·simp [nth_d e8]
     intros; rfl
    refine AW.seq ?_
    replace h := ltE h; obtain ⟨v9, e9, h⟩ := h
    apply AW.step
    ·simp [lenI_cast e9]
     intros; rfl
    replace h := bnE h; obtain ⟨y10, g10, h⟩ := h
    refine AW.flow (p := fun gh ls => (nP (cx := cx) (fun q => (⟨[(3, .l (.r 0 2 0 y3.2.length)), (5, .l (.p 1 0)), (6, .l (.s (.int .i64 v9))), (8, .l (.d false 2 (encSpan v1))), (9, .l (.s (.int .i64 v2))), (10, .l (.s (.int .i64 y3.1))), (29, .l (.s (.bool q)))], [some ⟨43, 2, true, none, lvs (encSpan y3.2)⟩, some ⟨43, 2, false, none, [.s (.int .i64 v8.frm), .s (.int .i64 v8.to)]⟩], 50, gh, ls⟩ : St))) y10) ?_ ?_
    ·replace h := g10; clear g10
     replace h := ltE h; obtain ⟨v11, e11, h⟩ := h
     cases v11 with
     | true =>
      replace h := iteT rfl h
      replace h := ltE h; obtain ⟨v12, e12, h⟩ := h
      replace h := bnE h; obtain ⟨v13, e13, h⟩ := h
      have f14 := nth_lt e13
      try simp [← e11, ← e12, nth_d e13] at f14
      replace h := ltE h; obtain ⟨v15, e15, h⟩ := h
      replace h := ltE h; obtain ⟨v16, e16, h⟩ := h
      apply AW.drawnR (V := [_, _, _, _, _, _, _, _, _, _, _, _]) mixed [⟨[0], [], [(6, none)], false⟩, ⟨[0], [0], [(16, some 0)], false⟩, ⟨[0], [0, 1], [(17, some 1)], false⟩, ⟨[0], [0, 1, 2], [(5, none), (18, some 2)], false⟩, ⟨[0], [0, 1, 2, 3], [(18, some 2), (19, some 3)], false⟩, ⟨[0], [0, 1, 2], [(3, none), (18, some 2)], false⟩, ⟨[0], [0, 1, 2], [(6, none), (18, some 2)], false⟩, ⟨[0], [0, 1, 2, 6], [(18, some 2), (22, some 6)], false⟩, ⟨[0], [0, 1, 2, 5, 6, 7], [(18, some 2), (21, some 5), (23, some 7)], false⟩, ⟨[0], [0, 1, 2, 5, 6, 7, 8], [(18, some 2), (24, some 8)], false⟩, ⟨[0], [0, 1, 2, 5, 6, 7, 8, 9], [(18, some 2), (25, some 9)], false⟩, ⟨[0], [0, 1, 2, 5, 6, 7, 8, 9, 10], [(18, some 2), (26, some 10)], false⟩, ⟨[], [0, 1, 2, 3, 4, 5, 6, 7, 8, 9, 10, 11], [], false⟩, ⟨[], [0, 1, 2, 3, 4, 5, 6, 7, 8, 9, 10, 11, 12], [], false⟩] 12 (by kernel_rfl) (by kernel_rfl)
      ·refine ⟨?_, ?_, ?_, ?_, ?_, ?_, ?_, ?_, ?_, ?_, ?_, ?_, trivial⟩
       ·intro tm hr
        simp [AllL, rdV] at hr
        simp [hr, ← e11, ← e12, nth_d e13, f14, encSpan_cell (nth_d e13).2 (j := 1) (by decide), lvs1, ← e15, ← e16]
        intros; first | exact KD.mk | exact KD.mkN
       ·intro tm hr
        simp [AllL, rdV] at hr
        simp [hr, ← e11, ← e12, nth_d e13, f14, encSpan_cell (nth_d e13).2 (j := 1) (by decide), lvs1, ← e15, ← e16]
        intros; first | exact KD.mk | exact KD.mkN
       ·intro tm hr
        simp [AllL, rdV] at hr
        simp [hr, ← e11, ← e12, nth_d e13, f14, encSpan_cell (nth_d e13).2 (j := 1) (by decide), lvs1, ← e15, ← e16]
        intros; first | exact KD.mk | exact KD.mkN
       ·intro tm hr
        simp [AllL, rdV] at hr
        simp [hr, ← e11, ← e12, nth_d e13, f14, encSpan_cell (nth_d e13).2 (j := 1) (by decide), lvs1, ← e15, ← e16]
        intros; first | exact KD.mk | exact KD.mkN
       ·intro tm hr
        simp [AllL, rdV] at hr
        simp [hr, ← e11, ← e12, nth_d e13, f14, encSpan_cell (nth_d e13).2 (j := 1) (by decide), lvs1, ← e15, ← e16]
        intros; first | exact KD.mk | exact KD.mkN
       ·intro tm hr
        simp [AllL, rdV] at hr
        simp [hr, ← e11, ← e12, nth_d e13, f14, encSpan_cell (nth_d e13).2 (j := 1) (by decide), lvs1, ← e15, ← e16]
        intros; first | exact KD.mk | exact KD.mkN
       ·intro tm hr
        simp [AllL, rdV] at hr
        simp [hr, ← e11, ← e12, nth_d e13, f14, encSpan_cell (nth_d e13).2 (j := 1) (by decide), lvs1, ← e15, ← e16]
        intros; first | exact KD.mk | exact KD.mkN
       ·intro tm hr
        simp [AllL, rdV] at hr
        simp [hr, ← e11, ← e12, nth_d e13, f14, encSpan_cell (nth_d e13).2 (j := 1) (by decide), lvs1, ← e15, ← e16]
        intros; first | exact KD.mk | exact KD.mkN
       ·intro tm hr
        simp [AllL, rdV] at hr
        simp [hr, ← e11, ← e12, nth_d e13, f14, encSpan_cell (nth_d e13).2 (j := 1) (by decide), lvs1, ← e15, ← e16]
        intros; first | exact KD.mk | exact KD.mkN
       ·intro tm hr
        simp [AllL, rdV] at hr
        simp [hr, ← e11, ← e12, nth_d e13, f14, encSpan_cell (nth_d e13).2 (j := 1) (by decide), lvs1, ← e15, ← e16]
        intros; first | exact KD.mk | exact KD.mkN
       ·intro tm hr
        simp [AllL, rdV] at hr
        simp [hr, ← e11, ← e12, nth_d e13, f14, encSpan_cell (nth_d e13).2 (j := 1) (by decide), lvs1, ← e15, ← e16]
        intros; first | exact KD.mk | exact KD.mkN
       ·intro tm hr
        simp [AllL, rdV] at hr
        simp [hr, ← e11, ← e12, nth_d e13, f14, encSpan_cell (nth_d e13).2 (j := 1) (by decide), lvs1, ← e15, ← e16]
        intros; first | exact KD.mk | exact KD.mkN
      ·rfl
      ·simp [tmD, putD, ← e11, ← e12, nth_d e13, f14, encSpan_cell (nth_d e13).2 (j := 1) (by decide), lvs1, ← e15, ← e16]; rfl
      ·simp [← e11, ← e12, nth_d e13, f14, encSpan_cell (nth_d e13).2 (j := 1) (by decide), lvs1, ← e15, ← e16]
       intros; rfl
      obtain rfl := Option.some.inj h
      refine nP_i ?_
      refine Weak.mixN [some 0, some 1] hn0 (by decide) ?_ ?_ rfl
      all_goals first | (simp [inv_cons, inv_nil, pickOb]; done) | rfl
     | false =>
      replace h := iteF rfl h
      apply AW.drawnR (V := [_, _, _, _, _, _, _, _, _, _, _, _]) mixed [⟨[0], [], [(6, none)], false⟩, ⟨[0], [0], [(16, some 0)], false⟩, ⟨[0], [0, 1], [(17, some 1)], false⟩, ⟨[0], [0, 1, 2], [(5, none), (18, some 2)], false⟩, ⟨[0], [0, 1, 2, 3], [(18, some 2), (19, some 3)], false⟩, ⟨[0], [0, 1, 2], [(3, none), (18, some 2)], false⟩, ⟨[0], [0, 1, 2], [(6, none), (18, some 2)], false⟩, ⟨[0], [0, 1, 2, 6], [(18, some 2), (22, some 6)], false⟩, ⟨[0], [0, 1, 2, 5, 6, 7], [(18, some 2), (21, some 5), (23, some 7)], false⟩, ⟨[0], [0, 1, 2, 5, 6, 7, 8], [(18, some 2), (24, some 8)], false⟩, ⟨[0], [0, 1, 2, 5, 6, 7, 8, 9], [(18, some 2), (25, some 9)], false⟩, ⟨[0], [0, 1, 2, 5, 6, 7, 8, 9, 10], [(18, some 2), (26, some 10)], false⟩, ⟨[], [0, 1, 2, 3, 4, 5, 6, 7, 8, 9, 10, 11], [], false⟩, ⟨[], [0, 1, 2, 3, 4, 5, 6, 7, 8, 9, 10, 11, 12], [], false⟩] 12 (by kernel_rfl) (by kernel_rfl)
      ·refine ⟨?_, ?_, ?_, ?_, ?_, ?_, ?_, ?_, ?_, ?_, ?_, ?_, trivial⟩
       ·intro tm hr
        simp [AllL, rdV] at hr
        simp [hr, ← e11]
        intros; first | exact KD.mk | exact KD.mkN
       ·intro tm hr
        simp [AllL, rdV] at hr
        simp [hr, ← e11]
        intros; first | exact KD.mk | exact KD.mkN
       ·intro tm hr
        simp [AllL, rdV] at hr
        simp [hr, ← e11]
        intros; first | exact KD.mk | exact KD.mkN
       ·intro tm hr
        simp [AllL, rdV] at hr
        simp [hr, ← e11]
        intros; first | exact KD.mk | exact KD.mkN
       ·intro tm hr
        simp [AllL, rdV] at hr
        simp [hr, ← e11]
        intros; first | exact KD.mk | exact KD.mkN
       ·intro tm hr
        simp [AllL, rdV] at hr
        simp [hr, ← e11]
        intros; first | exact KD.mk | exact KD.mkN
       ·intro tm hr
        simp [AllL, rdV] at hr
        simp [hr, ← e11]
        intros; first | exact KD.mk | exact KD.mkN
       ·intro tm hr
        simp [AllL, rdV] at hr
        simp [hr, ← e11]
        intros; first | exact KD.mk | exact KD.mkN
       ·intro tm hr
        simp [AllL, rdV] at hr
        simp [hr, ← e11]
        intros; first | exact KD.mk | exact KD.mkN
       ·intro tm hr
        simp [AllL, rdV] at hr
        simp [hr, ← e11]
        intros; first | exact KD.mk | exact KD.mkN
       ·intro tm hr
        simp [AllL, rdV] at hr
        simp [hr, ← e11]
        intros; first | exact KD.mk | exact KD.mkN
       ·intro tm hr
        simp [AllL, rdV] at hr
        simp [hr, ← e11]
        intros; first | exact KD.mk | exact KD.mkN
      ·rfl
      ·simp [tmD, putD, ← e11]; rfl
      ·simp [← e11]
       intros; rfl
      obtain rfl := Option.some.inj h
      refine nP_i ?_
      refine Weak.mixN [some 0, some 1] hn0 (by decide) ?_ ?_ rfl
      all_goals first | (simp [inv_cons, inv_nil, pickOb]; done) | rfl
    ·rintro e s hp
     obtain ⟨rfl, hw⟩ := hp
     refine ⟨_, hw, ?_⟩
     try simp only [sp_l, sp_r, Post.seq, Post.block, Nat.reduceEqDiff, reduceIte, Nat.zero_ne_one, Nat.one_ne_zero]
     replace h := ltE h; obtain ⟨v17, e17, h⟩ := h
     rw [← e17]
     cases v17 with
     | true =>
      replace h := iteT rfl h
      refine AW.cond_true (by simp) ?_
      replace h := ltE h; obtain ⟨v18, e18, h⟩ := h
      replace h := bnE h; obtain ⟨v19, e19, h⟩ := h
      have f20 := nth_lt e19
      try simp [← e18, nth_d e19] at f20
      replace h := ltE h; obtain ⟨v21, e21, h⟩ := h
      have f22 := nth_lt e19
      try simp [← e18, nth_d e19, f20, encSpan_cell (nth_d e19).2 (j := 1) (by decide), lvs1, ← e21] at f22
      replace h := ltE h; obtain ⟨v23, e23, h⟩ := h
      have f24 := encSpan_put (nth_d e19).2 e23 (j := 1) (cs := [.s (.int .i64 v21)]) (by simp) rfl
      try simp at f24
      have f25 := f20
      try simp only [set_len e23] at f25
      have f26 := f22
      try simp only [set_len e23] at f26
      apply AW.drawnP (V := [_, _, _, _, _, _, _, _, _, _, _, _]) mixed [⟨[0], [], [(3, none)], false⟩, ⟨[0], [], [(6, none)], false⟩, ⟨[0], [1], [(31, some 1)], false⟩, ⟨[0], [], [(3, none)], false⟩, ⟨[0], [], [(6, none)], false⟩, ⟨[0], [4], [(34, some 4)], false⟩, ⟨[0], [3, 4, 5], [(33, some 3), (35, some 5)], false⟩, ⟨[0], [3, 4, 5, 6], [(36, some 6)], false⟩, ⟨[0], [3, 4, 5, 6, 7], [(37, some 7)], false⟩, ⟨[0], [], [(5, none)], false⟩, ⟨[0], [9], [(39, some 9)], false⟩, ⟨[0], [3, 4, 5, 6, 7, 8, 9, 10], [(38, some 8), (40, some 10)], false⟩, ⟨[], [0, 1, 2, 3, 4, 5, 6, 7, 8, 9, 10, 11], [], false⟩, ⟨[], [0, 1, 2, 3, 4, 5, 6, 7, 8, 9, 10, 11, 12], [], false⟩, ⟨[], [0, 1, 2, 3, 4, 5, 6, 7, 8, 9, 10, 11, 12, 13], [], false⟩] 12 (by kernel_rfl) (by kernel_rfl)
      ·refine ⟨?_, ?_, ?_, ?_, ?_, ?_, ?_, ?_, ?_, ?_, ?_, ?_, trivial⟩
       ·intro tm hr
        simp [AllL, rdV] at hr
        simp [hr, ← e18, nth_d e19, f20, encSpan_cell (nth_d e19).2 (j := 1) (by decide), lvs1, ← e21, f22, encSpan_fitj (nth_d e19).2 (j := 1) (m := 1) (by decide), f24, f25, f26]
        intros; first | exact KD.mk | exact KD.mkN
       ·intro tm hr
        simp [AllL, rdV] at hr
        simp [hr, ← e18, nth_d e19, f20, encSpan_cell (nth_d e19).2 (j := 1) (by decide), lvs1, ← e21, f22, encSpan_fitj (nth_d e19).2 (j := 1) (m := 1) (by decide), f24, f25, f26]
        intros; first | exact KD.mk | exact KD.mkN
       ·intro tm hr
        simp [AllL, rdV] at hr
        simp [hr, ← e18, nth_d e19, f20, encSpan_cell (nth_d e19).2 (j := 1) (by decide), lvs1, ← e21, f22, encSpan_fitj (nth_d e19).2 (j := 1) (m := 1) (by decide), f24, f25, f26]
        intros; first | exact KD.mk | exact KD.mkN
       ·intro tm hr
        simp [AllL, rdV] at hr
        simp [hr, ← e18, nth_d e19, f20, encSpan_cell (nth_d e19).2 (j := 1) (by decide), lvs1, ← e21, f22, encSpan_fitj (nth_d e19).2 (j := 1) (m := 1) (by decide), f24, f25, f26]
        intros; first | exact KD.mk | exact KD.mkN
       ·intro tm hr
        simp [AllL, rdV] at hr
        simp [hr, ← e18, nth_d e19, f20, encSpan_cell (nth_d e19).2 (j := 1) (by decide), lvs1, ← e21, f22, encSpan_fitj (nth_d e19).2 (j := 1) (m := 1) (by decide), f24, f25, f26]
        intros; first | exact KD.mk | exact KD.mkN
       ·intro tm hr
        simp [AllL, rdV] at hr
        simp [hr, ← e18, nth_d e19, f20, encSpan_cell (nth_d e19).2 (j := 1) (by decide), lvs1, ← e21, f22, encSpan_fitj (nth_d e19).2 (j := 1) (m := 1) (by decide), f24, f25, f26]
        intros; first | exact KD.mk | exact KD.mkN
       ·intro tm hr
        simp [AllL, rdV] at hr
        simp [hr, ← e18, nth_d e19, f20, encSpan_cell (nth_d e19).2 (j := 1) (by decide), lvs1, ← e21, f22, encSpan_fitj (nth_d e19).2 (j := 1) (m := 1) (by decide), f24, f25, f26]
        intros; first | exact KD.mk | exact KD.mkN
       ·intro tm hr
        simp [AllL, rdV] at hr
        simp [hr, ← e18, nth_d e19, f20, encSpan_cell (nth_d e19).2 (j := 1) (by decide), lvs1, ← e21, f22, encSpan_fitj (nth_d e19).2 (j := 1) (m := 1) (by decide), f24, f25, f26]
        intros; first | exact KD.mk | exact KD.mkN
       ·intro tm hr
        simp [AllL, rdV] at hr
        simp [hr, ← e18, nth_d e19, f20, encSpan_cell (nth_d e19).2 (j := 1) (by decide), lvs1, ← e21, f22, encSpan_fitj (nth_d e19).2 (j := 1) (m := 1) (by decide), f24, f25, f26]
        intros; first | exact KD.mk | exact KD.mkN
       ·intro tm hr
        simp [AllL, rdV] at hr
        simp [hr, ← e18, nth_d e19, f20, encSpan_cell (nth_d e19).2 (j := 1) (by decide), lvs1, ← e21, f22, encSpan_fitj (nth_d e19).2 (j := 1) (m := 1) (by decide), f24, f25, f26]
        intros; first | exact KD.mk | exact KD.mkN
       ·intro tm hr
        simp [AllL, rdV] at hr
        simp [hr, ← e18, nth_d e19, f20, encSpan_cell (nth_d e19).2 (j := 1) (by decide), lvs1, ← e21, f22, encSpan_fitj (nth_d e19).2 (j := 1) (m := 1) (by decide), f24, f25, f26]
        intros; first | exact KD.mk | exact KD.mkN
       ·intro tm hr
        simp [AllL, rdV] at hr
        simp [hr, ← e18, nth_d e19, f20, encSpan_cell (nth_d e19).2 (j := 1) (by decide), lvs1, ← e21, f22, encSpan_fitj (nth_d e19).2 (j := 1) (m := 1) (by decide), f24, f25, f26]
        intros; first | exact KD.mk | exact KD.mkN
      ·rfl
      ·simp [tmD, putD, ← e18, nth_d e19, f20, encSpan_cell (nth_d e19).2 (j := 1) (by decide), lvs1, ← e21, f22, encSpan_fitj (nth_d e19).2 (j := 1) (m := 1) (by decide), f24, f25, f26]; rfl
      ·simp [← e18, nth_d e19, f20, encSpan_cell (nth_d e19).2 (j := 1) (by decide), lvs1, ← e21, f22, encSpan_fitj (nth_d e19).2 (j := 1) (m := 1) (by decide), f24, f25, f26]
       intros; rfl
      refine AW.exit ?_
      try simp only [sp_l, sp_r, Post.seq, Post.block, Nat.reduceEqDiff, reduceIte, Nat.zero_ne_one, Nat.one_ne_zero]
      obtain rfl := Option.some.inj h
      refine nP_i ?_
      refine Weak.mixN [some 0] hn0 (by decide) ?_ ?_ rfl
      all_goals first | (simp [inv_cons, inv_nil, pickOb, set_len e23]; done) | rfl
     | false =>
      replace h := iteF rfl h
      refine AW.cond_false (by simp) ?_
      refine AW.skip ?_
      try simp only [sp_l, sp_r, Post.seq, Post.block, Nat.reduceEqDiff, reduceIte, Nat.zero_ne_one, Nat.one_ne_zero]
      try simp only [sp_l, sp_r, Post.seq, Post.block, Nat.reduceEqDiff, reduceIte, Nat.zero_ne_one, Nat.one_ne_zero]
      replace h := chkE h; obtain ⟨e27, h⟩ := h
      replace h := ltE h; obtain ⟨v28, e28, h⟩ := h
      apply AW.last
      ·simp [← encSpan_append, ← e28, app_len1 e28]
       intros
       refine xrow_own ?_
       try simp [← encSpan_append, ← e28, app_len1 e28]
       intros
       refine xapp_pushN (acc := encSpan y3.2) (ys := encSpan [v8]) (cap := none) (k := 1) tb_el29 tb_ti43 (by simp) (by simp [encSpan, lvs]) (encSpan_sz _) (by simp) (by simp) (by first | (simp; done) | simpa using (room_d e27).1) ?_
       try simp [← encSpan_append, ← e28, app_len1 e28]
       intros; rfl
      obtain rfl := Option.some.inj h
      refine nP_i ?_
      refine Weak.mixN [some 3] hn0 (by decide) ?_ ?_ rfl
      all_goals first | (simp [inv_cons, inv_nil, pickOb, lvs_encSpan1]; done) | rfl
   ·rintro e s hp
    obtain ⟨rfl, hw⟩ := hp
    refine ⟨_, hw, ?_⟩
    try simp only [sp_l, sp_r, Post.seq, Post.block, Nat.reduceEqDiff, reduceIte, Nat.zero_ne_one, Nat.one_ne_zero]
    replace h := ltE h; obtain ⟨v29, e29, h⟩ := h
    apply AW.last
    ·simp [← e29]
     intros; rfl
    obtain rfl := Option.some.inj h
    refine nP_i ?_
    refine Weak.mixN [some 0] hn0 (by decide) ?_ ?_ rfl
    all_goals first | (simp [inv_cons, inv_nil, pickOb]; done) | rfl
  | false =>
   replace h := iteF rfl h
   refine AW.cond_false (by simp) ?_
   refine AW.exit ?_
   try simp only [sp_l, sp_r, Post.seq, Post.block, Nat.reduceEqDiff, reduceIte, Nat.zero_ne_one, Nat.one_ne_zero]
   obtain rfl := Option.some.inj h
   refine xP_i ?_
   refine Weak.mixN [some 0] hn0 (by decide) ?_ ?_ rfl
   all_goals first | (simp [inv_cons, inv_nil, pickOb]; done) | rfl
 ·rintro e s hp
  obtain ⟨rfl, hw⟩ := hp
  refine ⟨_, hw, ?_⟩
  try simp only [sp_l, sp_r, Post.seq, Post.block, Nat.reduceEqDiff, reduceIte, Nat.zero_ne_one, Nat.one_ne_zero]
  apply AW.step
  ·simp
   intros; rfl
  replace h := chkE h; obtain ⟨e30, h⟩ := h
  refine AW.frzRow 0 (ty := 43) (cap := none) (sz := 2) (es := encSpan y4) (by simp) (by omega) (encSpan_sz _) (by first | exact (room_d e30).2 | simpa using (room_d e30).2 | simp) (by simp [Tm.frz, AV.frz, LV.frz]; rfl) (by simp [Ob.frz, LV.frz]; rfl) rfl ?_
  obtain rfl := Option.some.inj h
  refine AW.ret ?_
  refine Left.plain hnb (by simp [Try.f49, resV, resC, comp]; rfl) rfl rfl ?_
  simp
theorem en_spans_Norm_t : Enters Try.prog 49 := enters Try.func49 (by kernel_rfl) rfl
def claims_Give_ftff_sh (n : Nat) (a0 : List Claim) (a1 : List Span) (a2 : Int) (a3 : Int) : Option (List Claim) :=
bn (spans_Norm_t_sh n a1) fun v1 =>
lt (lenI v1) fun v2 =>
bn (iter n (fun (y3 : Int × List Claim) =>
lt (ltI y3.1 v2) fun v6 =>
ite' v6 (bn (nth v1 y3.1) fun v7 =>
chk (room (y3.2.length + 1) 32) <|
lt (y3.2 ++ [(⟨v7.frm, v7.to, a2, a3⟩ : Claim)]) fun v9 =>
lt (addI .i64 y3.1 1) fun v10 =>
some (.inl (v10, v9))) (some (.inr y3.2))) (0, [])) fun (y4 : List Claim) =>
bn (chk (room y4.length 1) <|
bn (claims_pieces_sh n a0 y4) fun v13 =>
bn (iter n (fun (y14 : Int × List Claim × List Claim × ClaimsPiece × List Claim) =>
lt (leI y14.1 16383) fun v17 =>
ite' v17 (bn (claims_next_sh n y14.2.1 y14.1) fun v18 =>
bn (claims_next_sh n y14.2.2.1 y14.1) fun v19 =>
lt (minI v18.1.to v19.1.to) fun v20 =>
bn (lt (gtI v19.1.epoch 0) fun v22 =>
ite' v22 (some ((⟨(⟨v19.1.frm, v20, v19.1.node, v19.1.epoch⟩ : Claim), (⟨v19.1.frm, v20, v19.1.node, v19.1.epoch⟩ : Claim)⟩ : ClaimsPiece))) (some ((⟨(⟨v18.1.frm, v20, v18.1.node, v18.1.epoch⟩ : Claim), (⟨v19.1.frm, v20, v19.1.node, v19.1.epoch⟩ : Claim)⟩ : ClaimsPiece)))) fun (y21 : ClaimsPiece) =>
bn (claims_put_xf_sh n y14.2.2.2.2 y21.a) fun v23 =>
lt (addI .i64 v20 1) fun v24 =>
some (.inl (v24, v18.2, v19.2, (⟨(⟨v18.1.frm, v20, v18.1.node, v18.1.epoch⟩ : Claim), (⟨v19.1.frm, v20, v19.1.node, v19.1.epoch⟩ : Claim)⟩ : ClaimsPiece), v23))) (some (.inr (y14.2.1, y14.2.2.1, y14.2.2.2.2)))) (0, v13.1, v13.2, (⟨(⟨0, 0, 0, 0⟩ : Claim), (⟨0, 0, 0, 0⟩ : Claim)⟩ : ClaimsPiece), [])) fun (y15 : List Claim × List Claim × List Claim) =>
some (y15.2.2)) fun (y11 : List Claim) =>
chk (room y11.length 1) <|
some y11
set_option maxRecDepth 8000 in
set_option maxHeartbeats 2000000 in
theorem s_claims_Give_ftff {n : Nat} {a0 : List Claim} {a1 : List Span} {a2 : Int} {a3 : Int} {r : List Claim} (h : claims_Give_ftff_sh n a0 a1 a2 a3 = some r) : Sound Try.prog 19 [.l (.d false 4 (encClaim a0)), .l (.d true 2 (encSpan a1)), .l (.s (.int .i64 a2)), .l (.s (.int .i64 a3))] [] (.l (.d false 4 (encClaim r))) [] := by
 unfold claims_Give_ftff_sh at h
 refine Sound.of_aw (fn := Try.f19) (c := _) Try.func19 rfl (by simp [Try.f19]) fun cx hG hnb => ?_
 rw [show Try.f19.ntmps = 48 from rfl]
 have hn0 : cx.nb = 0 := hnb
 simp only [st0_mk, initTm, List.map_cons, List.map_nil]
 apply AW.step
 ·simp
  intros; rfl
 apply AW.step
 ·simp
  intros; rfl
 refine AW.seq ?_
 replace h := bnE h; obtain ⟨v1, e1, h⟩ := h
 replace h := ltE h; obtain ⟨v2, e2, h⟩ := h
 apply AW.step
 ·simp [lenI_cast e2]
  intros
  refine xcall_plain en_spans_Norm_t (s_spans_Norm_t e1) rfl ⟨.d _ _ _, trivial⟩ ?_
  try simp [lenI_cast e2]
  intros; rfl
 refine AW.block ?_
 replace h := bnE h; obtain ⟨y4, g4, h⟩ := h
 refine AW.iterP g4 (mk := fun gh ls q => (⟨[(0, .l (.d false 4 (encClaim a0))), (2, .l (.s (.int .i64 a2))), (3, .l (.s (.int .i64 a3))), (9, .l (.r 0 4 0 q.2.length)), (10, .l (.p 1 0)), (15, .l (.d false 2 (encSpan v1))), (16, .l (.s (.int .i64 v2))), (17, .l (.s (.int .i64 q.1)))], [some ⟨41, 4, true, none, lvs (encClaim q.2)⟩, some ⟨24, 1, false, none, [.s (.slice none 0 0)]⟩], 48, gh, ls⟩ : St)) (N := fun gh ls => (xP 0 (cx := cx) (fun q => (⟨[(0, .l (.d false 4 (encClaim a0))), (9, .l (.r 0 4 0 q.length)), (10, .l (.p 1 0))], [some ⟨41, 4, true, none, lvs (encClaim q)⟩, some ⟨24, 1, false, none, [.s (.slice none 0 0)]⟩], 48, gh, ls⟩ : St)))) ?_ noX ?_ ?_
 ·refine W.nilRow 9 41 4 1 (by simp) rfl rfl ?_
  refine Weak.mixN [some 1, some 0] hn0 (by decide) ?_ ?_ rfl
  all_goals first | (simp [inv_cons, inv_nil, pickOb]; done) | rfl
 ·clear h; intro y3 y5 h
  replace h := ltE h; obtain ⟨v6, e6, h⟩ := h
  apply AW.step
  ·simp [← e6]
   intros; rfl
  refine AW.seq ?_
  cases v6 with
  | true =>
   replace h := iteT rfl h
   refine AW.cond_true (by simp) ?_
   refine AW.skip ?_
   try simp only [sp_l, sp_r, Post.seq, Post.block, Nat.reduceEqDiff, reduceIte, Nat.zero_ne_one, Nat.one_ne_zero]
   try simp only [sp_l, sp_r, Post.seq, Post.block, Nat.reduceEqDiff, reduceIte, Nat.zero_ne_one, Nat.one_ne_zero]
   refine AW.seq ?_
   refine AW.block ?_
   replace h := bnE h; obtain ⟨v7, e7, h⟩ := h
   apply AW.step
   ·simp [nth_d e7]
    intros; rfl
   replace h := chkE h; obtain ⟨e8, h⟩ := h
   replace h := ltE h; obtain ⟨v9, e9, h⟩ := h
   apply AW.last
   ·simp [← encClaim_append, ← e9, app_len1 e9]
    intros
    refine xrow_own ?_
    try simp [← encClaim_append, ← e9, app_len1 e9]
    intros
    refine xapp_pushN (acc := encClaim y3.2) (ys := encClaim [(⟨v7.frm, v7.to, a2, a3⟩ : Claim)]) (cap := none) (k := 1) tb_el24 tb_ti41 (by simp) (by simp [encClaim, lvs]) (encClaim_sz _) (by simp) (by simp) (by first | (simp; done) | simpa using (room_d e8).1) ?_
    try simp [← encClaim_append, ← e9, app_len1 e9]
    intros; rfl
   try simp only [sp_l, sp_r, Post.seq, Post.block, Nat.reduceEqDiff, reduceIte, Nat.zero_ne_one, Nat.one_ne_zero]
   replace h := ltE h; obtain ⟨v10, e10, h⟩ := h
   apply AW.last
   ·simp [← e10]
    intros; rfl
   obtain rfl := Option.some.inj h
   refine nP_i ?_
   refine Weak.mixN [some 4, some 1] hn0 (by decide) ?_ ?_ rfl
   all_goals first | (simp [inv_cons, inv_nil, pickOb, lvs_encClaim1]; done) | rfl
  | false =>
   replace h := iteF rfl h
   refine AW.cond_false (by simp) ?_
   refine AW.exit ?_
   try simp only [sp_l, sp_r, Post.seq, Post.block, Nat.reduceEqDiff, reduceIte, Nat.zero_ne_one, Nat.one_ne_zero]
   obtain rfl := Option.some.inj h
   refine xP_i ?_
   refine Weak.mixN [some 0, some 1] hn0 (by decide) ?_ ?_ rfl
   all_goals first | (simp [inv_cons, inv_nil, pickOb]; done) | rfl
 ·rintro e s hp
  obtain ⟨rfl, hw⟩ := hp
  refine ⟨_, hw, ?_⟩
  try simp only [sp_l, sp_r, Post.seq, Post.block, Nat.reduceEqDiff, reduceIte, Nat.zero_ne_one, Nat.one_ne_zero]
  replace h := bnE h; obtain ⟨y11, g11, h⟩ := h
  refine AW.flow (p := fun gh ls => (nP (cx := cx) (fun q => (⟨[(10, .l (.p 0 0))], [some ⟨24, 1, false, none, [.r 1 4 0 q.length]⟩, some ⟨41, 4, true, none, lvs (encClaim q)⟩], 48, gh, ls⟩ : St))) y11) ?_ ?_
  ·replace h := g11; clear g11
   replace h := chkE h; obtain ⟨e12, h⟩ := h
   refine AW.frzRow 0 (ty := 41) (cap := none) (sz := 4) (es := encClaim y4) (by simp) (by omega) (encClaim_sz _) (by first | exact (room_d e12).2 | simpa using (room_d e12).2 | simp) (by simp [Tm.frz, AV.frz, LV.frz]; rfl) (by simp [Ob.frz, LV.frz]; rfl) rfl ?_
   replace h := bnE h; obtain ⟨v13, e13, h⟩ := h
   apply AW.step
   ·simp
    intros
    refine xcall_new en_claims_pieces (s_claims_pieces e13) rfl (by simp) ⟨.same rfl, .same rfl, trivial⟩ ?_
    try simp
    intros; rfl
   refine AW.block ?_
   refine AW.weak (Weak.keep [(10, .l (.p 1 0)), (34, .l (.f 67 [2, 3]))] (by simp)) ?_
   refine AW.rangeG rfl Try.func67 (by kernel_rfl) rfl (by decide) rfl rfl fun cxI1 yl1 hnI1 hY1 => ?_
   have hnJ1 : cxI1.nb = 0 := hnI1.trans hn0
   simp only [initTm, List.map_cons, List.map_nil]
   apply AW.step
   ·simp
    intros; rfl
   apply AW.step
   ·simp
    intros; rfl
   refine AW.block ?_
   replace h := bnE h; obtain ⟨y15, g15, h⟩ := h
   refine AW.iterP g15 (mk := fun gh ls q => (⟨[(0, .l (.s (.func (.yield yl1) #[] #[]))), (1, .l (.p 2 0)), (2, .l (.p 3 0)), (4, .l (.p 4 0)), (5, .l (.s (.int .i64 q.1)))], [none, some ⟨24, 1, false, none, [.r 5 4 0 q.2.2.2.2.length]⟩, some ⟨24, 1, false, none, [.d false 4 (encClaim q.2.1)]⟩, some ⟨24, 1, false, none, [.d false 4 (encClaim q.2.2.1)]⟩, some ⟨95, 8, false, none, [.s (.int .i64 q.2.2.2.1.a.frm), .s (.int .i64 q.2.2.2.1.a.to), .s (.int .i64 q.2.2.2.1.a.node), .s (.int .i64 q.2.2.2.1.a.epoch), .s (.int .i64 q.2.2.2.1.b.frm), .s (.int .i64 q.2.2.2.1.b.to), .s (.int .i64 q.2.2.2.1.b.node), .s (.int .i64 q.2.2.2.1.b.epoch)]⟩, some ⟨41, 4, true, none, lvs (encClaim q.2.2.2.2)⟩], 44, gh, ls⟩ : St)) (N := fun gh ls => (xP 0 (cx := cxI1) (fun q => (⟨[], [none, some ⟨24, 1, false, none, [.r 4 4 0 q.2.2.length]⟩, some ⟨24, 1, false, none, [.d false 4 (encClaim q.1)]⟩, some ⟨24, 1, false, none, [.d false 4 (encClaim q.2.1)]⟩, some ⟨41, 4, true, none, lvs (encClaim q.2.2)⟩], 44, gh, ls⟩ : St)))) ?_ noX ?_ ?_
   ·refine W.nilCell 1 0 41 4 5 rfl rfl rfl rfl rfl ?_
    refine Weak.mixB 0 [some 0, some 1, some 2, some 3, some 4, some 5] hnJ1 (by decide) (by decide) ?_ ?_ ?_
    all_goals first | (simp [inv_cons, inv_nil, pickOb]; done) | rfl
   ·clear h; intro y14 y16 h
    refine AW.seq ?_
    replace h := ltE h; obtain ⟨v17, e17, h⟩ := h
    apply AW.step
    ·simp [← e17]
     intros; rfl
    cases v17 with
    | true =>
     replace h := iteT rfl h
     refine AW.cond_true (by simp) ?_
     refine AW.skip ?_
     try simp only [sp_l, sp_r, Post.seq, Post.block, Nat.reduceEqDiff, reduceIte, Nat.zero_ne_one, Nat.one_ne_zero]
     try simp only [sp_l, sp_r, Post.seq, Post.block, Nat.reduceEqDiff, reduceIte, Nat.zero_ne_one, Nat.one_ne_zero]
     refine AW.seq ?_
     refine AW.block ?_
     replace h := bnE h; obtain ⟨v18, e18, h⟩ := h
     apply AW.step
     ·simp
      intros
      refine xcall_plain en_claims_next (s_claims_next e18) rfl ⟨.same rfl, .same rfl, trivial⟩ ?_
      try simp
      intros; rfl
     replace h := bnE h; obtain ⟨v19, e19, h⟩ := h
     apply AW.step
     ·simp
      intros
      refine xcall_plain en_claims_next (s_claims_next e19) rfl ⟨.same rfl, .same rfl, trivial⟩ ?_
      try simp
      intros; rfl
     replace h := ltE h; obtain ⟨v20, e20, h⟩ := h
     apply AW.step
     ·simp [← e20]
      intros; rfl
     apply AW.step
     ·simp
      intros; rfl
     refine AW.stepYK ?_
     apply xopsY.yield hY1 0 2 rfl rfl rfl (by decide)
     ·simp
      intros; rfl
     ·rfl
     ·first | trivial | simp
     ·rfl
     ·rfl
     ·simp [puts]; rfl
     intro cxR1 hnR1
     have hnS1 : cxR1.nb = 0 := hnR1.trans hnJ1
     apply AW.last
     ·simp
      intros; rfl
     refine ⟨rfl, ?_⟩
     refine AW.block ?_
     replace h := bnE h; obtain ⟨y21, g21, h⟩ := h
     refine AW.flow (p := fun gh ls => (nP (cx := cxR1) (fun q => (⟨[(10, .l (.p 1 0)), (13, .l (.p 6 0))], [none, some ⟨24, 1, false, none, [.r 5 4 0 y14.2.2.2.2.length]⟩, some ⟨24, 1, false, none, [.d false 4 (encClaim v18.2)]⟩, some ⟨24, 1, false, none, [.d false 4 (encClaim v19.2)]⟩, some ⟨95, 8, false, none, [.s (.int .i64 v18.1.frm), .s (.int .i64 v20), .s (.int .i64 v18.1.node), .s (.int .i64 v18.1.epoch), .s (.int .i64 v19.1.frm), .s (.int .i64 v20), .s (.int .i64 v19.1.node), .s (.int .i64 v19.1.epoch)]⟩, some ⟨41, 4, true, none, lvs (encClaim y14.2.2.2.2)⟩, some ⟨95, 8, false, none, [.s (.int .i64 q.a.frm), .s (.int .i64 q.a.to), .s (.int .i64 q.a.node), .s (.int .i64 q.a.epoch), .s (.int .i64 q.b.frm), .s (.int .i64 q.b.to), .s (.int .i64 q.b.node), .s (.int .i64 q.b.epoch)]⟩], 48, gh, ls⟩ : St))) y21) ?_ ?_
     ·replace h := g21; clear g21
      replace h := ltE h; obtain ⟨v22, e22, h⟩ := h
      apply AW.step
      ·simp [← e22]
       intros; rfl
      cases v22 with
      | true =>
       replace h := iteT rfl h
       refine AW.cond_true (by simp) ?_
       apply AW.last
       ·simp
        intros; rfl
       obtain rfl := Option.some.inj h
       refine nP_i ?_
       refine Weak.mixB 0 [some 0, some 1, some 2, some 3, some 4, some 5, some 6] hnS1 (by decide) (by decide) ?_ ?_ ?_
       all_goals first | (simp [inv_cons, inv_nil, pickOb]; done) | rfl
      | false =>
       replace h := iteF rfl h
       refine AW.cond_false (by simp) ?_
       refine AW.skip ?_
       try simp only [sp_l, sp_r, Post.seq, Post.block, Nat.reduceEqDiff, reduceIte, Nat.zero_ne_one, Nat.one_ne_zero]
       obtain rfl := Option.some.inj h
       refine nP_i ?_
       refine Weak.mixB 0 [some 0, some 1, some 2, some 3, some 4, some 5, some 6] hnS1 (by decide) (by decide) ?_ ?_ ?_
       all_goals first | (simp [inv_cons, inv_nil, pickOb]; done) | rfl
     ·rintro e s hp
      obtain ⟨rfl, hw⟩ := hp
      refine ⟨_, hw, ?_⟩
      try simp only [sp_l, sp_r, Post.seq, Post.block, Nat.reduceEqDiff, reduceIte, Nat.zero_ne_one, Nat.one_ne_zero]
      replace h := bnE h; obtain ⟨v23, e23, h⟩ := h
      apply AW.last
      ·simp [obAfter, outR, keptR, inv_cons, inv_nil]
       intros
       refine xcall_obs [5] en_claims_put_xf (s_claims_put_xf e23) (by decide) (by simp [pickOb, inv_cons, inv_nil]) rfl rfl (by simp) ⟨.l (.own' (by simp [inv_cons, inv_nil]) (by simp)), .g ⟨.s _, .s _, .s _, .s _, trivial⟩, trivial⟩ ?_
       try simp [obAfter, outR, keptR, inv_cons, inv_nil]
       intros; rfl
      refine ⟨_, _, rfl, ?_⟩
      refine xops_Y _ _ _ rfl ?_
      simp [puts]
      try intros
      unfold KK
      refine AW.cond_false (by simp) ?_
      refine AW.skip ?_
      try simp only [sp_l, sp_r, Post.seq, Post.block, Nat.reduceEqDiff, reduceIte, Nat.zero_ne_one, Nat.one_ne_zero]
      try simp only [sp_l, sp_r, Post.seq, Post.block, Nat.reduceEqDiff, reduceIte, Nat.zero_ne_one, Nat.one_ne_zero]
      replace h := ltE h; obtain ⟨v24, e24, h⟩ := h
      apply AW.last
      ·simp [← e24]
       intros; rfl
      obtain rfl := Option.some.inj h
      refine nP_i ?_
      refine Weak.mixB 0 [some 0, some 1, some 2, some 3, some 4, some 5] hnJ1 (by decide) (by decide) ?_ ?_ ?_
      all_goals first | (simp [inv_cons, inv_nil, pickOb]; done) | rfl
    | false =>
     replace h := iteF rfl h
     refine AW.cond_false (by simp) ?_
     refine AW.exit ?_
     try simp only [sp_l, sp_r, Post.seq, Post.block, Nat.reduceEqDiff, reduceIte, Nat.zero_ne_one, Nat.one_ne_zero]
     obtain rfl := Option.some.inj h
     refine xP_i ?_
     refine Weak.mixB 0 [some 0, some 1, some 2, some 3, some 5] hnJ1 (by decide) (by decide) ?_ ?_ ?_
     all_goals first | (simp [inv_cons, inv_nil, pickOb]; done) | rfl
   ·rintro e s hp
    obtain ⟨rfl, hw⟩ := hp
    refine ⟨_, hw, ?_⟩
    try simp only [sp_l, sp_r, Post.seq, Post.block, Nat.reduceEqDiff, reduceIte, Nat.zero_ne_one, Nat.one_ne_zero]
    refine ⟨_, _, rfl, ?_⟩
    try simp only []
    try simp only [sp_l, sp_r, Post.seq, Post.block, Nat.reduceEqDiff, reduceIte, Nat.zero_ne_one, Nat.one_ne_zero]
    obtain rfl := Option.some.inj h
    refine nP_i ?_
    refine Weak.mixN [some 1, some 4] hn0 (by decide) ?_ ?_ rfl
    all_goals first | (simp [inv_cons, inv_nil, pickOb]; done) | rfl
  ·rintro e s hp
   obtain ⟨rfl, hw⟩ := hp
   refine ⟨_, hw, ?_⟩
   try simp only [sp_l, sp_r, Post.seq, Post.block, Nat.reduceEqDiff, reduceIte, Nat.zero_ne_one, Nat.one_ne_zero]
   apply AW.step
   ·simp
    intros; rfl
   replace h := chkE h; obtain ⟨e25, h⟩ := h
   refine AW.frzRow 1 (ty := 41) (cap := none) (sz := 4) (es := encClaim y11) (by simp) (by omega) (encClaim_sz _) (by first | exact (room_d e25).2 | simpa using (room_d e25).2 | simp) (by simp [Tm.frz, AV.frz, LV.frz]; rfl) (by simp [Ob.frz, LV.frz]; rfl) rfl ?_
   obtain rfl := Option.some.inj h
   refine AW.ret ?_
   refine Left.plain hnb (by simp [Try.f19, resV, resC, comp]; rfl) rfl rfl ?_
   simp
theorem en_claims_Give_ftff : Enters Try.prog 19 := enters Try.func19 (by kernel_rfl) rfl
def l13_awake_sh (n : Nat)  : Option Bool :=
chk (room 1 1) <|
bn (claims_Give_ftff_sh n [] [(⟨3, 5⟩ : Span)] 1 2) fun v2 =>
bn (claims_Of_sh n v2 4) fun v3 =>
bn (lt (lenI v2) fun v5 =>
lt (eqI v5 1) fun v6 =>
ite' v6 (lt (eqI v3.1 1) fun v7 =>
ite' v7 (lt (eqI v3.2.1 2) fun v8 =>
ite' v8 (lt (v3.2.2) fun v9 =>
ite' v9 (bn (claims_Join_sh n v2 []) fun v10 =>
bn (r13_SameClaims_sh n v10 v2) fun v11 =>
some (v11)) (some (false))) (some (false))) (some (false))) (some (false))) fun (y4 : Bool) =>
some y4
set_option maxRecDepth 8000 in
set_option maxHeartbeats 2000000 in
theorem s_l13_awake {n : Nat}  {r : Bool} (h : l13_awake_sh n  = some r) : Sound Try.prog 14 [] [] (.l (.s (.bool r))) [] := by
 unfold l13_awake_sh at h
 refine Sound.of_aw (fn := Try.f14) (c := _) Try.func14 rfl (by simp [Try.f14]) fun cx hG hnb => ?_
 rw [show Try.f14.ntmps = 34 from rfl]
 have hn0 : cx.nb = 0 := hnb
 simp only [st0_mk, initTm, List.map_cons, List.map_nil]
 apply AW.step
 ·simp
  intros; rfl
 replace h := chkE h; obtain ⟨e1, h⟩ := h
 replace h := bnE h; obtain ⟨v2, e2, h⟩ := h
 apply AW.step
 ·simp
  intros
  refine xrow_own ?_
  try simp
  intros
  refine xcall_plain en_claims_Give_ftff (s_claims_Give_ftff e2) rfl ⟨.nil _ _, .rowd (by simp [lvs_encSpan1]) rfl (by omega) (encSpan_sz _) (by simp) (by first | exact (room_d e1).2 | simpa using (room_d e1).2 | simp), .same rfl, .same rfl, trivial⟩ ?_
  try simp
  intros; rfl
 replace h := bnE h; obtain ⟨v3, e3, h⟩ := h
 apply AW.step
 ·simp
  intros
  refine xcall_plain en_claims_Of (s_claims_Of e3) rfl ⟨.same rfl, .same rfl, trivial⟩ ?_
  try simp
  intros; rfl
 replace h := bnE h; obtain ⟨y4, g4, h⟩ := h
 refine AW.flow (p := fun gh ls => (nP (cx := cx) (fun q => (⟨[(0, .l (.s (.bool q)))], [], 34, gh, ls⟩ : St))) y4) ?_ ?_
 ·replace h := g4; clear g4
  replace h := ltE h; obtain ⟨v5, e5, h⟩ := h
  replace h := ltE h; obtain ⟨v6, e6, h⟩ := h
  cases v6 with
  | true =>
   replace h := iteT rfl h
   replace h := ltE h; obtain ⟨v7, e7, h⟩ := h
   cases v7 with
   | true =>
    replace h := iteT rfl h
    replace h := ltE h; obtain ⟨v8, e8, h⟩ := h
    cases v8 with
    | true =>
     replace h := iteT rfl h
     replace h := ltE h; obtain ⟨v9, e9, h⟩ := h
     cases v9 with
     | true =>
      replace h := iteT rfl h
      replace h := bnE h; obtain ⟨v10, e10, h⟩ := h
      replace h := bnE h; obtain ⟨v11, e11, h⟩ := h
      apply AW.last
      ·simp [lenI_cast e5, ← e6, ← e7, ← e8, ← e9]
       intros
       refine xcall_plain en_claims_Join (s_claims_Join e10) rfl ⟨.same rfl, .nil _ _, trivial⟩ ?_
       try simp [lenI_cast e5, ← e6, ← e7, ← e8, ← e9]
       intros
       refine xcall_plain en_r13_SameClaims (s_r13_SameClaims e11) rfl ⟨.same rfl, .same rfl, trivial⟩ ?_
       try simp [lenI_cast e5, ← e6, ← e7, ← e8, ← e9]
       intros; rfl
      obtain rfl := Option.some.inj h
      refine nP_i ?_
      refine Weak.mixN [] hn0 (by decide) ?_ ?_ rfl
      all_goals first | (simp [inv_cons, inv_nil, pickOb, lvs_encSpan1]; done) | rfl
     | false =>
      replace h := iteF rfl h
      apply AW.last
      ·simp [lenI_cast e5, ← e6, ← e7, ← e8, ← e9]
       intros; rfl
      obtain rfl := Option.some.inj h
      refine nP_i ?_
      refine Weak.mixN [] hn0 (by decide) ?_ ?_ rfl
      all_goals first | (simp [inv_cons, inv_nil, pickOb, lvs_encSpan1]; done) | rfl
    | false =>
     replace h := iteF rfl h
     apply AW.last
     ·simp [lenI_cast e5, ← e6, ← e7, ← e8]
      intros; rfl
     obtain rfl := Option.some.inj h
     refine nP_i ?_
     refine Weak.mixN [] hn0 (by decide) ?_ ?_ rfl
     all_goals first | (simp [inv_cons, inv_nil, pickOb, lvs_encSpan1]; done) | rfl
   | false =>
    replace h := iteF rfl h
    apply AW.last
    ·simp [lenI_cast e5, ← e6, ← e7]
     intros; rfl
    obtain rfl := Option.some.inj h
    refine nP_i ?_
    refine Weak.mixN [] hn0 (by decide) ?_ ?_ rfl
    all_goals first | (simp [inv_cons, inv_nil, pickOb, lvs_encSpan1]; done) | rfl
  | false =>
   replace h := iteF rfl h
   apply AW.last
   ·simp [lenI_cast e5, ← e6]
    intros; rfl
   obtain rfl := Option.some.inj h
   refine nP_i ?_
   refine Weak.mixN [] hn0 (by decide) ?_ ?_ rfl
   all_goals first | (simp [inv_cons, inv_nil, pickOb, lvs_encSpan1]; done) | rfl
 ·rintro e s hp
  obtain ⟨rfl, hw⟩ := hp
  refine ⟨_, hw, ?_⟩
  try simp only [sp_l, sp_r, Post.seq, Post.block, Nat.reduceEqDiff, reduceIte, Nat.zero_ne_one, Nat.one_ne_zero]
  obtain rfl := Option.some.inj h
  refine AW.ret ?_
  refine Left.plain hnb (by simp [Try.f14, resV, resC, comp]; rfl) rfl rfl ?_
  simp
theorem en_l13_awake : Enters Try.prog 14 := enters Try.func14 (by kernel_rfl) rfl
def l2_Make_sh (n : Nat) (a0 : List Int) : Option (List Span) :=
bn (iter n (fun (y1 : Int × List Span) =>
lt (addI .i64 y1.1 1) fun v4 =>
lt (lenI a0) fun v5 =>
lt (ltI v4 v5) fun v6 =>
ite' v6 (bn (nth a0 y1.1) fun v7 =>
lt (cvI .i64 v7) fun v8 =>
bn (remI .i64 v8 16384) fun v9 =>
bn (nth a0 v4) fun v10 =>
lt (cvI .i64 v10) fun v11 =>
bn (remI .i64 v11 300) fun v12 =>
lt (addI .i64 v9 v12) fun v13 =>
lt (minI 16383 v13) fun v14 =>
chk (room (y1.2.length + 1) 16) <|
lt (y1.2 ++ [(⟨v9, v14⟩ : Span)]) fun v16 =>
lt (addI .i64 y1.1 2) fun v17 =>
some (.inl (v17, v16))) (some (.inr y1.2))) (0, [])) fun (y2 : List Span) =>
chk (room y2.length 1) <|
some y2
set_option maxRecDepth 8000 in
set_option maxHeartbeats 2000000 in
theorem s_l2_Make {n : Nat} {a0 : List Int} {r : List Span} (h : l2_Make_sh n a0 = some r) : Sound Try.prog 18 [.l (.d false 1 (encIu16 a0))] [] (.l (.d false 2 (encSpan r))) [] := by
 unfold l2_Make_sh at h
 refine Sound.of_aw (fn := Try.f18) (c := _) Try.func18 rfl (by simp [Try.f18]) fun cx hG hnb => ?_
 rw [show Try.f18.ntmps = 35 from rfl]
 have hn0 : cx.nb = 0 := hnb
 simp only [st0_mk, initTm, List.map_cons, List.map_nil]
 apply AW.step
 ·simp
  intros; rfl
 apply AW.step
 ·simp
  intros; rfl
 refine AW.seq ?_
 apply AW.step
 ·simp
  intros; rfl
 refine AW.block ?_
 replace h := bnE h; obtain ⟨y2, g2, h⟩ := h
 refine AW.iterP g2 (mk := fun gh ls q => (⟨[(0, .l (.d false 1 (encIu16 a0))), (3, .l (.r 0 2 0 q.2.length)), (4, .l (.s (.int .i64 q.1)))], [some ⟨43, 2, true, none, lvs (encSpan q.2)⟩], 35, gh, ls⟩ : St)) (N := fun gh ls => (xP 0 (cx := cx) (fun q => (⟨[(3, .l (.r 0 2 0 q.length))], [some ⟨43, 2, true, none, lvs (encSpan q)⟩], 35, gh, ls⟩ : St)))) ?_ noX ?_ ?_
 ·refine W.nilRow 3 43 2 0 (by simp) rfl rfl ?_
  refine Weak.mixN [some 0] hn0 (by decide) ?_ ?_ rfl
  all_goals first | (simp [inv_cons, inv_nil, pickOb]; done) | rfl
 ·clear h; intro y1 y3 h
  refine AW.seq ?_
  replace h := ltE h; obtain ⟨v4, e4, h⟩ := h
  replace h := ltE h; obtain ⟨v5, e5, h⟩ := h
  replace h := ltE h; obtain ⟨v6, e6, h⟩ := h
  apply AW.step
  ·simp [← e4, lenI_cast e5, ← e6]
   intros; rfl
  cases v6 with
  | true =>
   replace h := iteT rfl h
   refine AW.cond_true (by simp) ?_
   refine AW.skip ?_
   try simp only [sp_l, sp_r, Post.seq, Post.block, Nat.reduceEqDiff, reduceIte, Nat.zero_ne_one, Nat.one_ne_zero]
   try simp only [sp_l, sp_r, Post.seq, Post.block, Nat.reduceEqDiff, reduceIte, Nat.zero_ne_one, Nat.one_ne_zero]
   refine AW.seq ?_
   refine AW.block ?_
   replace h := bnE h; obtain ⟨v7, e7, h⟩ := h
   replace h := ltE h; obtain ⟨v8, e8, h⟩ := h
   replace h := bnE h; obtain ⟨v9, e9, h⟩ := h
   apply AW.step
   ·simp [nth_d e7, ← e8, e9]
    intros; rfl
   replace h := bnE h; obtain ⟨v10, e10, h⟩ := h
   replace h := ltE h; obtain ⟨v11, e11, h⟩ := h
   replace h := bnE h; obtain ⟨v12, e12, h⟩ := h
   replace h := ltE h; obtain ⟨v13, e13, h⟩ := h
   replace h := ltE h; obtain ⟨v14, e14, h⟩ := h
   replace h := chkE h; obtain ⟨e15, h⟩ := h
   replace h := ltE h; obtain ⟨v16, e16, h⟩ := h
   apply AW.last
   ·simp [← e4, nth_d e10, ← e11, e12, ← e13, ← e14, ← encSpan_append, ← e16, app_len1 e16]
    intros
    refine xrow_own ?_
    try simp [← e4, nth_d e10, ← e11, e12, ← e13, ← e14, ← encSpan_append, ← e16, app_len1 e16]
    intros
    refine xapp_pushN (acc := encSpan y1.2) (ys := encSpan [(⟨v9, v14⟩ : Span)]) (cap := none) (k := 1) tb_el29 tb_ti43 (by simp) (by simp [encSpan, lvs]) (encSpan_sz _) (by simp) (by simp) (by first | (simp; done) | simpa using (room_d e15).1) ?_
    try simp [← e4, nth_d e10, ← e11, e12, ← e13, ← e14, ← encSpan_append, ← e16, app_len1 e16]
    intros; rfl
   try simp only [sp_l, sp_r, Post.seq, Post.block, Nat.reduceEqDiff, reduceIte, Nat.zero_ne_one, Nat.one_ne_zero]
   replace h := ltE h; obtain ⟨v17, e17, h⟩ := h
   apply AW.last
   ·simp [← e17]
    intros; rfl
   obtain rfl := Option.some.inj h
   refine nP_i ?_
   refine Weak.mixN [some 2] hn0 (by decide) ?_ ?_ rfl
   all_goals first | (simp [inv_cons, inv_nil, pickOb, lvs_encSpan1]; done) | rfl
  | false =>
   replace h := iteF rfl h
   refine AW.cond_false (by simp) ?_
   refine AW.exit ?_
   try simp only [sp_l, sp_r, Post.seq, Post.block, Nat.reduceEqDiff, reduceIte, Nat.zero_ne_one, Nat.one_ne_zero]
   obtain rfl := Option.some.inj h
   refine xP_i ?_
   refine Weak.mixN [some 0] hn0 (by decide) ?_ ?_ rfl
   all_goals first | (simp [inv_cons, inv_nil, pickOb]; done) | rfl
 ·rintro e s hp
  obtain ⟨rfl, hw⟩ := hp
  refine ⟨_, hw, ?_⟩
  try simp only [sp_l, sp_r, Post.seq, Post.block, Nat.reduceEqDiff, reduceIte, Nat.zero_ne_one, Nat.one_ne_zero]
  apply AW.step
  ·simp
   intros; rfl
  replace h := chkE h; obtain ⟨e18, h⟩ := h
  refine AW.frzRow 0 (ty := 43) (cap := none) (sz := 2) (es := encSpan y2) (by simp) (by omega) (encSpan_sz _) (by first | exact (room_d e18).2 | simpa using (room_d e18).2 | simp) (by simp [Tm.frz, AV.frz, LV.frz]; rfl) (by simp [Ob.frz, LV.frz]; rfl) rfl ?_
  obtain rfl := Option.some.inj h
  refine AW.ret ?_
  refine Left.plain hnb (by simp [Try.f18, resV, resC, comp]; rfl) rfl rfl ?_
  simp
theorem en_l2_Make : Enters Try.prog 18 := enters Try.func18 (by kernel_rfl) rfl
def l13_ClaimsNewer_sh (n : Nat) (a0 : List Int) (a1 : Int) (a2 : Int) (a3 : Int) (a4 : Int) : Option Bool :=
bn (lt (lenI a0) fun v2 =>
lt (gtI v2 20) fun v3 =>
ite' v3 (some (true)) (lt (ltI v2 2) fun v4 =>
some (v4))) fun (y1 : Bool) =>
lt (y1) fun v5 =>
ite' v5 (bn (l13_awake_sh n) fun v6 =>
some v6) (bn (l2_Make_sh n a0) fun v7 =>
lt (cvI .i64 a1) fun v8 =>
bn (remI .i64 v8 8) fun v9 =>
lt (cvI .i64 a2) fun v10 =>
bn (remI .i64 v10 8) fun v11 =>
lt (cvI .i64 a3) fun v12 =>
bn (remI .i64 v12 4) fun v13 =>
lt (addI .i64 1 v13) fun v14 =>
lt (cvI .i64 a4) fun v15 =>
bn (remI .i64 v15 4) fun v16 =>
lt (addI .i64 1 v16) fun v17 =>
bn (claims_Give_sh n [] v7 v9 v14) fun v18 =>
bn (claims_Give_sh n [] v7 v11 v17) fun v19 =>
bn (bn (lt (gtI v17 v14) fun v22 =>
ite' v22 (some (true)) (lt (eqI v17 v14) fun v23 =>
ite' v23 (lt (gtI v11 v9) fun v24 =>
some (v24)) (some (false)))) fun (y21 : Bool) =>
lt (y21) fun v25 =>
ite' v25 (some (v19)) (some (v18))) fun (y20 : List Claim) =>
bn (bn (claims_Join_sh n v18 v19) fun v27 =>
bn (r13_SameClaims_sh n v27 y20) fun v28 =>
ite' v28 (bn (claims_Join_sh n v19 v18) fun v29 =>
bn (r13_SameClaims_sh n v29 y20) fun v30 =>
ite' v30 (bn (l13_awake_sh n) fun v31 =>
some (v31)) (some (false))) (some (false))) fun (y26 : Bool) =>
some y26)
set_option maxRecDepth 8000 in
set_option maxHeartbeats 2000000 in
theorem s_l13_ClaimsNewer {n : Nat} {a0 : List Int} {a1 : Int} {a2 : Int} {a3 : Int} {a4 : Int} {r : Bool} (h : l13_ClaimsNewer_sh n a0 a1 a2 a3 a4 = some r) : Sound Try.prog 4 [.l (.d false 1 (encIu16 a0)), .l (.s (.int .u8 a1)), .l (.s (.int .u8 a2)), .l (.s (.int .u8 a3)), .l (.s (.int .u8 a4))] [] (.l (.s (.bool r))) [] := by
 unfold l13_ClaimsNewer_sh at h
 refine Sound.of_aw (fn := Try.f4) (c := _) Try.func4 rfl (by simp [Try.f4]) fun cx hG hnb => ?_
 rw [show Try.f4.ntmps = 82 from rfl]
 have hn0 : cx.nb = 0 := hnb
 simp only [st0_mk, initTm, List.map_cons, List.map_nil]
 apply AW.step
 ·simp
  intros; rfl
 refine AW.seq ?_
 replace h := bnE h; obtain ⟨y1, g1, h⟩ := h
 refine AW.flow (p := fun gh ls => (nP (cx := cx) (fun q => (⟨[(0, .l (.d false 1 (encIu16 a0))), (1, .l (.s (.int .u8 a1))), (2, .l (.s (.int .u8 a2))), (3, .l (.s (.int .u8 a3))), (4, .l (.s (.int .u8 a4))), (26, .l (.s (.bool q)))], [], 82, gh, ls⟩ : St))) y1) ?_ ?_
 ·replace h := g1; clear g1
  replace h := ltE h; obtain ⟨v2, e2, h⟩ := h
  replace h := ltE h; obtain ⟨v3, e3, h⟩ := h
  cases v3 with
  | true =>
   replace h := iteT rfl h
   apply AW.last
   ·simp [lenI_cast e2, ← e3]
    intros; rfl
   obtain rfl := Option.some.inj h
   refine nP_i ?_
   refine Weak.mixN [] hn0 (by decide) ?_ ?_ rfl
   all_goals first | (simp [inv_cons, inv_nil, pickOb]; done) | rfl
  | false =>
   replace h := iteF rfl h
   replace h := ltE h; obtain ⟨v4, e4, h⟩ := h
   apply AW.last
   ·simp [lenI_cast e2, ← e3, ← e4]
    intros; rfl
   obtain rfl := Option.some.inj h
   refine nP_i ?_
   refine Weak.mixN [] hn0 (by decide) ?_ ?_ rfl
   all_goals first | (simp [inv_cons, inv_nil, pickOb]; done) | rfl
 ·rintro e s hp
  obtain ⟨rfl, hw⟩ := hp
  refine ⟨_, hw, ?_⟩
  try simp only [sp_l, sp_r, Post.seq, Post.block, Nat.reduceEqDiff, reduceIte, Nat.zero_ne_one, Nat.one_ne_zero]
  replace h := ltE h; obtain ⟨v5, e5, h⟩ := h
  rw [← e5]
  cases v5 with
  | true =>
   replace h := iteT rfl h
   refine AW.cond_true (by simp) ?_
   replace h := bnE h; obtain ⟨v6, e6, h⟩ := h
   apply AW.step
   ·simp
    intros
    refine xcall_plain en_l13_awake (s_l13_awake e6) rfl trivial ?_
    try simp
    intros; rfl
   obtain rfl := Option.some.inj h
   refine AW.ret ?_
   refine Left.plain hnb (by simp [Try.f4, resV, resC, comp]; rfl) rfl rfl ?_
   simp
  | false =>
   replace h := iteF rfl h
   refine AW.cond_false (by simp) ?_
   refine AW.skip ?_
   try simp only [sp_l, sp_r, Post.seq, Post.block, Nat.reduceEqDiff, reduceIte, Nat.zero_ne_one, Nat.one_ne_zero]
   try simp only [sp_l, sp_r, Post.seq, Post.block, Nat.reduceEqDiff, reduceIte, Nat.zero_ne_one, Nat.one_ne_zero]
   replace h := bnE h; obtain ⟨v7, e7, h⟩ := h
   apply AW.step
   ·simp
    intros
    refine xcall_plain en_l2_Make (s_l2_Make e7) rfl ⟨.same rfl, trivial⟩ ?_
    try simp
    intros; rfl
   replace h := ltE h; obtain ⟨v8, e8, h⟩ := h
   replace h := bnE h; obtain ⟨v9, e9, h⟩ := h
   replace h := ltE h; obtain ⟨v10, e10, h⟩ := h
   replace h := bnE h; obtain ⟨v11, e11, h⟩ := h
   replace h := ltE h; obtain ⟨v12, e12, h⟩ := h
   replace h := bnE h; obtain ⟨v13, e13, h⟩ := h
   replace h := ltE h; obtain ⟨v14, e14, h⟩ := h
   replace h := ltE h; obtain ⟨v15, e15, h⟩ := h
   replace h := bnE h; obtain ⟨v16, e16, h⟩ := h
   replace h := ltE h; obtain ⟨v17, e17, h⟩ := h
   apply AW.step
   ·simp [← e8, e9, ← e10, e11, ← e12, e13, ← e14, ← e15, e16, ← e17]
    intros; rfl
   replace h := bnE h; obtain ⟨v18, e18, h⟩ := h
   replace h := bnE h; obtain ⟨v19, e19, h⟩ := h
   apply AW.step
   ·simp
    intros
    refine xcall_plain en_claims_Give (s_claims_Give e18) rfl ⟨.nil _ _, .same rfl, .same rfl, .same rfl, trivial⟩ ?_
    try simp
    intros
    refine xcall_plain en_claims_Give (s_claims_Give e19) rfl ⟨.nil _ _, .same rfl, .same rfl, .same rfl, trivial⟩ ?_
    try simp
    intros; rfl
   apply AW.step
   ·simp
    intros; rfl
   replace h := bnE h; obtain ⟨y20, g20, h⟩ := h
   refine AW.flow (p := fun gh ls => (nP (cx := cx) (fun q => (⟨[(16, .l (.d false 4 (encClaim v18))), (17, .l (.d false 4 (encClaim v19))), (18, .l (.d false 4 (encClaim q)))], [], 82, gh, ls⟩ : St))) y20) ?_ ?_
   ·replace h := g20; clear g20
    replace h := bnE h; obtain ⟨y21, g21, h⟩ := h
    refine AW.flow (p := fun gh ls => (nP (cx := cx) (fun q => (⟨[(16, .l (.d false 4 (encClaim v18))), (17, .l (.d false 4 (encClaim v19))), (18, .l (.d false 4 (encClaim v18))), (65, .l (.s (.bool q)))], [], 82, gh, ls⟩ : St))) y21) ?_ ?_
    ·replace h := g21; clear g21
     replace h := ltE h; obtain ⟨v22, e22, h⟩ := h
     cases v22 with
     | true =>
      replace h := iteT rfl h
      apply AW.last
      ·simp [← e22]
       intros; rfl
      obtain rfl := Option.some.inj h
      refine nP_i ?_
      refine Weak.mixN [] hn0 (by decide) ?_ ?_ rfl
      all_goals first | (simp [inv_cons, inv_nil, pickOb]; done) | rfl
     | false =>
      replace h := iteF rfl h
      replace h := ltE h; obtain ⟨v23, e23, h⟩ := h
      cases v23 with
      | true =>
       replace h := iteT rfl h
       replace h := ltE h; obtain ⟨v24, e24, h⟩ := h
       apply AW.last
       ·simp [← e22, ← e23, ← e24]
        intros; rfl
       obtain rfl := Option.some.inj h
       refine nP_i ?_
       refine Weak.mixN [] hn0 (by decide) ?_ ?_ rfl
       all_goals first | (simp [inv_cons, inv_nil, pickOb]; done) | rfl
      | false =>
       replace h := iteF rfl h
       apply AW.last
       ·simp [← e22, ← e23]
        intros; rfl
       obtain rfl := Option.some.inj h
       refine nP_i ?_
       refine Weak.mixN [] hn0 (by decide) ?_ ?_ rfl
       all_goals first | (simp [inv_cons, inv_nil, pickOb]; done) | rfl
    ·rintro e s hp
     obtain ⟨rfl, hw⟩ := hp
     refine ⟨_, hw, ?_⟩
     try simp only [sp_l, sp_r, Post.seq, Post.block, Nat.reduceEqDiff, reduceIte, Nat.zero_ne_one, Nat.one_ne_zero]
     replace h := ltE h; obtain ⟨v25, e25, h⟩ := h
     rw [← e25]
     cases v25 with
     | true =>
      replace h := iteT rfl h
      refine AW.cond_true (by simp) ?_
      apply AW.last
      ·simp
       intros; rfl
      obtain rfl := Option.some.inj h
      refine nP_i ?_
      refine Weak.mixN [] hn0 (by decide) ?_ ?_ rfl
      all_goals first | (simp [inv_cons, inv_nil, pickOb]; done) | rfl
     | false =>
      replace h := iteF rfl h
      refine AW.cond_false (by simp) ?_
      refine AW.skip ?_
      try simp only [sp_l, sp_r, Post.seq, Post.block, Nat.reduceEqDiff, reduceIte, Nat.zero_ne_one, Nat.one_ne_zero]
      obtain rfl := Option.some.inj h
      refine nP_i ?_
      refine Weak.mixN [] hn0 (by decide) ?_ ?_ rfl
      all_goals first | (simp [inv_cons, inv_nil, pickOb]; done) | rfl
   ·rintro e s hp
    obtain ⟨rfl, hw⟩ := hp
    refine ⟨_, hw, ?_⟩
    try simp only [sp_l, sp_r, Post.seq, Post.block, Nat.reduceEqDiff, reduceIte, Nat.zero_ne_one, Nat.one_ne_zero]
    replace h := bnE h; obtain ⟨y26, g26, h⟩ := h
    refine AW.flow (p := fun gh ls => (nP (cx := cx) (fun q => (⟨[(10, .l (.s (.bool q)))], [], 82, gh, ls⟩ : St))) y26) ?_ ?_
    ·replace h := g26; clear g26
     replace h := bnE h; obtain ⟨v27, e27, h⟩ := h
     replace h := bnE h; obtain ⟨v28, e28, h⟩ := h
     cases v28 with
     | true =>
      replace h := iteT rfl h
      replace h := bnE h; obtain ⟨v29, e29, h⟩ := h
      replace h := bnE h; obtain ⟨v30, e30, h⟩ := h
      cases v30 with
      | true =>
       replace h := iteT rfl h
       replace h := bnE h; obtain ⟨v31, e31, h⟩ := h
       apply AW.last
       ·simp
        intros
        refine xcall_plain en_claims_Join (s_claims_Join e27) rfl ⟨.same rfl, .same rfl, trivial⟩ ?_
        try simp
        intros
        refine xcall_plain en_r13_SameClaims (s_r13_SameClaims e28) rfl ⟨.same rfl, .same rfl, trivial⟩ ?_
        try simp
        intros
        refine xcall_plain en_claims_Join (s_claims_Join e29) rfl ⟨.same rfl, .same rfl, trivial⟩ ?_
        try simp
        intros
        refine xcall_plain en_r13_SameClaims (s_r13_SameClaims e30) rfl ⟨.same rfl, .same rfl, trivial⟩ ?_
        try simp
        intros
        refine xcall_plain en_l13_awake (s_l13_awake e31) rfl trivial ?_
        try simp
        intros; rfl
       obtain rfl := Option.some.inj h
       refine nP_i ?_
       refine Weak.mixN [] hn0 (by decide) ?_ ?_ rfl
       all_goals first | (simp [inv_cons, inv_nil, pickOb]; done) | rfl
      | false =>
       replace h := iteF rfl h
       apply AW.last
       ·simp
        intros
        refine xcall_plain en_claims_Join (s_claims_Join e27) rfl ⟨.same rfl, .same rfl, trivial⟩ ?_
        try simp
        intros
        refine xcall_plain en_r13_SameClaims (s_r13_SameClaims e28) rfl ⟨.same rfl, .same rfl, trivial⟩ ?_
        try simp
        intros
        refine xcall_plain en_claims_Join (s_claims_Join e29) rfl ⟨.same rfl, .same rfl, trivial⟩ ?_
        try simp
        intros
        refine xcall_plain en_r13_SameClaims (s_r13_SameClaims e30) rfl ⟨.same rfl, .same rfl, trivial⟩ ?_
        try simp
        intros; rfl
       obtain rfl := Option.some.inj h
       refine nP_i ?_
       refine Weak.mixN [] hn0 (by decide) ?_ ?_ rfl
       all_goals first | (simp [inv_cons, inv_nil, pickOb]; done) | rfl
     | false =>
      replace h := iteF rfl h
      apply AW.last
      ·simp
       intros
       refine xcall_plain en_claims_Join (s_claims_Join e27) rfl ⟨.same rfl, .same rfl, trivial⟩ ?_
       try simp
       intros
       refine xcall_plain en_r13_SameClaims (s_r13_SameClaims e28) rfl ⟨.same rfl, .same rfl, trivial⟩ ?_
       try simp
       intros; rfl
      obtain rfl := Option.some.inj h
      refine nP_i ?_
      refine Weak.mixN [] hn0 (by decide) ?_ ?_ rfl
      all_goals first | (simp [inv_cons, inv_nil, pickOb]; done) | rfl
    ·rintro e s hp
     obtain ⟨rfl, hw⟩ := hp
     refine ⟨_, hw, ?_⟩
     try simp only [sp_l, sp_r, Post.seq, Post.block, Nat.reduceEqDiff, reduceIte, Nat.zero_ne_one, Nat.one_ne_zero]
     obtain rfl := Option.some.inj h
     refine AW.ret ?_
     refine Left.plain hnb (by simp [Try.f4, resV, resC, comp]; rfl) rfl rfl ?_
     simp
end Go.Proofs.Ythjenkmbbnjcnaa

/- Claims by numbers; Join does not hang on order. -/
namespace Go.Proofs.Ythjenkmbbnjcnaa
open Go Go.RowKit
set_option linter.unusedVariables false
set_option linter.unusedSimpArgs false
theorem vrem {k : IntKind} {a b : Int} (h : 0 ≤ a) (hb : 0 < b) : remI k a b = some (a % b) := by
  have : ¬ b = 0 := by omega
  simp only [remI, ne_eq, this, not_false_eq_true, if_true, Int.tmod_eq_emod_of_nonneg h]
theorem Same_refl (l : List Claim) (hl : l.length ≤ 1000000) : r13_SameClaims_sh big l l = some true := by
  refine Rn.eqv ?_
  unfold r13_SameClaims_sh
  refine Rn.lt (Rn.lt (Rn.lt (Rn.ite (fun h => ?_) fun _ => ?_)))
  · simp [neI] at h
  refine Rn.bn (P := fun y => y = .inl ()) (Rn.iter _ (fun j a => a = (j : Int)) l.length (by unfold big; omega) rfl fun j a hj hI => ?_) fun y hy => ?_
  · subst hI
    refine Rn.lt (Rn.lt (Rn.ite (fun hd => ?_) fun hd => Rn.some rfl))
    have hjl : j < l.length := by
      have := of_decide_eq_true (p := ((j : Int) < (l.length : Int))) hd
      omega
    refine Rn.bnE (nth_some hjl) (Rn.bnE (nth_some hjl) (Rn.lt (Rn.ite (fun h => ?_) fun _ => Rn.lt (Rn.some ⟨hjl, ?_⟩))))
    · simp [notB, andB, eqI] at h
    · rw [addI_64 (by omega) (by omega)]
      rfl
  · subst hy
    exact Rn.some rfl
def rngH (l : List Int) : Prop := ∀ x ∈ l, 0 ≤ x ∧ x ≤ 65535
/-- Spans by numbers. -/
theorem l2Make_ok {ns : List Int} (hn : rngH ns) (hl : ns.length ≤ 1000) : Rn (l2_Make_sh big ns) fun r => 2 * r.length ≤ ns.length := by
  unfold l2_Make_sh
  refine Rn.bn (P := fun r => 2 * r.length ≤ ns.length) (Rn.iter _ (fun j a => ∃ r : List Span, a = (((2 * j : Nat) : Int), r) ∧ r.length = j ∧ 2 * j ≤ ns.length) ns.length (by unfold big; omega) ⟨[], rfl, rfl, by omega⟩ fun j a hj hI => ?_) fun r hr => Rn.chk (by simp [room]; omega) (Rn.some hr)
  obtain ⟨r, rfl, r1, r2⟩ := hI
  refine Rn.lt (Rn.lt (Rn.lt ?_))
  have e1 : addI .i64 ((2 * j : Nat) : Int) 1 = ((2 * j + 1 : Nat) : Int) := by rw [addI_64 (by omega) (by omega)]; omega
  have e2 : addI .i64 ((2 * j : Nat) : Int) 2 = ((2 * (j + 1) : Nat) : Int) := by rw [addI_64 (by omega) (by omega)]; omega
  simp only
  rw [e1]
  refine Rn.ite (fun hd => ?_) fun hd => Rn.some (by show 2 * r.length ≤ ns.length; omega)
  have hjl : 2 * j + 1 < ns.length := by
    have := of_decide_eq_true (p := (((2 * j + 1 : Nat) : Int) < (ns.length : Int))) hd
    omega
  have h0 := hn _ (List.getElem_mem (show 2 * j < ns.length by omega))
  have h1 := hn _ (List.getElem_mem hjl)
  refine Rn.bnE (nth_some (show 2 * j < ns.length by omega)) (Rn.lt ?_)
  rw [cvI_64 (by omega) (by omega)]
  refine Rn.bnE (vrem h0.1 (by omega)) (Rn.bnE (nth_some hjl) (Rn.lt ?_))
  rw [cvI_64 (by omega) (by omega)]
  refine Rn.bnE (vrem h1.1 (by omega)) (Rn.lt (Rn.lt (Rn.chk (by simp [room]; omega) (Rn.lt (Rn.lt (Rn.some ⟨by omega, _, Prod.ext e2 rfl, ?_, by omega⟩))))))
  rw [List.length_append, r1]
  rfl
theorem giveF_tells {f : Int → Option (Int × Int)} {p : Int → Prop} [DecidablePred p] {v : Int × Int} (hf : Tells f) (hp : ∀ s, p s → 0 ≤ s ∧ s ≤ 16383) (h1 : 0 ≤ v.1) (h2 : 1 ≤ v.2) : Tells (giveF f p v) := by
  intro s w h
  unfold giveF at h
  split at h
  · rename_i hps
    have := Option.some.inj h
    subst this
    exact ⟨hp s hps, h1, h2⟩
  · exact hf s w h
/-! ### Of two the one that counts -/
def okV (x : Option (Int × Int)) : Prop := ∀ v, x = some v → 0 ≤ v.1 ∧ 1 ≤ v.2
theorem Tells.okV {f : Int → Option (Int × Int)} (h : Tells f) (s : Int) : Go.Proofs.Ythjenkmbbnjcnaa.okV (f s) := fun v hv => (h s v hv).2
def leV (x z : Option (Int × Int)) : Prop := epo x < epo z ∨ (epo x = epo z ∧ nod x ≤ nod z)
theorem leV.refl (x : Option (Int × Int)) : leV x x := .inr ⟨rfl, Int.le_refl _⟩
theorem leV.trans {x y z : Option (Int × Int)} (h1 : leV x y) (h2 : leV y z) : leV x z := by
  unfold leV at *
  omega
theorem awake13_ok : l13_awake_sh big = some true := by kernel_rfl
/-- A join, and what it tells. -/
theorem Join_good {a b : List Claim} (ha : GoodC a) (hb : GoodC b) : Rn (claims_Join_sh big a b) fun r => GoodC r ∧ ∀ s, fC r s = joinV (fC a s) (fC b s) := by
  refine (Join_ok ha hb).mono fun r hr => ⟨hr.good (joinF_tells ha.tells hb.tells), fun s => hr.2 s⟩
theorem GoodC.ext {a b : List Claim} (ha : GoodC a) (hb : GoodC b) (h : ∀ s, fC a s = fC b s) : a = b := map_inj (f := cP) cP_inj (canP_ext ha.1 hb.1 h)
theorem Same_ok {a b : List Claim} (ha : GoodC a) (hb : GoodC b) (h : ∀ s, fC a s = fC b s) : r13_SameClaims_sh big a b = some true := by
  have := ha.ext hb h
  subst this
  exact Same_refl a (by have := ha.len; omega)
end Go.Proofs.Ythjenkmbbnjcnaa

/- Insertion sort of spans by their beginnings. -/
namespace Go.Proofs.Ythjenkmbbnjcnaa
open Go Go.RowKit
set_option linter.unusedVariables false
set_option linter.unusedSimpArgs false
def ks (d : List Span) (i : Nat) : Int := (d.getD i ⟨0, 0⟩).frm
theorem ks_get {d : List Span} {i : Nat} (h : i < d.length) : ks d i = d[i].frm := by
  unfold ks
  rw [List.getD_eq_getElem?_getD, List.getElem?_eq_getElem h]
  rfl
theorem ks_set {d : List Span} {p : Nat} (x : Span) (i : Nat) (h : p < d.length) : ks (d.set p x) i = if i = p then x.frm else ks d i := by
  unfold ks
  rw [List.getD_eq_getElem?_getD, List.getD_eq_getElem?_getD, List.getElem?_set]
  by_cases e : p = i
  · subst e
    rw [if_pos rfl, if_pos h, if_pos rfl]
    rfl
  · rw [if_neg e, if_neg fun h => e h.symm]
def SortedOn (d : List Span) (a b : Nat) : Prop := ∀ p q, a ≤ p → p < q → q < b → ks d p ≤ ks d q
theorem cmpS_ok (x y : Span) : ∃ v, spans_said_1_sh big x y = some v ∧ ltI v 0 = decide (x.frm < y.frm) := by
  have hn : ∀ a : Int, cmp_isNaN_int_sh big a = some false := fun a => by simp [cmp_isNaN_int_sh, neI, lt_eq]
  have hc : cmp_Compare_int_sh big x.frm y.frm = some (if x.frm < y.frm then -1 else if y.frm < x.frm then 1 else 0) := by
    unfold cmp_Compare_int_sh
    rw [hn, hn]
    simp only [bn_some, ite_f, lt_eq]
    rcases Int.lt_trichotomy x.frm y.frm with h | h | h
    · rw [lt_t h, ite_t, if_pos h]
    · rw [lt_f (by omega), ite_f, gt_f (by omega), ite_f, if_neg (by omega), if_neg (by omega)]
    · rw [lt_f (by omega), ite_f, gt_t h, ite_t, if_neg (by omega), if_pos h]
  refine ⟨_, by unfold spans_said_1_sh; rw [hc]; rfl, ?_⟩
  rcases Int.lt_trichotomy x.frm y.frm with h | h | h
  · rw [if_pos h, decide_eq_true h]; rfl
  · rw [if_neg (by omega), if_neg (by omega), decide_eq_false (by omega)]; rfl
  · rw [if_neg (by omega), if_pos h, decide_eq_false (by omega)]; rfl
structure InsI (l d : List Span) (a i j : Nat) : Prop where
  perm : d.Perm l
  aj : a ≤ j
  ji : j ≤ i
  off : ∀ p, (p < a ∨ i < p) → d[p]? = l[p]?
  srt : ∀ p q, a ≤ p → p < q → q ≤ i → p ≠ j → q ≠ j → ks d p ≤ ks d q
  low : ∀ q, j < q → q ≤ i → ks d j ≤ ks d q
theorem InsI.step {l d : List Span} {a i j : Nat} (h : InsI l d a i (j + 1)) (hi : i < l.length) (haj : a ≤ j) (h1 : j < d.length) (h2 : j + 1 < d.length) (hlt : d[j + 1].frm < d[j].frm) :
    InsI l ((d.set (j + 1) d[j]).set j d[j + 1]) a i j := by
  have hji := h.ji
  have hk : ∀ p, ks ((d.set (j + 1) d[j]).set j d[j + 1]) p = if p = j then d[j + 1].frm else if p = j + 1 then d[j].frm else ks d p := fun p => by
    rw [ks_set _ _ (by simp; omega), ks_set _ _ h2]
  have e1 := ks_get h1
  have e2 := ks_get h2
  refine ⟨(List.set_set_perm h2 h1).trans h.perm, haj, by omega, fun p hp => ?_, fun p q g1 g2 g3 g4 g5 => ?_, fun q g1 g2 => ?_⟩
  · rw [List.getElem?_set_ne (by omega), List.getElem?_set_ne (by omega)]
    exact h.off p hp
  · rw [hk, hk, if_neg g4, if_neg g5]
    rcases Decidable.em (p = j + 1) with e | e
    · subst e
      rw [if_pos rfl, if_neg (by omega)]
      have := h.srt j q haj (by omega) g3 (by omega) (by omega)
      omega
    · rw [if_neg e]
      rcases Decidable.em (q = j + 1) with e' | e'
      · subst e'
        rw [if_pos rfl]
        have := h.srt p j g1 (by omega) (by omega) (by omega) (by omega)
        omega
      · rw [if_neg e']
        exact h.srt p q g1 g2 g3 e e'
  · rw [hk, hk, if_pos rfl, if_neg (by omega)]
    rcases Decidable.em (q = j + 1) with e | e
    · rw [if_pos e]
      omega
    · rw [if_neg e]
      have := h.low q (by omega) g2
      omega
theorem ins_ok {l : List Span} {a b : Nat} (hab : a ≤ b) (hb : b ≤ l.length) (hl : l.length ≤ 1000000) : Rn (slices_insertionSortCmpFunc_api_Span_sh big l (a : Int) (b : Int)) fun r => r.Perm l ∧ (∀ p, (p < a ∨ b ≤ p) → r[p]? = l[p]?) ∧ SortedOn r a b := by
  unfold slices_insertionSortCmpFunc_api_Span_sh
  refine Rn.lt ?_
  have e0 : addI .i64 (a : Int) 1 = ((a + 1 : Nat) : Int) := by rw [addI_64 (by omega) (by omega)]; omega
  rw [e0]
  refine Rn.bn (P := fun r => r.Perm l ∧ (∀ p, (p < a ∨ b ≤ p) → r[p]? = l[p]?) ∧ SortedOn r a b) (Rn.iter _ (fun k y => ∃ d : List Span, y = (((a + 1 + k : Nat) : Int), d) ∧ d.Perm l ∧ (∀ p, (p < a ∨ a + 1 + k ≤ p) → d[p]? = l[p]?) ∧ SortedOn d a (a + 1 + k) ∧ (b ≤ a → d = l)) (b - a - 1) (by unfold big; omega) ⟨l, rfl, List.Perm.refl _, fun p _ => rfl, fun p q h1 h2 h3 => by omega, fun _ => rfl⟩ fun k y hk hI => ?_) fun r hr => Rn.some hr
  obtain ⟨d, rfl, hp, ho, hs, hz⟩ := hI
  have hdl := hp.length_eq
  refine Rn.lt (Rn.ite (fun hd => ?_) fun hd => ?_)
  · have hi : a + 1 + k < b := by
      have := of_decide_eq_true (p := (((a + 1 + k : Nat) : Int) < (b : Int))) hd
      omega
    refine Rn.bn (P := fun r => r.Perm l ∧ (∀ p, (p < a ∨ a + 1 + k < p) → r[p]? = l[p]?) ∧ SortedOn r a (a + 1 + k + 1)) ?_ fun r hr => Rn.lt (Rn.some ⟨by omega, r, ?_, hr.1, fun p h => hr.2.1 p (by omega), fun p q h1 h2 h3 => hr.2.2 p q h1 h2 (by omega), fun h => by omega⟩)
    · have h0 : InsI l d a (a + 1 + k) (a + 1 + k) := ⟨hp, by omega, Nat.le_refl _, fun p h => ho p (by omega), fun p q h1 h2 h3 h4 h5 => hs p q h1 h2 (by omega), fun q h1 h2 => by omega⟩
      refine Rn.iter _ (fun t y => ∃ (j : Nat) (d' : List Span), y = ((j : Int), d') ∧ j + t = a + 1 + k ∧ InsI l d' a (a + 1 + k) j) (k + 1) (by unfold big; omega) ⟨a + 1 + k, d, rfl, rfl, h0⟩ fun t y ht hI => ?_
      obtain ⟨j, d', rfl, hj, h⟩ := hI
      have hdl' := h.perm.length_eq
      have hfin : (a < j → ∃ (h1 : j - 1 < d'.length) (h2 : j < d'.length), d'[j - 1].frm ≤ d'[j].frm) → d'.Perm l ∧ (∀ p, (p < a ∨ a + 1 + k < p) → d'[p]? = l[p]?) ∧ SortedOn d' a (a + 1 + k + 1) := by
        intro hc
        refine ⟨h.perm, h.off, fun p q h1 h2 h3 => ?_⟩
        rcases Decidable.em (p = j) with e | e
        · subst e
          exact h.low q h2 (by omega)
        · rcases Decidable.em (q = j) with e' | e'
          · subst e'
            obtain ⟨g1, g2, g3⟩ := hc (by omega)
            rw [← ks_get g1, ← ks_get g2] at g3
            rcases Decidable.em (p = q - 1) with e2 | e2
            · subst e2
              exact g3
            · have := h.srt p (q - 1) h1 (by omega) (by omega) e (by omega)
              omega
          · exact h.srt p q h1 h2 (by omega) e e'
      rcases Decidable.em (a < j) with haj | haj
      · obtain ⟨j, rfl⟩ : ∃ i, j = i + 1 := ⟨j - 1, by omega⟩
        have hji := h.ji
        have h2 : j + 1 < d'.length := by omega
        have h1 : j < d'.length := by omega
        have es : subI .i64 ((j + 1 : Nat) : Int) 1 = (j : Int) := by rw [subI_64 (by omega) (by omega)]; omega
        obtain ⟨v, ev, hv⟩ := cmpS_ok d'[j + 1] d'[j]
        refine Rn.bnE (v := decide (d'[j + 1].frm < d'[j].frm)) ?_ (Rn.lt (Rn.ite (fun hc => ?_) fun hc => Rn.some (hfin fun _ => ⟨h1, h2, ?_⟩)))
        · simp only [lt_eq]
          rw [gt_t (show (a : Int) < ((j + 1 : Nat) : Int) by omega), ite_t, nth_some h2]
          simp only [bn_some]
          rw [es, nth_some h1]
          simp only [bn_some]
          rw [ev]
          simp only [bn_some]
          rw [hv]
        · have hlt := of_decide_eq_true hc
          refine Rn.lt ?_
          simp only
          rw [es]
          refine Rn.bnE (nth_some h1) (Rn.bnE (nth_some h2) (Rn.lt ?_))
          rw [Int.toNat_natCast, Int.toNat_natCast]
          refine Rn.bnE (nth_some (show j < (d'.set (j + 1) d'[j]).length by simp; omega)) (Rn.lt (Rn.some ⟨by omega, j, _, rfl, by omega, h.step (by omega) (by omega) h1 h2 hlt⟩))
        · have := of_decide_eq_false hc
          show d'[j].frm ≤ d'[j + 1].frm
          omega
      · refine Rn.bnE (v := false) ?_ (Rn.lt (Rn.ite (fun hc => by simp at hc) fun _ => Rn.some (hfin fun hc => absurd hc haj)))
        simp only [lt_eq]
        rw [gt_f (by omega), ite_f]
    · rw [addI_64 (by first | omega | (simp only; omega)) (by first | omega | (simp only; omega))]
      rfl
  · have hi : b ≤ a + 1 + k := by
      have := of_decide_eq_false (p := (((a + 1 + k : Nat) : Int) < (b : Int))) hd
      omega
    refine Rn.some ⟨hp, fun p h => ?_, fun p q h1 h2 h3 => hs p q h1 h2 (by omega)⟩
    rcases Decidable.em (p < a ∨ a + 1 + k ≤ p) with hc | hc
    · exact ho p hc
    · rw [hz (by omega)]
end Go.Proofs.Ythjenkmbbnjcnaa

/- What the program's Norm and Give make. -/
namespace Go.Proofs.Ythjenkmbbnjcnaa
open Go Go.RowKit
set_option linter.unusedVariables false
set_option linter.unusedSimpArgs false
def Rises (l : List Span) : Prop := l.Pairwise fun x y => x.frm ≤ y.frm
theorem SortedOn.rises {l : List Span} (h : SortedOn l 0 l.length) : Rises l := by
  refine List.pairwise_iff_getElem.2 fun i j hi hj hij => ?_
  have := h i j (Nat.zero_le _) hij hj
  rwa [ks_get hi, ks_get hj] at this
def sortMost : Nat := 12
theorem Sort_ok {l : List Span} (hl : l.length ≤ sortMost) : Rn (slices_SortFunc_api_Span_sh big l) fun r => r.Perm l ∧ Rises r := by
  unfold sortMost at hl
  unfold slices_SortFunc_api_Span_sh
  refine Rn.lt (Rn.lt ?_)
  have hlen : ∃ v, bits_Len_sh big (cvI .u64 (lenI l)) = some v := by
    rw [lenI_eq]
    have : ∀ n : Nat, n ≤ 12 → ∃ v, bits_Len_sh big (cvI .u64 (n : Int)) = some v := by
      intro n hn
      have hb : (List.range 13).all (fun n => (bits_Len_sh big (cvI .u64 (n : Int))).isSome) = true := by kernel_rfl
      rw [List.all_eq_true] at hb
      exact Option.isSome_iff_exists.1 (hb n (by simp; omega))
    exact this _ hl
  obtain ⟨v, ev⟩ := hlen
  refine Rn.bnE ev (Rn.bn (P := fun r => r.Perm l ∧ Rises r) ?_ fun r hr => Rn.chk (by simp [lenB, hr.1.length_eq]) (Rn.some hr))
  unfold slices_pdqsortCmpFunc_api_Span_sh
  refine Rn.bn (P := fun r => r.Perm l ∧ Rises r) (Rn.iter _ (fun j y => y = ()) 0 (by unfold big; omega) rfl fun j y hj hI => ?_) fun r hr => Rn.some hr
  refine Rn.lt (Rn.lt ?_)
  rw [lenI_eq, subI_64 (by omega) (by omega), le_t (by omega)]
  refine Rn.ite (fun _ => Rn.bn (ins_ok (a := 0) (b := l.length) (Nat.zero_le _) (Nat.le_refl _) (by omega)) fun r hr => Rn.chk (by simp [lenB, hr.1.length_eq]) (Rn.some ⟨hr.1, ?_⟩)) fun h => by simp at h
  have := hr.2.2
  rw [← hr.1.length_eq] at this
  exact this.rises
/-- What is within the slots, of each span. -/
theorem said_ok {l : List Span} (hl : l.length ≤ sortMost) : Rn (spans_said_sh big l) fun r => Rises r ∧ (∀ x ∈ r, 0 ≤ x.frm ∧ x.frm ≤ x.to ∧ x.to ≤ 16383) ∧ (∀ t, (∃ x ∈ r, x.frm ≤ t ∧ t ≤ x.to) ↔ inS l t) ∧ r.length ≤ l.length := by
  have hl12 : l.length ≤ 1000000 := Nat.le_trans hl (by unfold sortMost; omega)
  unfold spans_said_sh
  refine Rn.lt (Rn.bn (P := fun r => (∀ x ∈ r, 0 ≤ x.frm ∧ x.frm ≤ x.to ∧ x.to ≤ 16383) ∧ (∀ t, (∃ x ∈ r, x.frm ≤ t ∧ t ≤ x.to) ↔ inS l t) ∧ r.length ≤ l.length) (Rn.iter _ (fun j y => ∃ r : List Span, y = ((j : Int), r) ∧ (∀ x ∈ r, 0 ≤ x.frm ∧ x.frm ≤ x.to ∧ x.to ≤ 16383) ∧ (∀ t, (∃ x ∈ r, x.frm ≤ t ∧ t ≤ x.to) ↔ inS (l.take j) t) ∧ r.length ≤ j) l.length (by unfold big; omega) ⟨[], rfl, by simp, fun t => by unfold inS; simp, by simp⟩ fun j y hj hI => ?_) fun r hr => ?_)
  · obtain ⟨r, rfl, r1, r2, r3⟩ := hI
    refine Rn.lt (Rn.ite (fun hd => ?_) fun hd => ?_)
    · have hjl : j < l.length := by
        have := of_decide_eq_true (p := ((j : Int) < (l.length : Int))) hd
        omega
      have hnth := nth_some hjl
      have htk : l.take (j + 1) = l.take j ++ [l[j]] := (List.take_append_getElem hjl).symm
      generalize l[j] = x at hnth htk
      have hin : ∀ t, inS (l.take (j + 1)) t ↔ inS (l.take j) t ∨ ((0 ≤ t ∧ t < 16384) ∧ x.frm ≤ t ∧ t ≤ x.to) := by
        intro t
        rw [htk]
        unfold inS
        constructor
        · rintro ⟨h1, y, hy, h2⟩
          rcases List.mem_append.1 hy with hy | hy
          · exact .inl ⟨h1, y, hy, h2⟩
          · simp at hy
            subst hy
            exact .inr ⟨h1, h2⟩
        · rintro (⟨h1, y, hy, h2⟩ | ⟨h1, h2⟩)
          · exact ⟨h1, y, by simp [hy], h2⟩
          · exact ⟨h1, x, by simp, h2⟩
      refine Rn.bn (P := fun r' => (∀ x ∈ r', 0 ≤ x.frm ∧ x.frm ≤ x.to ∧ x.to ≤ 16383) ∧ (∀ t, (∃ x ∈ r', x.frm ≤ t ∧ t ≤ x.to) ↔ inS (l.take (j + 1)) t) ∧ r'.length ≤ j + 1) ?_ fun r' hr' => Rn.lt (Rn.some ⟨hjl, r', ?_, hr'⟩)
      · refine Rn.bnE hnth (Rn.lt (Rn.lt (Rn.lt (Rn.ite (fun hc => Rn.chk (by simp [room]; omega) (Rn.lt (Rn.some ⟨?_, fun t => ?_, by simp; omega⟩))) fun hc => Rn.some ⟨r1, fun t => ?_, Nat.le_succ_of_le r3⟩))))
        · intro y hy
          have hc' : maxI x.frm 0 ≤ minI x.to 16383 := of_decide_eq_true hc
          rcases List.mem_append.1 hy with hy | hy
          · exact r1 y hy
          · simp at hy
            subst hy
            simp only [maxI, minI] at hc' ⊢
            omega
        · rw [hin t, ← r2 t]
          constructor
          · rintro ⟨y, hy, h2⟩
            rcases List.mem_append.1 hy with hy | hy
            · exact .inl ⟨y, hy, h2⟩
            · simp at hy
              subst hy
              simp only [maxI, minI] at h2
              exact .inr ⟨by omega, by omega⟩
          · rintro (⟨y, hy, h2⟩ | ⟨h1, h2⟩)
            · exact ⟨y, by simp [hy], h2⟩
            · exact ⟨⟨maxI x.frm 0, minI x.to 16383⟩, by simp, by simp only [maxI, minI]; omega⟩
        · have hc' : ¬ maxI x.frm 0 ≤ minI x.to 16383 := of_decide_eq_false hc
          rw [hin t, ← r2 t]
          refine ⟨.inl, ?_⟩
          rintro (h | ⟨h1, h2⟩)
          · exact h
          · simp only [maxI, minI] at hc'
            omega
      · rw [addI_64 (by first | omega | (simp only; omega)) (by first | omega | (simp only; omega))]
        rfl
    · have hjl : j = l.length := by
        have := of_decide_eq_false (p := ((j : Int) < (l.length : Int))) hd
        omega
      subst hjl
      rw [List.take_length] at r2
      exact Rn.some ⟨r1, r2, r3⟩
  · obtain ⟨r1, r2, r3⟩ := hr
    refine Rn.bn (Sort_ok (Nat.le_trans r3 hl)) fun v hv => Rn.chk (by simp [lenB, hv.1.length_eq]) (Rn.chk (by have := hv.1.length_eq; simp [room]; omega) (Rn.some ⟨hv.2, fun x hx => r1 x (hv.1.mem_iff.1 hx), fun t => ?_, by have := hv.1.length_eq; omega⟩))
    rw [← r2 t]
    constructor
    · rintro ⟨x, hx, h⟩
      exact ⟨x, hv.1.mem_iff.1 hx, h⟩
    · rintro ⟨x, hx, h⟩
      exact ⟨x, hv.1.mem_iff.2 hx, h⟩
theorem SaysS.of {l : List Span} {p : Int → Prop} [DecidablePred p] (h : canP (l.map sP)) (hp : ∀ t, (∃ x ∈ l, x.frm ≤ t ∧ t ≤ x.to) ↔ p t) : SaysS l p := by
  refine ⟨h, fun s => ?_⟩
  rw [fn_sP]
  unfold fS
  simp only [hp s]
theorem normP_ok {l : List Span} (hl : l.length ≤ sortMost) : Rn (spans_Norm_sh big l) fun r => SaysS r (inS l) ∧ r.length ≤ l.length := by
  have hl12 : l.length ≤ 1000000 := Nat.le_trans hl (by unfold sortMost; omega)
  unfold spans_Norm_sh
  refine Rn.bn (said_ok hl) fun v hv => Rn.lt ?_
  obtain ⟨v1, v2, v3, v4⟩ := hv
  refine Rn.bn (P := fun r => SaysS r (inS l) ∧ r.length ≤ l.length) (Rn.iter _ (fun j y => ∃ out : List Span, y = ((j : Int), out) ∧ canP (out.map sP) ∧ (∀ t, (∃ x ∈ out, x.frm ≤ t ∧ t ≤ x.to) ↔ ∃ x ∈ v.take j, x.frm ≤ t ∧ t ≤ x.to) ∧ (∀ x ∈ out, x.to ≤ 16383 ∧ 0 ≤ x.to ∧ ∀ y ∈ v.drop j, x.frm ≤ y.frm) ∧ out.length ≤ j) v.length (by unfold big; omega) ⟨[], rfl, trivial, by simp, by simp, by simp⟩ fun j y hj hI => ?_) fun r hr => Rn.chk (by have := hr.2; simp [room]; omega) (Rn.some hr)
  obtain ⟨out, rfl, o1, o2, o3, o4⟩ := hI
  refine Rn.lt (Rn.ite (fun hd => ?_) fun hd => ?_)
  · have hjl : j < v.length := by
      have := of_decide_eq_true (p := ((j : Int) < (v.length : Int))) hd
      omega
    have hnth := nth_some hjl
    have htk : v.take (j + 1) = v.take j ++ [v[j]] := (List.take_append_getElem hjl).symm
    have hdr := List.drop_eq_getElem_cons hjl
    have hs := v2 _ (List.getElem_mem hjl)
    have hri : ∀ y ∈ v.drop (j + 1), v[j].frm ≤ y.frm := by
      intro y hy
      have h1 : (v.drop j).Pairwise fun x y => x.frm ≤ y.frm := v1.sublist (List.drop_sublist _ _)
      rw [hdr] at h1
      exact List.rel_of_pairwise_cons h1 hy
    have ho3 : ∀ x ∈ out, x.to ≤ 16383 ∧ 0 ≤ x.to ∧ x.frm ≤ v[j].frm ∧ ∀ y ∈ v.drop (j + 1), x.frm ≤ y.frm := by
      intro x hx
      obtain ⟨a, a', b⟩ := o3 x hx
      rw [hdr] at b
      exact ⟨a, a', b _ List.mem_cons_self, fun y hy => b y (List.mem_cons_of_mem _ hy)⟩
    generalize v[j] = s at hnth htk hs hri ho3
    have hin : ∀ t, (∃ x ∈ v.take (j + 1), x.frm ≤ t ∧ t ≤ x.to) ↔ (∃ x ∈ out, x.frm ≤ t ∧ t ≤ x.to) ∨ (s.frm ≤ t ∧ t ≤ s.to) := by
      intro t
      rw [htk, o2 t]
      constructor
      · rintro ⟨y, hy, h2⟩
        rcases List.mem_append.1 hy with hy | hy
        · exact .inl ⟨y, hy, h2⟩
        · simp at hy
          subst hy
          exact .inr h2
      · rintro (⟨y, hy, h2⟩ | h2)
        · exact ⟨y, by simp [hy], h2⟩
        · exact ⟨s, by simp, h2⟩
    refine Rn.bn (P := fun o => canP (o.map sP) ∧ (∀ t, (∃ x ∈ o, x.frm ≤ t ∧ t ≤ x.to) ↔ ∃ x ∈ v.take (j + 1), x.frm ≤ t ∧ t ≤ x.to) ∧ (∀ x ∈ o, x.to ≤ 16383 ∧ 0 ≤ x.to ∧ ∀ y ∈ v.drop (j + 1), x.frm ≤ y.frm) ∧ o.length ≤ j + 1) ?_ fun o ho => Rn.lt (Rn.some ⟨hjl, o, ?_, ho⟩)
    · refine Rn.bnE hnth (Rn.lt ?_)
      have happ : (∀ q, (out.map sP).getLast? = some q → q.2.1 < s.frm ∧ ¬ (q.2.1 + 1 = s.frm ∧ q.2.2 = ())) → canP ((out ++ [s]).map sP) ∧ (∀ t, (∃ x ∈ out ++ [s], x.frm ≤ t ∧ t ≤ x.to) ↔ ∃ x ∈ v.take (j + 1), x.frm ≤ t ∧ t ≤ x.to) ∧ (∀ x ∈ out ++ [s], x.to ≤ 16383 ∧ 0 ≤ x.to ∧ ∀ y ∈ v.drop (j + 1), x.frm ≤ y.frm) ∧ (out ++ [s]).length ≤ j + 1 := by
        intro hc
        refine ⟨?_, fun t => ?_, fun x hx => ?_, by simp; omega⟩
        · rw [List.map_append]
          exact canP_snoc (p := sP s) o1 hs.2.1 hc
        · rw [hin t]
          constructor
          · rintro ⟨y, hy, h2⟩
            rcases List.mem_append.1 hy with hy | hy
            · exact .inl ⟨y, hy, h2⟩
            · simp at hy
              subst hy
              exact .inr h2
          · rintro (⟨y, hy, h2⟩ | h2)
            · exact ⟨y, by simp [hy], h2⟩
            · exact ⟨s, by simp, h2⟩
        · rcases List.mem_append.1 hx with hx | hx
          · have := ho3 x hx
            exact ⟨this.1, this.2.1, this.2.2.2⟩
          · simp at hx
            subst hx
            exact ⟨hs.2.2, by omega, hri⟩
      rcases Decidable.em (out = []) with he | he
      · subst he
        exact Rn.bnE (v := false) rfl (Rn.lt (Rn.ite (fun h => by simp at h) fun _ => Rn.chk rfl (Rn.lt (Rn.some (happ (by simp))))))
      · obtain ⟨k, x, rfl⟩ : ∃ k x, out = k ++ [x] := ⟨out.dropLast, out.getLast he, (List.dropLast_concat_getLast he).symm⟩
        have hx := ho3 x (by simp)
        obtain ⟨x1, x2, x3, x4⟩ := hx
        have el : subI .i64 (lenI (k ++ [x])) 1 = ((k.length : Nat) : Int) := by
          rw [lenI_eq, subI_64 (by omega) (by omega)]
          simp
        have hk : k.length < (k ++ [x]).length := by simp
        have hn : nth (k ++ [x]) ((k.length : Nat) : Int) = some x := by rw [nth_some hk]; simp
        refine Rn.bnE (v := leI s.frm (x.to + 1)) ?_ (Rn.lt (Rn.ite (fun h => ?_) fun h => Rn.chk (by simp [room]; simp at o4; omega) (Rn.lt (Rn.some (happ fun q hq => ?_)))))
        · simp only [lt_eq]
          rw [gt_t (by rw [lenI_eq]; simp), ite_t, el, hn]
          simp only [bn_some]
          rw [addI_64 (by omega) (by omega)]
        · have hle : s.frm ≤ x.to + 1 := of_decide_eq_true h
          rw [List.map_append] at o1
          obtain ⟨c1, c2, c3⟩ := canP_init (p := sP x) o1
          have c2' : x.frm ≤ x.to := c2
          refine Rn.lt ?_
          rw [el]
          refine Rn.bnE hn (Rn.lt (Rn.lt (Rn.some ?_)))
          rw [Int.toNat_natCast, List.set_append_right _ _ (by omega), Nat.sub_self, show [x].set 0 (⟨x.frm, maxI x.to s.to⟩ : Span) = [⟨x.frm, maxI x.to s.to⟩] from rfl]
          have hm : maxI x.to s.to = max x.to s.to := rfl
          rw [hm]
          refine ⟨?_, fun t => ?_, fun y hy => ?_, by simp at o4 ⊢; omega⟩
          · rw [List.map_append]
            exact canP_snoc (p := sP ⟨x.frm, max x.to s.to⟩) c1 (show x.frm ≤ max x.to s.to by omega) c3
          · rw [hin t]
            constructor
            · rintro ⟨y, hy, h2⟩
              rcases List.mem_append.1 hy with hy | hy
              · exact .inl ⟨y, by simp [hy], h2⟩
              · simp at hy
                subst hy
                simp only at h2
                rcases Decidable.em (t ≤ x.to) with h3 | h3
                · exact .inl ⟨x, by simp, h2.1, h3⟩
                · exact .inr ⟨by omega, by omega⟩
            · rintro (⟨y, hy, h2⟩ | h2)
              · rcases List.mem_append.1 hy with hy | hy
                · exact ⟨y, by simp [hy], h2⟩
                · simp at hy
                  subst hy
                  exact ⟨⟨y.frm, max y.to s.to⟩, by simp, h2.1, by simp only; omega⟩
              · exact ⟨⟨x.frm, max x.to s.to⟩, by simp, by simp only; omega, by simp only; omega⟩
          · rcases List.mem_append.1 hy with hy | hy
            · have := ho3 y (by simp [hy])
              exact ⟨this.1, this.2.1, this.2.2.2⟩
            · simp at hy
              subst hy
              exact ⟨by simp only; omega, by simp only; omega, x4⟩
        · have hle : ¬ s.frm ≤ x.to + 1 := of_decide_eq_false h
          rw [List.map_append, show [x].map sP = [sP x] from rfl, List.getLast?_concat] at hq
          have := Option.some.inj hq
          subst this
          show x.to < s.frm ∧ ¬ (x.to + 1 = s.frm ∧ () = ())
          omega
    · rw [addI_64 (by first | omega | (simp only; omega)) (by first | omega | (simp only; omega))]
      rfl
  · have hjl : j = v.length := by
      have := of_decide_eq_false (p := ((j : Int) < (v.length : Int))) hd
      omega
    subst hjl
    rw [List.take_length] at o2
    exact Rn.some ⟨SaysS.of o1 fun t => by rw [o2 t, v3 t], show out.length ≤ l.length by omega⟩
theorem fn_const {l : List Span} {v : Int × Int} (s : Int) : fnP (l.map fun x => (x.frm, x.to, v)) s = (fnP (l.map sP) s).map fun _ => v := by
  induction l with
  | nil => rfl
  | cons x l ih =>
    simp only [List.map_cons, fnP, sP]
    split
    · rfl
    · exact ih
theorem can_const {v : Int × Int} : ∀ {l : List Span}, canP (l.map sP) → canP (l.map fun x => (x.frm, x.to, v))
  | [], _ => trivial
  | [x], h => h
  | x :: y :: l, h => ⟨h.1, h.2.1, fun hc => h.2.2.1 ⟨hc.1, rfl⟩, can_const (l := y :: l) h.2.2.2⟩
theorem map_cP {l : List Span} {nd ep : Int} : (l.map fun x => (⟨x.frm, x.to, nd, ep⟩ : Claim)).map cP = l.map fun x => (x.frm, x.to, (nd, ep)) := by
  rw [List.map_map]
  rfl
/-- Spans that are a node's. -/
theorem given_good {l : List Span} {p : Int → Prop} [DecidablePred p] (h : SaysS l p) (hp : ∀ s, p s → 0 ≤ s ∧ s ≤ 16383) {nd ep : Int} (h1 : 0 ≤ nd) (h2 : 1 ≤ ep) :
    GoodC (l.map fun x => (⟨x.frm, x.to, nd, ep⟩ : Claim)) ∧ ∀ s, fC (l.map fun x => (⟨x.frm, x.to, nd, ep⟩ : Claim)) s = if p s then some (nd, ep) else none := by
  have hr := h.rng hp
  refine ⟨⟨by rw [map_cP]; exact can_const h.1, fun c hc => ?_⟩, fun s => ?_⟩
  · obtain ⟨x, hx, rfl⟩ := List.mem_map.1 hc
    have := hr x hx
    exact ⟨this.1, this.2.1, this.2.2, h1, h2⟩
  · unfold fC
    rw [map_cP, fn_const, h.2 s]
    unfold fS
    split <;> rfl
theorem GiveP_ok {a : List Claim} {l : List Span} {nd ep : Int} (ha : GoodC a) (hl : l.length ≤ sortMost) (h1 : 0 ≤ nd) (h2 : 1 ≤ ep) :
    Rn (claims_Give_sh big a l nd ep) fun r => FinP (r.map cP) (giveF (fC a) (inS l) (nd, ep)) := by
  have hl12 : l.length ≤ 1000000 := Nat.le_trans hl (by unfold sortMost; omega)
  have ht : Tells (giveF (fC a) (inS l) (nd, ep)) := giveF_tells ha.tells inS_rng h1 h2
  unfold claims_Give_sh
  refine Rn.bn (normP_ok hl) fun v hv => Rn.lt ?_
  obtain ⟨v1, v2⟩ := hv
  refine Rn.bn (P := fun g => g = v.map fun x => (⟨x.frm, x.to, nd, ep⟩ : Claim)) (Rn.iter _ (fun j y => y = ((j : Int), (v.take j).map fun x => (⟨x.frm, x.to, nd, ep⟩ : Claim))) v.length (by unfold big; omega) rfl fun j y hj hI => ?_) fun g hg => ?_
  · subst hI
    refine Rn.lt (Rn.ite (fun hd => ?_) fun hd => ?_)
    · have hjl : j < v.length := by
        have := of_decide_eq_true (p := ((j : Int) < (v.length : Int))) hd
        omega
      refine Rn.bnE (nth_some hjl) (Rn.chk (by simp [room]; omega) (Rn.lt (Rn.lt (Rn.some ⟨hjl, ?_⟩))))
      rw [addI_64 (by first | omega | (simp only; omega)) (by first | omega | (simp only; omega)), ← List.take_append_getElem hjl, List.map_append]
      rfl
    · have hjl : j = v.length := by
        have := of_decide_eq_false (p := ((j : Int) < (v.length : Int))) hd
        omega
      subst hjl
      exact Rn.some (by show _ = _; rw [List.take_length])
  subst hg
  obtain ⟨hgg, hgf⟩ := given_good v1 inS_rng h1 h2
  have hglen : (v.map fun x => (⟨x.frm, x.to, nd, ep⟩ : Claim)).length ≤ 16384 := hgg.len
  generalize (v.map fun x => (⟨x.frm, x.to, nd, ep⟩ : Claim)) = b at hgg hgf hglen
  have hFb : ∀ s, giveF (fC a) (inS l) (nd, ep) s = match fC b s with | some w => some w | none => fC a s := by
    intro s
    rw [hgf s]
    unfold giveF
    split <;> rfl
  refine Rn.bn (P := fun r => FinP (r.map cP) (giveF (fC a) (inS l) (nd, ep)) ∧ r.length ≤ 16384) (Rn.chk (by simp [room]; omega) (Rn.bnE (v := (a, b)) rfl (Rn.bn (P := fun y => FinP (y.2.2.map cP) (giveF (fC a) (inS l) (nd, ep)) ∧ y.2.2.length ≤ 16384) (Rn.iter _ (fun j y => ∃ at_ a' b' p out, y = (at_, a', b', p, out) ∧ (j : Int) ≤ at_ ∧ at_ ≤ 16384 ∧ GoodC a' ∧ GoodC b' ∧ (∀ s, at_ ≤ s → fC a' s = fC a s) ∧ (∀ s, at_ ≤ s → fC b' s = fC b s) ∧ BdP at_ (out.map cP) (giveF (fC a) (inS l) (nd, ep)) ∧ out.length ≤ j) 16384 (by unfold big; omega)
    ⟨0, a, b, _, [], rfl, Int.le_refl _, by omega, ha, hgg, fun s _ => rfl, fun s _ => rfl, BdP.nil fun s hs => ht.none (.inl hs), by simp⟩ fun j y hj hI => ?_) fun y hy => Rn.some hy))) fun r hr => Rn.chk (by have := hr.2; simp [room]; omega) (Rn.some hr.1)
  obtain ⟨at_, a', b', p, out, rfl, i1, i2, i3, i4, i5, i6, i7, i8⟩ := hI
  refine Rn.lt (Rn.ite (fun hd => ?_) fun hd => ?_)
  · have hat : at_ ≤ 16383 := of_decide_eq_true hd
    refine Rn.bn (next_ok i3 ⟨by omega, hat⟩) fun x hx => Rn.bn (next_ok i4 ⟨by omega, hat⟩) fun z hz => Rn.lt ?_
    obtain ⟨x1, x2⟩ := x
    obtain ⟨z1, z2⟩ := z
    have hmin : minI x1.to z1.to = min x1.to z1.to := rfl
    have hto : at_ ≤ minI x1.to z1.to ∧ minI x1.to z1.to ≤ 16383 ∧ minI x1.to z1.to ≤ x1.to ∧ minI x1.to z1.to ≤ z1.to := by
      have q1 := hx.le
      have q2 := hz.le
      have q3 := hx.last
      have q4 := hz.last
      simp only at q1 q2 q3 q4
      rw [hmin]
      omega
    simp only
    generalize minI x1.to z1.to = to_ at hto
    obtain ⟨p1, p2, p3, p4⟩ := hto
    have hz6 := hz.num
    simp only at hz6
    have hF : ∀ s, at_ ≤ s → s ≤ to_ → giveF (fC a) (inS l) (nd, ep) s = match valC z1 with | some w => some w | none => valC x1 := by
      intro s g1 g2
      rw [hFb s, ← i5 s g1, ← i6 s g1, hx.val s g1 (by simp only; omega), hz.val s g1 (by simp only; omega)]
    have hzf := hz.frm
    have hxf := hx.frm
    simp only at hzf hxf
    refine Rn.bn (P := fun c => (valC c.a = match valC z1 with | some w => some w | none => valC x1) ∧ c.a.frm = at_ ∧ c.a.to = to_) ?_ fun c hc => ?_
    · refine Rn.lt (Rn.ite (fun h => Rn.some ⟨?_, hzf, rfl⟩) fun h => Rn.some ⟨?_, hxf, rfl⟩)
      · have he : 0 < z1.epoch := of_decide_eq_true h
        unfold valC
        simp only
        rw [if_neg (by omega)]
      · have he : ¬ 0 < z1.epoch := of_decide_eq_false h
        have he0 : z1.epoch = 0 := by omega
        have : valC z1 = none := if_pos he0
        rw [this]
        rfl
    · refine Rn.bn (put_step i7 ht (by omega) ⟨by omega, i2⟩ hc.2.1 hc.2.2 p1 fun s g1 g2 => by rw [hF s g1 g2, hc.1]) fun m hm => Rn.lt (Rn.some ⟨by omega, to_ + 1, x2, z2, ⟨⟨x1.frm, to_, x1.node, x1.epoch⟩, ⟨z1.frm, to_, z1.node, z1.epoch⟩⟩, m, ?_, by omega, by omega, hx.good, hz.good, fun s hs => ?_, fun s hs => ?_, hm.1, by omega⟩)
      · rw [addI_64 (by omega) (by omega)]
      · rw [hx.rest s (by omega), i5 s (by omega)]
      · rw [hz.rest s (by omega), i6 s (by omega)]
  · have hat : at_ = 16384 := by
      have := of_decide_eq_false (p := at_ ≤ 16383) hd
      omega
    subst hat
    exact Rn.some ⟨i7.fin fun s hs => ht.none (.inr hs), show out.length ≤ 16384 by omega⟩
theorem GiveP_good {a : List Claim} {l : List Span} {nd ep : Int} (ha : GoodC a) (hl : l.length ≤ sortMost) (h1 : 0 ≤ nd) (h2 : 1 ≤ ep) :
    Rn (claims_Give_sh big a l nd ep) fun r => GoodC r ∧ ∀ s, fC r s = giveF (fC a) (inS l) (nd, ep) s :=
  (GiveP_ok ha hl h1 h2).mono fun r hr => ⟨hr.good (giveF_tells ha.tells inS_rng h1 h2), fun s => hr.2 s⟩
end Go.Proofs.Ythjenkmbbnjcnaa

/- Plain law: of two claims the newer one holds. -/
namespace Go.Proofs.Ythjenkmbbnjcnaa
open Go Go.RowKit
set_option linter.unusedVariables false
set_option linter.unusedSimpArgs false
theorem good_nil : GoodC [] := ⟨trivial, fun c hc => by simp at hc⟩
theorem joinV_some (n x m y : Int) : joinV (some (n, x)) (some (m, y)) = if y < x ∨ (x = y ∧ m < n) then some (n, x) else some (m, y) := rfl
theorem ClaimsNewer_ok (ss : List Int) (a b e f : Int) (hs : rngH ss) (h1 : 0 ≤ a ∧ a ≤ 255) (h2 : 0 ≤ b ∧ b ≤ 255) (h3 : 0 ≤ e ∧ e ≤ 255) (h4 : 0 ≤ f ∧ f ≤ 255) : l13_ClaimsNewer_sh big ss a b e f = some true := by
  refine Rn.eqv ?_
  unfold l13_ClaimsNewer_sh
  refine Rn.bn (P := fun y => y = false → ss.length ≤ 20) ?_ fun y hy => Rn.lt (Rn.ite (fun _ => Rn.bnE awake13_ok (Rn.some rfl)) fun hf => ?_)
  · refine Rn.lt (Rn.lt (Rn.ite (fun h => Rn.some (by simp)) fun a1 => Rn.lt (Rn.some fun _ => ?_)))
    have b1 := of_decide_eq_false (p := (20 : Int) < (ss.length : Int)) a1
    omega
  have hl := hy hf
  refine Rn.bn (l2Make_ok hs (by omega)) fun s hsl => Rn.lt ?_
  have hs12 : s.length ≤ sortMost := by unfold sortMost; omega
  rw [cvI_64 (by omega) (by omega), cvI_64 (show -9223372036854775808 ≤ b by omega) (by omega), cvI_64 (show -9223372036854775808 ≤ e by omega) (by omega), cvI_64 (show -9223372036854775808 ≤ f by omega) (by omega)]
  refine Rn.bnE (vrem h1.1 (by omega)) (Rn.lt (Rn.bnE (vrem h2.1 (by omega)) (Rn.lt (Rn.bnE (vrem h3.1 (by omega)) (Rn.lt ?_)))))
  rw [addI_64 (show -9223372036854775808 ≤ 1 + e % 4 by omega) (by omega)]
  refine Rn.lt (Rn.bnE (vrem h4.1 (by omega)) (Rn.lt ?_))
  rw [addI_64 (show -9223372036854775808 ≤ 1 + f % 4 by omega) (by omega)]
  obtain ⟨n, en⟩ : ∃ n, n = a % 8 := ⟨_, rfl⟩
  obtain ⟨m, em⟩ : ∃ m, m = b % 8 := ⟨_, rfl⟩
  obtain ⟨x, ex⟩ : ∃ x, x = 1 + e % 4 := ⟨_, rfl⟩
  obtain ⟨y, ey⟩ : ∃ y, y = 1 + f % 4 := ⟨_, rfl⟩
  rw [← en, ← em, ← ex, ← ey]
  refine Rn.bn (GiveP_good good_nil hs12 (show 0 ≤ n by omega) (show 1 ≤ x by omega)) fun p hp => Rn.bn (GiveP_good good_nil hs12 (show 0 ≤ m by omega) (show 1 ≤ y by omega)) fun q hq => ?_
  obtain ⟨gp, fp⟩ := hp
  obtain ⟨gq, fq⟩ := hq
  have fn : ∀ s, fC [] s = none := fun _ => rfl
  refine Rn.bn (P := fun w => GoodC w ∧ ∀ t, fC w t = joinV (fC p t) (fC q t) ∧ fC w t = joinV (fC q t) (fC p t)) ?_ fun w hw => ?_
  · refine Rn.bnE (v := decide (x < y ∨ (y = x ∧ n < m))) ?_ (Rn.lt (Rn.ite (fun h => Rn.some ⟨gq, fun t => ?_⟩) fun h => Rn.some ⟨gp, fun t => ?_⟩))
    · simp only [lt_eq]
      rcases Int.lt_trichotomy x y with h | h | h
      · rw [gt_t h, ite_t]
        simp [h]
      · rw [gt_f (by omega), ite_f, eq_t h.symm, ite_t]
        simp [h, gtI]
      · rw [gt_f (by omega), ite_f, eq_f (by omega), ite_f]
        have e1 : ¬ x < y := by omega
        have e2 : ¬ y = x := by omega
        simp [e1, e2]
    · have hc := of_decide_eq_true h
      rw [fp, fq]
      unfold giveF
      split
      · rw [joinV_some, joinV_some, if_neg (by omega), if_pos (by omega)]
        exact ⟨rfl, rfl⟩
      · rw [fn, joinV_none]
        exact ⟨rfl, rfl⟩
    · have hc := of_decide_eq_false h
      rw [fp, fq]
      unfold giveF
      split
      · rw [joinV_some, joinV_some]
        rcases Decidable.em (y < x ∨ (x = y ∧ m < n)) with g | g
        · rw [if_pos g, if_neg (by omega)]
          exact ⟨rfl, rfl⟩
        · rw [if_neg g, if_neg (by omega)]
          have e1 : n = m := by omega
          have e2 : x = y := by omega
          rw [e1, e2]
          exact ⟨rfl, rfl⟩
      · rw [fn, joinV_none]
        exact ⟨rfl, rfl⟩
  · obtain ⟨gw, fw⟩ := hw
    refine Rn.bn (P := fun y => y = true) ?_ fun y hy => Rn.some hy
    refine Rn.bn (Join_good gp gq) fun j hj => Rn.bnE (Same_ok hj.1 gw fun t => by rw [hj.2, (fw t).1]) (Rn.ite (fun _ => ?_) fun h => by simp at h)
    refine Rn.bn (Join_good gq gp) fun j hj => Rn.bnE (Same_ok hj.1 gw fun t => by rw [hj.2, (fw t).2]) (Rn.ite (fun _ => Rn.bnE awake13_ok (Rn.some rfl)) fun h => by simp at h)
end Go.Proofs.Ythjenkmbbnjcnaa

/- What is read as data of the program's structs. -/
namespace Go.Proofs.Ythjenkmbbnjcnaa
open Go Go.RowKit
set_option linter.unusedVariables false
set_option linter.unusedSimpArgs false
set_option linter.constructorNameAsVariable false
set_option maxRecDepth 100000
section
variable {P : Program} {n t : Nat} {ts : List T}
theorem WfT.bool (hu : P.underlying t = some .bool) (h : WfT P (n + 1) t ts) : ∃ b, ts = [.v (.bool b)] := by rw [WfT, hu] at h; exact h
theorem WfT.int {k : IntKind} (hu : P.underlying t = some (.int k)) (h : WfT P (n + 1) t ts) : ∃ i, ts = [.v (.int k i)] ∧ (Lit.int k i).wf = true := by rw [WfT, hu] at h; exact h
theorem WfT.slice {e : Nat} (hu : P.underlying t = some (.slice e)) (h : WfT P (n + 1) t ts) : ∃ es, ts = [.sl (P.cellsOf e) es] ∧ es.length * P.bytesOf e ≤ reachBytes ∧ ∀ x ∈ es, WfT P n e x := by rw [WfT, hu] at h; exact h
theorem WfT.struct {fs : Array Go.Field} (hu : P.underlying t = some (.struct fs)) (h : WfT P (n + 1) t ts) : ∃ ps : List (List T), ts = ps.flatten ∧ All2 (fun p f => WfT P n f p) ps (fs.toList.map (·.type)) := by rw [WfT, hu] at h; exact h
end
theorem All2.cons_r {α β : Type} {R : α → β → Prop} {l : List α} {b : β} {bs : List β} (h : All2 R l (b :: bs)) : ∃ x xs, l = x :: xs ∧ R x b ∧ All2 R xs bs := by
  cases l with
  | nil => exact h.elim
  | cons x xs => exact ⟨x, xs, rfl, h⟩
theorem All2.nil_r {α β : Type} {R : α → β → Prop} {l : List α} (h : All2 R l ([] : List β)) : l = [] := by
  cases l with
  | nil => rfl
  | cons x xs => exact h.elim
def rngI (i : Int) : Prop := -9223372036854775808 ≤ i ∧ i ≤ 9223372036854775807
theorem wf_list {α : Type} {enc : List α → List (List T)} {R : List T → Prop} {rng : α → Prop} (hn : enc [] = []) (hc : ∀ x l, enc (x :: l) = enc [x] ++ enc l) (h1 : ∀ e, R e → ∃ x, enc [x] = [e] ∧ rng x) :
    ∀ es, (∀ x ∈ es, R x) → ∃ l, es = enc l ∧ ∀ x ∈ l, rng x
  | [], _ => ⟨[], hn.symm, fun x h => by cases h⟩
  | e :: es, h => by
    obtain ⟨x, hx, rx⟩ := h1 e (h e (by simp))
    obtain ⟨l, rfl, rl⟩ := wf_list hn hc h1 es fun y hy => h y (by simp [hy])
    refine ⟨x :: l, by rw [hc, hx]; rfl, ?_⟩
    intro y hy
    rcases List.mem_cons.1 hy with rfl | hy
    · exact rx
    · exact rl y hy
/-- Bytes. -/
def rngU (i : Int) : Prop := 0 ≤ i ∧ i ≤ 255
theorem wf_rngU {i : Int} (h : (Lit.int .u8 i).wf = true) : rngU i := by
  have h' := (Bool.and_eq_true _ _ ▸ h : _ ∧ _)
  exact ⟨of_decide_eq_true h'.1, of_decide_eq_true h'.2⟩
def rngField (x : Field) : Prop := True
def rngItem (x : Item) : Prop := (rngI x.kind) ∧ (x.f.length ≤ 4398046510976 ∧ ∀ y ∈ x.f, rngField y) ∧ (x.l.length ≤ 8796093021952) ∧ (rngI x.exp)
def rngPair (x : Pair) : Prop := (rngItem x.item)
def rngEffect (x : Effect) : Prop := (rngItem x.item)
def rngRid (x : Rid) : Prop := (rngI x.node) ∧ (rngI x.epoch)
def rngFeed (x : Feed) : Prop := (rngRid x.rid) ∧ (rngI x.off) ∧ (x.back.length ≤ 1353245080300 ∧ ∀ y ∈ x.back, rngEffect y) ∧ (rngRid x.prev) ∧ (rngI x.upto)
def rngClaim (x : Claim) : Prop := (rngI x.frm) ∧ (rngI x.to) ∧ (rngI x.node) ∧ (rngI x.epoch)
def rngMsg (x : Msg) : Prop := (rngI x.kind) ∧ (rngI x.frm) ∧ (rngI x.to) ∧ (rngI x.epoch) ∧ (x.claims.length ≤ 4398046510976 ∧ ∀ y ∈ x.claims, rngClaim y) ∧ (x.nodes.length ≤ 17592186043904 ∧ ∀ y ∈ x.nodes, rngI y) ∧ (rngI x.node) ∧ (rngI x.slot) ∧ (rngI x.num) ∧ (rngRid x.rid) ∧ (rngRid x.prev) ∧ (rngI x.off) ∧ (x.effects.length ≤ 1353245080300 ∧ ∀ y ∈ x.effects, rngEffect y)
end Go.Proofs.Ythjenkmbbnjcnaa

/- What all rows need. -/
namespace Go.Proofs.Ythjenkmbbnjcnaa
open Go Go.RowKit
open Go.ChangeShapes Go.WideShapes Go.ChangeAt Go.RowKit
theorem Try.own : ownKnob Try.prog.godebug = none := by kernel_rfl
theorem Try.laidOut : laidOutB Try.prog = true := by kernel_rfl
end Go.Proofs.Ythjenkmbbnjcnaa

/- Lists of numbers of 16 bits, and of booleans, read as data. -/
namespace Go.Proofs.Ythjenkmbbnjcnaa
open Go Go.RowKit
set_option linter.unusedVariables false
set_option linter.unusedSimpArgs false
set_option linter.constructorNameAsVariable false
set_option maxRecDepth 100000
def rngH1 (i : Int) : Prop := 0 ≤ i ∧ i ≤ 65535
theorem wf_H (n : Nat) (e : List T) (h : WfT Try.prog (n + 1) 33 e) : ∃ x : Int, encIu16 [x] = [e] ∧ rngH1 x := by
  obtain ⟨f, rfl, h2⟩ := WfT.int (t := 33) Try.underlying33 h
  have h' := (Bool.and_eq_true _ _ ▸ h2 : _ ∧ _)
  have h1 := of_decide_eq_true h'.1
  have h2 := of_decide_eq_true h'.2
  exact ⟨f, rfl, h1, h2⟩
theorem wf_Hs {n : Nat} {es : List (List T)} (h : ∀ x ∈ es, WfT Try.prog (n + 1) 33 x) : ∃ l : List Int, es = encIu16 l ∧ ∀ x ∈ l, rngH1 x :=
  wf_list (enc := encIu16) (R := fun e => WfT Try.prog (n + 1) 33 e) (rng := rngH1) rfl (fun _ _ => rfl) (@wf_H n) es h
end Go.Proofs.Ythjenkmbbnjcnaa

