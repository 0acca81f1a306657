/- Part 6 of the proof. -/
import Derived.Test.YtaibolmbafacpaaPg5
/- Walks, printed: r1_Mark, r1_marks, r1_Has, r1_Has_ff, r1_Mix, r1_Norm, r13_Owned, r1_marks_ff, r1_Mix_fff, r1_Norm_f, r13_marks, r13_Of, r13_more, r13_more_xf, r13_Gi -/
namespace Go.Proofs.Ytaibolmbafacpaa
open Go Go.RowKit
set_option linter.unusedVariables false
set_option linter.unusedSimpArgs false
def r1_Mark_sh (n : Nat) (a0 : List Int) (a1 : Int) : Option (List Int) :=
lt (lenI a0) fun v1 =>
bn (iter n (fun (y2 : Int) =>
bn (lt (gtI y2 0) fun v6 =>
ite' v6 (lt (subI .i64 y2 1) fun v7 =>
bn (nth a0 v7) fun v8 =>
lt (geI v8 a1) fun v9 =>
some (v9)) (some (false))) fun (y5 : Bool) =>
lt (y5) fun v10 =>
ite' v10 (lt (subI .i64 y2 1) fun v11 =>
some (.inl v11)) (some (.inr y2))) v1) fun (y3 : Int) =>
bn (lt (ltI a1 0) fun v13 =>
ite' v13 (some (true)) (lt (gtI a1 16384) fun v14 =>
ite' v14 (some (true)) (lt (lenI a0) fun v15 =>
lt (ltI y3 v15) fun v16 =>
ite' v16 (bn (nth a0 y3) fun v17 =>
lt (eqI v17 a1) fun v18 =>
some (v18)) (some (false))))) fun (y12 : Bool) =>
lt (y12) fun v19 =>
ite' v19 (some a0) (bn (segh a0 y3) fun v20 =>
chk (room v20.length 8) <|
chk (room (v20.length + 1) 8) <|
lt (v20 ++ [a1]) fun v24 =>
bn (segl a0 y3) fun v25 =>
chk (room (v24.length + v25.length) 8) <|
lt (v24 ++ v25) fun v28 =>
chk (room v28.length 1) <|
some v28)
set_option maxRecDepth 8000 in
set_option maxHeartbeats 8000000 in
theorem s_r1_Mark {n : Nat} {a0 : List Int} {a1 : Int} {r : List Int} (h : r1_Mark_sh n a0 a1 = some r) : Sound Try.prog 24 [.l (.d false 1 (encI a0)), .l (.s (.int .i64 a1))] [] (.l (.d false 1 (encI r))) [] := by
 unfold r1_Mark_sh at h
 refine Sound.of_aw (fn := Try.f24) (c := _) Try.func24 rfl (by simp [Try.f24]) fun cx hG hnb => ?_
 rw [show Try.f24.ntmps = 57 from rfl]
 have hn0 : cx.nb = 0 := hnb
 simp only [st0_mk, initTm, List.map_cons, List.map_nil]
 apply AW.step
 ·simp
  intros; rfl
 replace h := ltE h; obtain ⟨v1, e1, h⟩ := h
 apply AW.step
 ·simp [lenI_cast e1]
  intros; rfl
 refine AW.seq ?_
 refine AW.block ?_
 replace h := bnE h; obtain ⟨y3, g3, h⟩ := h
 refine AW.iterP g3 (mk := fun gh ls q => (⟨[(0, .l (.d false 1 (encI a0))), (1, .l (.s (.int .i64 a1))), (5, .l (.s (.int .i64 q)))], [], 57, gh, ls⟩ : St)) (N := fun gh ls => (xP 0 (cx := cx) (fun q => (⟨[(0, .l (.d false 1 (encI a0))), (1, .l (.s (.int .i64 a1))), (5, .l (.s (.int .i64 q)))], [], 57, gh, ls⟩ : St)))) ?_ noX ?_ ?_
 ·refine Weak.mixN [] hn0 (by decide) ?_ ?_ rfl
  all_goals first | (simp [inv_cons, inv_nil, pickOb]; done) | rfl
 ·clear h; intro y2 y4 h
  refine AW.seq ?_
  replace h := bnE h; obtain ⟨y5, g5, h⟩ := h
  refine AW.flow (p := fun gh ls => (nP (cx := cx) (fun q => (⟨[(0, .l (.d false 1 (encI a0))), (1, .l (.s (.int .i64 a1))), (5, .l (.s (.int .i64 y2))), (19, .l (.s (.bool q)))], [], 57, gh, ls⟩ : St))) y5) ?_ ?_
  ·replace h := g5; clear g5
   replace h := ltE h; obtain ⟨v6, e6, h⟩ := h
   cases v6 with
   | true =>
    replace h := iteT rfl h
    replace h := ltE h; obtain ⟨v7, e7, h⟩ := h
    replace h := bnE h; obtain ⟨v8, e8, h⟩ := h
    replace h := ltE h; obtain ⟨v9, e9, h⟩ := h
    apply AW.last
    ·simp [← e6, ← e7, nth_d e8, ← e9]
     intros; rfl
    obtain rfl := Option.some.inj h
    refine nP_i ?_
    refine Weak.mixN [] hn0 (by decide) ?_ ?_ rfl
    all_goals first | (simp [inv_cons, inv_nil, pickOb]; done) | rfl
   | false =>
    replace h := iteF rfl h
    apply AW.last
    ·simp [← e6]
     intros; rfl
    obtain rfl := Option.some.inj h
    refine nP_i ?_
    refine Weak.mixN [] hn0 (by decide) ?_ ?_ rfl
    all_goals first | (simp [inv_cons, inv_nil, pickOb]; done) | rfl
  ·rintro e s hp
   obtain ⟨rfl, hw⟩ := hp
   refine ⟨_, hw, ?_⟩
   try simp only [sp_l, sp_r, Post.seq, Post.block, Nat.reduceEqDiff, reduceIte, Nat.zero_ne_one, Nat.one_ne_zero]
   replace h := ltE h; obtain ⟨v10, e10, h⟩ := h
   rw [← e10]
   cases v10 with
   | true =>
    replace h := iteT rfl h
    refine AW.cond_true (by simp) ?_
    refine AW.skip ?_
    try simp only [sp_l, sp_r, Post.seq, Post.block, Nat.reduceEqDiff, reduceIte, Nat.zero_ne_one, Nat.one_ne_zero]
    try simp only [sp_l, sp_r, Post.seq, Post.block, Nat.reduceEqDiff, reduceIte, Nat.zero_ne_one, Nat.one_ne_zero]
    refine AW.block ?_
    replace h := ltE h; obtain ⟨v11, e11, h⟩ := h
    apply AW.last
    ·simp [← e11]
     intros; rfl
    obtain rfl := Option.some.inj h
    refine nP_i ?_
    refine Weak.mixN [] hn0 (by decide) ?_ ?_ rfl
    all_goals first | (simp [inv_cons, inv_nil, pickOb]; done) | rfl
   | false =>
    replace h := iteF rfl h
    refine AW.cond_false (by simp) ?_
    refine AW.exit ?_
    try simp only [sp_l, sp_r, Post.seq, Post.block, Nat.reduceEqDiff, reduceIte, Nat.zero_ne_one, Nat.one_ne_zero]
    obtain rfl := Option.some.inj h
    refine xP_i ?_
    refine Weak.mixN [] hn0 (by decide) ?_ ?_ rfl
    all_goals first | (simp [inv_cons, inv_nil, pickOb]; done) | rfl
 ·rintro e s hp
  obtain ⟨rfl, hw⟩ := hp
  refine ⟨_, hw, ?_⟩
  try simp only [sp_l, sp_r, Post.seq, Post.block, Nat.reduceEqDiff, reduceIte, Nat.zero_ne_one, Nat.one_ne_zero]
  refine AW.seq ?_
  replace h := bnE h; obtain ⟨y12, g12, h⟩ := h
  refine AW.flow (p := fun gh ls => (nP (cx := cx) (fun q => (⟨[(0, .l (.d false 1 (encI a0))), (1, .l (.s (.int .i64 a1))), (5, .l (.s (.int .i64 y3))), (41, .l (.s (.bool q)))], [], 57, gh, ls⟩ : St))) y12) ?_ ?_
  ·replace h := g12; clear g12
   replace h := ltE h; obtain ⟨v13, e13, h⟩ := h
   cases v13 with
   | true =>
    replace h := iteT rfl h
    apply AW.last
    ·simp [← e13]
     intros; rfl
    obtain rfl := Option.some.inj h
    refine nP_i ?_
    refine Weak.mixN [] hn0 (by decide) ?_ ?_ rfl
    all_goals first | (simp [inv_cons, inv_nil, pickOb]; done) | rfl
   | false =>
    replace h := iteF rfl h
    replace h := ltE h; obtain ⟨v14, e14, h⟩ := h
    cases v14 with
    | true =>
     replace h := iteT rfl h
     apply AW.last
     ·simp [← e13, ← e14]
      intros; rfl
     obtain rfl := Option.some.inj h
     refine nP_i ?_
     refine Weak.mixN [] hn0 (by decide) ?_ ?_ rfl
     all_goals first | (simp [inv_cons, inv_nil, pickOb]; done) | rfl
    | false =>
     replace h := iteF rfl h
     replace h := ltE h; obtain ⟨v15, e15, h⟩ := h
     replace h := ltE h; obtain ⟨v16, e16, h⟩ := h
     cases v16 with
     | true =>
      replace h := iteT rfl h
      replace h := bnE h; obtain ⟨v17, e17, h⟩ := h
      replace h := ltE h; obtain ⟨v18, e18, h⟩ := h
      apply AW.last
      ·simp [← e13, ← e14, lenI_cast e15, ← e16, nth_d e17, ← e18]
       intros; rfl
      obtain rfl := Option.some.inj h
      refine nP_i ?_
      refine Weak.mixN [] hn0 (by decide) ?_ ?_ rfl
      all_goals first | (simp [inv_cons, inv_nil, pickOb]; done) | rfl
     | false =>
      replace h := iteF rfl h
      apply AW.last
      ·simp [← e13, ← e14, lenI_cast e15, ← e16]
       intros; rfl
      obtain rfl := Option.some.inj h
      refine nP_i ?_
      refine Weak.mixN [] hn0 (by decide) ?_ ?_ rfl
      all_goals first | (simp [inv_cons, inv_nil, pickOb]; done) | rfl
  ·rintro e s hp
   obtain ⟨rfl, hw⟩ := hp
   refine ⟨_, hw, ?_⟩
   try simp only [sp_l, sp_r, Post.seq, Post.block, Nat.reduceEqDiff, reduceIte, Nat.zero_ne_one, Nat.one_ne_zero]
   replace h := ltE h; obtain ⟨v19, e19, h⟩ := h
   rw [← e19]
   cases v19 with
   | true =>
    replace h := iteT rfl h
    refine AW.cond_true (by simp) ?_
    apply AW.step
    ·simp
     intros; rfl
    obtain rfl := Option.some.inj h
    refine AW.ret ?_
    refine Left.plain hnb (by simp [Try.f24, resV, resC, comp]; rfl) rfl rfl ?_
    simp
   | false =>
    replace h := iteF rfl h
    refine AW.cond_false (by simp) ?_
    refine AW.skip ?_
    try simp only [sp_l, sp_r, Post.seq, Post.block, Nat.reduceEqDiff, reduceIte, Nat.zero_ne_one, Nat.one_ne_zero]
    try simp only [sp_l, sp_r, Post.seq, Post.block, Nat.reduceEqDiff, reduceIte, Nat.zero_ne_one, Nat.one_ne_zero]
    replace h := bnE h; obtain ⟨v20, e20, h⟩ := h
    have f21 := encI_segh e20
    try simp at f21
    replace h := chkE h; obtain ⟨e22, h⟩ := h
    apply AW.step
    ·simp [f21]
     intros
     refine xrow_own ?_
     try simp [f21]
     intros
     refine xapp_pushN (acc := []) (ys := encI v20) (cap := none) (k := v20.length) tb_el33 tb_ti3 (by simp) (by rw [src_d]; simp) (by simp) (by simp) (by simp) (by first | (simp; done) | simpa using (room_d e22).1) ?_
     try simp [f21]
     intros; rfl
    replace h := chkE h; obtain ⟨e23, h⟩ := h
    replace h := ltE h; obtain ⟨v24, e24, h⟩ := h
    apply AW.step
    ·simp [← encI_append, ← e24, app_len1 e24]
     intros
     refine xrow_own ?_
     try simp [← encI_append, ← e24, app_len1 e24]
     intros
     refine xapp_pushN (acc := encI v20) (ys := encI [a1]) (cap := none) (k := 1) tb_el33 tb_ti3 (by simp) (by simp [encI, lvs]) (encI_sz _) (by simp) (by simp) (by first | (simp; done) | simpa using (room_d e23).1) ?_
     try simp [← encI_append, ← e24, app_len1 e24]
     intros; rfl
    replace h := bnE h; obtain ⟨v25, e25, h⟩ := h
    have f26 := encI_segl e25
    try simp at f26
    replace h := chkE h; obtain ⟨e27, h⟩ := h
    replace h := ltE h; obtain ⟨v28, e28, h⟩ := h
    apply AW.step
    ·simp [f26, ← encI_append, ← e28, app_len e28]
     intros
     refine xapp_pushN (acc := encI v24) (ys := encI v25) (cap := none) (k := v25.length) tb_el33 tb_ti3 (by simp) (by rw [src_d]; simp) (encI_sz _) (by simp) (by simp) (by first | (simp; done) | simpa using (room_d e27).1) ?_
     try simp [f26, ← encI_append, ← e28, app_len e28]
     intros; rfl
    replace h := chkE h; obtain ⟨e29, h⟩ := h
    refine AW.frzRow 4 (ty := 3) (cap := none) (sz := 1) (es := encI v28) (by simp) (by omega) (encI_sz _) (by first | exact (room_d e29).2 | simpa using (room_d e29).2 | simp) (by simp [Tm.frz, AV.frz, LV.frz]; rfl) (by simp [Ob.frz, LV.frz]; rfl) rfl ?_
    obtain rfl := Option.some.inj h
    refine AW.ret ?_
    refine Left.plain hnb (by simp [Try.f24, resV, resC, comp]; rfl) rfl rfl ?_
    simp
theorem en_r1_Mark : Enters Try.prog 24 := enters Try.func24 (by kernel_rfl) rfl
def r1_marks_sh (n : Nat) (a0 : List Span) (a1 : List Span) : Option (List Int) :=
chk (room 2 1) <|
bn (iter n (fun (y1 : List Int × Int) =>
lt (lenI a0) fun v5 =>
lt (lenI a1) fun v6 =>
lt (addI .i64 v5 v6) fun v7 =>
lt (ltI y1.2 v7) fun v8 =>
ite' v8 (bn (bn (lt (ltI y1.2 v5) fun v11 =>
ite' v11 (bn (nth a0 y1.2) fun v12 =>
some (v12)) (lt (subI .i64 y1.2 v5) fun v13 =>
bn (nth a1 v13) fun v14 =>
some (v14))) fun (y10 : Span) =>
bn (lt (leI y10.frm y10.to) fun v16 =>
ite' v16 (bn (r1_Mark_sh n y1.1 y10.frm) fun v17 =>
some (v17)) (some (y1.1))) fun (y15 : List Int) =>
bn (lt (leI y10.frm y10.to) fun v19 =>
ite' v19 (lt (ltI y10.to 16384) fun v20 =>
some (v20)) (some (false))) fun (y18 : Bool) =>
lt (y18) fun v21 =>
ite' v21 (lt (addI .i64 y10.to 1) fun v22 =>
bn (r1_Mark_sh n y15 v22) fun v23 =>
some (v23)) (some (y15))) fun (y9 : List Int) =>
lt (addI .i64 y1.2 1) fun v24 =>
some (.inl (y9, v24))) (some (.inr y1.1))) ([0, 16384], 0)) fun (y2 : List Int) =>
some y2
set_option maxRecDepth 8000 in
set_option maxHeartbeats 8000000 in
theorem s_r1_marks {n : Nat} {a0 : List Span} {a1 : List Span} {r : List Int} (h : r1_marks_sh n a0 a1 = some r) : Sound Try.prog 54 [.l (.d true 2 (encSpan a0)), .l (.d false 2 (encSpan a1))] [] (.l (.d false 1 (encI r))) [] := by
 unfold r1_marks_sh at h
 refine Sound.of_aw (fn := Try.f54) (c := _) Try.func54 rfl (by simp [Try.f54]) fun cx hG hnb => ?_
 rw [show Try.f54.ntmps = 59 from rfl]
 have hn0 : cx.nb = 0 := hnb
 simp only [st0_mk, initTm, List.map_cons, List.map_nil]
 apply AW.step
 ·simp
  intros; rfl
 apply AW.step
 ·simp
  intros
  refine xrow_own ?_
  try simp
  intros; rfl
 refine AW.seq ?_
 apply AW.step
 ·simp
  intros; rfl
 refine AW.block ?_
 replace h := chkE h; obtain ⟨e3, h⟩ := h
 replace h := bnE h; obtain ⟨y2, g2, h⟩ := h
 refine AW.iterP g2 (mk := fun gh ls q => (⟨[(0, .l (.d true 2 (encSpan a0))), (1, .l (.d false 2 (encSpan a1))), (5, .l (.d false 1 (encI q.1))), (6, .l (.s (.int .i64 q.2)))], [], 59, gh, ls⟩ : St)) (N := fun gh ls => (xP 0 (cx := cx) (fun q => (⟨[(5, .l (.d false 1 (encI q)))], [], 59, gh, ls⟩ : St)))) ?_ noX ?_ ?_
 ·refine W.frzRow 0 (ty := 3) (cap := none) (sz := 1) (es := encI [0, 16384]) (by simp [encI, lvs]) (by omega) (encI_sz _) (by first | exact (room_d e3).2 | simpa using (room_d e3).2 | simp) (by simp [Tm.frz, AV.frz, LV.frz, (show List.take 2 (encI [0, 16384]) = encI [0, 16384] from rfl)]; rfl) (by simp [Ob.frz, LV.frz, (show List.take 2 (encI [0, 16384]) = encI [0, 16384] from rfl)]; rfl) rfl ?_
  refine Weak.mixN [] hn0 (by decide) ?_ ?_ rfl
  all_goals first | (simp [inv_cons, inv_nil, pickOb]; done) | rfl
 ·clear h; intro y1 y4 h
  refine AW.seq ?_
  replace h := ltE h; obtain ⟨v5, e5, h⟩ := h
  replace h := ltE h; obtain ⟨v6, e6, h⟩ := h
  replace h := ltE h; obtain ⟨v7, e7, h⟩ := h
  replace h := ltE h; obtain ⟨v8, e8, h⟩ := h
  apply AW.step
  ·simp [lenI_cast e5, lenI_cast e6, ← e7, ← e8]
   intros; rfl
  cases v8 with
  | true =>
   replace h := iteT rfl h
   refine AW.cond_true (by simp) ?_
   refine AW.skip ?_
   try simp only [sp_l, sp_r, Post.seq, Post.block, Nat.reduceEqDiff, reduceIte, Nat.zero_ne_one, Nat.one_ne_zero]
   try simp only [sp_l, sp_r, Post.seq, Post.block, Nat.reduceEqDiff, reduceIte, Nat.zero_ne_one, Nat.one_ne_zero]
   replace h := bnE h; obtain ⟨y9, g9, h⟩ := h
   refine AW.flow (p := fun gh ls => (nP (cx := cx) (fun q => (⟨[(0, .l (.d true 2 (encSpan a0))), (1, .l (.d false 2 (encSpan a1))), (5, .l (.d false 1 (encI q))), (6, .l (.s (.int .i64 y1.2)))], [], 59, gh, ls⟩ : St))) y9) ?_ ?_
   ·replace h := g9; clear g9
    refine AW.block ?_
    apply AW.step
    ·simp
     intros; rfl
    replace h := bnE h; obtain ⟨y10, g10, h⟩ := h
    refine AW.flow (p := fun gh ls => (nP (cx := cx) (fun q => (⟨[(0, .l (.d true 2 (encSpan a0))), (1, .l (.d false 2 (encSpan a1))), (5, .l (.d false 1 (encI y1.1))), (6, .l (.s (.int .i64 y1.2))), (7, .l (.p 0 0))], [some ⟨71, 2, false, none, [.s (.int .i64 q.frm), .s (.int .i64 q.to)]⟩], 59, gh, ls⟩ : St))) y10) ?_ ?_
    ·replace h := g10; clear g10
     replace h := ltE h; obtain ⟨v11, e11, h⟩ := h
     apply AW.step
     ·simp [lenI_cast e5, ← e11]
      intros; rfl
     cases v11 with
     | true =>
      replace h := iteT rfl h
      refine AW.cond_true (by simp) ?_
      replace h := bnE h; obtain ⟨v12, e12, h⟩ := h
      apply AW.last
      ·simp [nth_d e12]
       intros; rfl
      obtain rfl := Option.some.inj h
      refine nP_i ?_
      refine Weak.mixN [some 0] hn0 (by decide) ?_ ?_ rfl
      all_goals first | (simp [inv_cons, inv_nil, pickOb]; done) | rfl
     | false =>
      replace h := iteF rfl h
      refine AW.cond_false (by simp) ?_
      replace h := ltE h; obtain ⟨v13, e13, h⟩ := h
      replace h := bnE h; obtain ⟨v14, e14, h⟩ := h
      apply AW.last
      ·simp [lenI_cast e5, ← e13, nth_d e14]
       intros; rfl
      obtain rfl := Option.some.inj h
      refine nP_i ?_
      refine Weak.mixN [some 0] hn0 (by decide) ?_ ?_ rfl
      all_goals first | (simp [inv_cons, inv_nil, pickOb]; done) | rfl
    ·rintro e s hp
     obtain ⟨rfl, hw⟩ := hp
     refine ⟨_, hw, ?_⟩
     try simp only [sp_l, sp_r, Post.seq, Post.block, Nat.reduceEqDiff, reduceIte, Nat.zero_ne_one, Nat.one_ne_zero]
     replace h := bnE h; obtain ⟨y15, g15, h⟩ := h
     refine AW.flow (p := fun gh ls => (nP (cx := cx) (fun q => (⟨[(0, .l (.d true 2 (encSpan a0))), (1, .l (.d false 2 (encSpan a1))), (5, .l (.d false 1 (encI q))), (6, .l (.s (.int .i64 y1.2))), (7, .l (.p 0 0))], [some ⟨71, 2, false, none, [.s (.int .i64 y10.frm), .s (.int .i64 y10.to)]⟩], 59, gh, ls⟩ : St))) y15) ?_ ?_
     ·replace h := g15; clear g15
      replace h := ltE h; obtain ⟨v16, e16, h⟩ := h
      apply AW.step
      ·simp [← e16]
       intros; rfl
      cases v16 with
      | true =>
       replace h := iteT rfl h
       refine AW.cond_true (by simp) ?_
       replace h := bnE h; obtain ⟨v17, e17, h⟩ := h
       apply AW.last
       ·simp
        intros
        refine xcall_plain en_r1_Mark (s_r1_Mark e17) rfl ⟨.same rfl, .same rfl, trivial⟩ ?_
        try simp
        intros; rfl
       obtain rfl := Option.some.inj h
       refine nP_i ?_
       refine Weak.mixN [some 0] hn0 (by decide) ?_ ?_ rfl
       all_goals first | (simp [inv_cons, inv_nil, pickOb]; done) | rfl
      | false =>
       replace h := iteF rfl h
       refine AW.cond_false (by simp) ?_
       refine AW.skip ?_
       try simp only [sp_l, sp_r, Post.seq, Post.block, Nat.reduceEqDiff, reduceIte, Nat.zero_ne_one, Nat.one_ne_zero]
       obtain rfl := Option.some.inj h
       refine nP_i ?_
       refine Weak.mixN [some 0] hn0 (by decide) ?_ ?_ rfl
       all_goals first | (simp [inv_cons, inv_nil, pickOb]; done) | rfl
     ·rintro e s hp
      obtain ⟨rfl, hw⟩ := hp
      refine ⟨_, hw, ?_⟩
      try simp only [sp_l, sp_r, Post.seq, Post.block, Nat.reduceEqDiff, reduceIte, Nat.zero_ne_one, Nat.one_ne_zero]
      replace h := bnE h; obtain ⟨y18, g18, h⟩ := h
      refine AW.flow (p := fun gh ls => (nP (cx := cx) (fun q => (⟨[(0, .l (.d true 2 (encSpan a0))), (1, .l (.d false 2 (encSpan a1))), (5, .l (.d false 1 (encI y15))), (6, .l (.s (.int .i64 y1.2))), (7, .l (.p 0 0)), (52, .l (.s (.bool q)))], [some ⟨71, 2, false, none, [.s (.int .i64 y10.frm), .s (.int .i64 y10.to)]⟩], 59, gh, ls⟩ : St))) y18) ?_ ?_
      ·replace h := g18; clear g18
       replace h := ltE h; obtain ⟨v19, e19, h⟩ := h
       cases v19 with
       | true =>
        replace h := iteT rfl h
        replace h := ltE h; obtain ⟨v20, e20, h⟩ := h
        apply AW.last
        ·simp [← e19, ← e20]
         intros; rfl
        obtain rfl := Option.some.inj h
        refine nP_i ?_
        refine Weak.mixN [some 0] hn0 (by decide) ?_ ?_ rfl
        all_goals first | (simp [inv_cons, inv_nil, pickOb]; done) | rfl
       | false =>
        replace h := iteF rfl h
        apply AW.last
        ·simp [← e19]
         intros; rfl
        obtain rfl := Option.some.inj h
        refine nP_i ?_
        refine Weak.mixN [some 0] hn0 (by decide) ?_ ?_ rfl
        all_goals first | (simp [inv_cons, inv_nil, pickOb]; done) | rfl
      ·rintro e s hp
       obtain ⟨rfl, hw⟩ := hp
       refine ⟨_, hw, ?_⟩
       try simp only [sp_l, sp_r, Post.seq, Post.block, Nat.reduceEqDiff, reduceIte, Nat.zero_ne_one, Nat.one_ne_zero]
       replace h := ltE h; obtain ⟨v21, e21, h⟩ := h
       rw [← e21]
       cases v21 with
       | true =>
        replace h := iteT rfl h
        refine AW.cond_true (by simp) ?_
        replace h := ltE h; obtain ⟨v22, e22, h⟩ := h
        replace h := bnE h; obtain ⟨v23, e23, h⟩ := h
        apply AW.last
        ·simp [← e22]
         intros
         refine xcall_plain en_r1_Mark (s_r1_Mark e23) rfl ⟨.same rfl, .same rfl, trivial⟩ ?_
         try simp [← e22]
         intros; rfl
        obtain rfl := Option.some.inj h
        refine nP_i ?_
        refine Weak.mixN [] hn0 (by decide) ?_ ?_ rfl
        all_goals first | (simp [inv_cons, inv_nil, pickOb]; done) | rfl
       | false =>
        replace h := iteF rfl h
        refine AW.cond_false (by simp) ?_
        refine AW.skip ?_
        try simp only [sp_l, sp_r, Post.seq, Post.block, Nat.reduceEqDiff, reduceIte, Nat.zero_ne_one, Nat.one_ne_zero]
        obtain rfl := Option.some.inj h
        refine nP_i ?_
        refine Weak.mixN [] hn0 (by decide) ?_ ?_ rfl
        all_goals first | (simp [inv_cons, inv_nil, pickOb]; done) | rfl
   ·rintro e s hp
    obtain ⟨rfl, hw⟩ := hp
    refine ⟨_, hw, ?_⟩
    try simp only [sp_l, sp_r, Post.seq, Post.block, Nat.reduceEqDiff, reduceIte, Nat.zero_ne_one, Nat.one_ne_zero]
    replace h := ltE h; obtain ⟨v24, e24, h⟩ := h
    apply AW.last
    ·simp [← e24]
     intros; rfl
    obtain rfl := Option.some.inj h
    refine nP_i ?_
    refine Weak.mixN [] hn0 (by decide) ?_ ?_ rfl
    all_goals first | (simp [inv_cons, inv_nil, pickOb]; done) | rfl
  | false =>
   replace h := iteF rfl h
   refine AW.cond_false (by simp) ?_
   refine AW.exit ?_
   try simp only [sp_l, sp_r, Post.seq, Post.block, Nat.reduceEqDiff, reduceIte, Nat.zero_ne_one, Nat.one_ne_zero]
   obtain rfl := Option.some.inj h
   refine xP_i ?_
   refine Weak.mixN [] hn0 (by decide) ?_ ?_ rfl
   all_goals first | (simp [inv_cons, inv_nil, pickOb]; done) | rfl
 ·rintro e s hp
  obtain ⟨rfl, hw⟩ := hp
  refine ⟨_, hw, ?_⟩
  try simp only [sp_l, sp_r, Post.seq, Post.block, Nat.reduceEqDiff, reduceIte, Nat.zero_ne_one, Nat.one_ne_zero]
  apply AW.step
  ·simp
   intros; rfl
  obtain rfl := Option.some.inj h
  refine AW.ret ?_
  refine Left.plain hnb (by simp [Try.f54, resV, resC, comp]; rfl) rfl rfl ?_
  simp
theorem en_r1_marks : Enters Try.prog 54 := enters Try.func54 (by kernel_rfl) rfl
def r1_Has_sh (n : Nat) (a0 : List Span) (a1 : Int) : Option Bool :=
bn (iter n (fun (y1 : Int) =>
lt (lenI a0) fun v4 =>
lt (ltI y1 v4) fun v5 =>
ite' v5 (bn (lt (geI a1 0) fun v7 =>
ite' v7 (lt (ltI a1 16384) fun v8 =>
ite' v8 (bn (nth a0 y1) fun v9 =>
lt (leI v9.frm a1) fun v10 =>
ite' v10 (lt (leI a1 v9.to) fun v11 =>
some (v11)) (some (false))) (some (false))) (some (false))) fun (y6 : Bool) =>
lt (y6) fun v12 =>
ite' v12 (some (.inr (.inr true))) (lt (addI .i64 y1 1) fun v13 =>
some (.inl v13))) (some (.inr (.inl ())))) 0) fun (y2 : Unit ⊕ Bool) =>
sm y2 (fun y14 => some false) (fun y15 => some y15)
set_option maxRecDepth 8000 in
set_option maxHeartbeats 8000000 in
theorem s_r1_Has {n : Nat} {a0 : List Span} {a1 : Int} {r : Bool} (h : r1_Has_sh n a0 a1 = some r) : Sound Try.prog 26 [.l (.d true 2 (encSpan a0)), .l (.s (.int .i64 a1))] [] (.l (.s (.bool r))) [] := by
 unfold r1_Has_sh at h
 refine Sound.of_aw (fn := Try.f26) (c := _) Try.func26 rfl (by simp [Try.f26]) fun cx hG hnb => ?_
 rw [show Try.f26.ntmps = 36 from rfl]
 have hn0 : cx.nb = 0 := hnb
 simp only [st0_mk, initTm, List.map_cons, List.map_nil]
 apply AW.step
 ·simp
  intros; rfl
 refine AW.seq ?_
 apply AW.step
 ·simp
  intros; rfl
 refine AW.block ?_
 replace h := bnE h; obtain ⟨y2, g2, h⟩ := h
 refine AW.iterP g2 (mk := fun gh ls q => (⟨[(0, .l (.d true 2 (encSpan a0))), (1, .l (.s (.int .i64 a1))), (5, .l (.s (.int .i64 q)))], [], 36, gh, ls⟩ : St)) (N := fun gh ls => (sp (xP 0 (cx := cx) (fun _ => (⟨[], [], 36, gh, ls⟩ : St))) (rP (cx := cx) (P := Try.prog) Try.f26 (fun q => .l (.s (.bool q))) (fun q => [])))) ?_ (noS noX noR) ?_ ?_
 ·refine Weak.mixN [] hn0 (by decide) ?_ ?_ rfl
  all_goals first | (simp [inv_cons, inv_nil, pickOb]; done) | rfl
 ·clear h; intro y1 y3 h
  refine AW.seq ?_
  replace h := ltE h; obtain ⟨v4, e4, h⟩ := h
  replace h := ltE h; obtain ⟨v5, e5, h⟩ := h
  apply AW.step
  ·simp [lenI_cast e4, ← e5]
   intros; rfl
  cases v5 with
  | true =>
   replace h := iteT rfl h
   refine AW.cond_true (by simp) ?_
   refine AW.skip ?_
   try simp only [sp_l, sp_r, Post.seq, Post.block, Nat.reduceEqDiff, reduceIte, Nat.zero_ne_one, Nat.one_ne_zero]
   try simp only [sp_l, sp_r, Post.seq, Post.block, Nat.reduceEqDiff, reduceIte, Nat.zero_ne_one, Nat.one_ne_zero]
   refine AW.seq ?_
   refine AW.block ?_
   replace h := bnE h; obtain ⟨y6, g6, h⟩ := h
   refine AW.flow (p := fun gh ls => (nP (cx := cx) (fun q => (⟨[(0, .l (.d true 2 (encSpan a0))), (1, .l (.s (.int .i64 a1))), (5, .l (.s (.int .i64 y1))), (35, .l (.s (.bool q)))], [], 36, gh, ls⟩ : St))) y6) ?_ ?_
   ·replace h := g6; clear g6
    replace h := ltE h; obtain ⟨v7, e7, h⟩ := h
    cases v7 with
    | true =>
     replace h := iteT rfl h
     replace h := ltE h; obtain ⟨v8, e8, h⟩ := h
     cases v8 with
     | true =>
      replace h := iteT rfl h
      replace h := bnE h; obtain ⟨v9, e9, h⟩ := h
      replace h := ltE h; obtain ⟨v10, e10, h⟩ := h
      cases v10 with
      | true =>
       replace h := iteT rfl h
       replace h := ltE h; obtain ⟨v11, e11, h⟩ := h
       apply AW.last
       ·simp [← e7, ← e8, nth_d e9, ← e10, ← e11]
        intros; rfl
       obtain rfl := Option.some.inj h
       refine nP_i ?_
       refine Weak.mixN [] hn0 (by decide) ?_ ?_ rfl
       all_goals first | (simp [inv_cons, inv_nil, pickOb]; done) | rfl
      | false =>
       replace h := iteF rfl h
       apply AW.last
       ·simp [← e7, ← e8, nth_d e9, ← e10]
        intros; rfl
       obtain rfl := Option.some.inj h
       refine nP_i ?_
       refine Weak.mixN [] hn0 (by decide) ?_ ?_ rfl
       all_goals first | (simp [inv_cons, inv_nil, pickOb]; done) | rfl
     | false =>
      replace h := iteF rfl h
      apply AW.last
      ·simp [← e7, ← e8]
       intros; rfl
      obtain rfl := Option.some.inj h
      refine nP_i ?_
      refine Weak.mixN [] hn0 (by decide) ?_ ?_ rfl
      all_goals first | (simp [inv_cons, inv_nil, pickOb]; done) | rfl
    | false =>
     replace h := iteF rfl h
     apply AW.last
     ·simp [← e7]
      intros; rfl
     obtain rfl := Option.some.inj h
     refine nP_i ?_
     refine Weak.mixN [] hn0 (by decide) ?_ ?_ rfl
     all_goals first | (simp [inv_cons, inv_nil, pickOb]; done) | rfl
   ·rintro e s hp
    obtain ⟨rfl, hw⟩ := hp
    refine ⟨_, hw, ?_⟩
    try simp only [sp_l, sp_r, Post.seq, Post.block, Nat.reduceEqDiff, reduceIte, Nat.zero_ne_one, Nat.one_ne_zero]
    replace h := ltE h; obtain ⟨v12, e12, h⟩ := h
    rw [← e12]
    cases v12 with
    | true =>
     replace h := iteT rfl h
     refine AW.cond_true (by simp) ?_
     apply AW.step
     ·simp
      intros; rfl
     obtain rfl := Option.some.inj h
     refine AW.ret ?_
     try simp only [sp_l, sp_r, Post.seq, Post.block, Nat.reduceEqDiff, reduceIte, Nat.zero_ne_one, Nat.one_ne_zero]
     refine rP_i ?_
     refine Left.plain hnb (by simp [Try.f26, resV, resC, comp]; rfl) rfl rfl ?_
     simp
    | false =>
     replace h := iteF rfl h
     refine AW.cond_false (by simp) ?_
     refine AW.skip ?_
     try simp only [sp_l, sp_r, Post.seq, Post.block, Nat.reduceEqDiff, reduceIte, Nat.zero_ne_one, Nat.one_ne_zero]
     try simp only [sp_l, sp_r, Post.seq, Post.block, Nat.reduceEqDiff, reduceIte, Nat.zero_ne_one, Nat.one_ne_zero]
     replace h := ltE h; obtain ⟨v13, e13, h⟩ := h
     apply AW.last
     ·simp [← e13]
      intros; rfl
     obtain rfl := Option.some.inj h
     refine nP_i ?_
     refine Weak.mixN [] hn0 (by decide) ?_ ?_ rfl
     all_goals first | (simp [inv_cons, inv_nil, pickOb]; done) | rfl
  | false =>
   replace h := iteF rfl h
   refine AW.cond_false (by simp) ?_
   refine AW.exit ?_
   try simp only [sp_l, sp_r, Post.seq, Post.block, Nat.reduceEqDiff, reduceIte, Nat.zero_ne_one, Nat.one_ne_zero]
   obtain rfl := Option.some.inj h
   try simp only [sp_l, sp_r]
   refine xP_i ?_
   refine Weak.mixN [] hn0 (by decide) ?_ ?_ rfl
   all_goals first | (simp [inv_cons, inv_nil, pickOb]; done) | rfl
 ·rintro e s hp
  rcases y2 with y14 | y15
  ·replace h := smL h
   obtain ⟨rfl, hw⟩ := hp
   refine ⟨_, hw, ?_⟩
   try simp only [sp_l, sp_r, Post.seq, Post.block, Nat.reduceEqDiff, reduceIte, Nat.zero_ne_one, Nat.one_ne_zero]
   apply AW.step
   ·simp
    intros; rfl
   obtain rfl := Option.some.inj h
   refine AW.ret ?_
   refine Left.plain hnb (by simp [Try.f26, resV, resC, comp]; rfl) rfl rfl ?_
   simp
  ·replace h := smR h
   obtain ⟨rfl, hl⟩ := hp
   refine ⟨_, Weak.refl _, ?_⟩
   obtain rfl := Option.some.inj h
   exact hl
theorem en_r1_Has : Enters Try.prog 26 := enters Try.func26 (by kernel_rfl) rfl
def r1_Has_ff_sh (n : Nat) (a0 : List Span) (a1 : Int) : Option Bool :=
bn (iter n (fun (y1 : Int) =>
lt (lenI a0) fun v4 =>
lt (ltI y1 v4) fun v5 =>
ite' v5 (bn (lt (geI a1 0) fun v7 =>
ite' v7 (lt (ltI a1 16384) fun v8 =>
ite' v8 (bn (nth a0 y1) fun v9 =>
lt (leI v9.frm a1) fun v10 =>
ite' v10 (lt (leI a1 v9.to) fun v11 =>
some (v11)) (some (false))) (some (false))) (some (false))) fun (y6 : Bool) =>
lt (y6) fun v12 =>
ite' v12 (some (.inr (.inr true))) (lt (addI .i64 y1 1) fun v13 =>
some (.inl v13))) (some (.inr (.inl ())))) 0) fun (y2 : Unit ⊕ Bool) =>
sm y2 (fun y14 => some false) (fun y15 => some y15)
set_option maxRecDepth 8000 in
set_option maxHeartbeats 8000000 in
theorem s_r1_Has_ff {n : Nat} {a0 : List Span} {a1 : Int} {r : Bool} (h : r1_Has_ff_sh n a0 a1 = some r) : Sound Try.prog 26 [.l (.d false 2 (encSpan a0)), .l (.s (.int .i64 a1))] [] (.l (.s (.bool r))) [] := by
 unfold r1_Has_ff_sh at h
 refine Sound.of_aw (fn := Try.f26) (c := _) Try.func26 rfl (by simp [Try.f26]) fun cx hG hnb => ?_
 rw [show Try.f26.ntmps = 36 from rfl]
 have hn0 : cx.nb = 0 := hnb
 simp only [st0_mk, initTm, List.map_cons, List.map_nil]
 apply AW.step
 ·simp
  intros; rfl
 refine AW.seq ?_
 apply AW.step
 ·simp
  intros; rfl
 refine AW.block ?_
 replace h := bnE h; obtain ⟨y2, g2, h⟩ := h
 refine AW.iterP g2 (mk := fun gh ls q => (⟨[(0, .l (.d false 2 (encSpan a0))), (1, .l (.s (.int .i64 a1))), (5, .l (.s (.int .i64 q)))], [], 36, gh, ls⟩ : St)) (N := fun gh ls => (sp (xP 0 (cx := cx) (fun _ => (⟨[], [], 36, gh, ls⟩ : St))) (rP (cx := cx) (P := Try.prog) Try.f26 (fun q => .l (.s (.bool q))) (fun q => [])))) ?_ (noS noX noR) ?_ ?_
 ·refine Weak.mixN [] hn0 (by decide) ?_ ?_ rfl
  all_goals first | (simp [inv_cons, inv_nil, pickOb]; done) | rfl
 ·clear h; intro y1 y3 h
  refine AW.seq ?_
  replace h := ltE h; obtain ⟨v4, e4, h⟩ := h
  replace h := ltE h; obtain ⟨v5, e5, h⟩ := h
  apply AW.step
  ·simp [lenI_cast e4, ← e5]
   intros; rfl
  cases v5 with
  | true =>
   replace h := iteT rfl h
   refine AW.cond_true (by simp) ?_
   refine AW.skip ?_
   try simp only [sp_l, sp_r, Post.seq, Post.block, Nat.reduceEqDiff, reduceIte, Nat.zero_ne_one, Nat.one_ne_zero]
   try simp only [sp_l, sp_r, Post.seq, Post.block, Nat.reduceEqDiff, reduceIte, Nat.zero_ne_one, Nat.one_ne_zero]
   refine AW.seq ?_
   refine AW.block ?_
   replace h := bnE h; obtain ⟨y6, g6, h⟩ := h
   refine AW.flow (p := fun gh ls => (nP (cx := cx) (fun q => (⟨[(0, .l (.d false 2 (encSpan a0))), (1, .l (.s (.int .i64 a1))), (5, .l (.s (.int .i64 y1))), (35, .l (.s (.bool q)))], [], 36, gh, ls⟩ : St))) y6) ?_ ?_
   ·replace h := g6; clear g6
    replace h := ltE h; obtain ⟨v7, e7, h⟩ := h
    cases v7 with
    | true =>
     replace h := iteT rfl h
     replace h := ltE h; obtain ⟨v8, e8, h⟩ := h
     cases v8 with
     | true =>
      replace h := iteT rfl h
      replace h := bnE h; obtain ⟨v9, e9, h⟩ := h
      replace h := ltE h; obtain ⟨v10, e10, h⟩ := h
      cases v10 with
      | true =>
       replace h := iteT rfl h
       replace h := ltE h; obtain ⟨v11, e11, h⟩ := h
       apply AW.last
       ·simp [← e7, ← e8, nth_d e9, ← e10, ← e11]
        intros; rfl
       obtain rfl := Option.some.inj h
       refine nP_i ?_
       refine Weak.mixN [] hn0 (by decide) ?_ ?_ rfl
       all_goals first | (simp [inv_cons, inv_nil, pickOb]; done) | rfl
      | false =>
       replace h := iteF rfl h
       apply AW.last
       ·simp [← e7, ← e8, nth_d e9, ← e10]
        intros; rfl
       obtain rfl := Option.some.inj h
       refine nP_i ?_
       refine Weak.mixN [] hn0 (by decide) ?_ ?_ rfl
       all_goals first | (simp [inv_cons, inv_nil, pickOb]; done) | rfl
     | false =>
      replace h := iteF rfl h
      apply AW.last
      ·simp [← e7, ← e8]
       intros; rfl
      obtain rfl := Option.some.inj h
      refine nP_i ?_
      refine Weak.mixN [] hn0 (by decide) ?_ ?_ rfl
      all_goals first | (simp [inv_cons, inv_nil, pickOb]; done) | rfl
    | false =>
     replace h := iteF rfl h
     apply AW.last
     ·simp [← e7]
      intros; rfl
     obtain rfl := Option.some.inj h
     refine nP_i ?_
     refine Weak.mixN [] hn0 (by decide) ?_ ?_ rfl
     all_goals first | (simp [inv_cons, inv_nil, pickOb]; done) | rfl
   ·rintro e s hp
    obtain ⟨rfl, hw⟩ := hp
    refine ⟨_, hw, ?_⟩
    try simp only [sp_l, sp_r, Post.seq, Post.block, Nat.reduceEqDiff, reduceIte, Nat.zero_ne_one, Nat.one_ne_zero]
    replace h := ltE h; obtain ⟨v12, e12, h⟩ := h
    rw [← e12]
    cases v12 with
    | true =>
     replace h := iteT rfl h
     refine AW.cond_true (by simp) ?_
     apply AW.step
     ·simp
      intros; rfl
     obtain rfl := Option.some.inj h
     refine AW.ret ?_
     try simp only [sp_l, sp_r, Post.seq, Post.block, Nat.reduceEqDiff, reduceIte, Nat.zero_ne_one, Nat.one_ne_zero]
     refine rP_i ?_
     refine Left.plain hnb (by simp [Try.f26, resV, resC, comp]; rfl) rfl rfl ?_
     simp
    | false =>
     replace h := iteF rfl h
     refine AW.cond_false (by simp) ?_
     refine AW.skip ?_
     try simp only [sp_l, sp_r, Post.seq, Post.block, Nat.reduceEqDiff, reduceIte, Nat.zero_ne_one, Nat.one_ne_zero]
     try simp only [sp_l, sp_r, Post.seq, Post.block, Nat.reduceEqDiff, reduceIte, Nat.zero_ne_one, Nat.one_ne_zero]
     replace h := ltE h; obtain ⟨v13, e13, h⟩ := h
     apply AW.last
     ·simp [← e13]
      intros; rfl
     obtain rfl := Option.some.inj h
     refine nP_i ?_
     refine Weak.mixN [] hn0 (by decide) ?_ ?_ rfl
     all_goals first | (simp [inv_cons, inv_nil, pickOb]; done) | rfl
  | false =>
   replace h := iteF rfl h
   refine AW.cond_false (by simp) ?_
   refine AW.exit ?_
   try simp only [sp_l, sp_r, Post.seq, Post.block, Nat.reduceEqDiff, reduceIte, Nat.zero_ne_one, Nat.one_ne_zero]
   obtain rfl := Option.some.inj h
   try simp only [sp_l, sp_r]
   refine xP_i ?_
   refine Weak.mixN [] hn0 (by decide) ?_ ?_ rfl
   all_goals first | (simp [inv_cons, inv_nil, pickOb]; done) | rfl
 ·rintro e s hp
  rcases y2 with y14 | y15
  ·replace h := smL h
   obtain ⟨rfl, hw⟩ := hp
   refine ⟨_, hw, ?_⟩
   try simp only [sp_l, sp_r, Post.seq, Post.block, Nat.reduceEqDiff, reduceIte, Nat.zero_ne_one, Nat.one_ne_zero]
   apply AW.step
   ·simp
    intros; rfl
   obtain rfl := Option.some.inj h
   refine AW.ret ?_
   refine Left.plain hnb (by simp [Try.f26, resV, resC, comp]; rfl) rfl rfl ?_
   simp
  ·replace h := smR h
   obtain ⟨rfl, hl⟩ := hp
   refine ⟨_, Weak.refl _, ?_⟩
   obtain rfl := Option.some.inj h
   exact hl
theorem en_r1_Has_ff : Enters Try.prog 26 := enters Try.func26 (by kernel_rfl) rfl
def r1_Mix_sh (n : Nat) (a0 : Int) (a1 : List Span) (a2 : List Span) : Option (List Span) :=
bn (r1_marks_sh n a1 a2) fun v1 =>
bn (iter n (fun (y2 : Int × List Span) =>
lt (addI .i64 y2.1 1) fun v5 =>
lt (lenI v1) fun v6 =>
lt (ltI v5 v6) fun v7 =>
ite' v7 (bn (bn (nth v1 y2.1) fun v9 =>
bn (r1_Has_sh n a1 v9) fun v10 =>
bn (r1_Has_ff_sh n a2 v9) fun v11 =>
bn (ite' v10 (some ((true, true))) (some ((false, v11)))) fun (y12 : Bool × Bool) =>
bn (lt (eqI a0 1) fun v14 =>
ite' v14 (lt (y12.1) fun v15 =>
ite' v15 (lt (notB v11) fun v16 =>
some (v16)) (some (false))) (lt (eqI a0 2) fun v17 =>
ite' v17 (lt (y12.1) fun v18 =>
ite' v18 (some (v11)) (some (false))) (some (y12.2)))) fun (y13 : Bool) =>
lt (notB y13) fun v19 =>
ite' v19 (some (y2.2)) (bn (lt (lenI y2.2) fun v21 =>
lt (gtI v21 0) fun v22 =>
ite' v22 (lt (subI .i64 v21 1) fun v23 =>
bn (nth y2.2 v23) fun v24 =>
bn (nth v1 y2.1) fun v26 =>
lt (subI .i64 v26 1) fun v27 =>
lt (eqI v24.to v27) fun v28 =>
some (v28)) (some (false))) fun (y20 : Bool) =>
lt (y20) fun v29 =>
ite' v29 (lt (lenI y2.2) fun v30 =>
lt (subI .i64 v30 1) fun v31 =>
lt (addI .i64 y2.1 1) fun v32 =>
bn (nth v1 v32) fun v33 =>
lt (subI .i64 v33 1) fun v34 =>
bn (nth y2.2 v31) fun v35 =>
lt (y2.2.set v31.toNat (⟨v35.frm, v34⟩ : Span)) fun v37 =>
some (v37)) (bn (nth v1 y2.1) fun v40 =>
lt (addI .i64 y2.1 1) fun v41 =>
bn (nth v1 v41) fun v42 =>
lt (subI .i64 v42 1) fun v43 =>
chk (room (y2.2.length + 1) 16) <|
lt (y2.2 ++ [(⟨v40, v43⟩ : Span)]) fun v45 =>
some (v45)))) fun (y8 : List Span) =>
lt (addI .i64 y2.1 1) fun v46 =>
some (.inl (v46, y8))) (some (.inr y2.2))) (0, [])) fun (y3 : List Span) =>
chk (room y3.length 1) <|
some y3
set_option maxRecDepth 8000 in
set_option maxHeartbeats 8000000 in
theorem s_r1_Mix {n : Nat} {a0 : Int} {a1 : List Span} {a2 : List Span} {r : List Span} (h : r1_Mix_sh n a0 a1 a2 = some r) : Sound Try.prog 42 [.l (.s (.int .i64 a0)), .l (.d true 2 (encSpan a1)), .l (.d false 2 (encSpan a2))] [] (.l (.d false 2 (encSpan r))) [] := by
 unfold r1_Mix_sh at h
 refine Sound.of_aw (fn := Try.f42) (c := _) Try.func42 rfl (by simp [Try.f42]) fun cx hG hnb => ?_
 rw [show Try.f42.ntmps = 102 from rfl]
 have hn0 : cx.nb = 0 := hnb
 simp only [st0_mk, initTm, List.map_cons, List.map_nil]
 apply AW.step
 ·simp
  intros; rfl
 replace h := bnE h; obtain ⟨v1, e1, h⟩ := h
 apply AW.step
 ·simp
  intros
  refine xcall_plain en_r1_marks (s_r1_marks e1) rfl ⟨.d _ _ _, .same rfl, trivial⟩ ?_
  try simp
  intros; rfl
 apply AW.step
 ·simp
  intros; rfl
 refine AW.seq ?_
 apply AW.step
 ·simp
  intros; rfl
 refine AW.block ?_
 replace h := bnE h; obtain ⟨y3, g3, h⟩ := h
 refine AW.iterP g3 (mk := fun gh ls q => (⟨[(0, .l (.s (.int .i64 a0))), (1, .l (.d true 2 (encSpan a1))), (2, .l (.d false 2 (encSpan a2))), (7, .l (.d false 1 (encI v1))), (8, .l (.r 0 2 0 q.2.length)), (9, .l (.s (.int .i64 q.1)))], [some ⟨71, 2, true, none, lvs (encSpan q.2)⟩], 102, gh, ls⟩ : St)) (N := fun gh ls => (xP 0 (cx := cx) (fun q => (⟨[(8, .l (.r 0 2 0 q.length))], [some ⟨71, 2, true, none, lvs (encSpan q)⟩], 102, gh, ls⟩ : St)))) ?_ noX ?_ ?_
 ·refine W.nilRow 8 71 2 0 (by simp) rfl rfl ?_
  refine Weak.mixN [some 0] hn0 (by decide) ?_ ?_ rfl
  all_goals first | (simp [inv_cons, inv_nil, pickOb]; done) | rfl
 ·clear h; intro y2 y4 h
  refine AW.seq ?_
  replace h := ltE h; obtain ⟨v5, e5, h⟩ := h
  replace h := ltE h; obtain ⟨v6, e6, h⟩ := h
  replace h := ltE h; obtain ⟨v7, e7, h⟩ := h
  apply AW.step
  ·simp [← e5, lenI_cast e6, ← e7]
   intros; rfl
  cases v7 with
  | true =>
   replace h := iteT rfl h
   refine AW.cond_true (by simp) ?_
   refine AW.skip ?_
   try simp only [sp_l, sp_r, Post.seq, Post.block, Nat.reduceEqDiff, reduceIte, Nat.zero_ne_one, Nat.one_ne_zero]
   try simp only [sp_l, sp_r, Post.seq, Post.block, Nat.reduceEqDiff, reduceIte, Nat.zero_ne_one, Nat.one_ne_zero]
   replace h := bnE h; obtain ⟨y8, g8, h⟩ := h
   refine AW.flow (p := fun gh ls => (nP (cx := cx) (fun q => (⟨[(0, .l (.s (.int .i64 a0))), (1, .l (.d true 2 (encSpan a1))), (2, .l (.d false 2 (encSpan a2))), (7, .l (.d false 1 (encI v1))), (8, .l (.r 0 2 0 q.length)), (9, .l (.s (.int .i64 y2.1)))], [some ⟨71, 2, true, none, lvs (encSpan q)⟩], 102, gh, ls⟩ : St))) y8) ?_ ?_
   ·replace h := g8; clear g8
    refine AW.block ?_
    replace h := bnE h; obtain ⟨v9, e9, h⟩ := h
    replace h := bnE h; obtain ⟨v10, e10, h⟩ := h
    replace h := bnE h; obtain ⟨v11, e11, h⟩ := h
    apply AW.drawnP (V := [_, _, _, _, _, _, _, _, _, _, _]) mixed [⟨[0], [], [(1, none)], false⟩, ⟨[0], [], [(7, none)], false⟩, ⟨[0], [], [(9, none)], false⟩, ⟨[0], [1, 2], [(24, some 1), (25, some 2)], false⟩, ⟨[0], [1, 2, 3], [(26, some 3)], false⟩, ⟨[0], [0, 1, 2, 3, 4], [(23, some 0), (27, some 4)], false⟩, ⟨[0], [], [(2, none)], false⟩, ⟨[0], [], [(7, none)], false⟩, ⟨[0], [], [(9, none)], false⟩, ⟨[0], [7, 8], [(30, some 7), (31, some 8)], false⟩, ⟨[0], [7, 8, 9], [(32, some 9)], false⟩, ⟨[], [0, 1, 2, 3, 4, 5, 6, 7, 8, 9, 10], [], false⟩, ⟨[], [0, 1, 2, 3, 4, 5, 6, 7, 8, 9, 10, 11], [], false⟩, ⟨[], [0, 1, 2, 3, 4, 5, 6, 7, 8, 9, 10, 11, 12], [], false⟩] 11 (by kernel_rfl) (by kernel_rfl)
    ·refine ⟨?_, ?_, ?_, ?_, ?_, ?_, ?_, ?_, ?_, ?_, ?_, trivial⟩
     ·intro tm hr
      simp [AllL, rdV] at hr
      simp [hr, nth_d e9]
      intros; first | exact KD.mk | exact KD.mkN
     ·intro tm hr
      simp [AllL, rdV] at hr
      simp [hr, nth_d e9]
      intros; first | exact KD.mk | exact KD.mkN
     ·intro tm hr
      simp [AllL, rdV] at hr
      simp [hr, nth_d e9]
      intros; first | exact KD.mk | exact KD.mkN
     ·intro tm hr
      simp [AllL, rdV] at hr
      simp [hr, nth_d e9]
      intros; first | exact KD.mk | exact KD.mkN
     ·intro tm hr
      simp [AllL, rdV] at hr
      simp [hr, nth_d e9]
      intros; first | exact KD.mk | exact KD.mkN
     ·intro tm hr
      simp [AllL, rdV] at hr
      simp [hr, nth_d e9]
      intros
      refine xcall_plain en_r1_Has (s_r1_Has e10) rfl ⟨.d _ _ _, .same rfl, trivial⟩ ?_
      try simp [nth_d e9]
      intros; first | exact KD.mk | exact KD.mkN
     ·intro tm hr
      simp [AllL, rdV] at hr
      simp [hr, nth_d e9]
      intros; first | exact KD.mk | exact KD.mkN
     ·intro tm hr
      simp [AllL, rdV] at hr
      simp [hr, nth_d e9]
      intros; first | exact KD.mk | exact KD.mkN
     ·intro tm hr
      simp [AllL, rdV] at hr
      simp [hr, nth_d e9]
      intros; first | exact KD.mk | exact KD.mkN
     ·intro tm hr
      simp [AllL, rdV] at hr
      simp [hr, nth_d e9]
      intros; first | exact KD.mk | exact KD.mkN
     ·intro tm hr
      simp [AllL, rdV] at hr
      simp [hr, nth_d e9]
      intros; first | exact KD.mk | exact KD.mkN
    ·rfl
    ·simp [tmD, putD, nth_d e9]; rfl
    ·simp [nth_d e9]
     intros
     refine xcall_plain en_r1_Has_ff (s_r1_Has_ff e11) rfl ⟨.same rfl, .same rfl, trivial⟩ ?_
     try simp [nth_d e9]
     intros; rfl
    replace h := bnE h; obtain ⟨y12, g12, h⟩ := h
    refine AW.flow (p := fun gh ls => (nP (cx := cx) (fun q => (⟨[(0, .l (.s (.int .i64 a0))), (1, .l (.d true 2 (encSpan a1))), (2, .l (.d false 2 (encSpan a2))), (7, .l (.d false 1 (encI v1))), (8, .l (.r 0 2 0 y2.2.length)), (9, .l (.s (.int .i64 y2.1))), (10, .l (.s (.bool q.1))), (11, .l (.s (.bool v11))), (12, .l (.s (.bool q.2)))], [some ⟨71, 2, true, none, lvs (encSpan y2.2)⟩], 102, gh, ls⟩ : St))) y12) ?_ ?_
    ·replace h := g12; clear g12
     cases v10 with
     | true =>
      replace h := iteT rfl h
      apply AW.last
      ·simp
       intros; rfl
      obtain rfl := Option.some.inj h
      refine nP_i ?_
      refine Weak.mixN [some 0] hn0 (by decide) ?_ ?_ rfl
      all_goals first | (simp [inv_cons, inv_nil, pickOb]; done) | rfl
     | false =>
      replace h := iteF rfl h
      apply AW.last
      ·simp
       intros; rfl
      obtain rfl := Option.some.inj h
      refine nP_i ?_
      refine Weak.mixN [some 0] hn0 (by decide) ?_ ?_ rfl
      all_goals first | (simp [inv_cons, inv_nil, pickOb]; done) | rfl
    ·rintro e s hp
     obtain ⟨rfl, hw⟩ := hp
     refine ⟨_, hw, ?_⟩
     try simp only [sp_l, sp_r, Post.seq, Post.block, Nat.reduceEqDiff, reduceIte, Nat.zero_ne_one, Nat.one_ne_zero]
     replace h := bnE h; obtain ⟨y13, g13, h⟩ := h
     refine AW.flow (p := fun gh ls => (nP (cx := cx) (fun q => (⟨[(0, .l (.s (.int .i64 a0))), (1, .l (.d true 2 (encSpan a1))), (2, .l (.d false 2 (encSpan a2))), (7, .l (.d false 1 (encI v1))), (8, .l (.r 0 2 0 y2.2.length)), (9, .l (.s (.int .i64 y2.1))), (12, .l (.s (.bool q)))], [some ⟨71, 2, true, none, lvs (encSpan y2.2)⟩], 102, gh, ls⟩ : St))) y13) ?_ ?_
     ·replace h := g13; clear g13
      apply AW.step
      ·simp
       intros; rfl
      refine AW.block ?_
      replace h := ltE h; obtain ⟨v14, e14, h⟩ := h
      apply AW.step
      ·simp [← e14]
       intros; rfl
      cases v14 with
      | true =>
       replace h := iteT rfl h
       refine AW.cond_true (by simp) ?_
       replace h := ltE h; obtain ⟨v15, e15, h⟩ := h
       cases v15 with
       | true =>
        replace h := iteT rfl h
        replace h := ltE h; obtain ⟨v16, e16, h⟩ := h
        apply AW.last
        ·simp [← e15, ← e16]
         intros; rfl
        obtain rfl := Option.some.inj h
        refine nP_i ?_
        refine Weak.mixN [some 0] hn0 (by decide) ?_ ?_ rfl
        all_goals first | (simp [inv_cons, inv_nil, pickOb]; done) | rfl
       | false =>
        replace h := iteF rfl h
        apply AW.last
        ·simp [← e15]
         intros; rfl
        obtain rfl := Option.some.inj h
        refine nP_i ?_
        refine Weak.mixN [some 0] hn0 (by decide) ?_ ?_ rfl
        all_goals first | (simp [inv_cons, inv_nil, pickOb]; done) | rfl
      | false =>
       replace h := iteF rfl h
       refine AW.cond_false (by simp) ?_
       replace h := ltE h; obtain ⟨v17, e17, h⟩ := h
       apply AW.step
       ·simp [← e17]
        intros; rfl
       cases v17 with
       | true =>
        replace h := iteT rfl h
        refine AW.cond_true (by simp) ?_
        replace h := ltE h; obtain ⟨v18, e18, h⟩ := h
        cases v18 with
        | true =>
         replace h := iteT rfl h
         apply AW.last
         ·simp [← e18]
          intros; rfl
         obtain rfl := Option.some.inj h
         refine nP_i ?_
         refine Weak.mixN [some 0] hn0 (by decide) ?_ ?_ rfl
         all_goals first | (simp [inv_cons, inv_nil, pickOb]; done) | rfl
        | false =>
         replace h := iteF rfl h
         apply AW.last
         ·simp [← e18]
          intros; rfl
         obtain rfl := Option.some.inj h
         refine nP_i ?_
         refine Weak.mixN [some 0] hn0 (by decide) ?_ ?_ rfl
         all_goals first | (simp [inv_cons, inv_nil, pickOb]; done) | rfl
       | false =>
        replace h := iteF rfl h
        refine AW.cond_false (by simp) ?_
        refine AW.skip ?_
        try simp only [sp_l, sp_r, Post.seq, Post.block, Nat.reduceEqDiff, reduceIte, Nat.zero_ne_one, Nat.one_ne_zero]
        obtain rfl := Option.some.inj h
        refine nP_i ?_
        refine Weak.mixN [some 0] hn0 (by decide) ?_ ?_ rfl
        all_goals first | (simp [inv_cons, inv_nil, pickOb]; done) | rfl
     ·rintro e s hp
      obtain ⟨rfl, hw⟩ := hp
      refine ⟨_, hw, ?_⟩
      try simp only [sp_l, sp_r, Post.seq, Post.block, Nat.reduceEqDiff, reduceIte, Nat.zero_ne_one, Nat.one_ne_zero]
      refine AW.block ?_
      replace h := ltE h; obtain ⟨v19, e19, h⟩ := h
      apply AW.step
      ·simp [← e19]
       intros; rfl
      cases v19 with
      | true =>
       replace h := iteT rfl h
       refine AW.cond_true (by simp) ?_
       refine AW.exit ?_
       try simp only [sp_l, sp_r, Post.seq, Post.block, Nat.reduceEqDiff, reduceIte, Nat.zero_ne_one, Nat.one_ne_zero]
       obtain rfl := Option.some.inj h
       refine nP_i ?_
       refine Weak.mixN [some 0] hn0 (by decide) ?_ ?_ rfl
       all_goals first | (simp [inv_cons, inv_nil, pickOb]; done) | rfl
      | false =>
       replace h := iteF rfl h
       refine AW.cond_false (by simp) ?_
       replace h := bnE h; obtain ⟨y20, g20, h⟩ := h
       refine AW.flow (p := fun gh ls => (nP (cx := cx) (fun q => (⟨[(0, .l (.s (.int .i64 a0))), (1, .l (.d true 2 (encSpan a1))), (2, .l (.d false 2 (encSpan a2))), (7, .l (.d false 1 (encI v1))), (8, .l (.r 0 2 0 y2.2.length)), (9, .l (.s (.int .i64 y2.1))), (70, .l (.s (.bool q)))], [some ⟨71, 2, true, none, lvs (encSpan y2.2)⟩], 102, gh, ls⟩ : St))) y20) ?_ ?_
       ·replace h := g20; clear g20
        replace h := ltE h; obtain ⟨v21, e21, h⟩ := h
        replace h := ltE h; obtain ⟨v22, e22, h⟩ := h
        cases v22 with
        | true =>
         replace h := iteT rfl h
         replace h := ltE h; obtain ⟨v23, e23, h⟩ := h
         replace h := bnE h; obtain ⟨v24, e24, h⟩ := h
         have f25 := nth_lt e24
         try simp [lenI_cast e21, ← e22, ← e23, nth_d e24] at f25
         replace h := bnE h; obtain ⟨v26, e26, h⟩ := h
         replace h := ltE h; obtain ⟨v27, e27, h⟩ := h
         replace h := ltE h; obtain ⟨v28, e28, h⟩ := h
         apply AW.drawnR (V := [_, _, _, _, _, _, _, _, _, _, _, _, _, _, _, _]) mixed [⟨[0], [], [(8, none)], false⟩, ⟨[0], [0], [(71, some 0)], false⟩, ⟨[0], [0, 1], [(72, some 1)], false⟩, ⟨[0], [0, 1, 2], [(73, some 2)], false⟩, ⟨[0], [0, 1, 2, 3], [(8, none), (74, some 3)], false⟩, ⟨[0], [0, 1, 2, 3], [(8, none), (74, some 3)], false⟩, ⟨[0], [0, 1, 2, 3, 5], [(74, some 3), (76, some 5)], false⟩, ⟨[0], [0, 1, 2, 3, 5, 6], [(74, some 3), (77, some 6)], false⟩, ⟨[0], [0, 1, 2, 3, 4, 5, 6, 7], [(74, some 3), (75, some 4), (78, some 7)], false⟩, ⟨[0], [0, 1, 2, 3, 4, 5, 6, 7, 8], [(74, some 3), (79, some 8)], false⟩, ⟨[0], [0, 1, 2, 3, 4, 5, 6, 7, 8, 9], [(74, some 3), (80, some 9)], false⟩, ⟨[0], [0, 1, 2, 3], [(7, none), (74, some 3)], false⟩, ⟨[0], [0, 1, 2, 3], [(9, none), (74, some 3)], false⟩, ⟨[0], [0, 1, 2, 3, 11, 12], [(74, some 3), (82, some 11), (83, some 12)], false⟩, ⟨[0], [0, 1, 2, 3, 11, 12, 13], [(74, some 3), (84, some 13)], false⟩, ⟨[0], [0, 1, 2, 3, 11, 12, 13, 14], [(74, some 3), (85, some 14)], false⟩, ⟨[], [0, 1, 2, 3, 4, 5, 6, 7, 8, 9, 10, 11, 12, 13, 14, 15], [], false⟩, ⟨[], [0, 1, 2, 3, 4, 5, 6, 7, 8, 9, 10, 11, 12, 13, 14, 15, 16], [], false⟩, ⟨[], [0, 1, 2, 3, 4, 5, 6, 7, 8, 9, 10, 11, 12, 13, 14, 15, 16, 17], [], false⟩] 16 (by kernel_rfl) (by kernel_rfl)
         ·refine ⟨?_, ?_, ?_, ?_, ?_, ?_, ?_, ?_, ?_, ?_, ?_, ?_, ?_, ?_, ?_, ?_, trivial⟩
          ·intro tm hr
           simp [AllL, rdV] at hr
           simp [hr, lenI_cast e21, ← e22, ← e23, nth_d e24, f25, encSpan_cell (nth_d e24).2 (j := 1) (by decide), lvs1, nth_d e26, ← e27, ← e28]
           intros; first | exact KD.mk | exact KD.mkN
          ·intro tm hr
           simp [AllL, rdV] at hr
           simp [hr, lenI_cast e21, ← e22, ← e23, nth_d e24, f25, encSpan_cell (nth_d e24).2 (j := 1) (by decide), lvs1, nth_d e26, ← e27, ← e28]
           intros; first | exact KD.mk | exact KD.mkN
          ·intro tm hr
           simp [AllL, rdV] at hr
           simp [hr, lenI_cast e21, ← e22, ← e23, nth_d e24, f25, encSpan_cell (nth_d e24).2 (j := 1) (by decide), lvs1, nth_d e26, ← e27, ← e28]
           intros; first | exact KD.mk | exact KD.mkN
          ·intro tm hr
           simp [AllL, rdV] at hr
           simp [hr, lenI_cast e21, ← e22, ← e23, nth_d e24, f25, encSpan_cell (nth_d e24).2 (j := 1) (by decide), lvs1, nth_d e26, ← e27, ← e28]
           intros; first | exact KD.mk | exact KD.mkN
          ·intro tm hr
           simp [AllL, rdV] at hr
           simp [hr, lenI_cast e21, ← e22, ← e23, nth_d e24, f25, encSpan_cell (nth_d e24).2 (j := 1) (by decide), lvs1, nth_d e26, ← e27, ← e28]
           intros; first | exact KD.mk | exact KD.mkN
          ·intro tm hr
           simp [AllL, rdV] at hr
           simp [hr, lenI_cast e21, ← e22, ← e23, nth_d e24, f25, encSpan_cell (nth_d e24).2 (j := 1) (by decide), lvs1, nth_d e26, ← e27, ← e28]
           intros; first | exact KD.mk | exact KD.mkN
          ·intro tm hr
           simp [AllL, rdV] at hr
           simp [hr, lenI_cast e21, ← e22, ← e23, nth_d e24, f25, encSpan_cell (nth_d e24).2 (j := 1) (by decide), lvs1, nth_d e26, ← e27, ← e28]
           intros; first | exact KD.mk | exact KD.mkN
          ·intro tm hr
           simp [AllL, rdV] at hr
           simp [hr, lenI_cast e21, ← e22, ← e23, nth_d e24, f25, encSpan_cell (nth_d e24).2 (j := 1) (by decide), lvs1, nth_d e26, ← e27, ← e28]
           intros; first | exact KD.mk | exact KD.mkN
          ·intro tm hr
           simp [AllL, rdV] at hr
           simp [hr, lenI_cast e21, ← e22, ← e23, nth_d e24, f25, encSpan_cell (nth_d e24).2 (j := 1) (by decide), lvs1, nth_d e26, ← e27, ← e28]
           intros; first | exact KD.mk | exact KD.mkN
          ·intro tm hr
           simp [AllL, rdV] at hr
           simp [hr, lenI_cast e21, ← e22, ← e23, nth_d e24, f25, encSpan_cell (nth_d e24).2 (j := 1) (by decide), lvs1, nth_d e26, ← e27, ← e28]
           intros; first | exact KD.mk | exact KD.mkN
          ·intro tm hr
           simp [AllL, rdV] at hr
           simp [hr, lenI_cast e21, ← e22, ← e23, nth_d e24, f25, encSpan_cell (nth_d e24).2 (j := 1) (by decide), lvs1, nth_d e26, ← e27, ← e28]
           intros; first | exact KD.mk | exact KD.mkN
          ·intro tm hr
           simp [AllL, rdV] at hr
           simp [hr, lenI_cast e21, ← e22, ← e23, nth_d e24, f25, encSpan_cell (nth_d e24).2 (j := 1) (by decide), lvs1, nth_d e26, ← e27, ← e28]
           intros; first | exact KD.mk | exact KD.mkN
          ·intro tm hr
           simp [AllL, rdV] at hr
           simp [hr, lenI_cast e21, ← e22, ← e23, nth_d e24, f25, encSpan_cell (nth_d e24).2 (j := 1) (by decide), lvs1, nth_d e26, ← e27, ← e28]
           intros; first | exact KD.mk | exact KD.mkN
          ·intro tm hr
           simp [AllL, rdV] at hr
           simp [hr, lenI_cast e21, ← e22, ← e23, nth_d e24, f25, encSpan_cell (nth_d e24).2 (j := 1) (by decide), lvs1, nth_d e26, ← e27, ← e28]
           intros; first | exact KD.mk | exact KD.mkN
          ·intro tm hr
           simp [AllL, rdV] at hr
           simp [hr, lenI_cast e21, ← e22, ← e23, nth_d e24, f25, encSpan_cell (nth_d e24).2 (j := 1) (by decide), lvs1, nth_d e26, ← e27, ← e28]
           intros; first | exact KD.mk | exact KD.mkN
          ·intro tm hr
           simp [AllL, rdV] at hr
           simp [hr, lenI_cast e21, ← e22, ← e23, nth_d e24, f25, encSpan_cell (nth_d e24).2 (j := 1) (by decide), lvs1, nth_d e26, ← e27, ← e28]
           intros; first | exact KD.mk | exact KD.mkN
         ·rfl
         ·simp [tmD, putD, lenI_cast e21, ← e22, ← e23, nth_d e24, f25, encSpan_cell (nth_d e24).2 (j := 1) (by decide), lvs1, nth_d e26, ← e27, ← e28]; rfl
         ·simp [lenI_cast e21, ← e22, ← e23, nth_d e24, f25, encSpan_cell (nth_d e24).2 (j := 1) (by decide), lvs1, nth_d e26, ← e27, ← e28]
          intros; rfl
         obtain rfl := Option.some.inj h
         refine nP_i ?_
         refine Weak.mixN [some 0] hn0 (by decide) ?_ ?_ rfl
         all_goals first | (simp [inv_cons, inv_nil, pickOb]; done) | rfl
        | false =>
         replace h := iteF rfl h
         apply AW.drawnR (V := [_, _, _, _, _, _, _, _, _, _, _, _, _, _, _, _]) mixed [⟨[0], [], [(8, none)], false⟩, ⟨[0], [0], [(71, some 0)], false⟩, ⟨[0], [0, 1], [(72, some 1)], false⟩, ⟨[0], [0, 1, 2], [(73, some 2)], false⟩, ⟨[0], [0, 1, 2, 3], [(8, none), (74, some 3)], false⟩, ⟨[0], [0, 1, 2, 3], [(8, none), (74, some 3)], false⟩, ⟨[0], [0, 1, 2, 3, 5], [(74, some 3), (76, some 5)], false⟩, ⟨[0], [0, 1, 2, 3, 5, 6], [(74, some 3), (77, some 6)], false⟩, ⟨[0], [0, 1, 2, 3, 4, 5, 6, 7], [(74, some 3), (75, some 4), (78, some 7)], false⟩, ⟨[0], [0, 1, 2, 3, 4, 5, 6, 7, 8], [(74, some 3), (79, some 8)], false⟩, ⟨[0], [0, 1, 2, 3, 4, 5, 6, 7, 8, 9], [(74, some 3), (80, some 9)], false⟩, ⟨[0], [0, 1, 2, 3], [(7, none), (74, some 3)], false⟩, ⟨[0], [0, 1, 2, 3], [(9, none), (74, some 3)], false⟩, ⟨[0], [0, 1, 2, 3, 11, 12], [(74, some 3), (82, some 11), (83, some 12)], false⟩, ⟨[0], [0, 1, 2, 3, 11, 12, 13], [(74, some 3), (84, some 13)], false⟩, ⟨[0], [0, 1, 2, 3, 11, 12, 13, 14], [(74, some 3), (85, some 14)], false⟩, ⟨[], [0, 1, 2, 3, 4, 5, 6, 7, 8, 9, 10, 11, 12, 13, 14, 15], [], false⟩, ⟨[], [0, 1, 2, 3, 4, 5, 6, 7, 8, 9, 10, 11, 12, 13, 14, 15, 16], [], false⟩, ⟨[], [0, 1, 2, 3, 4, 5, 6, 7, 8, 9, 10, 11, 12, 13, 14, 15, 16, 17], [], false⟩] 16 (by kernel_rfl) (by kernel_rfl)
         ·refine ⟨?_, ?_, ?_, ?_, ?_, ?_, ?_, ?_, ?_, ?_, ?_, ?_, ?_, ?_, ?_, ?_, trivial⟩
          ·intro tm hr
           simp [AllL, rdV] at hr
           simp [hr, lenI_cast e21, ← e22]
           intros; first | exact KD.mk | exact KD.mkN
          ·intro tm hr
           simp [AllL, rdV] at hr
           simp [hr, lenI_cast e21, ← e22]
           intros; first | exact KD.mk | exact KD.mkN
          ·intro tm hr
           simp [AllL, rdV] at hr
           simp [hr, lenI_cast e21, ← e22]
           intros; first | exact KD.mk | exact KD.mkN
          ·intro tm hr
           simp [AllL, rdV] at hr
           simp [hr, lenI_cast e21, ← e22]
           intros; first | exact KD.mk | exact KD.mkN
          ·intro tm hr
           simp [AllL, rdV] at hr
           simp [hr, lenI_cast e21, ← e22]
           intros; first | exact KD.mk | exact KD.mkN
          ·intro tm hr
           simp [AllL, rdV] at hr
           simp [hr, lenI_cast e21, ← e22]
           intros; first | exact KD.mk | exact KD.mkN
          ·intro tm hr
           simp [AllL, rdV] at hr
           simp [hr, lenI_cast e21, ← e22]
           intros; first | exact KD.mk | exact KD.mkN
          ·intro tm hr
           simp [AllL, rdV] at hr
           simp [hr, lenI_cast e21, ← e22]
           intros; first | exact KD.mk | exact KD.mkN
          ·intro tm hr
           simp [AllL, rdV] at hr
           simp [hr, lenI_cast e21, ← e22]
           intros; first | exact KD.mk | exact KD.mkN
          ·intro tm hr
           simp [AllL, rdV] at hr
           simp [hr, lenI_cast e21, ← e22]
           intros; first | exact KD.mk | exact KD.mkN
          ·intro tm hr
           simp [AllL, rdV] at hr
           simp [hr, lenI_cast e21, ← e22]
           intros; first | exact KD.mk | exact KD.mkN
          ·intro tm hr
           simp [AllL, rdV] at hr
           simp [hr, lenI_cast e21, ← e22]
           intros; first | exact KD.mk | exact KD.mkN
          ·intro tm hr
           simp [AllL, rdV] at hr
           simp [hr, lenI_cast e21, ← e22]
           intros; first | exact KD.mk | exact KD.mkN
          ·intro tm hr
           simp [AllL, rdV] at hr
           simp [hr, lenI_cast e21, ← e22]
           intros; first | exact KD.mk | exact KD.mkN
          ·intro tm hr
           simp [AllL, rdV] at hr
           simp [hr, lenI_cast e21, ← e22]
           intros; first | exact KD.mk | exact KD.mkN
          ·intro tm hr
           simp [AllL, rdV] at hr
           simp [hr, lenI_cast e21, ← e22]
           intros; first | exact KD.mk | exact KD.mkN
         ·rfl
         ·simp [tmD, putD, lenI_cast e21, ← e22]; rfl
         ·simp [lenI_cast e21, ← e22]
          intros; rfl
         obtain rfl := Option.some.inj h
         refine nP_i ?_
         refine Weak.mixN [some 0] hn0 (by decide) ?_ ?_ rfl
         all_goals first | (simp [inv_cons, inv_nil, pickOb]; done) | rfl
       ·rintro e s hp
        obtain ⟨rfl, hw⟩ := hp
        refine ⟨_, hw, ?_⟩
        try simp only [sp_l, sp_r, Post.seq, Post.block, Nat.reduceEqDiff, reduceIte, Nat.zero_ne_one, Nat.one_ne_zero]
        replace h := ltE h; obtain ⟨v29, e29, h⟩ := h
        rw [← e29]
        cases v29 with
        | true =>
         replace h := iteT rfl h
         refine AW.cond_true (by simp) ?_
         replace h := ltE h; obtain ⟨v30, e30, h⟩ := h
         replace h := ltE h; obtain ⟨v31, e31, h⟩ := h
         replace h := ltE h; obtain ⟨v32, e32, h⟩ := h
         replace h := bnE h; obtain ⟨v33, e33, h⟩ := h
         replace h := ltE h; obtain ⟨v34, e34, h⟩ := h
         replace h := bnE h; obtain ⟨v35, e35, h⟩ := h
         have f36 := nth_lt e35
         try simp [lenI_cast e30, ← e31, ← e32, nth_d e33, ← e34, nth_d e35] at f36
         replace h := ltE h; obtain ⟨v37, e37, h⟩ := h
         have f38 := encSpan_put (nth_d e35).2 e37 (j := 1) (cs := [.s (.int .i64 v34)]) (by simp) rfl
         try simp at f38
         have f39 := f36
         try simp only [set_len e37] at f39
         apply AW.last
         ·simp [lenI_cast e30, ← e31, ← e32, nth_d e33, ← e34, nth_d e35, f36, encSpan_fitj (nth_d e35).2 (j := 1) (m := 1) (by decide), f38, f39]
          intros; rfl
         obtain rfl := Option.some.inj h
         refine nP_i ?_
         refine Weak.mixN [some 0] hn0 (by decide) ?_ ?_ rfl
         all_goals first | (simp [inv_cons, inv_nil, pickOb, set_len e37]; done) | rfl
        | false =>
         replace h := iteF rfl h
         refine AW.cond_false (by simp) ?_
         replace h := bnE h; obtain ⟨v40, e40, h⟩ := h
         replace h := ltE h; obtain ⟨v41, e41, h⟩ := h
         replace h := bnE h; obtain ⟨v42, e42, h⟩ := h
         replace h := ltE h; obtain ⟨v43, e43, h⟩ := h
         replace h := chkE h; obtain ⟨e44, h⟩ := h
         replace h := ltE h; obtain ⟨v45, e45, h⟩ := h
         apply AW.drawnF (V := [_, _, _, _, _, _, _, _, _, _, _, _, _]) (M := [[some ⟨71, 2, true, none, lvs (encSpan y2.2)⟩], [some ⟨71, 2, true, none, lvs (encSpan y2.2)⟩, some ⟨71, 2, true, none, [.s (.int .i64 v40), .s (.int .i64 v43)]⟩]]) mixed [⟨[0, 1], [], [(8, none)], false⟩, ⟨[0], [], [(7, none)], false⟩, ⟨[0], [], [(9, none)], false⟩, ⟨[0], [1, 2], [(54, some 1), (55, some 2)], false⟩, ⟨[0], [1, 2, 3], [(56, some 3)], false⟩, ⟨[0], [], [(7, none)], false⟩, ⟨[0], [], [(9, none)], false⟩, ⟨[0], [6], [(59, some 6)], false⟩, ⟨[0], [5, 6, 7], [(58, some 5), (60, some 7)], false⟩, ⟨[0], [5, 6, 7, 8], [(61, some 8)], false⟩, ⟨[0], [5, 6, 7, 8, 9], [(62, some 9)], false⟩, ⟨[0], [1, 2, 3, 4, 5, 6, 7, 8, 9, 10], [(57, some 4), (63, some 10)], false⟩, ⟨[0], [1, 2, 3, 4, 5, 6, 7, 8, 9, 10, 11], [(64, some 11)], true⟩, ⟨[], [0, 1, 2, 3, 4, 5, 6, 7, 8, 9, 10, 11, 12], [], false⟩, ⟨[], [0, 1, 2, 3, 4, 5, 6, 7, 8, 9, 10, 11, 12, 13], [], false⟩] 13 1 (by kernel_rfl) (by kernel_rfl)
         ·rfl
         ·refine ⟨⟨?_, ?_⟩, ?_, ?_, ?_, ?_, ?_, ?_, ?_, ?_, ?_, ?_, ?_, ?_, trivial⟩
          ·intro tm hr
           simp [AllL, rdV] at hr
           simp [hr, nth_d e40, ← e41, nth_d e42, ← e43, ← encSpan_append, ← e45, app_len1 e45]
           intros; first | exact KD.mk | exact KD.mkN
          ·intro tm hr
           simp [AllL, rdV] at hr
           simp [hr, nth_d e40, ← e41, nth_d e42, ← e43, ← encSpan_append, ← e45, app_len1 e45]
           intros; first | exact KD.mk | exact KD.mkN
          ·intro tm hr
           simp [AllL, rdV] at hr
           simp [hr, nth_d e40, ← e41, nth_d e42, ← e43, ← encSpan_append, ← e45, app_len1 e45]
           intros; first | exact KD.mk | exact KD.mkN
          ·intro tm hr
           simp [AllL, rdV] at hr
           simp [hr, nth_d e40, ← e41, nth_d e42, ← e43, ← encSpan_append, ← e45, app_len1 e45]
           intros; first | exact KD.mk | exact KD.mkN
          ·intro tm hr
           simp [AllL, rdV] at hr
           simp [hr, nth_d e40, ← e41, nth_d e42, ← e43, ← encSpan_append, ← e45, app_len1 e45]
           intros; first | exact KD.mk | exact KD.mkN
          ·intro tm hr
           simp [AllL, rdV] at hr
           simp [hr, nth_d e40, ← e41, nth_d e42, ← e43, ← encSpan_append, ← e45, app_len1 e45]
           intros; first | exact KD.mk | exact KD.mkN
          ·intro tm hr
           simp [AllL, rdV] at hr
           simp [hr, nth_d e40, ← e41, nth_d e42, ← e43, ← encSpan_append, ← e45, app_len1 e45]
           intros; first | exact KD.mk | exact KD.mkN
          ·intro tm hr
           simp [AllL, rdV] at hr
           simp [hr, nth_d e40, ← e41, nth_d e42, ← e43, ← encSpan_append, ← e45, app_len1 e45]
           intros; first | exact KD.mk | exact KD.mkN
          ·intro tm hr
           simp [AllL, rdV] at hr
           simp [hr, nth_d e40, ← e41, nth_d e42, ← e43, ← encSpan_append, ← e45, app_len1 e45]
           intros; first | exact KD.mk | exact KD.mkN
          ·intro tm hr
           simp [AllL, rdV] at hr
           simp [hr, nth_d e40, ← e41, nth_d e42, ← e43, ← encSpan_append, ← e45, app_len1 e45]
           intros; first | exact KD.mk | exact KD.mkN
          ·intro tm hr
           simp [AllL, rdV] at hr
           simp [hr, nth_d e40, ← e41, nth_d e42, ← e43, ← encSpan_append, ← e45, app_len1 e45]
           intros; first | exact KD.mk | exact KD.mkN
          ·intro tm hr
           simp [AllL, rdV] at hr
           simp [hr, nth_d e40, ← e41, nth_d e42, ← e43, ← encSpan_append, ← e45, app_len1 e45]
           intros; first | exact KD.mk | exact KD.mkN
          ·intro tm hr
           simp [AllL, rdV] at hr
           simp [hr, nth_d e40, ← e41, nth_d e42, ← e43, ← encSpan_append, ← e45, app_len1 e45]
           intros; first | exact KD.mk | exact KD.mkN
          ·intro tm hr
           simp [AllL, rdV] at hr
           simp [hr, nth_d e40, ← e41, nth_d e42, ← e43, ← encSpan_append, ← e45, app_len1 e45]
           intros
           refine xrow_own ?_
           try simp [nth_d e40, ← e41, nth_d e42, ← e43, ← encSpan_append, ← e45, app_len1 e45]
           intros; first | exact KD.mk | exact KD.mkN
         ·rfl
         ·simp [tmD, putD, nth_d e40, ← e41, nth_d e42, ← e43, ← encSpan_append, ← e45, app_len1 e45]; rfl
         ·simp [nth_d e40, ← e41, nth_d e42, ← e43, ← encSpan_append, ← e45, app_len1 e45]
          intros
          refine xapp_pushN (acc := encSpan y2.2) (ys := encSpan [(⟨v40, v43⟩ : Span)]) (cap := none) (k := 1) tb_el49 tb_ti71 (by simp) (by simp [encSpan, lvs]) (encSpan_sz _) (by simp) (by simp) (by first | (simp; done) | simpa using (room_d e44).1) ?_
          try simp [nth_d e40, ← e41, nth_d e42, ← e43, ← encSpan_append, ← e45, app_len1 e45]
          intros; rfl
         obtain rfl := Option.some.inj h
         refine nP_i ?_
         refine Weak.mixN [some 2] hn0 (by decide) ?_ ?_ rfl
         all_goals first | (simp [inv_cons, inv_nil, pickOb, lvs_encSpan1]; done) | rfl
   ·rintro e s hp
    obtain ⟨rfl, hw⟩ := hp
    refine ⟨_, hw, ?_⟩
    try simp only [sp_l, sp_r, Post.seq, Post.block, Nat.reduceEqDiff, reduceIte, Nat.zero_ne_one, Nat.one_ne_zero]
    replace h := ltE h; obtain ⟨v46, e46, h⟩ := h
    apply AW.last
    ·simp [← e46]
     intros; rfl
    obtain rfl := Option.some.inj h
    refine nP_i ?_
    refine Weak.mixN [some 0] hn0 (by decide) ?_ ?_ rfl
    all_goals first | (simp [inv_cons, inv_nil, pickOb]; done) | rfl
  | false =>
   replace h := iteF rfl h
   refine AW.cond_false (by simp) ?_
   refine AW.exit ?_
   try simp only [sp_l, sp_r, Post.seq, Post.block, Nat.reduceEqDiff, reduceIte, Nat.zero_ne_one, Nat.one_ne_zero]
   obtain rfl := Option.some.inj h
   refine xP_i ?_
   refine Weak.mixN [some 0] hn0 (by decide) ?_ ?_ rfl
   all_goals first | (simp [inv_cons, inv_nil, pickOb]; done) | rfl
 ·rintro e s hp
  obtain ⟨rfl, hw⟩ := hp
  refine ⟨_, hw, ?_⟩
  try simp only [sp_l, sp_r, Post.seq, Post.block, Nat.reduceEqDiff, reduceIte, Nat.zero_ne_one, Nat.one_ne_zero]
  apply AW.step
  ·simp
   intros; rfl
  replace h := chkE h; obtain ⟨e47, h⟩ := h
  refine AW.frzRow 0 (ty := 71) (cap := none) (sz := 2) (es := encSpan y3) (by simp) (by omega) (encSpan_sz _) (by first | exact (room_d e47).2 | simpa using (room_d e47).2 | simp) (by simp [Tm.frz, AV.frz, LV.frz]; rfl) (by simp [Ob.frz, LV.frz]; rfl) rfl ?_
  obtain rfl := Option.some.inj h
  refine AW.ret ?_
  refine Left.plain hnb (by simp [Try.f42, resV, resC, comp]; rfl) rfl rfl ?_
  simp
theorem en_r1_Mix : Enters Try.prog 42 := enters Try.func42 (by kernel_rfl) rfl
def r1_Norm_sh (n : Nat) (a0 : List Span) : Option (List Span) :=
bn (r1_Mix_sh n 0 a0 []) fun v1 =>
some v1
set_option maxRecDepth 8000 in
set_option maxHeartbeats 8000000 in
theorem s_r1_Norm {n : Nat} {a0 : List Span} {r : List Span} (h : r1_Norm_sh n a0 = some r) : Sound Try.prog 22 [.l (.d true 2 (encSpan a0))] [] (.l (.d false 2 (encSpan r))) [] := by
 unfold r1_Norm_sh at h
 refine Sound.of_aw (fn := Try.f22) (c := _) Try.func22 rfl (by simp [Try.f22]) fun cx hG hnb => ?_
 rw [show Try.f22.ntmps = 5 from rfl]
 have hn0 : cx.nb = 0 := hnb
 simp only [st0_mk, initTm, List.map_cons, List.map_nil]
 apply AW.step
 ·simp
  intros; rfl
 replace h := bnE h; obtain ⟨v1, e1, h⟩ := h
 apply AW.step
 ·simp
  intros
  refine xcall_plain en_r1_Mix (s_r1_Mix e1) rfl ⟨.same rfl, .d _ _ _, .nil _ _, trivial⟩ ?_
  try simp
  intros; rfl
 obtain rfl := Option.some.inj h
 refine AW.ret ?_
 refine Left.plain hnb (by simp [Try.f22, resV, resC, comp]; rfl) rfl rfl ?_
 simp
theorem en_r1_Norm : Enters Try.prog 22 := enters Try.func22 (by kernel_rfl) rfl
def r13_Owned_sh (n : Nat) (a0 : List Claim) (a1 : Int) : Option (List Span) :=
bn (iter n (fun (y1 : Int × List Span) =>
lt (lenI a0) fun v4 =>
lt (ltI y1.1 v4) fun v5 =>
ite' v5 (bn (bn (nth a0 y1.1) fun v7 =>
lt (eqI v7.node a1) fun v8 =>
ite' v8 (chk (room (y1.2.length + 1) 16) <|
lt (y1.2 ++ [(⟨v7.frm, v7.to⟩ : Span)]) fun v10 =>
some (v10)) (some (y1.2))) fun (y6 : List Span) =>
lt (addI .i64 y1.1 1) fun v11 =>
some (.inl (v11, y6))) (some (.inr y1.2))) (0, [])) fun (y2 : List Span) =>
chk (room y2.length 1) <|
bn (r1_Norm_sh n y2) fun v13 =>
some v13
set_option maxRecDepth 8000 in
set_option maxHeartbeats 8000000 in
theorem s_r13_Owned {n : Nat} {a0 : List Claim} {a1 : Int} {r : List Span} (h : r13_Owned_sh n a0 a1 = some r) : Sound Try.prog 13 [.l (.d false 4 (encClaim a0)), .l (.s (.int .i64 a1))] [] (.l (.d false 2 (encSpan r))) [] := by
 unfold r13_Owned_sh at h
 refine Sound.of_aw (fn := Try.f13) (c := _) Try.func13 rfl (by simp [Try.f13]) fun cx hG hnb => ?_
 rw [show Try.f13.ntmps = 36 from rfl]
 have hn0 : cx.nb = 0 := hnb
 simp only [st0_mk, initTm, List.map_cons, List.map_nil]
 apply AW.step
 ·simp
  intros; rfl
 apply AW.step
 ·simp
  intros; rfl
 refine AW.seq ?_
 apply AW.step
 ·simp
  intros; rfl
 refine AW.block ?_
 replace h := bnE h; obtain ⟨y2, g2, h⟩ := h
 refine AW.iterP g2 (mk := fun gh ls q => (⟨[(0, .l (.d false 4 (encClaim a0))), (1, .l (.s (.int .i64 a1))), (5, .l (.r 0 2 0 q.2.length)), (6, .l (.s (.int .i64 q.1)))], [some ⟨71, 2, true, none, lvs (encSpan q.2)⟩], 36, gh, ls⟩ : St)) (N := fun gh ls => (xP 0 (cx := cx) (fun q => (⟨[(5, .l (.r 0 2 0 q.length))], [some ⟨71, 2, true, none, lvs (encSpan q)⟩], 36, gh, ls⟩ : St)))) ?_ noX ?_ ?_
 ·refine W.nilRow 5 71 2 0 (by simp) rfl rfl ?_
  refine Weak.mixN [some 0] hn0 (by decide) ?_ ?_ rfl
  all_goals first | (simp [inv_cons, inv_nil, pickOb]; done) | rfl
 ·clear h; intro y1 y3 h
  refine AW.seq ?_
  replace h := ltE h; obtain ⟨v4, e4, h⟩ := h
  replace h := ltE h; obtain ⟨v5, e5, h⟩ := h
  apply AW.step
  ·simp [lenI_cast e4, ← e5]
   intros; rfl
  cases v5 with
  | true =>
   replace h := iteT rfl h
   refine AW.cond_true (by simp) ?_
   refine AW.skip ?_
   try simp only [sp_l, sp_r, Post.seq, Post.block, Nat.reduceEqDiff, reduceIte, Nat.zero_ne_one, Nat.one_ne_zero]
   try simp only [sp_l, sp_r, Post.seq, Post.block, Nat.reduceEqDiff, reduceIte, Nat.zero_ne_one, Nat.one_ne_zero]
   replace h := bnE h; obtain ⟨y6, g6, h⟩ := h
   refine AW.flow (p := fun gh ls => (nP (cx := cx) (fun q => (⟨[(0, .l (.d false 4 (encClaim a0))), (1, .l (.s (.int .i64 a1))), (5, .l (.r 0 2 0 q.length)), (6, .l (.s (.int .i64 y1.1)))], [some ⟨71, 2, true, none, lvs (encSpan q)⟩], 36, gh, ls⟩ : St))) y6) ?_ ?_
   ·replace h := g6; clear g6
    refine AW.block ?_
    replace h := bnE h; obtain ⟨v7, e7, h⟩ := h
    replace h := ltE h; obtain ⟨v8, e8, h⟩ := h
    apply AW.step
    ·simp [nth_d e7, ← e8]
     intros; rfl
    cases v8 with
    | true =>
     replace h := iteT rfl h
     refine AW.cond_true (by simp) ?_
     replace h := chkE h; obtain ⟨e9, h⟩ := h
     replace h := ltE h; obtain ⟨v10, e10, h⟩ := h
     apply AW.drawnF (V := [_, _, _, _, _, _, _, _, _, _, _, _, _]) (M := [[some ⟨71, 2, true, none, lvs (encSpan y1.2)⟩], [some ⟨71, 2, true, none, lvs (encSpan y1.2)⟩, some ⟨71, 2, true, none, [.s (.int .i64 v7.frm), .s (.int .i64 v7.to)]⟩]]) mixed [⟨[0, 1], [], [(5, none)], false⟩, ⟨[0], [], [(0, none)], false⟩, ⟨[0], [], [(6, none)], false⟩, ⟨[0], [1, 2], [(21, some 1), (22, some 2)], false⟩, ⟨[0], [1, 2, 3], [(23, some 3)], false⟩, ⟨[0], [1, 2, 3, 4], [(24, some 4)], false⟩, ⟨[0], [], [(0, none)], false⟩, ⟨[0], [], [(6, none)], false⟩, ⟨[0], [6, 7], [(26, some 6), (27, some 7)], false⟩, ⟨[0], [6, 7, 8], [(28, some 8)], false⟩, ⟨[0], [6, 7, 8, 9], [(29, some 9)], false⟩, ⟨[0], [1, 2, 3, 4, 5, 6, 7, 8, 9, 10], [(25, some 5), (30, some 10)], false⟩, ⟨[0], [1, 2, 3, 4, 5, 6, 7, 8, 9, 10, 11], [(31, some 11)], true⟩, ⟨[], [0, 1, 2, 3, 4, 5, 6, 7, 8, 9, 10, 11, 12], [], false⟩, ⟨[], [0, 1, 2, 3, 4, 5, 6, 7, 8, 9, 10, 11, 12, 13], [], false⟩] 13 1 (by kernel_rfl) (by kernel_rfl)
     ·rfl
     ·refine ⟨⟨?_, ?_⟩, ?_, ?_, ?_, ?_, ?_, ?_, ?_, ?_, ?_, ?_, ?_, ?_, trivial⟩
      ·intro tm hr
       simp [AllL, rdV] at hr
       simp [hr, nth_d e7, ← encSpan_append, ← e10, app_len1 e10]
       intros; first | exact KD.mk | exact KD.mkN
      ·intro tm hr
       simp [AllL, rdV] at hr
       simp [hr, nth_d e7, ← encSpan_append, ← e10, app_len1 e10]
       intros; first | exact KD.mk | exact KD.mkN
      ·intro tm hr
       simp [AllL, rdV] at hr
       simp [hr, nth_d e7, ← encSpan_append, ← e10, app_len1 e10]
       intros; first | exact KD.mk | exact KD.mkN
      ·intro tm hr
       simp [AllL, rdV] at hr
       simp [hr, nth_d e7, ← encSpan_append, ← e10, app_len1 e10]
       intros; first | exact KD.mk | exact KD.mkN
      ·intro tm hr
       simp [AllL, rdV] at hr
       simp [hr, nth_d e7, ← encSpan_append, ← e10, app_len1 e10]
       intros; first | exact KD.mk | exact KD.mkN
      ·intro tm hr
       simp [AllL, rdV] at hr
       simp [hr, nth_d e7, ← encSpan_append, ← e10, app_len1 e10]
       intros; first | exact KD.mk | exact KD.mkN
      ·intro tm hr
       simp [AllL, rdV] at hr
       simp [hr, nth_d e7, ← encSpan_append, ← e10, app_len1 e10]
       intros; first | exact KD.mk | exact KD.mkN
      ·intro tm hr
       simp [AllL, rdV] at hr
       simp [hr, nth_d e7, ← encSpan_append, ← e10, app_len1 e10]
       intros; first | exact KD.mk | exact KD.mkN
      ·intro tm hr
       simp [AllL, rdV] at hr
       simp [hr, nth_d e7, ← encSpan_append, ← e10, app_len1 e10]
       intros; first | exact KD.mk | exact KD.mkN
      ·intro tm hr
       simp [AllL, rdV] at hr
       simp [hr, nth_d e7, ← encSpan_append, ← e10, app_len1 e10]
       intros; first | exact KD.mk | exact KD.mkN
      ·intro tm hr
       simp [AllL, rdV] at hr
       simp [hr, nth_d e7, ← encSpan_append, ← e10, app_len1 e10]
       intros; first | exact KD.mk | exact KD.mkN
      ·intro tm hr
       simp [AllL, rdV] at hr
       simp [hr, nth_d e7, ← encSpan_append, ← e10, app_len1 e10]
       intros; first | exact KD.mk | exact KD.mkN
      ·intro tm hr
       simp [AllL, rdV] at hr
       simp [hr, nth_d e7, ← encSpan_append, ← e10, app_len1 e10]
       intros; first | exact KD.mk | exact KD.mkN
      ·intro tm hr
       simp [AllL, rdV] at hr
       simp [hr, nth_d e7, ← encSpan_append, ← e10, app_len1 e10]
       intros
       refine xrow_own ?_
       try simp [nth_d e7, ← encSpan_append, ← e10, app_len1 e10]
       intros; first | exact KD.mk | exact KD.mkN
     ·rfl
     ·simp [tmD, putD, nth_d e7, ← encSpan_append, ← e10, app_len1 e10]; rfl
     ·simp [nth_d e7, ← encSpan_append, ← e10, app_len1 e10]
      intros
      refine xapp_pushN (acc := encSpan y1.2) (ys := encSpan [(⟨v7.frm, v7.to⟩ : Span)]) (cap := none) (k := 1) tb_el49 tb_ti71 (by simp) (by simp [encSpan, lvs]) (encSpan_sz _) (by simp) (by simp) (by first | (simp; done) | simpa using (room_d e9).1) ?_
      try simp [nth_d e7, ← encSpan_append, ← e10, app_len1 e10]
      intros; rfl
     obtain rfl := Option.some.inj h
     refine nP_i ?_
     refine Weak.mixN [some 2] hn0 (by decide) ?_ ?_ rfl
     all_goals first | (simp [inv_cons, inv_nil, pickOb, lvs_encSpan1]; done) | rfl
    | false =>
     replace h := iteF rfl h
     refine AW.cond_false (by simp) ?_
     refine AW.skip ?_
     try simp only [sp_l, sp_r, Post.seq, Post.block, Nat.reduceEqDiff, reduceIte, Nat.zero_ne_one, Nat.one_ne_zero]
     obtain rfl := Option.some.inj h
     refine nP_i ?_
     refine Weak.mixN [some 0] hn0 (by decide) ?_ ?_ rfl
     all_goals first | (simp [inv_cons, inv_nil, pickOb]; done) | rfl
   ·rintro e s hp
    obtain ⟨rfl, hw⟩ := hp
    refine ⟨_, hw, ?_⟩
    try simp only [sp_l, sp_r, Post.seq, Post.block, Nat.reduceEqDiff, reduceIte, Nat.zero_ne_one, Nat.one_ne_zero]
    replace h := ltE h; obtain ⟨v11, e11, h⟩ := h
    apply AW.last
    ·simp [← e11]
     intros; rfl
    obtain rfl := Option.some.inj h
    refine nP_i ?_
    refine Weak.mixN [some 0] hn0 (by decide) ?_ ?_ rfl
    all_goals first | (simp [inv_cons, inv_nil, pickOb]; done) | rfl
  | false =>
   replace h := iteF rfl h
   refine AW.cond_false (by simp) ?_
   refine AW.exit ?_
   try simp only [sp_l, sp_r, Post.seq, Post.block, Nat.reduceEqDiff, reduceIte, Nat.zero_ne_one, Nat.one_ne_zero]
   obtain rfl := Option.some.inj h
   refine xP_i ?_
   refine Weak.mixN [some 0] hn0 (by decide) ?_ ?_ rfl
   all_goals first | (simp [inv_cons, inv_nil, pickOb]; done) | rfl
 ·rintro e s hp
  obtain ⟨rfl, hw⟩ := hp
  refine ⟨_, hw, ?_⟩
  try simp only [sp_l, sp_r, Post.seq, Post.block, Nat.reduceEqDiff, reduceIte, Nat.zero_ne_one, Nat.one_ne_zero]
  replace h := chkE h; obtain ⟨e12, h⟩ := h
  replace h := bnE h; obtain ⟨v13, e13, h⟩ := h
  apply AW.step
  ·simp
   intros
   refine xcall_plain en_r1_Norm (s_r1_Norm e13) rfl ⟨.rowd (by simp) rfl (by omega) (encSpan_sz _) (by simp) (by first | exact (room_d e12).2 | simpa using (room_d e12).2 | simp), trivial⟩ ?_
   try simp
   intros; rfl
  obtain rfl := Option.some.inj h
  refine AW.ret ?_
  refine Left.plain hnb (by simp [Try.f13, resV, resC, comp]; rfl) rfl rfl ?_
  simp
theorem en_r13_Owned : Enters Try.prog 13 := enters Try.func13 (by kernel_rfl) rfl
def r1_marks_ff_sh (n : Nat) (a0 : List Span) (a1 : List Span) : Option (List Int) :=
chk (room 2 1) <|
bn (iter n (fun (y1 : List Int × Int) =>
lt (lenI a0) fun v5 =>
lt (lenI a1) fun v6 =>
lt (addI .i64 v5 v6) fun v7 =>
lt (ltI y1.2 v7) fun v8 =>
ite' v8 (bn (bn (lt (ltI y1.2 v5) fun v11 =>
ite' v11 (bn (nth a0 y1.2) fun v12 =>
some (v12)) (lt (subI .i64 y1.2 v5) fun v13 =>
bn (nth a1 v13) fun v14 =>
some (v14))) fun (y10 : Span) =>
bn (lt (leI y10.frm y10.to) fun v16 =>
ite' v16 (bn (r1_Mark_sh n y1.1 y10.frm) fun v17 =>
some (v17)) (some (y1.1))) fun (y15 : List Int) =>
bn (lt (leI y10.frm y10.to) fun v19 =>
ite' v19 (lt (ltI y10.to 16384) fun v20 =>
some (v20)) (some (false))) fun (y18 : Bool) =>
lt (y18) fun v21 =>
ite' v21 (lt (addI .i64 y10.to 1) fun v22 =>
bn (r1_Mark_sh n y15 v22) fun v23 =>
some (v23)) (some (y15))) fun (y9 : List Int) =>
lt (addI .i64 y1.2 1) fun v24 =>
some (.inl (y9, v24))) (some (.inr y1.1))) ([0, 16384], 0)) fun (y2 : List Int) =>
some y2
set_option maxRecDepth 8000 in
set_option maxHeartbeats 8000000 in
theorem s_r1_marks_ff {n : Nat} {a0 : List Span} {a1 : List Span} {r : List Int} (h : r1_marks_ff_sh n a0 a1 = some r) : Sound Try.prog 54 [.l (.d false 2 (encSpan a0)), .l (.d false 2 (encSpan a1))] [] (.l (.d false 1 (encI r))) [] := by
 unfold r1_marks_ff_sh at h
 refine Sound.of_aw (fn := Try.f54) (c := _) Try.func54 rfl (by simp [Try.f54]) fun cx hG hnb => ?_
 rw [show Try.f54.ntmps = 59 from rfl]
 have hn0 : cx.nb = 0 := hnb
 simp only [st0_mk, initTm, List.map_cons, List.map_nil]
 apply AW.step
 ·simp
  intros; rfl
 apply AW.step
 ·simp
  intros
  refine xrow_own ?_
  try simp
  intros; rfl
 refine AW.seq ?_
 apply AW.step
 ·simp
  intros; rfl
 refine AW.block ?_
 replace h := chkE h; obtain ⟨e3, h⟩ := h
 replace h := bnE h; obtain ⟨y2, g2, h⟩ := h
 refine AW.iterP g2 (mk := fun gh ls q => (⟨[(0, .l (.d false 2 (encSpan a0))), (1, .l (.d false 2 (encSpan a1))), (5, .l (.d false 1 (encI q.1))), (6, .l (.s (.int .i64 q.2)))], [], 59, gh, ls⟩ : St)) (N := fun gh ls => (xP 0 (cx := cx) (fun q => (⟨[(5, .l (.d false 1 (encI q)))], [], 59, gh, ls⟩ : St)))) ?_ noX ?_ ?_
 ·refine W.frzRow 0 (ty := 3) (cap := none) (sz := 1) (es := encI [0, 16384]) (by simp [encI, lvs]) (by omega) (encI_sz _) (by first | exact (room_d e3).2 | simpa using (room_d e3).2 | simp) (by simp [Tm.frz, AV.frz, LV.frz, (show List.take 2 (encI [0, 16384]) = encI [0, 16384] from rfl)]; rfl) (by simp [Ob.frz, LV.frz, (show List.take 2 (encI [0, 16384]) = encI [0, 16384] from rfl)]; rfl) rfl ?_
  refine Weak.mixN [] hn0 (by decide) ?_ ?_ rfl
  all_goals first | (simp [inv_cons, inv_nil, pickOb]; done) | rfl
 ·clear h; intro y1 y4 h
  refine AW.seq ?_
  replace h := ltE h; obtain ⟨v5, e5, h⟩ := h
  replace h := ltE h; obtain ⟨v6, e6, h⟩ := h
  replace h := ltE h; obtain ⟨v7, e7, h⟩ := h
  replace h := ltE h; obtain ⟨v8, e8, h⟩ := h
  apply AW.step
  ·simp [lenI_cast e5, lenI_cast e6, ← e7, ← e8]
   intros; rfl
  cases v8 with
  | true =>
   replace h := iteT rfl h
   refine AW.cond_true (by simp) ?_
   refine AW.skip ?_
   try simp only [sp_l, sp_r, Post.seq, Post.block, Nat.reduceEqDiff, reduceIte, Nat.zero_ne_one, Nat.one_ne_zero]
   try simp only [sp_l, sp_r, Post.seq, Post.block, Nat.reduceEqDiff, reduceIte, Nat.zero_ne_one, Nat.one_ne_zero]
   replace h := bnE h; obtain ⟨y9, g9, h⟩ := h
   refine AW.flow (p := fun gh ls => (nP (cx := cx) (fun q => (⟨[(0, .l (.d false 2 (encSpan a0))), (1, .l (.d false 2 (encSpan a1))), (5, .l (.d false 1 (encI q))), (6, .l (.s (.int .i64 y1.2)))], [], 59, gh, ls⟩ : St))) y9) ?_ ?_
   ·replace h := g9; clear g9
    refine AW.block ?_
    apply AW.step
    ·simp
     intros; rfl
    replace h := bnE h; obtain ⟨y10, g10, h⟩ := h
    refine AW.flow (p := fun gh ls => (nP (cx := cx) (fun q => (⟨[(0, .l (.d false 2 (encSpan a0))), (1, .l (.d false 2 (encSpan a1))), (5, .l (.d false 1 (encI y1.1))), (6, .l (.s (.int .i64 y1.2))), (7, .l (.p 0 0))], [some ⟨71, 2, false, none, [.s (.int .i64 q.frm), .s (.int .i64 q.to)]⟩], 59, gh, ls⟩ : St))) y10) ?_ ?_
    ·replace h := g10; clear g10
     replace h := ltE h; obtain ⟨v11, e11, h⟩ := h
     apply AW.step
     ·simp [lenI_cast e5, ← e11]
      intros; rfl
     cases v11 with
     | true =>
      replace h := iteT rfl h
      refine AW.cond_true (by simp) ?_
      replace h := bnE h; obtain ⟨v12, e12, h⟩ := h
      apply AW.last
      ·simp [nth_d e12]
       intros; rfl
      obtain rfl := Option.some.inj h
      refine nP_i ?_
      refine Weak.mixN [some 0] hn0 (by decide) ?_ ?_ rfl
      all_goals first | (simp [inv_cons, inv_nil, pickOb]; done) | rfl
     | false =>
      replace h := iteF rfl h
      refine AW.cond_false (by simp) ?_
      replace h := ltE h; obtain ⟨v13, e13, h⟩ := h
      replace h := bnE h; obtain ⟨v14, e14, h⟩ := h
      apply AW.last
      ·simp [lenI_cast e5, ← e13, nth_d e14]
       intros; rfl
      obtain rfl := Option.some.inj h
      refine nP_i ?_
      refine Weak.mixN [some 0] hn0 (by decide) ?_ ?_ rfl
      all_goals first | (simp [inv_cons, inv_nil, pickOb]; done) | rfl
    ·rintro e s hp
     obtain ⟨rfl, hw⟩ := hp
     refine ⟨_, hw, ?_⟩
     try simp only [sp_l, sp_r, Post.seq, Post.block, Nat.reduceEqDiff, reduceIte, Nat.zero_ne_one, Nat.one_ne_zero]
     replace h := bnE h; obtain ⟨y15, g15, h⟩ := h
     refine AW.flow (p := fun gh ls => (nP (cx := cx) (fun q => (⟨[(0, .l (.d false 2 (encSpan a0))), (1, .l (.d false 2 (encSpan a1))), (5, .l (.d false 1 (encI q))), (6, .l (.s (.int .i64 y1.2))), (7, .l (.p 0 0))], [some ⟨71, 2, false, none, [.s (.int .i64 y10.frm), .s (.int .i64 y10.to)]⟩], 59, gh, ls⟩ : St))) y15) ?_ ?_
     ·replace h := g15; clear g15
      replace h := ltE h; obtain ⟨v16, e16, h⟩ := h
      apply AW.step
      ·simp [← e16]
       intros; rfl
      cases v16 with
      | true =>
       replace h := iteT rfl h
       refine AW.cond_true (by simp) ?_
       replace h := bnE h; obtain ⟨v17, e17, h⟩ := h
       apply AW.last
       ·simp
        intros
        refine xcall_plain en_r1_Mark (s_r1_Mark e17) rfl ⟨.same rfl, .same rfl, trivial⟩ ?_
        try simp
        intros; rfl
       obtain rfl := Option.some.inj h
       refine nP_i ?_
       refine Weak.mixN [some 0] hn0 (by decide) ?_ ?_ rfl
       all_goals first | (simp [inv_cons, inv_nil, pickOb]; done) | rfl
      | false =>
       replace h := iteF rfl h
       refine AW.cond_false (by simp) ?_
       refine AW.skip ?_
       try simp only [sp_l, sp_r, Post.seq, Post.block, Nat.reduceEqDiff, reduceIte, Nat.zero_ne_one, Nat.one_ne_zero]
       obtain rfl := Option.some.inj h
       refine nP_i ?_
       refine Weak.mixN [some 0] hn0 (by decide) ?_ ?_ rfl
       all_goals first | (simp [inv_cons, inv_nil, pickOb]; done) | rfl
     ·rintro e s hp
      obtain ⟨rfl, hw⟩ := hp
      refine ⟨_, hw, ?_⟩
      try simp only [sp_l, sp_r, Post.seq, Post.block, Nat.reduceEqDiff, reduceIte, Nat.zero_ne_one, Nat.one_ne_zero]
      replace h := bnE h; obtain ⟨y18, g18, h⟩ := h
      refine AW.flow (p := fun gh ls => (nP (cx := cx) (fun q => (⟨[(0, .l (.d false 2 (encSpan a0))), (1, .l (.d false 2 (encSpan a1))), (5, .l (.d false 1 (encI y15))), (6, .l (.s (.int .i64 y1.2))), (7, .l (.p 0 0)), (52, .l (.s (.bool q)))], [some ⟨71, 2, false, none, [.s (.int .i64 y10.frm), .s (.int .i64 y10.to)]⟩], 59, gh, ls⟩ : St))) y18) ?_ ?_
      ·replace h := g18; clear g18
       replace h := ltE h; obtain ⟨v19, e19, h⟩ := h
       cases v19 with
       | true =>
        replace h := iteT rfl h
        replace h := ltE h; obtain ⟨v20, e20, h⟩ := h
        apply AW.last
        ·simp [← e19, ← e20]
         intros; rfl
        obtain rfl := Option.some.inj h
        refine nP_i ?_
        refine Weak.mixN [some 0] hn0 (by decide) ?_ ?_ rfl
        all_goals first | (simp [inv_cons, inv_nil, pickOb]; done) | rfl
       | false =>
        replace h := iteF rfl h
        apply AW.last
        ·simp [← e19]
         intros; rfl
        obtain rfl := Option.some.inj h
        refine nP_i ?_
        refine Weak.mixN [some 0] hn0 (by decide) ?_ ?_ rfl
        all_goals first | (simp [inv_cons, inv_nil, pickOb]; done) | rfl
      ·rintro e s hp
       obtain ⟨rfl, hw⟩ := hp
       refine ⟨_, hw, ?_⟩
       try simp only [sp_l, sp_r, Post.seq, Post.block, Nat.reduceEqDiff, reduceIte, Nat.zero_ne_one, Nat.one_ne_zero]
       replace h := ltE h; obtain ⟨v21, e21, h⟩ := h
       rw [← e21]
       cases v21 with
       | true =>
        replace h := iteT rfl h
        refine AW.cond_true (by simp) ?_
        replace h := ltE h; obtain ⟨v22, e22, h⟩ := h
        replace h := bnE h; obtain ⟨v23, e23, h⟩ := h
        apply AW.last
        ·simp [← e22]
         intros
         refine xcall_plain en_r1_Mark (s_r1_Mark e23) rfl ⟨.same rfl, .same rfl, trivial⟩ ?_
         try simp [← e22]
         intros; rfl
        obtain rfl := Option.some.inj h
        refine nP_i ?_
        refine Weak.mixN [] hn0 (by decide) ?_ ?_ rfl
        all_goals first | (simp [inv_cons, inv_nil, pickOb]; done) | rfl
       | false =>
        replace h := iteF rfl h
        refine AW.cond_false (by simp) ?_
        refine AW.skip ?_
        try simp only [sp_l, sp_r, Post.seq, Post.block, Nat.reduceEqDiff, reduceIte, Nat.zero_ne_one, Nat.one_ne_zero]
        obtain rfl := Option.some.inj h
        refine nP_i ?_
        refine Weak.mixN [] hn0 (by decide) ?_ ?_ rfl
        all_goals first | (simp [inv_cons, inv_nil, pickOb]; done) | rfl
   ·rintro e s hp
    obtain ⟨rfl, hw⟩ := hp
    refine ⟨_, hw, ?_⟩
    try simp only [sp_l, sp_r, Post.seq, Post.block, Nat.reduceEqDiff, reduceIte, Nat.zero_ne_one, Nat.one_ne_zero]
    replace h := ltE h; obtain ⟨v24, e24, h⟩ := h
    apply AW.last
    ·simp [← e24]
     intros; rfl
    obtain rfl := Option.some.inj h
    refine nP_i ?_
    refine Weak.mixN [] hn0 (by decide) ?_ ?_ rfl
    all_goals first | (simp [inv_cons, inv_nil, pickOb]; done) | rfl
  | false =>
   replace h := iteF rfl h
   refine AW.cond_false (by simp) ?_
   refine AW.exit ?_
   try simp only [sp_l, sp_r, Post.seq, Post.block, Nat.reduceEqDiff, reduceIte, Nat.zero_ne_one, Nat.one_ne_zero]
   obtain rfl := Option.some.inj h
   refine xP_i ?_
   refine Weak.mixN [] hn0 (by decide) ?_ ?_ rfl
   all_goals first | (simp [inv_cons, inv_nil, pickOb]; done) | rfl
 ·rintro e s hp
  obtain ⟨rfl, hw⟩ := hp
  refine ⟨_, hw, ?_⟩
  try simp only [sp_l, sp_r, Post.seq, Post.block, Nat.reduceEqDiff, reduceIte, Nat.zero_ne_one, Nat.one_ne_zero]
  apply AW.step
  ·simp
   intros; rfl
  obtain rfl := Option.some.inj h
  refine AW.ret ?_
  refine Left.plain hnb (by simp [Try.f54, resV, resC, comp]; rfl) rfl rfl ?_
  simp
theorem en_r1_marks_ff : Enters Try.prog 54 := enters Try.func54 (by kernel_rfl) rfl
def r1_Mix_fff_sh (n : Nat) (a0 : Int) (a1 : List Span) (a2 : List Span) : Option (List Span) :=
bn (r1_marks_ff_sh n a1 a2) fun v1 =>
bn (iter n (fun (y2 : Int × List Span) =>
lt (addI .i64 y2.1 1) fun v5 =>
lt (lenI v1) fun v6 =>
lt (ltI v5 v6) fun v7 =>
ite' v7 (bn (bn (nth v1 y2.1) fun v9 =>
bn (r1_Has_ff_sh n a1 v9) fun v10 =>
bn (r1_Has_ff_sh n a2 v9) fun v11 =>
bn (ite' v10 (some ((true, true))) (some ((false, v11)))) fun (y12 : Bool × Bool) =>
bn (lt (eqI a0 1) fun v14 =>
ite' v14 (lt (y12.1) fun v15 =>
ite' v15 (lt (notB v11) fun v16 =>
some (v16)) (some (false))) (lt (eqI a0 2) fun v17 =>
ite' v17 (lt (y12.1) fun v18 =>
ite' v18 (some (v11)) (some (false))) (some (y12.2)))) fun (y13 : Bool) =>
lt (notB y13) fun v19 =>
ite' v19 (some (y2.2)) (bn (lt (lenI y2.2) fun v21 =>
lt (gtI v21 0) fun v22 =>
ite' v22 (lt (subI .i64 v21 1) fun v23 =>
bn (nth y2.2 v23) fun v24 =>
bn (nth v1 y2.1) fun v26 =>
lt (subI .i64 v26 1) fun v27 =>
lt (eqI v24.to v27) fun v28 =>
some (v28)) (some (false))) fun (y20 : Bool) =>
lt (y20) fun v29 =>
ite' v29 (lt (lenI y2.2) fun v30 =>
lt (subI .i64 v30 1) fun v31 =>
lt (addI .i64 y2.1 1) fun v32 =>
bn (nth v1 v32) fun v33 =>
lt (subI .i64 v33 1) fun v34 =>
bn (nth y2.2 v31) fun v35 =>
lt (y2.2.set v31.toNat (⟨v35.frm, v34⟩ : Span)) fun v37 =>
some (v37)) (bn (nth v1 y2.1) fun v40 =>
lt (addI .i64 y2.1 1) fun v41 =>
bn (nth v1 v41) fun v42 =>
lt (subI .i64 v42 1) fun v43 =>
chk (room (y2.2.length + 1) 16) <|
lt (y2.2 ++ [(⟨v40, v43⟩ : Span)]) fun v45 =>
some (v45)))) fun (y8 : List Span) =>
lt (addI .i64 y2.1 1) fun v46 =>
some (.inl (v46, y8))) (some (.inr y2.2))) (0, [])) fun (y3 : List Span) =>
chk (room y3.length 1) <|
some y3
set_option maxRecDepth 8000 in
set_option maxHeartbeats 8000000 in
theorem s_r1_Mix_fff {n : Nat} {a0 : Int} {a1 : List Span} {a2 : List Span} {r : List Span} (h : r1_Mix_fff_sh n a0 a1 a2 = some r) : Sound Try.prog 42 [.l (.s (.int .i64 a0)), .l (.d false 2 (encSpan a1)), .l (.d false 2 (encSpan a2))] [] (.l (.d false 2 (encSpan r))) [] := by
 unfold r1_Mix_fff_sh at h
 refine Sound.of_aw (fn := Try.f42) (c := _) Try.func42 rfl (by simp [Try.f42]) fun cx hG hnb => ?_
 rw [show Try.f42.ntmps = 102 from rfl]
 have hn0 : cx.nb = 0 := hnb
 simp only [st0_mk, initTm, List.map_cons, List.map_nil]
 apply AW.step
 ·simp
  intros; rfl
 replace h := bnE h; obtain ⟨v1, e1, h⟩ := h
 apply AW.step
 ·simp
  intros
  refine xcall_plain en_r1_marks_ff (s_r1_marks_ff e1) rfl ⟨.same rfl, .same rfl, trivial⟩ ?_
  try simp
  intros; rfl
 apply AW.step
 ·simp
  intros; rfl
 refine AW.seq ?_
 apply AW.step
 ·simp
  intros; rfl
 refine AW.block ?_
 replace h := bnE h; obtain ⟨y3, g3, h⟩ := h
 refine AW.iterP g3 (mk := fun gh ls q => (⟨[(0, .l (.s (.int .i64 a0))), (1, .l (.d false 2 (encSpan a1))), (2, .l (.d false 2 (encSpan a2))), (7, .l (.d false 1 (encI v1))), (8, .l (.r 0 2 0 q.2.length)), (9, .l (.s (.int .i64 q.1)))], [some ⟨71, 2, true, none, lvs (encSpan q.2)⟩], 102, gh, ls⟩ : St)) (N := fun gh ls => (xP 0 (cx := cx) (fun q => (⟨[(8, .l (.r 0 2 0 q.length))], [some ⟨71, 2, true, none, lvs (encSpan q)⟩], 102, gh, ls⟩ : St)))) ?_ noX ?_ ?_
 ·refine W.nilRow 8 71 2 0 (by simp) rfl rfl ?_
  refine Weak.mixN [some 0] hn0 (by decide) ?_ ?_ rfl
  all_goals first | (simp [inv_cons, inv_nil, pickOb]; done) | rfl
 ·clear h; intro y2 y4 h
  refine AW.seq ?_
  replace h := ltE h; obtain ⟨v5, e5, h⟩ := h
  replace h := ltE h; obtain ⟨v6, e6, h⟩ := h
  replace h := ltE h; obtain ⟨v7, e7, h⟩ := h
  apply AW.step
  ·simp [← e5, lenI_cast e6, ← e7]
   intros; rfl
  cases v7 with
  | true =>
   replace h := iteT rfl h
   refine AW.cond_true (by simp) ?_
   refine AW.skip ?_
   try simp only [sp_l, sp_r, Post.seq, Post.block, Nat.reduceEqDiff, reduceIte, Nat.zero_ne_one, Nat.one_ne_zero]
   try simp only [sp_l, sp_r, Post.seq, Post.block, Nat.reduceEqDiff, reduceIte, Nat.zero_ne_one, Nat.one_ne_zero]
   replace h := bnE h; obtain ⟨y8, g8, h⟩ := h
   refine AW.flow (p := fun gh ls => (nP (cx := cx) (fun q => (⟨[(0, .l (.s (.int .i64 a0))), (1, .l (.d false 2 (encSpan a1))), (2, .l (.d false 2 (encSpan a2))), (7, .l (.d false 1 (encI v1))), (8, .l (.r 0 2 0 q.length)), (9, .l (.s (.int .i64 y2.1)))], [some ⟨71, 2, true, none, lvs (encSpan q)⟩], 102, gh, ls⟩ : St))) y8) ?_ ?_
   ·replace h := g8; clear g8
    refine AW.block ?_
    replace h := bnE h; obtain ⟨v9, e9, h⟩ := h
    replace h := bnE h; obtain ⟨v10, e10, h⟩ := h
    replace h := bnE h; obtain ⟨v11, e11, h⟩ := h
    apply AW.drawnP (V := [_, _, _, _, _, _, _, _, _, _, _]) mixed [⟨[0], [], [(1, none)], false⟩, ⟨[0], [], [(7, none)], false⟩, ⟨[0], [], [(9, none)], false⟩, ⟨[0], [1, 2], [(24, some 1), (25, some 2)], false⟩, ⟨[0], [1, 2, 3], [(26, some 3)], false⟩, ⟨[0], [0, 1, 2, 3, 4], [(23, some 0), (27, some 4)], false⟩, ⟨[0], [], [(2, none)], false⟩, ⟨[0], [], [(7, none)], false⟩, ⟨[0], [], [(9, none)], false⟩, ⟨[0], [7, 8], [(30, some 7), (31, some 8)], false⟩, ⟨[0], [7, 8, 9], [(32, some 9)], false⟩, ⟨[], [0, 1, 2, 3, 4, 5, 6, 7, 8, 9, 10], [], false⟩, ⟨[], [0, 1, 2, 3, 4, 5, 6, 7, 8, 9, 10, 11], [], false⟩, ⟨[], [0, 1, 2, 3, 4, 5, 6, 7, 8, 9, 10, 11, 12], [], false⟩] 11 (by kernel_rfl) (by kernel_rfl)
    ·refine ⟨?_, ?_, ?_, ?_, ?_, ?_, ?_, ?_, ?_, ?_, ?_, trivial⟩
     ·intro tm hr
      simp [AllL, rdV] at hr
      simp [hr, nth_d e9]
      intros; first | exact KD.mk | exact KD.mkN
     ·intro tm hr
      simp [AllL, rdV] at hr
      simp [hr, nth_d e9]
      intros; first | exact KD.mk | exact KD.mkN
     ·intro tm hr
      simp [AllL, rdV] at hr
      simp [hr, nth_d e9]
      intros; first | exact KD.mk | exact KD.mkN
     ·intro tm hr
      simp [AllL, rdV] at hr
      simp [hr, nth_d e9]
      intros; first | exact KD.mk | exact KD.mkN
     ·intro tm hr
      simp [AllL, rdV] at hr
      simp [hr, nth_d e9]
      intros; first | exact KD.mk | exact KD.mkN
     ·intro tm hr
      simp [AllL, rdV] at hr
      simp [hr, nth_d e9]
      intros
      refine xcall_plain en_r1_Has_ff (s_r1_Has_ff e10) rfl ⟨.same rfl, .same rfl, trivial⟩ ?_
      try simp [nth_d e9]
      intros; first | exact KD.mk | exact KD.mkN
     ·intro tm hr
      simp [AllL, rdV] at hr
      simp [hr, nth_d e9]
      intros; first | exact KD.mk | exact KD.mkN
     ·intro tm hr
      simp [AllL, rdV] at hr
      simp [hr, nth_d e9]
      intros; first | exact KD.mk | exact KD.mkN
     ·intro tm hr
      simp [AllL, rdV] at hr
      simp [hr, nth_d e9]
      intros; first | exact KD.mk | exact KD.mkN
     ·intro tm hr
      simp [AllL, rdV] at hr
      simp [hr, nth_d e9]
      intros; first | exact KD.mk | exact KD.mkN
     ·intro tm hr
      simp [AllL, rdV] at hr
      simp [hr, nth_d e9]
      intros; first | exact KD.mk | exact KD.mkN
    ·rfl
    ·simp [tmD, putD, nth_d e9]; rfl
    ·simp [nth_d e9]
     intros
     refine xcall_plain en_r1_Has_ff (s_r1_Has_ff e11) rfl ⟨.same rfl, .same rfl, trivial⟩ ?_
     try simp [nth_d e9]
     intros; rfl
    replace h := bnE h; obtain ⟨y12, g12, h⟩ := h
    refine AW.flow (p := fun gh ls => (nP (cx := cx) (fun q => (⟨[(0, .l (.s (.int .i64 a0))), (1, .l (.d false 2 (encSpan a1))), (2, .l (.d false 2 (encSpan a2))), (7, .l (.d false 1 (encI v1))), (8, .l (.r 0 2 0 y2.2.length)), (9, .l (.s (.int .i64 y2.1))), (10, .l (.s (.bool q.1))), (11, .l (.s (.bool v11))), (12, .l (.s (.bool q.2)))], [some ⟨71, 2, true, none, lvs (encSpan y2.2)⟩], 102, gh, ls⟩ : St))) y12) ?_ ?_
    ·replace h := g12; clear g12
     cases v10 with
     | true =>
      replace h := iteT rfl h
      apply AW.last
      ·simp
       intros; rfl
      obtain rfl := Option.some.inj h
      refine nP_i ?_
      refine Weak.mixN [some 0] hn0 (by decide) ?_ ?_ rfl
      all_goals first | (simp [inv_cons, inv_nil, pickOb]; done) | rfl
     | false =>
      replace h := iteF rfl h
      apply AW.last
      ·simp
       intros; rfl
      obtain rfl := Option.some.inj h
      refine nP_i ?_
      refine Weak.mixN [some 0] hn0 (by decide) ?_ ?_ rfl
      all_goals first | (simp [inv_cons, inv_nil, pickOb]; done) | rfl
    ·rintro e s hp
     obtain ⟨rfl, hw⟩ := hp
     refine ⟨_, hw, ?_⟩
     try simp only [sp_l, sp_r, Post.seq, Post.block, Nat.reduceEqDiff, reduceIte, Nat.zero_ne_one, Nat.one_ne_zero]
     replace h := bnE h; obtain ⟨y13, g13, h⟩ := h
     refine AW.flow (p := fun gh ls => (nP (cx := cx) (fun q => (⟨[(0, .l (.s (.int .i64 a0))), (1, .l (.d false 2 (encSpan a1))), (2, .l (.d false 2 (encSpan a2))), (7, .l (.d false 1 (encI v1))), (8, .l (.r 0 2 0 y2.2.length)), (9, .l (.s (.int .i64 y2.1))), (12, .l (.s (.bool q)))], [some ⟨71, 2, true, none, lvs (encSpan y2.2)⟩], 102, gh, ls⟩ : St))) y13) ?_ ?_
     ·replace h := g13; clear g13
      apply AW.step
      ·simp
       intros; rfl
      refine AW.block ?_
      replace h := ltE h; obtain ⟨v14, e14, h⟩ := h
      apply AW.step
      ·simp [← e14]
       intros; rfl
      cases v14 with
      | true =>
       replace h := iteT rfl h
       refine AW.cond_true (by simp) ?_
       replace h := ltE h; obtain ⟨v15, e15, h⟩ := h
       cases v15 with
       | true =>
        replace h := iteT rfl h
        replace h := ltE h; obtain ⟨v16, e16, h⟩ := h
        apply AW.last
        ·simp [← e15, ← e16]
         intros; rfl
        obtain rfl := Option.some.inj h
        refine nP_i ?_
        refine Weak.mixN [some 0] hn0 (by decide) ?_ ?_ rfl
        all_goals first | (simp [inv_cons, inv_nil, pickOb]; done) | rfl
       | false =>
        replace h := iteF rfl h
        apply AW.last
        ·simp [← e15]
         intros; rfl
        obtain rfl := Option.some.inj h
        refine nP_i ?_
        refine Weak.mixN [some 0] hn0 (by decide) ?_ ?_ rfl
        all_goals first | (simp [inv_cons, inv_nil, pickOb]; done) | rfl
      | false =>
       replace h := iteF rfl h
       refine AW.cond_false (by simp) ?_
       replace h := ltE h; obtain ⟨v17, e17, h⟩ := h
       apply AW.step
       ·simp [← e17]
        intros; rfl
       cases v17 with
       | true =>
        replace h := iteT rfl h
        refine AW.cond_true (by simp) ?_
        replace h := ltE h; obtain ⟨v18, e18, h⟩ := h
        cases v18 with
        | true =>
         replace h := iteT rfl h
         apply AW.last
         ·simp [← e18]
          intros; rfl
         obtain rfl := Option.some.inj h
         refine nP_i ?_
         refine Weak.mixN [some 0] hn0 (by decide) ?_ ?_ rfl
         all_goals first | (simp [inv_cons, inv_nil, pickOb]; done) | rfl
        | false =>
         replace h := iteF rfl h
         apply AW.last
         ·simp [← e18]
          intros; rfl
         obtain rfl := Option.some.inj h
         refine nP_i ?_
         refine Weak.mixN [some 0] hn0 (by decide) ?_ ?_ rfl
         all_goals first | (simp [inv_cons, inv_nil, pickOb]; done) | rfl
       | false =>
        replace h := iteF rfl h
        refine AW.cond_false (by simp) ?_
        refine AW.skip ?_
        try simp only [sp_l, sp_r, Post.seq, Post.block, Nat.reduceEqDiff, reduceIte, Nat.zero_ne_one, Nat.one_ne_zero]
        obtain rfl := Option.some.inj h
        refine nP_i ?_
        refine Weak.mixN [some 0] hn0 (by decide) ?_ ?_ rfl
        all_goals first | (simp [inv_cons, inv_nil, pickOb]; done) | rfl
     ·rintro e s hp
      obtain ⟨rfl, hw⟩ := hp
      refine ⟨_, hw, ?_⟩
      try simp only [sp_l, sp_r, Post.seq, Post.block, Nat.reduceEqDiff, reduceIte, Nat.zero_ne_one, Nat.one_ne_zero]
      refine AW.block ?_
      replace h := ltE h; obtain ⟨v19, e19, h⟩ := h
      apply AW.step
      ·simp [← e19]
       intros; rfl
      cases v19 with
      | true =>
       replace h := iteT rfl h
       refine AW.cond_true (by simp) ?_
       refine AW.exit ?_
       try simp only [sp_l, sp_r, Post.seq, Post.block, Nat.reduceEqDiff, reduceIte, Nat.zero_ne_one, Nat.one_ne_zero]
       obtain rfl := Option.some.inj h
       refine nP_i ?_
       refine Weak.mixN [some 0] hn0 (by decide) ?_ ?_ rfl
       all_goals first | (simp [inv_cons, inv_nil, pickOb]; done) | rfl
      | false =>
       replace h := iteF rfl h
       refine AW.cond_false (by simp) ?_
       replace h := bnE h; obtain ⟨y20, g20, h⟩ := h
       refine AW.flow (p := fun gh ls => (nP (cx := cx) (fun q => (⟨[(0, .l (.s (.int .i64 a0))), (1, .l (.d false 2 (encSpan a1))), (2, .l (.d false 2 (encSpan a2))), (7, .l (.d false 1 (encI v1))), (8, .l (.r 0 2 0 y2.2.length)), (9, .l (.s (.int .i64 y2.1))), (70, .l (.s (.bool q)))], [some ⟨71, 2, true, none, lvs (encSpan y2.2)⟩], 102, gh, ls⟩ : St))) y20) ?_ ?_
       ·replace h := g20; clear g20
        replace h := ltE h; obtain ⟨v21, e21, h⟩ := h
        replace h := ltE h; obtain ⟨v22, e22, h⟩ := h
        cases v22 with
        | true =>
         replace h := iteT rfl h
         replace h := ltE h; obtain ⟨v23, e23, h⟩ := h
         replace h := bnE h; obtain ⟨v24, e24, h⟩ := h
         have f25 := nth_lt e24
         try simp [lenI_cast e21, ← e22, ← e23, nth_d e24] at f25
         replace h := bnE h; obtain ⟨v26, e26, h⟩ := h
         replace h := ltE h; obtain ⟨v27, e27, h⟩ := h
         replace h := ltE h; obtain ⟨v28, e28, h⟩ := h
         apply AW.drawnR (V := [_, _, _, _, _, _, _, _, _, _, _, _, _, _, _, _]) mixed [⟨[0], [], [(8, none)], false⟩, ⟨[0], [0], [(71, some 0)], false⟩, ⟨[0], [0, 1], [(72, some 1)], false⟩, ⟨[0], [0, 1, 2], [(73, some 2)], false⟩, ⟨[0], [0, 1, 2, 3], [(8, none), (74, some 3)], false⟩, ⟨[0], [0, 1, 2, 3], [(8, none), (74, some 3)], false⟩, ⟨[0], [0, 1, 2, 3, 5], [(74, some 3), (76, some 5)], false⟩, ⟨[0], [0, 1, 2, 3, 5, 6], [(74, some 3), (77, some 6)], false⟩, ⟨[0], [0, 1, 2, 3, 4, 5, 6, 7], [(74, some 3), (75, some 4), (78, some 7)], false⟩, ⟨[0], [0, 1, 2, 3, 4, 5, 6, 7, 8], [(74, some 3), (79, some 8)], false⟩, ⟨[0], [0, 1, 2, 3, 4, 5, 6, 7, 8, 9], [(74, some 3), (80, some 9)], false⟩, ⟨[0], [0, 1, 2, 3], [(7, none), (74, some 3)], false⟩, ⟨[0], [0, 1, 2, 3], [(9, none), (74, some 3)], false⟩, ⟨[0], [0, 1, 2, 3, 11, 12], [(74, some 3), (82, some 11), (83, some 12)], false⟩, ⟨[0], [0, 1, 2, 3, 11, 12, 13], [(74, some 3), (84, some 13)], false⟩, ⟨[0], [0, 1, 2, 3, 11, 12, 13, 14], [(74, some 3), (85, some 14)], false⟩, ⟨[], [0, 1, 2, 3, 4, 5, 6, 7, 8, 9, 10, 11, 12, 13, 14, 15], [], false⟩, ⟨[], [0, 1, 2, 3, 4, 5, 6, 7, 8, 9, 10, 11, 12, 13, 14, 15, 16], [], false⟩, ⟨[], [0, 1, 2, 3, 4, 5, 6, 7, 8, 9, 10, 11, 12, 13, 14, 15, 16, 17], [], false⟩] 16 (by kernel_rfl) (by kernel_rfl)
         ·refine ⟨?_, ?_, ?_, ?_, ?_, ?_, ?_, ?_, ?_, ?_, ?_, ?_, ?_, ?_, ?_, ?_, trivial⟩
          ·intro tm hr
           simp [AllL, rdV] at hr
           simp [hr, lenI_cast e21, ← e22, ← e23, nth_d e24, f25, encSpan_cell (nth_d e24).2 (j := 1) (by decide), lvs1, nth_d e26, ← e27, ← e28]
           intros; first | exact KD.mk | exact KD.mkN
          ·intro tm hr
           simp [AllL, rdV] at hr
           simp [hr, lenI_cast e21, ← e22, ← e23, nth_d e24, f25, encSpan_cell (nth_d e24).2 (j := 1) (by decide), lvs1, nth_d e26, ← e27, ← e28]
           intros; first | exact KD.mk | exact KD.mkN
          ·intro tm hr
           simp [AllL, rdV] at hr
           simp [hr, lenI_cast e21, ← e22, ← e23, nth_d e24, f25, encSpan_cell (nth_d e24).2 (j := 1) (by decide), lvs1, nth_d e26, ← e27, ← e28]
           intros; first | exact KD.mk | exact KD.mkN
          ·intro tm hr
           simp [AllL, rdV] at hr
           simp [hr, lenI_cast e21, ← e22, ← e23, nth_d e24, f25, encSpan_cell (nth_d e24).2 (j := 1) (by decide), lvs1, nth_d e26, ← e27, ← e28]
           intros; first | exact KD.mk | exact KD.mkN
          ·intro tm hr
           simp [AllL, rdV] at hr
           simp [hr, lenI_cast e21, ← e22, ← e23, nth_d e24, f25, encSpan_cell (nth_d e24).2 (j := 1) (by decide), lvs1, nth_d e26, ← e27, ← e28]
           intros; first | exact KD.mk | exact KD.mkN
          ·intro tm hr
           simp [AllL, rdV] at hr
           simp [hr, lenI_cast e21, ← e22, ← e23, nth_d e24, f25, encSpan_cell (nth_d e24).2 (j := 1) (by decide), lvs1, nth_d e26, ← e27, ← e28]
           intros; first | exact KD.mk | exact KD.mkN
          ·intro tm hr
           simp [AllL, rdV] at hr
           simp [hr, lenI_cast e21, ← e22, ← e23, nth_d e24, f25, encSpan_cell (nth_d e24).2 (j := 1) (by decide), lvs1, nth_d e26, ← e27, ← e28]
           intros; first | exact KD.mk | exact KD.mkN
          ·intro tm hr
           simp [AllL, rdV] at hr
           simp [hr, lenI_cast e21, ← e22, ← e23, nth_d e24, f25, encSpan_cell (nth_d e24).2 (j := 1) (by decide), lvs1, nth_d e26, ← e27, ← e28]
           intros; first | exact KD.mk | exact KD.mkN
          ·intro tm hr
           simp [AllL, rdV] at hr
           simp [hr, lenI_cast e21, ← e22, ← e23, nth_d e24, f25, encSpan_cell (nth_d e24).2 (j := 1) (by decide), lvs1, nth_d e26, ← e27, ← e28]
           intros; first | exact KD.mk | exact KD.mkN
          ·intro tm hr
           simp [AllL, rdV] at hr
           simp [hr, lenI_cast e21, ← e22, ← e23, nth_d e24, f25, encSpan_cell (nth_d e24).2 (j := 1) (by decide), lvs1, nth_d e26, ← e27, ← e28]
           intros; first | exact KD.mk | exact KD.mkN
          ·intro tm hr
           simp [AllL, rdV] at hr
           simp [hr, lenI_cast e21, ← e22, ← e23, nth_d e24, f25, encSpan_cell (nth_d e24).2 (j := 1) (by decide), lvs1, nth_d e26, ← e27, ← e28]
           intros; first | exact KD.mk | exact KD.mkN
          ·intro tm hr
           simp [AllL, rdV] at hr
           simp [hr, lenI_cast e21, ← e22, ← e23, nth_d e24, f25, encSpan_cell (nth_d e24).2 (j := 1) (by decide), lvs1, nth_d e26, ← e27, ← e28]
           intros; first | exact KD.mk | exact KD.mkN
          ·intro tm hr
           simp [AllL, rdV] at hr
           simp [hr, lenI_cast e21, ← e22, ← e23, nth_d e24, f25, encSpan_cell (nth_d e24).2 (j := 1) (by decide), lvs1, nth_d e26, ← e27, ← e28]
           intros; first | exact KD.mk | exact KD.mkN
          ·intro tm hr
           simp [AllL, rdV] at hr
           simp [hr, lenI_cast e21, ← e22, ← e23, nth_d e24, f25, encSpan_cell (nth_d e24).2 (j := 1) (by decide), lvs1, nth_d e26, ← e27, ← e28]
           intros; first | exact KD.mk | exact KD.mkN
          ·intro tm hr
           simp [AllL, rdV] at hr
           simp [hr, lenI_cast e21, ← e22, ← e23, nth_d e24, f25, encSpan_cell (nth_d e24).2 (j := 1) (by decide), lvs1, nth_d e26, ← e27, ← e28]
           intros; first | exact KD.mk | exact KD.mkN
          ·intro tm hr
           simp [AllL, rdV] at hr
           simp [hr, lenI_cast e21, ← e22, ← e23, nth_d e24, f25, encSpan_cell (nth_d e24).2 (j := 1) (by decide), lvs1, nth_d e26, ← e27, ← e28]
           intros; first | exact KD.mk | exact KD.mkN
         ·rfl
         ·simp [tmD, putD, lenI_cast e21, ← e22, ← e23, nth_d e24, f25, encSpan_cell (nth_d e24).2 (j := 1) (by decide), lvs1, nth_d e26, ← e27, ← e28]; rfl
         ·simp [lenI_cast e21, ← e22, ← e23, nth_d e24, f25, encSpan_cell (nth_d e24).2 (j := 1) (by decide), lvs1, nth_d e26, ← e27, ← e28]
          intros; rfl
         obtain rfl := Option.some.inj h
         refine nP_i ?_
         refine Weak.mixN [some 0] hn0 (by decide) ?_ ?_ rfl
         all_goals first | (simp [inv_cons, inv_nil, pickOb]; done) | rfl
        | false =>
         replace h := iteF rfl h
         apply AW.drawnR (V := [_, _, _, _, _, _, _, _, _, _, _, _, _, _, _, _]) mixed [⟨[0], [], [(8, none)], false⟩, ⟨[0], [0], [(71, some 0)], false⟩, ⟨[0], [0, 1], [(72, some 1)], false⟩, ⟨[0], [0, 1, 2], [(73, some 2)], false⟩, ⟨[0], [0, 1, 2, 3], [(8, none), (74, some 3)], false⟩, ⟨[0], [0, 1, 2, 3], [(8, none), (74, some 3)], false⟩, ⟨[0], [0, 1, 2, 3, 5], [(74, some 3), (76, some 5)], false⟩, ⟨[0], [0, 1, 2, 3, 5, 6], [(74, some 3), (77, some 6)], false⟩, ⟨[0], [0, 1, 2, 3, 4, 5, 6, 7], [(74, some 3), (75, some 4), (78, some 7)], false⟩, ⟨[0], [0, 1, 2, 3, 4, 5, 6, 7, 8], [(74, some 3), (79, some 8)], false⟩, ⟨[0], [0, 1, 2, 3, 4, 5, 6, 7, 8, 9], [(74, some 3), (80, some 9)], false⟩, ⟨[0], [0, 1, 2, 3], [(7, none), (74, some 3)], false⟩, ⟨[0], [0, 1, 2, 3], [(9, none), (74, some 3)], false⟩, ⟨[0], [0, 1, 2, 3, 11, 12], [(74, some 3), (82, some 11), (83, some 12)], false⟩, ⟨[0], [0, 1, 2, 3, 11, 12, 13], [(74, some 3), (84, some 13)], false⟩, ⟨[0], [0, 1, 2, 3, 11, 12, 13, 14], [(74, some 3), (85, some 14)], false⟩, ⟨[], [0, 1, 2, 3, 4, 5, 6, 7, 8, 9, 10, 11, 12, 13, 14, 15], [], false⟩, ⟨[], [0, 1, 2, 3, 4, 5, 6, 7, 8, 9, 10, 11, 12, 13, 14, 15, 16], [], false⟩, ⟨[], [0, 1, 2, 3, 4, 5, 6, 7, 8, 9, 10, 11, 12, 13, 14, 15, 16, 17], [], false⟩] 16 (by kernel_rfl) (by kernel_rfl)
         ·refine ⟨?_, ?_, ?_, ?_, ?_, ?_, ?_, ?_, ?_, ?_, ?_, ?_, ?_, ?_, ?_, ?_, trivial⟩
          ·intro tm hr
           simp [AllL, rdV] at hr
           simp [hr, lenI_cast e21, ← e22]
           intros; first | exact KD.mk | exact KD.mkN
          ·intro tm hr
           simp [AllL, rdV] at hr
           simp [hr, lenI_cast e21, ← e22]
           intros; first | exact KD.mk | exact KD.mkN
          ·intro tm hr
           simp [AllL, rdV] at hr
           simp [hr, lenI_cast e21, ← e22]
           intros; first | exact KD.mk | exact KD.mkN
          ·intro tm hr
           simp [AllL, rdV] at hr
           simp [hr, lenI_cast e21, ← e22]
           intros; first | exact KD.mk | exact KD.mkN
          ·intro tm hr
           simp [AllL, rdV] at hr
           simp [hr, lenI_cast e21, ← e22]
           intros; first | exact KD.mk | exact KD.mkN
          ·intro tm hr
           simp [AllL, rdV] at hr
           simp [hr, lenI_cast e21, ← e22]
           intros; first | exact KD.mk | exact KD.mkN
          ·intro tm hr
           simp [AllL, rdV] at hr
           simp [hr, lenI_cast e21, ← e22]
           intros; first | exact KD.mk | exact KD.mkN
          ·intro tm hr
           simp [AllL, rdV] at hr
           simp [hr, lenI_cast e21, ← e22]
           intros; first | exact KD.mk | exact KD.mkN
          ·intro tm hr
           simp [AllL, rdV] at hr
           simp [hr, lenI_cast e21, ← e22]
           intros; first | exact KD.mk | exact KD.mkN
          ·intro tm hr
           simp [AllL, rdV] at hr
           simp [hr, lenI_cast e21, ← e22]
           intros; first | exact KD.mk | exact KD.mkN
          ·intro tm hr
           simp [AllL, rdV] at hr
           simp [hr, lenI_cast e21, ← e22]
           intros; first | exact KD.mk | exact KD.mkN
          ·intro tm hr
           simp [AllL, rdV] at hr
           simp [hr, lenI_cast e21, ← e22]
           intros; first | exact KD.mk | exact KD.mkN
          ·intro tm hr
           simp [AllL, rdV] at hr
           simp [hr, lenI_cast e21, ← e22]
           intros; first | exact KD.mk | exact KD.mkN
          ·intro tm hr
           simp [AllL, rdV] at hr
           simp [hr, lenI_cast e21, ← e22]
           intros; first | exact KD.mk | exact KD.mkN
          ·intro tm hr
           simp [AllL, rdV] at hr
           simp [hr, lenI_cast e21, ← e22]
           intros; first | exact KD.mk | exact KD.mkN
          ·intro tm hr
           simp [AllL, rdV] at hr
           simp [hr, lenI_cast e21, ← e22]
           intros; first | exact KD.mk | exact KD.mkN
         ·rfl
         ·simp [tmD, putD, lenI_cast e21, ← e22]; rfl
         ·simp [lenI_cast e21, ← e22]
          intros; rfl
         obtain rfl := Option.some.inj h
         refine nP_i ?_
         refine Weak.mixN [some 0] hn0 (by decide) ?_ ?_ rfl
         all_goals first | (simp [inv_cons, inv_nil, pickOb]; done) | rfl
       ·rintro e s hp
        obtain ⟨rfl, hw⟩ := hp
        refine ⟨_, hw, ?_⟩
        try simp only [sp_l, sp_r, Post.seq, Post.block, Nat.reduceEqDiff, reduceIte, Nat.zero_ne_one, Nat.one_ne_zero]
        replace h := ltE h; obtain ⟨v29, e29, h⟩ := h
        rw [← e29]
        cases v29 with
        | true =>
         replace h := iteT rfl h
         refine AW.cond_true (by simp) ?_
         replace h := ltE h; obtain ⟨v30, e30, h⟩ := h
         replace h := ltE h; obtain ⟨v31, e31, h⟩ := h
         replace h := ltE h; obtain ⟨v32, e32, h⟩ := h
         replace h := bnE h; obtain ⟨v33, e33, h⟩ := h
         replace h := ltE h; obtain ⟨v34, e34, h⟩ := h
         replace h := bnE h; obtain ⟨v35, e35, h⟩ := h
         have f36 := nth_lt e35
         try simp [lenI_cast e30, ← e31, ← e32, nth_d e33, ← e34, nth_d e35] at f36
         replace h := ltE h; obtain ⟨v37, e37, h⟩ := h
         have f38 := encSpan_put (nth_d e35).2 e37 (j := 1) (cs := [.s (.int .i64 v34)]) (by simp) rfl
         try simp at f38
         have f39 := f36
         try simp only [set_len e37] at f39
         apply AW.last
         ·simp [lenI_cast e30, ← e31, ← e32, nth_d e33, ← e34, nth_d e35, f36, encSpan_fitj (nth_d e35).2 (j := 1) (m := 1) (by decide), f38, f39]
          intros; rfl
         obtain rfl := Option.some.inj h
         refine nP_i ?_
         refine Weak.mixN [some 0] hn0 (by decide) ?_ ?_ rfl
         all_goals first | (simp [inv_cons, inv_nil, pickOb, set_len e37]; done) | rfl
        | false =>
         replace h := iteF rfl h
         refine AW.cond_false (by simp) ?_
         replace h := bnE h; obtain ⟨v40, e40, h⟩ := h
         replace h := ltE h; obtain ⟨v41, e41, h⟩ := h
         replace h := bnE h; obtain ⟨v42, e42, h⟩ := h
         replace h := ltE h; obtain ⟨v43, e43, h⟩ := h
         replace h := chkE h; obtain ⟨e44, h⟩ := h
         replace h := ltE h; obtain ⟨v45, e45, h⟩ := h
         apply AW.drawnF (V := [_, _, _, _, _, _, _, _, _, _, _, _, _]) (M := [[some ⟨71, 2, true, none, lvs (encSpan y2.2)⟩], [some ⟨71, 2, true, none, lvs (encSpan y2.2)⟩, some ⟨71, 2, true, none, [.s (.int .i64 v40), .s (.int .i64 v43)]⟩]]) mixed [⟨[0, 1], [], [(8, none)], false⟩, ⟨[0], [], [(7, none)], false⟩, ⟨[0], [], [(9, none)], false⟩, ⟨[0], [1, 2], [(54, some 1), (55, some 2)], false⟩, ⟨[0], [1, 2, 3], [(56, some 3)], false⟩, ⟨[0], [], [(7, none)], false⟩, ⟨[0], [], [(9, none)], false⟩, ⟨[0], [6], [(59, some 6)], false⟩, ⟨[0], [5, 6, 7], [(58, some 5), (60, some 7)], false⟩, ⟨[0], [5, 6, 7, 8], [(61, some 8)], false⟩, ⟨[0], [5, 6, 7, 8, 9], [(62, some 9)], false⟩, ⟨[0], [1, 2, 3, 4, 5, 6, 7, 8, 9, 10], [(57, some 4), (63, some 10)], false⟩, ⟨[0], [1, 2, 3, 4, 5, 6, 7, 8, 9, 10, 11], [(64, some 11)], true⟩, ⟨[], [0, 1, 2, 3, 4, 5, 6, 7, 8, 9, 10, 11, 12], [], false⟩, ⟨[], [0, 1, 2, 3, 4, 5, 6, 7, 8, 9, 10, 11, 12, 13], [], false⟩] 13 1 (by kernel_rfl) (by kernel_rfl)
         ·rfl
         ·refine ⟨⟨?_, ?_⟩, ?_, ?_, ?_, ?_, ?_, ?_, ?_, ?_, ?_, ?_, ?_, ?_, trivial⟩
          ·intro tm hr
           simp [AllL, rdV] at hr
           simp [hr, nth_d e40, ← e41, nth_d e42, ← e43, ← encSpan_append, ← e45, app_len1 e45]
           intros; first | exact KD.mk | exact KD.mkN
          ·intro tm hr
           simp [AllL, rdV] at hr
           simp [hr, nth_d e40, ← e41, nth_d e42, ← e43, ← encSpan_append, ← e45, app_len1 e45]
           intros; first | exact KD.mk | exact KD.mkN
          ·intro tm hr
           simp [AllL, rdV] at hr
           simp [hr, nth_d e40, ← e41, nth_d e42, ← e43, ← encSpan_append, ← e45, app_len1 e45]
           intros; first | exact KD.mk | exact KD.mkN
          ·intro tm hr
           simp [AllL, rdV] at hr
           simp [hr, nth_d e40, ← e41, nth_d e42, ← e43, ← encSpan_append, ← e45, app_len1 e45]
           intros; first | exact KD.mk | exact KD.mkN
          ·intro tm hr
           simp [AllL, rdV] at hr
           simp [hr, nth_d e40, ← e41, nth_d e42, ← e43, ← encSpan_append, ← e45, app_len1 e45]
           intros; first | exact KD.mk | exact KD.mkN
          ·intro tm hr
           simp [AllL, rdV] at hr
           simp [hr, nth_d e40, ← e41, nth_d e42, ← e43, ← encSpan_append, ← e45, app_len1 e45]
           intros; first | exact KD.mk | exact KD.mkN
          ·intro tm hr
           simp [AllL, rdV] at hr
           simp [hr, nth_d e40, ← e41, nth_d e42, ← e43, ← encSpan_append, ← e45, app_len1 e45]
           intros; first | exact KD.mk | exact KD.mkN
          ·intro tm hr
           simp [AllL, rdV] at hr
           simp [hr, nth_d e40, ← e41, nth_d e42, ← e43, ← encSpan_append, ← e45, app_len1 e45]
           intros; first | exact KD.mk | exact KD.mkN
          ·intro tm hr
           simp [AllL, rdV] at hr
           simp [hr, nth_d e40, ← e41, nth_d e42, ← e43, ← encSpan_append, ← e45, app_len1 e45]
           intros; first | exact KD.mk | exact KD.mkN
          ·intro tm hr
           simp [AllL, rdV] at hr
           simp [hr, nth_d e40, ← e41, nth_d e42, ← e43, ← encSpan_append, ← e45, app_len1 e45]
           intros; first | exact KD.mk | exact KD.mkN
          ·intro tm hr
           simp [AllL, rdV] at hr
           simp [hr, nth_d e40, ← e41, nth_d e42, ← e43, ← encSpan_append, ← e45, app_len1 e45]
           intros; first | exact KD.mk | exact KD.mkN
          ·intro tm hr
           simp [AllL, rdV] at hr
           simp [hr, nth_d e40, ← e41, nth_d e42, ← e43, ← encSpan_append, ← e45, app_len1 e45]
           intros; first | exact KD.mk | exact KD.mkN
          ·intro tm hr
           simp [AllL, rdV] at hr
           simp [hr, nth_d e40, ← e41, nth_d e42, ← e43, ← encSpan_append, ← e45, app_len1 e45]
           intros; first | exact KD.mk | exact KD.mkN
          ·intro tm hr
           simp [AllL, rdV] at hr
           simp [hr, nth_d e40, ← e41, nth_d e42, ← e43, ← encSpan_append, ← e45, app_len1 e45]
           intros
           refine xrow_own ?_
           try simp [nth_d e40, ← e41, nth_d e42, ← e43, ← encSpan_append, ← e45, app_len1 e45]
           intros; first | exact KD.mk | exact KD.mkN
         ·rfl
         ·simp [tmD, putD, nth_d e40, ← e41, nth_d e42, ← e43, ← encSpan_append, ← e45, app_len1 e45]; rfl
         ·simp [nth_d e40, ← e41, nth_d e42, ← e43, ← encSpan_append, ← e45, app_len1 e45]
          intros
          refine xapp_pushN (acc := encSpan y2.2) (ys := encSpan [(⟨v40, v43⟩ : Span)]) (cap := none) (k := 1) tb_el49 tb_ti71 (by simp) (by simp [encSpan, lvs]) (encSpan_sz _) (by simp) (by simp) (by first | (simp; done) | simpa using (room_d e44).1) ?_
          try simp [nth_d e40, ← e41, nth_d e42, ← e43, ← encSpan_append, ← e45, app_len1 e45]
          intros; rfl
         obtain rfl := Option.some.inj h
         refine nP_i ?_
         refine Weak.mixN [some 2] hn0 (by decide) ?_ ?_ rfl
         all_goals first | (simp [inv_cons, inv_nil, pickOb, lvs_encSpan1]; done) | rfl
   ·rintro e s hp
    obtain ⟨rfl, hw⟩ := hp
    refine ⟨_, hw, ?_⟩
    try simp only [sp_l, sp_r, Post.seq, Post.block, Nat.reduceEqDiff, reduceIte, Nat.zero_ne_one, Nat.one_ne_zero]
    replace h := ltE h; obtain ⟨v46, e46, h⟩ := h
    apply AW.last
    ·simp [← e46]
     intros; rfl
    obtain rfl := Option.some.inj h
    refine nP_i ?_
    refine Weak.mixN [some 0] hn0 (by decide) ?_ ?_ rfl
    all_goals first | (simp [inv_cons, inv_nil, pickOb]; done) | rfl
  | false =>
   replace h := iteF rfl h
   refine AW.cond_false (by simp) ?_
   refine AW.exit ?_
   try simp only [sp_l, sp_r, Post.seq, Post.block, Nat.reduceEqDiff, reduceIte, Nat.zero_ne_one, Nat.one_ne_zero]
   obtain rfl := Option.some.inj h
   refine xP_i ?_
   refine Weak.mixN [some 0] hn0 (by decide) ?_ ?_ rfl
   all_goals first | (simp [inv_cons, inv_nil, pickOb]; done) | rfl
 ·rintro e s hp
  obtain ⟨rfl, hw⟩ := hp
  refine ⟨_, hw, ?_⟩
  try simp only [sp_l, sp_r, Post.seq, Post.block, Nat.reduceEqDiff, reduceIte, Nat.zero_ne_one, Nat.one_ne_zero]
  apply AW.step
  ·simp
   intros; rfl
  replace h := chkE h; obtain ⟨e47, h⟩ := h
  refine AW.frzRow 0 (ty := 71) (cap := none) (sz := 2) (es := encSpan y3) (by simp) (by omega) (encSpan_sz _) (by first | exact (room_d e47).2 | simpa using (room_d e47).2 | simp) (by simp [Tm.frz, AV.frz, LV.frz]; rfl) (by simp [Ob.frz, LV.frz]; rfl) rfl ?_
  obtain rfl := Option.some.inj h
  refine AW.ret ?_
  refine Left.plain hnb (by simp [Try.f42, resV, resC, comp]; rfl) rfl rfl ?_
  simp
theorem en_r1_Mix_fff : Enters Try.prog 42 := enters Try.func42 (by kernel_rfl) rfl
def r1_Norm_f_sh (n : Nat) (a0 : List Span) : Option (List Span) :=
bn (r1_Mix_fff_sh n 0 a0 []) fun v1 =>
some v1
set_option maxRecDepth 8000 in
set_option maxHeartbeats 8000000 in
theorem s_r1_Norm_f {n : Nat} {a0 : List Span} {r : List Span} (h : r1_Norm_f_sh n a0 = some r) : Sound Try.prog 22 [.l (.d false 2 (encSpan a0))] [] (.l (.d false 2 (encSpan r))) [] := by
 unfold r1_Norm_f_sh at h
 refine Sound.of_aw (fn := Try.f22) (c := _) Try.func22 rfl (by simp [Try.f22]) fun cx hG hnb => ?_
 rw [show Try.f22.ntmps = 5 from rfl]
 have hn0 : cx.nb = 0 := hnb
 simp only [st0_mk, initTm, List.map_cons, List.map_nil]
 apply AW.step
 ·simp
  intros; rfl
 replace h := bnE h; obtain ⟨v1, e1, h⟩ := h
 apply AW.step
 ·simp
  intros
  refine xcall_plain en_r1_Mix_fff (s_r1_Mix_fff e1) rfl ⟨.same rfl, .same rfl, .nil _ _, trivial⟩ ?_
  try simp
  intros; rfl
 obtain rfl := Option.some.inj h
 refine AW.ret ?_
 refine Left.plain hnb (by simp [Try.f22, resV, resC, comp]; rfl) rfl rfl ?_
 simp
theorem en_r1_Norm_f : Enters Try.prog 22 := enters Try.func22 (by kernel_rfl) rfl
def r13_marks_sh (n : Nat) (a0 : List Int) (a1 : List Claim) : Option (List Int) :=
bn (iter n (fun (y1 : List Int × Int) =>
lt (lenI a1) fun v4 =>
lt (ltI y1.2 v4) fun v5 =>
ite' v5 (bn (nth a1 y1.2) fun v6 =>
bn (r1_Mark_sh n y1.1 v6.frm) fun v7 =>
lt (addI .i64 v6.to 1) fun v8 =>
bn (r1_Mark_sh n v7 v8) fun v9 =>
lt (addI .i64 y1.2 1) fun v10 =>
some (.inl (v9, v10))) (some (.inr y1.1))) (a0, 0)) fun (y2 : List Int) =>
some y2
set_option maxRecDepth 8000 in
set_option maxHeartbeats 8000000 in
theorem s_r13_marks {n : Nat} {a0 : List Int} {a1 : List Claim} {r : List Int} (h : r13_marks_sh n a0 a1 = some r) : Sound Try.prog 23 [.l (.d false 1 (encI a0)), .l (.d false 4 (encClaim a1))] [] (.l (.d false 1 (encI r))) [] := by
 unfold r13_marks_sh at h
 refine Sound.of_aw (fn := Try.f23) (c := _) Try.func23 rfl (by simp [Try.f23]) fun cx hG hnb => ?_
 rw [show Try.f23.ntmps = 28 from rfl]
 have hn0 : cx.nb = 0 := hnb
 simp only [st0_mk, initTm, List.map_cons, List.map_nil]
 apply AW.step
 ·simp
  intros; rfl
 refine AW.seq ?_
 apply AW.step
 ·simp
  intros; rfl
 refine AW.block ?_
 replace h := bnE h; obtain ⟨y2, g2, h⟩ := h
 refine AW.iterP g2 (mk := fun gh ls q => (⟨[(0, .l (.d false 1 (encI q.1))), (1, .l (.d false 4 (encClaim a1))), (5, .l (.s (.int .i64 q.2)))], [], 28, gh, ls⟩ : St)) (N := fun gh ls => (xP 0 (cx := cx) (fun q => (⟨[(0, .l (.d false 1 (encI q)))], [], 28, gh, ls⟩ : St)))) ?_ noX ?_ ?_
 ·refine Weak.mixN [] hn0 (by decide) ?_ ?_ rfl
  all_goals first | (simp [inv_cons, inv_nil, pickOb]; done) | rfl
 ·clear h; intro y1 y3 h
  refine AW.seq ?_
  replace h := ltE h; obtain ⟨v4, e4, h⟩ := h
  replace h := ltE h; obtain ⟨v5, e5, h⟩ := h
  apply AW.step
  ·simp [lenI_cast e4, ← e5]
   intros; rfl
  cases v5 with
  | true =>
   replace h := iteT rfl h
   refine AW.cond_true (by simp) ?_
   refine AW.skip ?_
   try simp only [sp_l, sp_r, Post.seq, Post.block, Nat.reduceEqDiff, reduceIte, Nat.zero_ne_one, Nat.one_ne_zero]
   try simp only [sp_l, sp_r, Post.seq, Post.block, Nat.reduceEqDiff, reduceIte, Nat.zero_ne_one, Nat.one_ne_zero]
   refine AW.seq ?_
   refine AW.block ?_
   replace h := bnE h; obtain ⟨v6, e6, h⟩ := h
   replace h := bnE h; obtain ⟨v7, e7, h⟩ := h
   apply AW.step
   ·simp [nth_d e6]
    intros
    refine xcall_plain en_r1_Mark (s_r1_Mark e7) rfl ⟨.same rfl, .same rfl, trivial⟩ ?_
    try simp [nth_d e6]
    intros; rfl
   replace h := ltE h; obtain ⟨v8, e8, h⟩ := h
   replace h := bnE h; obtain ⟨v9, e9, h⟩ := h
   apply AW.last
   ·simp [nth_d e6, ← e8]
    intros
    refine xcall_plain en_r1_Mark (s_r1_Mark e9) rfl ⟨.same rfl, .same rfl, trivial⟩ ?_
    try simp [nth_d e6, ← e8]
    intros; rfl
   try simp only [sp_l, sp_r, Post.seq, Post.block, Nat.reduceEqDiff, reduceIte, Nat.zero_ne_one, Nat.one_ne_zero]
   replace h := ltE h; obtain ⟨v10, e10, h⟩ := h
   apply AW.last
   ·simp [← e10]
    intros; rfl
   obtain rfl := Option.some.inj h
   refine nP_i ?_
   refine Weak.mixN [] hn0 (by decide) ?_ ?_ rfl
   all_goals first | (simp [inv_cons, inv_nil, pickOb]; done) | rfl
  | false =>
   replace h := iteF rfl h
   refine AW.cond_false (by simp) ?_
   refine AW.exit ?_
   try simp only [sp_l, sp_r, Post.seq, Post.block, Nat.reduceEqDiff, reduceIte, Nat.zero_ne_one, Nat.one_ne_zero]
   obtain rfl := Option.some.inj h
   refine xP_i ?_
   refine Weak.mixN [] hn0 (by decide) ?_ ?_ rfl
   all_goals first | (simp [inv_cons, inv_nil, pickOb]; done) | rfl
 ·rintro e s hp
  obtain ⟨rfl, hw⟩ := hp
  refine ⟨_, hw, ?_⟩
  try simp only [sp_l, sp_r, Post.seq, Post.block, Nat.reduceEqDiff, reduceIte, Nat.zero_ne_one, Nat.one_ne_zero]
  apply AW.step
  ·simp
   intros; rfl
  obtain rfl := Option.some.inj h
  refine AW.ret ?_
  refine Left.plain hnb (by simp [Try.f23, resV, resC, comp]; rfl) rfl rfl ?_
  simp
theorem en_r13_marks : Enters Try.prog 23 := enters Try.func23 (by kernel_rfl) rfl
def r13_Of_sh (n : Nat) (a0 : List Claim) (a1 : Int) : Option (Int × Int) :=
bn (iter n (fun (y1 : Int) =>
lt (lenI a0) fun v4 =>
lt (ltI y1 v4) fun v5 =>
ite' v5 (bn (bn (nth a0 y1) fun v7 =>
lt (leI v7.frm a1) fun v8 =>
ite' v8 (lt (leI a1 v7.to) fun v9 =>
some (v9)) (some (false))) fun (y6 : Bool) =>
lt (y6) fun v10 =>
ite' v10 (bn (nth a0 y1) fun v11 =>
some (.inr (.inr (v11.node, v11.epoch)))) (lt (addI .i64 y1 1) fun v12 =>
some (.inl v12))) (some (.inr (.inl ())))) 0) fun (y2 : Unit ⊕ (Int × Int)) =>
sm y2 (fun y13 => some (-1, 0)) (fun y14 => some y14)
set_option maxRecDepth 8000 in
set_option maxHeartbeats 8000000 in
theorem s_r13_Of {n : Nat} {a0 : List Claim} {a1 : Int} {r : Int × Int} (h : r13_Of_sh n a0 a1 = some r) : Sound Try.prog 25 [.l (.d false 4 (encClaim a0)), .l (.s (.int .i64 a1))] [] (.t [(false, [.s (.int .i64 r.1)]), (false, [.s (.int .i64 r.2)])]) [] := by
 unfold r13_Of_sh at h
 refine Sound.of_aw (fn := Try.f25) (c := _) Try.func25 rfl (by simp [Try.f25]) fun cx hG hnb => ?_
 rw [show Try.f25.ntmps = 39 from rfl]
 have hn0 : cx.nb = 0 := hnb
 simp only [st0_mk, initTm, List.map_cons, List.map_nil]
 apply AW.step
 ·simp
  intros; rfl
 refine AW.seq ?_
 apply AW.step
 ·simp
  intros; rfl
 refine AW.block ?_
 replace h := bnE h; obtain ⟨y2, g2, h⟩ := h
 refine AW.iterP g2 (mk := fun gh ls q => (⟨[(0, .l (.d false 4 (encClaim a0))), (1, .l (.s (.int .i64 a1))), (6, .l (.s (.int .i64 q)))], [], 39, gh, ls⟩ : St)) (N := fun gh ls => (sp (xP 0 (cx := cx) (fun _ => (⟨[], [], 39, gh, ls⟩ : St))) (rP (cx := cx) (P := Try.prog) Try.f25 (fun q => .t [(false, [.s (.int .i64 q.1)]), (false, [.s (.int .i64 q.2)])]) (fun q => [])))) ?_ (noS noX noR) ?_ ?_
 ·refine Weak.mixN [] hn0 (by decide) ?_ ?_ rfl
  all_goals first | (simp [inv_cons, inv_nil, pickOb]; done) | rfl
 ·clear h; intro y1 y3 h
  refine AW.seq ?_
  replace h := ltE h; obtain ⟨v4, e4, h⟩ := h
  replace h := ltE h; obtain ⟨v5, e5, h⟩ := h
  apply AW.step
  ·simp [lenI_cast e4, ← e5]
   intros; rfl
  cases v5 with
  | true =>
   replace h := iteT rfl h
   refine AW.cond_true (by simp) ?_
   refine AW.skip ?_
   try simp only [sp_l, sp_r, Post.seq, Post.block, Nat.reduceEqDiff, reduceIte, Nat.zero_ne_one, Nat.one_ne_zero]
   try simp only [sp_l, sp_r, Post.seq, Post.block, Nat.reduceEqDiff, reduceIte, Nat.zero_ne_one, Nat.one_ne_zero]
   refine AW.seq ?_
   refine AW.block ?_
   replace h := bnE h; obtain ⟨y6, g6, h⟩ := h
   refine AW.flow (p := fun gh ls => (nP (cx := cx) (fun q => (⟨[(0, .l (.d false 4 (encClaim a0))), (1, .l (.s (.int .i64 a1))), (6, .l (.s (.int .i64 y1))), (28, .l (.s (.bool q)))], [], 39, gh, ls⟩ : St))) y6) ?_ ?_
   ·replace h := g6; clear g6
    replace h := bnE h; obtain ⟨v7, e7, h⟩ := h
    replace h := ltE h; obtain ⟨v8, e8, h⟩ := h
    cases v8 with
    | true =>
     replace h := iteT rfl h
     replace h := ltE h; obtain ⟨v9, e9, h⟩ := h
     apply AW.last
     ·simp [nth_d e7, ← e8, ← e9]
      intros; rfl
     obtain rfl := Option.some.inj h
     refine nP_i ?_
     refine Weak.mixN [] hn0 (by decide) ?_ ?_ rfl
     all_goals first | (simp [inv_cons, inv_nil, pickOb]; done) | rfl
    | false =>
     replace h := iteF rfl h
     apply AW.last
     ·simp [nth_d e7, ← e8]
      intros; rfl
     obtain rfl := Option.some.inj h
     refine nP_i ?_
     refine Weak.mixN [] hn0 (by decide) ?_ ?_ rfl
     all_goals first | (simp [inv_cons, inv_nil, pickOb]; done) | rfl
   ·rintro e s hp
    obtain ⟨rfl, hw⟩ := hp
    refine ⟨_, hw, ?_⟩
    try simp only [sp_l, sp_r, Post.seq, Post.block, Nat.reduceEqDiff, reduceIte, Nat.zero_ne_one, Nat.one_ne_zero]
    replace h := ltE h; obtain ⟨v10, e10, h⟩ := h
    rw [← e10]
    cases v10 with
    | true =>
     replace h := iteT rfl h
     refine AW.cond_true (by simp) ?_
     replace h := bnE h; obtain ⟨v11, e11, h⟩ := h
     apply AW.drawnP (V := [_, _, _, _, _, _, _, _, _, _, _]) mixed [⟨[0], [], [(0, none)], false⟩, ⟨[0], [], [(6, none)], false⟩, ⟨[0], [0, 1], [(29, some 0), (30, some 1)], false⟩, ⟨[0], [0, 1, 2], [(31, some 2)], false⟩, ⟨[0], [0, 1, 2, 3], [(32, some 3)], false⟩, ⟨[0], [], [(0, none)], false⟩, ⟨[0], [], [(6, none)], false⟩, ⟨[0], [5, 6], [(34, some 5), (35, some 6)], false⟩, ⟨[0], [5, 6, 7], [(36, some 7)], false⟩, ⟨[0], [5, 6, 7, 8], [(37, some 8)], false⟩, ⟨[0], [0, 1, 2, 3, 4], [(33, some 4)], false⟩, ⟨[], [0, 1, 2, 3, 4, 5, 6, 7, 8, 9, 10], [], false⟩] 11 (by kernel_rfl) (by kernel_rfl)
     ·refine ⟨?_, ?_, ?_, ?_, ?_, ?_, ?_, ?_, ?_, ?_, ?_, trivial⟩
      ·intro tm hr
       simp [AllL, rdV] at hr
       simp [hr, nth_d e11]
       intros; first | exact KD.mk | exact KD.mkN
      ·intro tm hr
       simp [AllL, rdV] at hr
       simp [hr, nth_d e11]
       intros; first | exact KD.mk | exact KD.mkN
      ·intro tm hr
       simp [AllL, rdV] at hr
       simp [hr, nth_d e11]
       intros; first | exact KD.mk | exact KD.mkN
      ·intro tm hr
       simp [AllL, rdV] at hr
       simp [hr, nth_d e11]
       intros; first | exact KD.mk | exact KD.mkN
      ·intro tm hr
       simp [AllL, rdV] at hr
       simp [hr, nth_d e11]
       intros; first | exact KD.mk | exact KD.mkN
      ·intro tm hr
       simp [AllL, rdV] at hr
       simp [hr, nth_d e11]
       intros; first | exact KD.mk | exact KD.mkN
      ·intro tm hr
       simp [AllL, rdV] at hr
       simp [hr, nth_d e11]
       intros; first | exact KD.mk | exact KD.mkN
      ·intro tm hr
       simp [AllL, rdV] at hr
       simp [hr, nth_d e11]
       intros; first | exact KD.mk | exact KD.mkN
      ·intro tm hr
       simp [AllL, rdV] at hr
       simp [hr, nth_d e11]
       intros; first | exact KD.mk | exact KD.mkN
      ·intro tm hr
       simp [AllL, rdV] at hr
       simp [hr, nth_d e11]
       intros; first | exact KD.mk | exact KD.mkN
      ·intro tm hr
       simp [AllL, rdV] at hr
       simp [hr, nth_d e11]
       intros; first | exact KD.mk | exact KD.mkN
     ·rfl
     ·simp [tmD, putD, nth_d e11]; rfl
     ·simp [nth_d e11]
      intros; rfl
     obtain rfl := Option.some.inj h
     refine AW.ret ?_
     try simp only [sp_l, sp_r, Post.seq, Post.block, Nat.reduceEqDiff, reduceIte, Nat.zero_ne_one, Nat.one_ne_zero]
     refine rP_i ?_
     refine Left.plain hnb (by simp [Try.f25, resV, resC, comp]; rfl) rfl rfl ?_
     simp
    | false =>
     replace h := iteF rfl h
     refine AW.cond_false (by simp) ?_
     refine AW.skip ?_
     try simp only [sp_l, sp_r, Post.seq, Post.block, Nat.reduceEqDiff, reduceIte, Nat.zero_ne_one, Nat.one_ne_zero]
     try simp only [sp_l, sp_r, Post.seq, Post.block, Nat.reduceEqDiff, reduceIte, Nat.zero_ne_one, Nat.one_ne_zero]
     replace h := ltE h; obtain ⟨v12, e12, h⟩ := h
     apply AW.last
     ·simp [← e12]
      intros; rfl
     obtain rfl := Option.some.inj h
     refine nP_i ?_
     refine Weak.mixN [] hn0 (by decide) ?_ ?_ rfl
     all_goals first | (simp [inv_cons, inv_nil, pickOb]; done) | rfl
  | false =>
   replace h := iteF rfl h
   refine AW.cond_false (by simp) ?_
   refine AW.exit ?_
   try simp only [sp_l, sp_r, Post.seq, Post.block, Nat.reduceEqDiff, reduceIte, Nat.zero_ne_one, Nat.one_ne_zero]
   obtain rfl := Option.some.inj h
   try simp only [sp_l, sp_r]
   refine xP_i ?_
   refine Weak.mixN [] hn0 (by decide) ?_ ?_ rfl
   all_goals first | (simp [inv_cons, inv_nil, pickOb]; done) | rfl
 ·rintro e s hp
  rcases y2 with y13 | y14
  ·replace h := smL h
   obtain ⟨rfl, hw⟩ := hp
   refine ⟨_, hw, ?_⟩
   try simp only [sp_l, sp_r, Post.seq, Post.block, Nat.reduceEqDiff, reduceIte, Nat.zero_ne_one, Nat.one_ne_zero]
   apply AW.step
   ·simp
    intros; rfl
   obtain rfl := Option.some.inj h
   refine AW.ret ?_
   refine Left.plain hnb (by simp [Try.f25, resV, resC, comp]; rfl) rfl rfl ?_
   simp
  ·replace h := smR h
   obtain ⟨rfl, hl⟩ := hp
   refine ⟨_, Weak.refl _, ?_⟩
   obtain rfl := Option.some.inj h
   exact hl
theorem en_r13_Of : Enters Try.prog 25 := enters Try.func25 (by kernel_rfl) rfl
def r13_more_xf_sh (n : Nat) (a0 : List Claim) (a1 : Claim) : Option (List Claim) :=
lt (lenI a0) fun v1 =>
lt (subI .i64 v1 1) fun v2 =>
bn (lt (geI v2 0) fun v4 =>
ite' v4 (bn (nth a0 v2) fun v5 =>
lt (subI .i64 a1.frm 1) fun v7 =>
lt (eqI v5.to v7) fun v8 =>
ite' v8 (lt (eqI v5.node a1.node) fun v10 =>
ite' v10 (lt (eqI v5.epoch a1.epoch) fun v12 =>
some (v12)) (some (false))) (some (false))) (some (false))) fun (y3 : Bool) =>
lt (y3) fun v13 =>
ite' v13 (bn (nth a0 v2) fun v14 =>
lt (a0.set v2.toNat (⟨v14.frm, a1.to, v14.node, v14.epoch⟩ : Claim)) fun v16 =>
some v16) (chk (room (a0.length + 1) 32) <|
lt (a0 ++ [a1]) fun v20 =>
some v20)
set_option maxRecDepth 8000 in
set_option maxHeartbeats 8000000 in
theorem s_r13_more_xf {n : Nat} {a0 : List Claim} {a1 : Claim} {r : List Claim} (h : r13_more_xf_sh n a0 a1 = some r) : Sound Try.prog 27 [.l (.r 0 4 0 a0.length), .g [.s (.int .i64 a1.frm), .s (.int .i64 a1.to), .s (.int .i64 a1.node), .s (.int .i64 a1.epoch)]] [⟨63, 4, true, none, lvs (encClaim a0)⟩] (.l (.r 0 4 0 r.length)) [some ⟨63, 4, true, none, lvs (encClaim r)⟩] := by
 unfold r13_more_xf_sh at h
 refine Sound.of_aw (fn := Try.f27) (c := _) Try.func27 rfl (by simp [Try.f27]) fun cx hG hnb => ?_
 rw [show Try.f27.ntmps = 53 from rfl]
 have hn0 : cx.nb = 1 := hnb
 simp only [st0_mk, initTm, List.map_cons, List.map_nil]
 apply AW.step
 ·simp
  intros; rfl
 refine AW.seq ?_
 replace h := ltE h; obtain ⟨v1, e1, h⟩ := h
 replace h := ltE h; obtain ⟨v2, e2, h⟩ := h
 apply AW.step
 ·simp [lenI_cast e1, ← e2]
  intros; rfl
 replace h := bnE h; obtain ⟨y3, g3, h⟩ := h
 refine AW.flow (p := fun gh ls => (nP (cx := cx) (fun q => (⟨[(0, .l (.r 0 4 0 a0.length)), (3, .l (.p 1 0)), (5, .l (.s (.int .i64 v2))), (41, .l (.s (.bool q)))], [some ⟨63, 4, true, none, lvs (encClaim a0)⟩, some ⟨63, 4, false, none, [.s (.int .i64 a1.frm), .s (.int .i64 a1.to), .s (.int .i64 a1.node), .s (.int .i64 a1.epoch)]⟩], 53, gh, ls⟩ : St))) y3) ?_ ?_
 ·replace h := g3; clear g3
  replace h := ltE h; obtain ⟨v4, e4, h⟩ := h
  cases v4 with
  | true =>
   replace h := iteT rfl h
   replace h := bnE h; obtain ⟨v5, e5, h⟩ := h
   have f6 := nth_lt e5
   try simp [← e4, nth_d e5] at f6
   replace h := ltE h; obtain ⟨v7, e7, h⟩ := h
   replace h := ltE h; obtain ⟨v8, e8, h⟩ := h
   cases v8 with
   | true =>
    replace h := iteT rfl h
    have f9 := nth_lt e5
    try simp [← e4, nth_d e5, f6, encClaim_cell (nth_d e5).2 (j := 1) (by decide), lvs1, ← e7, ← e8] at f9
    replace h := ltE h; obtain ⟨v10, e10, h⟩ := h
    cases v10 with
    | true =>
     replace h := iteT rfl h
     have f11 := nth_lt e5
     try simp [← e4, nth_d e5, f6, encClaim_cell (nth_d e5).2 (j := 1) (by decide), lvs1, ← e7, ← e8, f9, encClaim_cell (nth_d e5).2 (j := 2) (by decide), ← e10] at f11
     replace h := ltE h; obtain ⟨v12, e12, h⟩ := h
     apply AW.drawnR (V := [_, _, _, _, _, _, _, _, _, _, _, _, _, _, _, _, _, _, _, _, _, _, _, _, _, _, _, _, _, _, _]) mixed [⟨[0], [], [(5, none)], false⟩, ⟨[0], [0], [(9, some 0)], false⟩, ⟨[0], [0, 1], [(10, some 1)], false⟩, ⟨[0], [0, 1, 2], [(0, none), (11, some 2)], false⟩, ⟨[0], [0, 1, 2], [(5, none), (11, some 2)], false⟩, ⟨[0], [0, 1, 2, 3, 4], [(11, some 2), (12, some 3), (13, some 4)], false⟩, ⟨[0], [0, 1, 2, 3, 4, 5], [(11, some 2), (14, some 5)], false⟩, ⟨[0], [0, 1, 2, 3, 4, 5, 6], [(11, some 2), (15, some 6)], false⟩, ⟨[0], [0, 1, 2], [(3, none), (11, some 2)], false⟩, ⟨[0], [0, 1, 2, 8], [(11, some 2), (17, some 8)], false⟩, ⟨[0], [0, 1, 2, 8, 9], [(11, some 2), (18, some 9)], false⟩, ⟨[0], [0, 1, 2, 3, 4, 5, 6, 7, 8, 9, 10], [(11, some 2), (16, some 7), (19, some 10)], false⟩, ⟨[0], [0, 1, 2, 3, 4, 5, 6, 7, 8, 9, 10, 11], [(11, some 2), (20, some 11)], false⟩, ⟨[0], [0, 1, 2, 3, 4, 5, 6, 7, 8, 9, 10, 11, 12], [(21, some 12)], false⟩, ⟨[0], [0, 1, 2, 3, 4, 5, 6, 7, 8, 9, 10, 11, 12, 13], [(0, none), (22, some 13)], false⟩, ⟨[0], [0, 1, 2, 3, 4, 5, 6, 7, 8, 9, 10, 11, 12, 13], [(5, none), (22, some 13)], false⟩, ⟨[0], [0, 1, 2, 3, 4, 5, 6, 7, 8, 9, 10, 11, 12, 13, 14, 15], [(22, some 13), (23, some 14), (24, some 15)], false⟩, ⟨[0], [0, 1, 2, 3, 4, 5, 6, 7, 8, 9, 10, 11, 12, 13, 14, 15, 16], [(22, some 13), (25, some 16)], false⟩, ⟨[0], [0, 1, 2, 3, 4, 5, 6, 7, 8, 9, 10, 11, 12, 13, 14, 15, 16, 17], [(22, some 13), (26, some 17)], false⟩, ⟨[0], [0, 1, 2, 3, 4, 5, 6, 7, 8, 9, 10, 11, 12, 13], [(3, none), (22, some 13)], false⟩, ⟨[0], [0, 1, 2, 3, 4, 5, 6, 7, 8, 9, 10, 11, 12, 13, 19], [(22, some 13), (28, some 19)], false⟩, ⟨[0], [0, 1, 2, 3, 4, 5, 6, 7, 8, 9, 10, 11, 12, 13, 14, 15, 16, 17, 18, 19, 20], [(22, some 13), (27, some 18), (29, some 20)], false⟩, ⟨[0], [0, 1, 2, 3, 4, 5, 6, 7, 8, 9, 10, 11, 12, 13, 14, 15, 16, 17, 18, 19, 20, 21], [(22, some 13), (30, some 21)], false⟩, ⟨[0], [0, 1, 2, 3, 4, 5, 6, 7, 8, 9, 10, 11, 12, 13, 14, 15, 16, 17, 18, 19, 20, 21, 22], [(31, some 22)], false⟩, ⟨[0], [0, 1, 2, 3, 4, 5, 6, 7, 8, 9, 10, 11, 12, 13, 14, 15, 16, 17, 18, 19, 20, 21, 22, 23], [(0, none), (32, some 23)], false⟩, ⟨[0], [0, 1, 2, 3, 4, 5, 6, 7, 8, 9, 10, 11, 12, 13, 14, 15, 16, 17, 18, 19, 20, 21, 22, 23], [(5, none), (32, some 23)], false⟩, ⟨[0], [0, 1, 2, 3, 4, 5, 6, 7, 8, 9, 10, 11, 12, 13, 14, 15, 16, 17, 18, 19, 20, 21, 22, 23, 24, 25], [(32, some 23), (33, some 24), (34, some 25)], false⟩, ⟨[0], [0, 1, 2, 3, 4, 5, 6, 7, 8, 9, 10, 11, 12, 13, 14, 15, 16, 17, 18, 19, 20, 21, 22, 23, 24, 25, 26], [(32, some 23), (35, some 26)], false⟩, ⟨[0], [0, 1, 2, 3, 4, 5, 6, 7, 8, 9, 10, 11, 12, 13, 14, 15, 16, 17, 18, 19, 20, 21, 22, 23, 24, 25, 26, 27], [(32, some 23), (36, some 27)], false⟩, ⟨[0], [0, 1, 2, 3, 4, 5, 6, 7, 8, 9, 10, 11, 12, 13, 14, 15, 16, 17, 18, 19, 20, 21, 22, 23], [(3, none), (32, some 23)], false⟩, ⟨[0], [0, 1, 2, 3, 4, 5, 6, 7, 8, 9, 10, 11, 12, 13, 14, 15, 16, 17, 18, 19, 20, 21, 22, 23, 29], [(32, some 23), (38, some 29)], false⟩, ⟨[], [0, 1, 2, 3, 4, 5, 6, 7, 8, 9, 10, 11, 12, 13, 14, 15, 16, 17, 18, 19, 20, 21, 22, 23, 24, 25, 26, 27, 28, 29, 30], [], false⟩, ⟨[], [0, 1, 2, 3, 4, 5, 6, 7, 8, 9, 10, 11, 12, 13, 14, 15, 16, 17, 18, 19, 20, 21, 22, 23, 24, 25, 26, 27, 28, 29, 30, 31], [], false⟩] 31 (by kernel_rfl) (by kernel_rfl)
     ·refine ⟨?_, ?_, ?_, ?_, ?_, ?_, ?_, ?_, ?_, ?_, ?_, ?_, ?_, ?_, ?_, ?_, ?_, ?_, ?_, ?_, ?_, ?_, ?_, ?_, ?_, ?_, ?_, ?_, ?_, ?_, ?_, trivial⟩
      ·intro tm hr
       simp [AllL, rdV] at hr
       simp [hr, ← e4, nth_d e5, f6, encClaim_cell (nth_d e5).2 (j := 1) (by decide), lvs1, ← e7, ← e8, f9, encClaim_cell (nth_d e5).2 (j := 2) (by decide), ← e10, f11, encClaim_cell (nth_d e5).2 (j := 3) (by decide), ← e12]
       intros; first | exact KD.mk | exact KD.mkN
      ·intro tm hr
       simp [AllL, rdV] at hr
       simp [hr, ← e4, nth_d e5, f6, encClaim_cell (nth_d e5).2 (j := 1) (by decide), lvs1, ← e7, ← e8, f9, encClaim_cell (nth_d e5).2 (j := 2) (by decide), ← e10, f11, encClaim_cell (nth_d e5).2 (j := 3) (by decide), ← e12]
       intros; first | exact KD.mk | exact KD.mkN
      ·intro tm hr
       simp [AllL, rdV] at hr
       simp [hr, ← e4, nth_d e5, f6, encClaim_cell (nth_d e5).2 (j := 1) (by decide), lvs1, ← e7, ← e8, f9, encClaim_cell (nth_d e5).2 (j := 2) (by decide), ← e10, f11, encClaim_cell (nth_d e5).2 (j := 3) (by decide), ← e12]
       intros; first | exact KD.mk | exact KD.mkN
      ·intro tm hr
       simp [AllL, rdV] at hr
       simp [hr, ← e4, nth_d e5, f6, encClaim_cell (nth_d e5).2 (j := 1) (by decide), lvs1, ← e7, ← e8, f9, encClaim_cell (nth_d e5).2 (j := 2) (by decide), ← e10, f11, encClaim_cell (nth_d e5).2 (j := 3) (by decide), ← e12]
       intros; first | exact KD.mk | exact KD.mkN
      ·intro tm hr
       simp [AllL, rdV] at hr
       simp [hr, ← e4, nth_d e5, f6, encClaim_cell (nth_d e5).2 (j := 1) (by decide), lvs1, ← e7, ← e8, f9, encClaim_cell (nth_d e5).2 (j := 2) (by decide), ← e10, f11, encClaim_cell (nth_d e5).2 (j := 3) (by decide), ← e12]
       intros; first | exact KD.mk | exact KD.mkN
      ·intro tm hr
       simp [AllL, rdV] at hr
       simp [hr, ← e4, nth_d e5, f6, encClaim_cell (nth_d e5).2 (j := 1) (by decide), lvs1, ← e7, ← e8, f9, encClaim_cell (nth_d e5).2 (j := 2) (by decide), ← e10, f11, encClaim_cell (nth_d e5).2 (j := 3) (by decide), ← e12]
       intros; first | exact KD.mk | exact KD.mkN
      ·intro tm hr
       simp [AllL, rdV] at hr
       simp [hr, ← e4, nth_d e5, f6, encClaim_cell (nth_d e5).2 (j := 1) (by decide), lvs1, ← e7, ← e8, f9, encClaim_cell (nth_d e5).2 (j := 2) (by decide), ← e10, f11, encClaim_cell (nth_d e5).2 (j := 3) (by decide), ← e12]
       intros; first | exact KD.mk | exact KD.mkN
      ·intro tm hr
       simp [AllL, rdV] at hr
       simp [hr, ← e4, nth_d e5, f6, encClaim_cell (nth_d e5).2 (j := 1) (by decide), lvs1, ← e7, ← e8, f9, encClaim_cell (nth_d e5).2 (j := 2) (by decide), ← e10, f11, encClaim_cell (nth_d e5).2 (j := 3) (by decide), ← e12]
       intros; first | exact KD.mk | exact KD.mkN
      ·intro tm hr
       simp [AllL, rdV] at hr
       simp [hr, ← e4, nth_d e5, f6, encClaim_cell (nth_d e5).2 (j := 1) (by decide), lvs1, ← e7, ← e8, f9, encClaim_cell (nth_d e5).2 (j := 2) (by decide), ← e10, f11, encClaim_cell (nth_d e5).2 (j := 3) (by decide), ← e12]
       intros; first | exact KD.mk | exact KD.mkN
      ·intro tm hr
       simp [AllL, rdV] at hr
       simp [hr, ← e4, nth_d e5, f6, encClaim_cell (nth_d e5).2 (j := 1) (by decide), lvs1, ← e7, ← e8, f9, encClaim_cell (nth_d e5).2 (j := 2) (by decide), ← e10, f11, encClaim_cell (nth_d e5).2 (j := 3) (by decide), ← e12]
       intros; first | exact KD.mk | exact KD.mkN
      ·intro tm hr
       simp [AllL, rdV] at hr
       simp [hr, ← e4, nth_d e5, f6, encClaim_cell (nth_d e5).2 (j := 1) (by decide), lvs1, ← e7, ← e8, f9, encClaim_cell (nth_d e5).2 (j := 2) (by decide), ← e10, f11, encClaim_cell (nth_d e5).2 (j := 3) (by decide), ← e12]
       intros; first | exact KD.mk | exact KD.mkN
      ·intro tm hr
       simp [AllL, rdV] at hr
       simp [hr, ← e4, nth_d e5, f6, encClaim_cell (nth_d e5).2 (j := 1) (by decide), lvs1, ← e7, ← e8, f9, encClaim_cell (nth_d e5).2 (j := 2) (by decide), ← e10, f11, encClaim_cell (nth_d e5).2 (j := 3) (by decide), ← e12]
       intros; first | exact KD.mk | exact KD.mkN
      ·intro tm hr
       simp [AllL, rdV] at hr
       simp [hr, ← e4, nth_d e5, f6, encClaim_cell (nth_d e5).2 (j := 1) (by decide), lvs1, ← e7, ← e8, f9, encClaim_cell (nth_d e5).2 (j := 2) (by decide), ← e10, f11, encClaim_cell (nth_d e5).2 (j := 3) (by decide), ← e12]
       intros; first | exact KD.mk | exact KD.mkN
      ·intro tm hr
       simp [AllL, rdV] at hr
       simp [hr, ← e4, nth_d e5, f6, encClaim_cell (nth_d e5).2 (j := 1) (by decide), lvs1, ← e7, ← e8, f9, encClaim_cell (nth_d e5).2 (j := 2) (by decide), ← e10, f11, encClaim_cell (nth_d e5).2 (j := 3) (by decide), ← e12]
       intros; first | exact KD.mk | exact KD.mkN
      ·intro tm hr
       simp [AllL, rdV] at hr
       simp [hr, ← e4, nth_d e5, f6, encClaim_cell (nth_d e5).2 (j := 1) (by decide), lvs1, ← e7, ← e8, f9, encClaim_cell (nth_d e5).2 (j := 2) (by decide), ← e10, f11, encClaim_cell (nth_d e5).2 (j := 3) (by decide), ← e12]
       intros; first | exact KD.mk | exact KD.mkN
      ·intro tm hr
       simp [AllL, rdV] at hr
       simp [hr, ← e4, nth_d e5, f6, encClaim_cell (nth_d e5).2 (j := 1) (by decide), lvs1, ← e7, ← e8, f9, encClaim_cell (nth_d e5).2 (j := 2) (by decide), ← e10, f11, encClaim_cell (nth_d e5).2 (j := 3) (by decide), ← e12]
       intros; first | exact KD.mk | exact KD.mkN
      ·intro tm hr
       simp [AllL, rdV] at hr
       simp [hr, ← e4, nth_d e5, f6, encClaim_cell (nth_d e5).2 (j := 1) (by decide), lvs1, ← e7, ← e8, f9, encClaim_cell (nth_d e5).2 (j := 2) (by decide), ← e10, f11, encClaim_cell (nth_d e5).2 (j := 3) (by decide), ← e12]
       intros; first | exact KD.mk | exact KD.mkN
      ·intro tm hr
       simp [AllL, rdV] at hr
       simp [hr, ← e4, nth_d e5, f6, encClaim_cell (nth_d e5).2 (j := 1) (by decide), lvs1, ← e7, ← e8, f9, encClaim_cell (nth_d e5).2 (j := 2) (by decide), ← e10, f11, encClaim_cell (nth_d e5).2 (j := 3) (by decide), ← e12]
       intros; first | exact KD.mk | exact KD.mkN
      ·intro tm hr
       simp [AllL, rdV] at hr
       simp [hr, ← e4, nth_d e5, f6, encClaim_cell (nth_d e5).2 (j := 1) (by decide), lvs1, ← e7, ← e8, f9, encClaim_cell (nth_d e5).2 (j := 2) (by decide), ← e10, f11, encClaim_cell (nth_d e5).2 (j := 3) (by decide), ← e12]
       intros; first | exact KD.mk | exact KD.mkN
      ·intro tm hr
       simp [AllL, rdV] at hr
       simp [hr, ← e4, nth_d e5, f6, encClaim_cell (nth_d e5).2 (j := 1) (by decide), lvs1, ← e7, ← e8, f9, encClaim_cell (nth_d e5).2 (j := 2) (by decide), ← e10, f11, encClaim_cell (nth_d e5).2 (j := 3) (by decide), ← e12]
       intros; first | exact KD.mk | exact KD.mkN
      ·intro tm hr
       simp [AllL, rdV] at hr
       simp [hr, ← e4, nth_d e5, f6, encClaim_cell (nth_d e5).2 (j := 1) (by decide), lvs1, ← e7, ← e8, f9, encClaim_cell (nth_d e5).2 (j := 2) (by decide), ← e10, f11, encClaim_cell (nth_d e5).2 (j := 3) (by decide), ← e12]
       intros; first | exact KD.mk | exact KD.mkN
      ·intro tm hr
       simp [AllL, rdV] at hr
       simp [hr, ← e4, nth_d e5, f6, encClaim_cell (nth_d e5).2 (j := 1) (by decide), lvs1, ← e7, ← e8, f9, encClaim_cell (nth_d e5).2 (j := 2) (by decide), ← e10, f11, encClaim_cell (nth_d e5).2 (j := 3) (by decide), ← e12]
       intros; first | exact KD.mk | exact KD.mkN
      ·intro tm hr
       simp [AllL, rdV] at hr
       simp [hr, ← e4, nth_d e5, f6, encClaim_cell (nth_d e5).2 (j := 1) (by decide), lvs1, ← e7, ← e8, f9, encClaim_cell (nth_d e5).2 (j := 2) (by decide), ← e10, f11, encClaim_cell (nth_d e5).2 (j := 3) (by decide), ← e12]
       intros; first | exact KD.mk | exact KD.mkN
      ·intro tm hr
       simp [AllL, rdV] at hr
       simp [hr, ← e4, nth_d e5, f6, encClaim_cell (nth_d e5).2 (j := 1) (by decide), lvs1, ← e7, ← e8, f9, encClaim_cell (nth_d e5).2 (j := 2) (by decide), ← e10, f11, encClaim_cell (nth_d e5).2 (j := 3) (by decide), ← e12]
       intros; first | exact KD.mk | exact KD.mkN
      ·intro tm hr
       simp [AllL, rdV] at hr
       simp [hr, ← e4, nth_d e5, f6, encClaim_cell (nth_d e5).2 (j := 1) (by decide), lvs1, ← e7, ← e8, f9, encClaim_cell (nth_d e5).2 (j := 2) (by decide), ← e10, f11, encClaim_cell (nth_d e5).2 (j := 3) (by decide), ← e12]
       intros; first | exact KD.mk | exact KD.mkN
      ·intro tm hr
       simp [AllL, rdV] at hr
       simp [hr, ← e4, nth_d e5, f6, encClaim_cell (nth_d e5).2 (j := 1) (by decide), lvs1, ← e7, ← e8, f9, encClaim_cell (nth_d e5).2 (j := 2) (by decide), ← e10, f11, encClaim_cell (nth_d e5).2 (j := 3) (by decide), ← e12]
       intros; first | exact KD.mk | exact KD.mkN
      ·intro tm hr
       simp [AllL, rdV] at hr
       simp [hr, ← e4, nth_d e5, f6, encClaim_cell (nth_d e5).2 (j := 1) (by decide), lvs1, ← e7, ← e8, f9, encClaim_cell (nth_d e5).2 (j := 2) (by decide), ← e10, f11, encClaim_cell (nth_d e5).2 (j := 3) (by decide), ← e12]
       intros; first | exact KD.mk | exact KD.mkN
      ·intro tm hr
       simp [AllL, rdV] at hr
       simp [hr, ← e4, nth_d e5, f6, encClaim_cell (nth_d e5).2 (j := 1) (by decide), lvs1, ← e7, ← e8, f9, encClaim_cell (nth_d e5).2 (j := 2) (by decide), ← e10, f11, encClaim_cell (nth_d e5).2 (j := 3) (by decide), ← e12]
       intros; first | exact KD.mk | exact KD.mkN
      ·intro tm hr
       simp [AllL, rdV] at hr
       simp [hr, ← e4, nth_d e5, f6, encClaim_cell (nth_d e5).2 (j := 1) (by decide), lvs1, ← e7, ← e8, f9, encClaim_cell (nth_d e5).2 (j := 2) (by decide), ← e10, f11, encClaim_cell (nth_d e5).2 (j := 3) (by decide), ← e12]
       intros; first | exact KD.mk | exact KD.mkN
      ·intro tm hr
       simp [AllL, rdV] at hr
       simp [hr, ← e4, nth_d e5, f6, encClaim_cell (nth_d e5).2 (j := 1) (by decide), lvs1, ← e7, ← e8, f9, encClaim_cell (nth_d e5).2 (j := 2) (by decide), ← e10, f11, encClaim_cell (nth_d e5).2 (j := 3) (by decide), ← e12]
       intros; first | exact KD.mk | exact KD.mkN
      ·intro tm hr
       simp [AllL, rdV] at hr
       simp [hr, ← e4, nth_d e5, f6, encClaim_cell (nth_d e5).2 (j := 1) (by decide), lvs1, ← e7, ← e8, f9, encClaim_cell (nth_d e5).2 (j := 2) (by decide), ← e10, f11, encClaim_cell (nth_d e5).2 (j := 3) (by decide), ← e12]
       intros; first | exact KD.mk | exact KD.mkN
     ·rfl
     ·simp [tmD, putD, ← e4, nth_d e5, f6, encClaim_cell (nth_d e5).2 (j := 1) (by decide), lvs1, ← e7, ← e8, f9, encClaim_cell (nth_d e5).2 (j := 2) (by decide), ← e10, f11, encClaim_cell (nth_d e5).2 (j := 3) (by decide), ← e12]; rfl
     ·simp [← e4, nth_d e5, f6, encClaim_cell (nth_d e5).2 (j := 1) (by decide), lvs1, ← e7, ← e8, f9, encClaim_cell (nth_d e5).2 (j := 2) (by decide), ← e10, f11, encClaim_cell (nth_d e5).2 (j := 3) (by decide), ← e12]
      intros; rfl
     obtain rfl := Option.some.inj h
     refine nP_i ?_
     refine Weak.mixB 1 [some 0, some 1] hn0 (by decide) (by decide) ?_ ?_ ?_
     all_goals first | (simp [inv_cons, inv_nil, pickOb]; done) | rfl
    | false =>
     replace h := iteF rfl h
     apply AW.drawnR (V := [_, _, _, _, _, _, _, _, _, _, _, _, _, _, _, _, _, _, _, _, _, _, _, _, _, _, _, _, _, _, _]) mixed [⟨[0], [], [(5, none)], false⟩, ⟨[0], [0], [(9, some 0)], false⟩, ⟨[0], [0, 1], [(10, some 1)], false⟩, ⟨[0], [0, 1, 2], [(0, none), (11, some 2)], false⟩, ⟨[0], [0, 1, 2], [(5, none), (11, some 2)], false⟩, ⟨[0], [0, 1, 2, 3, 4], [(11, some 2), (12, some 3), (13, some 4)], false⟩, ⟨[0], [0, 1, 2, 3, 4, 5], [(11, some 2), (14, some 5)], false⟩, ⟨[0], [0, 1, 2, 3, 4, 5, 6], [(11, some 2), (15, some 6)], false⟩, ⟨[0], [0, 1, 2], [(3, none), (11, some 2)], false⟩, ⟨[0], [0, 1, 2, 8], [(11, some 2), (17, some 8)], false⟩, ⟨[0], [0, 1, 2, 8, 9], [(11, some 2), (18, some 9)], false⟩, ⟨[0], [0, 1, 2, 3, 4, 5, 6, 7, 8, 9, 10], [(11, some 2), (16, some 7), (19, some 10)], false⟩, ⟨[0], [0, 1, 2, 3, 4, 5, 6, 7, 8, 9, 10, 11], [(11, some 2), (20, some 11)], false⟩, ⟨[0], [0, 1, 2, 3, 4, 5, 6, 7, 8, 9, 10, 11, 12], [(21, some 12)], false⟩, ⟨[0], [0, 1, 2, 3, 4, 5, 6, 7, 8, 9, 10, 11, 12, 13], [(0, none), (22, some 13)], false⟩, ⟨[0], [0, 1, 2, 3, 4, 5, 6, 7, 8, 9, 10, 11, 12, 13], [(5, none), (22, some 13)], false⟩, ⟨[0], [0, 1, 2, 3, 4, 5, 6, 7, 8, 9, 10, 11, 12, 13, 14, 15], [(22, some 13), (23, some 14), (24, some 15)], false⟩, ⟨[0], [0, 1, 2, 3, 4, 5, 6, 7, 8, 9, 10, 11, 12, 13, 14, 15, 16], [(22, some 13), (25, some 16)], false⟩, ⟨[0], [0, 1, 2, 3, 4, 5, 6, 7, 8, 9, 10, 11, 12, 13, 14, 15, 16, 17], [(22, some 13), (26, some 17)], false⟩, ⟨[0], [0, 1, 2, 3, 4, 5, 6, 7, 8, 9, 10, 11, 12, 13], [(3, none), (22, some 13)], false⟩, ⟨[0], [0, 1, 2, 3, 4, 5, 6, 7, 8, 9, 10, 11, 12, 13, 19], [(22, some 13), (28, some 19)], false⟩, ⟨[0], [0, 1, 2, 3, 4, 5, 6, 7, 8, 9, 10, 11, 12, 13, 14, 15, 16, 17, 18, 19, 20], [(22, some 13), (27, some 18), (29, some 20)], false⟩, ⟨[0], [0, 1, 2, 3, 4, 5, 6, 7, 8, 9, 10, 11, 12, 13, 14, 15, 16, 17, 18, 19, 20, 21], [(22, some 13), (30, some 21)], false⟩, ⟨[0], [0, 1, 2, 3, 4, 5, 6, 7, 8, 9, 10, 11, 12, 13, 14, 15, 16, 17, 18, 19, 20, 21, 22], [(31, some 22)], false⟩, ⟨[0], [0, 1, 2, 3, 4, 5, 6, 7, 8, 9, 10, 11, 12, 13, 14, 15, 16, 17, 18, 19, 20, 21, 22, 23], [(0, none), (32, some 23)], false⟩, ⟨[0], [0, 1, 2, 3, 4, 5, 6, 7, 8, 9, 10, 11, 12, 13, 14, 15, 16, 17, 18, 19, 20, 21, 22, 23], [(5, none), (32, some 23)], false⟩, ⟨[0], [0, 1, 2, 3, 4, 5, 6, 7, 8, 9, 10, 11, 12, 13, 14, 15, 16, 17, 18, 19, 20, 21, 22, 23, 24, 25], [(32, some 23), (33, some 24), (34, some 25)], false⟩, ⟨[0], [0, 1, 2, 3, 4, 5, 6, 7, 8, 9, 10, 11, 12, 13, 14, 15, 16, 17, 18, 19, 20, 21, 22, 23, 24, 25, 26], [(32, some 23), (35, some 26)], false⟩, ⟨[0], [0, 1, 2, 3, 4, 5, 6, 7, 8, 9, 10, 11, 12, 13, 14, 15, 16, 17, 18, 19, 20, 21, 22, 23, 24, 25, 26, 27], [(32, some 23), (36, some 27)], false⟩, ⟨[0], [0, 1, 2, 3, 4, 5, 6, 7, 8, 9, 10, 11, 12, 13, 14, 15, 16, 17, 18, 19, 20, 21, 22, 23], [(3, none), (32, some 23)], false⟩, ⟨[0], [0, 1, 2, 3, 4, 5, 6, 7, 8, 9, 10, 11, 12, 13, 14, 15, 16, 17, 18, 19, 20, 21, 22, 23, 29], [(32, some 23), (38, some 29)], false⟩, ⟨[], [0, 1, 2, 3, 4, 5, 6, 7, 8, 9, 10, 11, 12, 13, 14, 15, 16, 17, 18, 19, 20, 21, 22, 23, 24, 25, 26, 27, 28, 29, 30], [], false⟩, ⟨[], [0, 1, 2, 3, 4, 5, 6, 7, 8, 9, 10, 11, 12, 13, 14, 15, 16, 17, 18, 19, 20, 21, 22, 23, 24, 25, 26, 27, 28, 29, 30, 31], [], false⟩] 31 (by kernel_rfl) (by kernel_rfl)
     ·refine ⟨?_, ?_, ?_, ?_, ?_, ?_, ?_, ?_, ?_, ?_, ?_, ?_, ?_, ?_, ?_, ?_, ?_, ?_, ?_, ?_, ?_, ?_, ?_, ?_, ?_, ?_, ?_, ?_, ?_, ?_, ?_, trivial⟩
      ·intro tm hr
       simp [AllL, rdV] at hr
       simp [hr, ← e4, nth_d e5, f6, encClaim_cell (nth_d e5).2 (j := 1) (by decide), lvs1, ← e7, ← e8, f9, encClaim_cell (nth_d e5).2 (j := 2) (by decide), ← e10]
       intros; first | exact KD.mk | exact KD.mkN
      ·intro tm hr
       simp [AllL, rdV] at hr
       simp [hr, ← e4, nth_d e5, f6, encClaim_cell (nth_d e5).2 (j := 1) (by decide), lvs1, ← e7, ← e8, f9, encClaim_cell (nth_d e5).2 (j := 2) (by decide), ← e10]
       intros; first | exact KD.mk | exact KD.mkN
      ·intro tm hr
       simp [AllL, rdV] at hr
       simp [hr, ← e4, nth_d e5, f6, encClaim_cell (nth_d e5).2 (j := 1) (by decide), lvs1, ← e7, ← e8, f9, encClaim_cell (nth_d e5).2 (j := 2) (by decide), ← e10]
       intros; first | exact KD.mk | exact KD.mkN
      ·intro tm hr
       simp [AllL, rdV] at hr
       simp [hr, ← e4, nth_d e5, f6, encClaim_cell (nth_d e5).2 (j := 1) (by decide), lvs1, ← e7, ← e8, f9, encClaim_cell (nth_d e5).2 (j := 2) (by decide), ← e10]
       intros; first | exact KD.mk | exact KD.mkN
      ·intro tm hr
       simp [AllL, rdV] at hr
       simp [hr, ← e4, nth_d e5, f6, encClaim_cell (nth_d e5).2 (j := 1) (by decide), lvs1, ← e7, ← e8, f9, encClaim_cell (nth_d e5).2 (j := 2) (by decide), ← e10]
       intros; first | exact KD.mk | exact KD.mkN
      ·intro tm hr
       simp [AllL, rdV] at hr
       simp [hr, ← e4, nth_d e5, f6, encClaim_cell (nth_d e5).2 (j := 1) (by decide), lvs1, ← e7, ← e8, f9, encClaim_cell (nth_d e5).2 (j := 2) (by decide), ← e10]
       intros; first | exact KD.mk | exact KD.mkN
      ·intro tm hr
       simp [AllL, rdV] at hr
       simp [hr, ← e4, nth_d e5, f6, encClaim_cell (nth_d e5).2 (j := 1) (by decide), lvs1, ← e7, ← e8, f9, encClaim_cell (nth_d e5).2 (j := 2) (by decide), ← e10]
       intros; first | exact KD.mk | exact KD.mkN
      ·intro tm hr
       simp [AllL, rdV] at hr
       simp [hr, ← e4, nth_d e5, f6, encClaim_cell (nth_d e5).2 (j := 1) (by decide), lvs1, ← e7, ← e8, f9, encClaim_cell (nth_d e5).2 (j := 2) (by decide), ← e10]
       intros; first | exact KD.mk | exact KD.mkN
      ·intro tm hr
       simp [AllL, rdV] at hr
       simp [hr, ← e4, nth_d e5, f6, encClaim_cell (nth_d e5).2 (j := 1) (by decide), lvs1, ← e7, ← e8, f9, encClaim_cell (nth_d e5).2 (j := 2) (by decide), ← e10]
       intros; first | exact KD.mk | exact KD.mkN
      ·intro tm hr
       simp [AllL, rdV] at hr
       simp [hr, ← e4, nth_d e5, f6, encClaim_cell (nth_d e5).2 (j := 1) (by decide), lvs1, ← e7, ← e8, f9, encClaim_cell (nth_d e5).2 (j := 2) (by decide), ← e10]
       intros; first | exact KD.mk | exact KD.mkN
      ·intro tm hr
       simp [AllL, rdV] at hr
       simp [hr, ← e4, nth_d e5, f6, encClaim_cell (nth_d e5).2 (j := 1) (by decide), lvs1, ← e7, ← e8, f9, encClaim_cell (nth_d e5).2 (j := 2) (by decide), ← e10]
       intros; first | exact KD.mk | exact KD.mkN
      ·intro tm hr
       simp [AllL, rdV] at hr
       simp [hr, ← e4, nth_d e5, f6, encClaim_cell (nth_d e5).2 (j := 1) (by decide), lvs1, ← e7, ← e8, f9, encClaim_cell (nth_d e5).2 (j := 2) (by decide), ← e10]
       intros; first | exact KD.mk | exact KD.mkN
      ·intro tm hr
       simp [AllL, rdV] at hr
       simp [hr, ← e4, nth_d e5, f6, encClaim_cell (nth_d e5).2 (j := 1) (by decide), lvs1, ← e7, ← e8, f9, encClaim_cell (nth_d e5).2 (j := 2) (by decide), ← e10]
       intros; first | exact KD.mk | exact KD.mkN
      ·intro tm hr
       simp [AllL, rdV] at hr
       simp [hr, ← e4, nth_d e5, f6, encClaim_cell (nth_d e5).2 (j := 1) (by decide), lvs1, ← e7, ← e8, f9, encClaim_cell (nth_d e5).2 (j := 2) (by decide), ← e10]
       intros; first | exact KD.mk | exact KD.mkN
      ·intro tm hr
       simp [AllL, rdV] at hr
       simp [hr, ← e4, nth_d e5, f6, encClaim_cell (nth_d e5).2 (j := 1) (by decide), lvs1, ← e7, ← e8, f9, encClaim_cell (nth_d e5).2 (j := 2) (by decide), ← e10]
       intros; first | exact KD.mk | exact KD.mkN
      ·intro tm hr
       simp [AllL, rdV] at hr
       simp [hr, ← e4, nth_d e5, f6, encClaim_cell (nth_d e5).2 (j := 1) (by decide), lvs1, ← e7, ← e8, f9, encClaim_cell (nth_d e5).2 (j := 2) (by decide), ← e10]
       intros; first | exact KD.mk | exact KD.mkN
      ·intro tm hr
       simp [AllL, rdV] at hr
       simp [hr, ← e4, nth_d e5, f6, encClaim_cell (nth_d e5).2 (j := 1) (by decide), lvs1, ← e7, ← e8, f9, encClaim_cell (nth_d e5).2 (j := 2) (by decide), ← e10]
       intros; first | exact KD.mk | exact KD.mkN
      ·intro tm hr
       simp [AllL, rdV] at hr
       simp [hr, ← e4, nth_d e5, f6, encClaim_cell (nth_d e5).2 (j := 1) (by decide), lvs1, ← e7, ← e8, f9, encClaim_cell (nth_d e5).2 (j := 2) (by decide), ← e10]
       intros; first | exact KD.mk | exact KD.mkN
      ·intro tm hr
       simp [AllL, rdV] at hr
       simp [hr, ← e4, nth_d e5, f6, encClaim_cell (nth_d e5).2 (j := 1) (by decide), lvs1, ← e7, ← e8, f9, encClaim_cell (nth_d e5).2 (j := 2) (by decide), ← e10]
       intros; first | exact KD.mk | exact KD.mkN
      ·intro tm hr
       simp [AllL, rdV] at hr
       simp [hr, ← e4, nth_d e5, f6, encClaim_cell (nth_d e5).2 (j := 1) (by decide), lvs1, ← e7, ← e8, f9, encClaim_cell (nth_d e5).2 (j := 2) (by decide), ← e10]
       intros; first | exact KD.mk | exact KD.mkN
      ·intro tm hr
       simp [AllL, rdV] at hr
       simp [hr, ← e4, nth_d e5, f6, encClaim_cell (nth_d e5).2 (j := 1) (by decide), lvs1, ← e7, ← e8, f9, encClaim_cell (nth_d e5).2 (j := 2) (by decide), ← e10]
       intros; first | exact KD.mk | exact KD.mkN
      ·intro tm hr
       simp [AllL, rdV] at hr
       simp [hr, ← e4, nth_d e5, f6, encClaim_cell (nth_d e5).2 (j := 1) (by decide), lvs1, ← e7, ← e8, f9, encClaim_cell (nth_d e5).2 (j := 2) (by decide), ← e10]
       intros; first | exact KD.mk | exact KD.mkN
      ·intro tm hr
       simp [AllL, rdV] at hr
       simp [hr, ← e4, nth_d e5, f6, encClaim_cell (nth_d e5).2 (j := 1) (by decide), lvs1, ← e7, ← e8, f9, encClaim_cell (nth_d e5).2 (j := 2) (by decide), ← e10]
       intros; first | exact KD.mk | exact KD.mkN
      ·intro tm hr
       simp [AllL, rdV] at hr
       simp [hr, ← e4, nth_d e5, f6, encClaim_cell (nth_d e5).2 (j := 1) (by decide), lvs1, ← e7, ← e8, f9, encClaim_cell (nth_d e5).2 (j := 2) (by decide), ← e10]
       intros; first | exact KD.mk | exact KD.mkN
      ·intro tm hr
       simp [AllL, rdV] at hr
       simp [hr, ← e4, nth_d e5, f6, encClaim_cell (nth_d e5).2 (j := 1) (by decide), lvs1, ← e7, ← e8, f9, encClaim_cell (nth_d e5).2 (j := 2) (by decide), ← e10]
       intros; first | exact KD.mk | exact KD.mkN
      ·intro tm hr
       simp [AllL, rdV] at hr
       simp [hr, ← e4, nth_d e5, f6, encClaim_cell (nth_d e5).2 (j := 1) (by decide), lvs1, ← e7, ← e8, f9, encClaim_cell (nth_d e5).2 (j := 2) (by decide), ← e10]
       intros; first | exact KD.mk | exact KD.mkN
      ·intro tm hr
       simp [AllL, rdV] at hr
       simp [hr, ← e4, nth_d e5, f6, encClaim_cell (nth_d e5).2 (j := 1) (by decide), lvs1, ← e7, ← e8, f9, encClaim_cell (nth_d e5).2 (j := 2) (by decide), ← e10]
       intros; first | exact KD.mk | exact KD.mkN
      ·intro tm hr
       simp [AllL, rdV] at hr
       simp [hr, ← e4, nth_d e5, f6, encClaim_cell (nth_d e5).2 (j := 1) (by decide), lvs1, ← e7, ← e8, f9, encClaim_cell (nth_d e5).2 (j := 2) (by decide), ← e10]
       intros; first | exact KD.mk | exact KD.mkN
      ·intro tm hr
       simp [AllL, rdV] at hr
       simp [hr, ← e4, nth_d e5, f6, encClaim_cell (nth_d e5).2 (j := 1) (by decide), lvs1, ← e7, ← e8, f9, encClaim_cell (nth_d e5).2 (j := 2) (by decide), ← e10]
       intros; first | exact KD.mk | exact KD.mkN
      ·intro tm hr
       simp [AllL, rdV] at hr
       simp [hr, ← e4, nth_d e5, f6, encClaim_cell (nth_d e5).2 (j := 1) (by decide), lvs1, ← e7, ← e8, f9, encClaim_cell (nth_d e5).2 (j := 2) (by decide), ← e10]
       intros; first | exact KD.mk | exact KD.mkN
      ·intro tm hr
       simp [AllL, rdV] at hr
       simp [hr, ← e4, nth_d e5, f6, encClaim_cell (nth_d e5).2 (j := 1) (by decide), lvs1, ← e7, ← e8, f9, encClaim_cell (nth_d e5).2 (j := 2) (by decide), ← e10]
       intros; first | exact KD.mk | exact KD.mkN
     ·rfl
     ·simp [tmD, putD, ← e4, nth_d e5, f6, encClaim_cell (nth_d e5).2 (j := 1) (by decide), lvs1, ← e7, ← e8, f9, encClaim_cell (nth_d e5).2 (j := 2) (by decide), ← e10]; rfl
     ·simp [← e4, nth_d e5, f6, encClaim_cell (nth_d e5).2 (j := 1) (by decide), lvs1, ← e7, ← e8, f9, encClaim_cell (nth_d e5).2 (j := 2) (by decide), ← e10]
      intros; rfl
     obtain rfl := Option.some.inj h
     refine nP_i ?_
     refine Weak.mixB 1 [some 0, some 1] hn0 (by decide) (by decide) ?_ ?_ ?_
     all_goals first | (simp [inv_cons, inv_nil, pickOb]; done) | rfl
   | false =>
    replace h := iteF rfl h
    apply AW.drawnR (V := [_, _, _, _, _, _, _, _, _, _, _, _, _, _, _, _, _, _, _, _, _, _, _, _, _, _, _, _, _, _, _]) mixed [⟨[0], [], [(5, none)], false⟩, ⟨[0], [0], [(9, some 0)], false⟩, ⟨[0], [0, 1], [(10, some 1)], false⟩, ⟨[0], [0, 1, 2], [(0, none), (11, some 2)], false⟩, ⟨[0], [0, 1, 2], [(5, none), (11, some 2)], false⟩, ⟨[0], [0, 1, 2, 3, 4], [(11, some 2), (12, some 3), (13, some 4)], false⟩, ⟨[0], [0, 1, 2, 3, 4, 5], [(11, some 2), (14, some 5)], false⟩, ⟨[0], [0, 1, 2, 3, 4, 5, 6], [(11, some 2), (15, some 6)], false⟩, ⟨[0], [0, 1, 2], [(3, none), (11, some 2)], false⟩, ⟨[0], [0, 1, 2, 8], [(11, some 2), (17, some 8)], false⟩, ⟨[0], [0, 1, 2, 8, 9], [(11, some 2), (18, some 9)], false⟩, ⟨[0], [0, 1, 2, 3, 4, 5, 6, 7, 8, 9, 10], [(11, some 2), (16, some 7), (19, some 10)], false⟩, ⟨[0], [0, 1, 2, 3, 4, 5, 6, 7, 8, 9, 10, 11], [(11, some 2), (20, some 11)], false⟩, ⟨[0], [0, 1, 2, 3, 4, 5, 6, 7, 8, 9, 10, 11, 12], [(21, some 12)], false⟩, ⟨[0], [0, 1, 2, 3, 4, 5, 6, 7, 8, 9, 10, 11, 12, 13], [(0, none), (22, some 13)], false⟩, ⟨[0], [0, 1, 2, 3, 4, 5, 6, 7, 8, 9, 10, 11, 12, 13], [(5, none), (22, some 13)], false⟩, ⟨[0], [0, 1, 2, 3, 4, 5, 6, 7, 8, 9, 10, 11, 12, 13, 14, 15], [(22, some 13), (23, some 14), (24, some 15)], false⟩, ⟨[0], [0, 1, 2, 3, 4, 5, 6, 7, 8, 9, 10, 11, 12, 13, 14, 15, 16], [(22, some 13), (25, some 16)], false⟩, ⟨[0], [0, 1, 2, 3, 4, 5, 6, 7, 8, 9, 10, 11, 12, 13, 14, 15, 16, 17], [(22, some 13), (26, some 17)], false⟩, ⟨[0], [0, 1, 2, 3, 4, 5, 6, 7, 8, 9, 10, 11, 12, 13], [(3, none), (22, some 13)], false⟩, ⟨[0], [0, 1, 2, 3, 4, 5, 6, 7, 8, 9, 10, 11, 12, 13, 19], [(22, some 13), (28, some 19)], false⟩, ⟨[0], [0, 1, 2, 3, 4, 5, 6, 7, 8, 9, 10, 11, 12, 13, 14, 15, 16, 17, 18, 19, 20], [(22, some 13), (27, some 18), (29, some 20)], false⟩, ⟨[0], [0, 1, 2, 3, 4, 5, 6, 7, 8, 9, 10, 11, 12, 13, 14, 15, 16, 17, 18, 19, 20, 21], [(22, some 13), (30, some 21)], false⟩, ⟨[0], [0, 1, 2, 3, 4, 5, 6, 7, 8, 9, 10, 11, 12, 13, 14, 15, 16, 17, 18, 19, 20, 21, 22], [(31, some 22)], false⟩, ⟨[0], [0, 1, 2, 3, 4, 5, 6, 7, 8, 9, 10, 11, 12, 13, 14, 15, 16, 17, 18, 19, 20, 21, 22, 23], [(0, none), (32, some 23)], false⟩, ⟨[0], [0, 1, 2, 3, 4, 5, 6, 7, 8, 9, 10, 11, 12, 13, 14, 15, 16, 17, 18, 19, 20, 21, 22, 23], [(5, none), (32, some 23)], false⟩, ⟨[0], [0, 1, 2, 3, 4, 5, 6, 7, 8, 9, 10, 11, 12, 13, 14, 15, 16, 17, 18, 19, 20, 21, 22, 23, 24, 25], [(32, some 23), (33, some 24), (34, some 25)], false⟩, ⟨[0], [0, 1, 2, 3, 4, 5, 6, 7, 8, 9, 10, 11, 12, 13, 14, 15, 16, 17, 18, 19, 20, 21, 22, 23, 24, 25, 26], [(32, some 23), (35, some 26)], false⟩, ⟨[0], [0, 1, 2, 3, 4, 5, 6, 7, 8, 9, 10, 11, 12, 13, 14, 15, 16, 17, 18, 19, 20, 21, 22, 23, 24, 25, 26, 27], [(32, some 23), (36, some 27)], false⟩, ⟨[0], [0, 1, 2, 3, 4, 5, 6, 7, 8, 9, 10, 11, 12, 13, 14, 15, 16, 17, 18, 19, 20, 21, 22, 23], [(3, none), (32, some 23)], false⟩, ⟨[0], [0, 1, 2, 3, 4, 5, 6, 7, 8, 9, 10, 11, 12, 13, 14, 15, 16, 17, 18, 19, 20, 21, 22, 23, 29], [(32, some 23), (38, some 29)], false⟩, ⟨[], [0, 1, 2, 3, 4, 5, 6, 7, 8, 9, 10, 11, 12, 13, 14, 15, 16, 17, 18, 19, 20, 21, 22, 23, 24, 25, 26, 27, 28, 29, 30], [], false⟩, ⟨[], [0, 1, 2, 3, 4, 5, 6, 7, 8, 9, 10, 11, 12, 13, 14, 15, 16, 17, 18, 19, 20, 21, 22, 23, 24, 25, 26, 27, 28, 29, 30, 31], [], false⟩] 31 (by kernel_rfl) (by kernel_rfl)
    ·refine ⟨?_, ?_, ?_, ?_, ?_, ?_, ?_, ?_, ?_, ?_, ?_, ?_, ?_, ?_, ?_, ?_, ?_, ?_, ?_, ?_, ?_, ?_, ?_, ?_, ?_, ?_, ?_, ?_, ?_, ?_, ?_, trivial⟩
     ·intro tm hr
      simp [AllL, rdV] at hr
      simp [hr, ← e4, nth_d e5, f6, encClaim_cell (nth_d e5).2 (j := 1) (by decide), lvs1, ← e7, ← e8]
      intros; first | exact KD.mk | exact KD.mkN
     ·intro tm hr
      simp [AllL, rdV] at hr
      simp [hr, ← e4, nth_d e5, f6, encClaim_cell (nth_d e5).2 (j := 1) (by decide), lvs1, ← e7, ← e8]
      intros; first | exact KD.mk | exact KD.mkN
     ·intro tm hr
      simp [AllL, rdV] at hr
      simp [hr, ← e4, nth_d e5, f6, encClaim_cell (nth_d e5).2 (j := 1) (by decide), lvs1, ← e7, ← e8]
      intros; first | exact KD.mk | exact KD.mkN
     ·intro tm hr
      simp [AllL, rdV] at hr
      simp [hr, ← e4, nth_d e5, f6, encClaim_cell (nth_d e5).2 (j := 1) (by decide), lvs1, ← e7, ← e8]
      intros; first | exact KD.mk | exact KD.mkN
     ·intro tm hr
      simp [AllL, rdV] at hr
      simp [hr, ← e4, nth_d e5, f6, encClaim_cell (nth_d e5).2 (j := 1) (by decide), lvs1, ← e7, ← e8]
      intros; first | exact KD.mk | exact KD.mkN
     ·intro tm hr
      simp [AllL, rdV] at hr
      simp [hr, ← e4, nth_d e5, f6, encClaim_cell (nth_d e5).2 (j := 1) (by decide), lvs1, ← e7, ← e8]
      intros; first | exact KD.mk | exact KD.mkN
     ·intro tm hr
      simp [AllL, rdV] at hr
      simp [hr, ← e4, nth_d e5, f6, encClaim_cell (nth_d e5).2 (j := 1) (by decide), lvs1, ← e7, ← e8]
      intros; first | exact KD.mk | exact KD.mkN
     ·intro tm hr
      simp [AllL, rdV] at hr
      simp [hr, ← e4, nth_d e5, f6, encClaim_cell (nth_d e5).2 (j := 1) (by decide), lvs1, ← e7, ← e8]
      intros; first | exact KD.mk | exact KD.mkN
     ·intro tm hr
      simp [AllL, rdV] at hr
      simp [hr, ← e4, nth_d e5, f6, encClaim_cell (nth_d e5).2 (j := 1) (by decide), lvs1, ← e7, ← e8]
      intros; first | exact KD.mk | exact KD.mkN
     ·intro tm hr
      simp [AllL, rdV] at hr
      simp [hr, ← e4, nth_d e5, f6, encClaim_cell (nth_d e5).2 (j := 1) (by decide), lvs1, ← e7, ← e8]
      intros; first | exact KD.mk | exact KD.mkN
     ·intro tm hr
      simp [AllL, rdV] at hr
      simp [hr, ← e4, nth_d e5, f6, encClaim_cell (nth_d e5).2 (j := 1) (by decide), lvs1, ← e7, ← e8]
      intros; first | exact KD.mk | exact KD.mkN
     ·intro tm hr
      simp [AllL, rdV] at hr
      simp [hr, ← e4, nth_d e5, f6, encClaim_cell (nth_d e5).2 (j := 1) (by decide), lvs1, ← e7, ← e8]
      intros; first | exact KD.mk | exact KD.mkN
     ·intro tm hr
      simp [AllL, rdV] at hr
      simp [hr, ← e4, nth_d e5, f6, encClaim_cell (nth_d e5).2 (j := 1) (by decide), lvs1, ← e7, ← e8]
      intros; first | exact KD.mk | exact KD.mkN
     ·intro tm hr
      simp [AllL, rdV] at hr
      simp [hr, ← e4, nth_d e5, f6, encClaim_cell (nth_d e5).2 (j := 1) (by decide), lvs1, ← e7, ← e8]
      intros; first | exact KD.mk | exact KD.mkN
     ·intro tm hr
      simp [AllL, rdV] at hr
      simp [hr, ← e4, nth_d e5, f6, encClaim_cell (nth_d e5).2 (j := 1) (by decide), lvs1, ← e7, ← e8]
      intros; first | exact KD.mk | exact KD.mkN
     ·intro tm hr
      simp [AllL, rdV] at hr
      simp [hr, ← e4, nth_d e5, f6, encClaim_cell (nth_d e5).2 (j := 1) (by decide), lvs1, ← e7, ← e8]
      intros; first | exact KD.mk | exact KD.mkN
     ·intro tm hr
      simp [AllL, rdV] at hr
      simp [hr, ← e4, nth_d e5, f6, encClaim_cell (nth_d e5).2 (j := 1) (by decide), lvs1, ← e7, ← e8]
      intros; first | exact KD.mk | exact KD.mkN
     ·intro tm hr
      simp [AllL, rdV] at hr
      simp [hr, ← e4, nth_d e5, f6, encClaim_cell (nth_d e5).2 (j := 1) (by decide), lvs1, ← e7, ← e8]
      intros; first | exact KD.mk | exact KD.mkN
     ·intro tm hr
      simp [AllL, rdV] at hr
      simp [hr, ← e4, nth_d e5, f6, encClaim_cell (nth_d e5).2 (j := 1) (by decide), lvs1, ← e7, ← e8]
      intros; first | exact KD.mk | exact KD.mkN
     ·intro tm hr
      simp [AllL, rdV] at hr
      simp [hr, ← e4, nth_d e5, f6, encClaim_cell (nth_d e5).2 (j := 1) (by decide), lvs1, ← e7, ← e8]
      intros; first | exact KD.mk | exact KD.mkN
     ·intro tm hr
      simp [AllL, rdV] at hr
      simp [hr, ← e4, nth_d e5, f6, encClaim_cell (nth_d e5).2 (j := 1) (by decide), lvs1, ← e7, ← e8]
      intros; first | exact KD.mk | exact KD.mkN
     ·intro tm hr
      simp [AllL, rdV] at hr
      simp [hr, ← e4, nth_d e5, f6, encClaim_cell (nth_d e5).2 (j := 1) (by decide), lvs1, ← e7, ← e8]
      intros; first | exact KD.mk | exact KD.mkN
     ·intro tm hr
      simp [AllL, rdV] at hr
      simp [hr, ← e4, nth_d e5, f6, encClaim_cell (nth_d e5).2 (j := 1) (by decide), lvs1, ← e7, ← e8]
      intros; first | exact KD.mk | exact KD.mkN
     ·intro tm hr
      simp [AllL, rdV] at hr
      simp [hr, ← e4, nth_d e5, f6, encClaim_cell (nth_d e5).2 (j := 1) (by decide), lvs1, ← e7, ← e8]
      intros; first | exact KD.mk | exact KD.mkN
     ·intro tm hr
      simp [AllL, rdV] at hr
      simp [hr, ← e4, nth_d e5, f6, encClaim_cell (nth_d e5).2 (j := 1) (by decide), lvs1, ← e7, ← e8]
      intros; first | exact KD.mk | exact KD.mkN
     ·intro tm hr
      simp [AllL, rdV] at hr
      simp [hr, ← e4, nth_d e5, f6, encClaim_cell (nth_d e5).2 (j := 1) (by decide), lvs1, ← e7, ← e8]
      intros; first | exact KD.mk | exact KD.mkN
     ·intro tm hr
      simp [AllL, rdV] at hr
      simp [hr, ← e4, nth_d e5, f6, encClaim_cell (nth_d e5).2 (j := 1) (by decide), lvs1, ← e7, ← e8]
      intros; first | exact KD.mk | exact KD.mkN
     ·intro tm hr
      simp [AllL, rdV] at hr
      simp [hr, ← e4, nth_d e5, f6, encClaim_cell (nth_d e5).2 (j := 1) (by decide), lvs1, ← e7, ← e8]
      intros; first | exact KD.mk | exact KD.mkN
     ·intro tm hr
      simp [AllL, rdV] at hr
      simp [hr, ← e4, nth_d e5, f6, encClaim_cell (nth_d e5).2 (j := 1) (by decide), lvs1, ← e7, ← e8]
      intros; first | exact KD.mk | exact KD.mkN
     ·intro tm hr
      simp [AllL, rdV] at hr
      simp [hr, ← e4, nth_d e5, f6, encClaim_cell (nth_d e5).2 (j := 1) (by decide), lvs1, ← e7, ← e8]
      intros; first | exact KD.mk | exact KD.mkN
     ·intro tm hr
      simp [AllL, rdV] at hr
      simp [hr, ← e4, nth_d e5, f6, encClaim_cell (nth_d e5).2 (j := 1) (by decide), lvs1, ← e7, ← e8]
      intros; first | exact KD.mk | exact KD.mkN
    ·rfl
    ·simp [tmD, putD, ← e4, nth_d e5, f6, encClaim_cell (nth_d e5).2 (j := 1) (by decide), lvs1, ← e7, ← e8]; rfl
    ·simp [← e4, nth_d e5, f6, encClaim_cell (nth_d e5).2 (j := 1) (by decide), lvs1, ← e7, ← e8]
     intros; rfl
    obtain rfl := Option.some.inj h
    refine nP_i ?_
    refine Weak.mixB 1 [some 0, some 1] hn0 (by decide) (by decide) ?_ ?_ ?_
    all_goals first | (simp [inv_cons, inv_nil, pickOb]; done) | rfl
  | false =>
   replace h := iteF rfl h
   apply AW.drawnR (V := [_, _, _, _, _, _, _, _, _, _, _, _, _, _, _, _, _, _, _, _, _, _, _, _, _, _, _, _, _, _, _]) mixed [⟨[0], [], [(5, none)], false⟩, ⟨[0], [0], [(9, some 0)], false⟩, ⟨[0], [0, 1], [(10, some 1)], false⟩, ⟨[0], [0, 1, 2], [(0, none), (11, some 2)], false⟩, ⟨[0], [0, 1, 2], [(5, none), (11, some 2)], false⟩, ⟨[0], [0, 1, 2, 3, 4], [(11, some 2), (12, some 3), (13, some 4)], false⟩, ⟨[0], [0, 1, 2, 3, 4, 5], [(11, some 2), (14, some 5)], false⟩, ⟨[0], [0, 1, 2, 3, 4, 5, 6], [(11, some 2), (15, some 6)], false⟩, ⟨[0], [0, 1, 2], [(3, none), (11, some 2)], false⟩, ⟨[0], [0, 1, 2, 8], [(11, some 2), (17, some 8)], false⟩, ⟨[0], [0, 1, 2, 8, 9], [(11, some 2), (18, some 9)], false⟩, ⟨[0], [0, 1, 2, 3, 4, 5, 6, 7, 8, 9, 10], [(11, some 2), (16, some 7), (19, some 10)], false⟩, ⟨[0], [0, 1, 2, 3, 4, 5, 6, 7, 8, 9, 10, 11], [(11, some 2), (20, some 11)], false⟩, ⟨[0], [0, 1, 2, 3, 4, 5, 6, 7, 8, 9, 10, 11, 12], [(21, some 12)], false⟩, ⟨[0], [0, 1, 2, 3, 4, 5, 6, 7, 8, 9, 10, 11, 12, 13], [(0, none), (22, some 13)], false⟩, ⟨[0], [0, 1, 2, 3, 4, 5, 6, 7, 8, 9, 10, 11, 12, 13], [(5, none), (22, some 13)], false⟩, ⟨[0], [0, 1, 2, 3, 4, 5, 6, 7, 8, 9, 10, 11, 12, 13, 14, 15], [(22, some 13), (23, some 14), (24, some 15)], false⟩, ⟨[0], [0, 1, 2, 3, 4, 5, 6, 7, 8, 9, 10, 11, 12, 13, 14, 15, 16], [(22, some 13), (25, some 16)], false⟩, ⟨[0], [0, 1, 2, 3, 4, 5, 6, 7, 8, 9, 10, 11, 12, 13, 14, 15, 16, 17], [(22, some 13), (26, some 17)], false⟩, ⟨[0], [0, 1, 2, 3, 4, 5, 6, 7, 8, 9, 10, 11, 12, 13], [(3, none), (22, some 13)], false⟩, ⟨[0], [0, 1, 2, 3, 4, 5, 6, 7, 8, 9, 10, 11, 12, 13, 19], [(22, some 13), (28, some 19)], false⟩, ⟨[0], [0, 1, 2, 3, 4, 5, 6, 7, 8, 9, 10, 11, 12, 13, 14, 15, 16, 17, 18, 19, 20], [(22, some 13), (27, some 18), (29, some 20)], false⟩, ⟨[0], [0, 1, 2, 3, 4, 5, 6, 7, 8, 9, 10, 11, 12, 13, 14, 15, 16, 17, 18, 19, 20, 21], [(22, some 13), (30, some 21)], false⟩, ⟨[0], [0, 1, 2, 3, 4, 5, 6, 7, 8, 9, 10, 11, 12, 13, 14, 15, 16, 17, 18, 19, 20, 21, 22], [(31, some 22)], false⟩, ⟨[0], [0, 1, 2, 3, 4, 5, 6, 7, 8, 9, 10, 11, 12, 13, 14, 15, 16, 17, 18, 19, 20, 21, 22, 23], [(0, none), (32, some 23)], false⟩, ⟨[0], [0, 1, 2, 3, 4, 5, 6, 7, 8, 9, 10, 11, 12, 13, 14, 15, 16, 17, 18, 19, 20, 21, 22, 23], [(5, none), (32, some 23)], false⟩, ⟨[0], [0, 1, 2, 3, 4, 5, 6, 7, 8, 9, 10, 11, 12, 13, 14, 15, 16, 17, 18, 19, 20, 21, 22, 23, 24, 25], [(32, some 23), (33, some 24), (34, some 25)], false⟩, ⟨[0], [0, 1, 2, 3, 4, 5, 6, 7, 8, 9, 10, 11, 12, 13, 14, 15, 16, 17, 18, 19, 20, 21, 22, 23, 24, 25, 26], [(32, some 23), (35, some 26)], false⟩, ⟨[0], [0, 1, 2, 3, 4, 5, 6, 7, 8, 9, 10, 11, 12, 13, 14, 15, 16, 17, 18, 19, 20, 21, 22, 23, 24, 25, 26, 27], [(32, some 23), (36, some 27)], false⟩, ⟨[0], [0, 1, 2, 3, 4, 5, 6, 7, 8, 9, 10, 11, 12, 13, 14, 15, 16, 17, 18, 19, 20, 21, 22, 23], [(3, none), (32, some 23)], false⟩, ⟨[0], [0, 1, 2, 3, 4, 5, 6, 7, 8, 9, 10, 11, 12, 13, 14, 15, 16, 17, 18, 19, 20, 21, 22, 23, 29], [(32, some 23), (38, some 29)], false⟩, ⟨[], [0, 1, 2, 3, 4, 5, 6, 7, 8, 9, 10, 11, 12, 13, 14, 15, 16, 17, 18, 19, 20, 21, 22, 23, 24, 25, 26, 27, 28, 29, 30], [], false⟩, ⟨[], [0, 1, 2, 3, 4, 5, 6, 7, 8, 9, 10, 11, 12, 13, 14, 15, 16, 17, 18, 19, 20, 21, 22, 23, 24, 25, 26, 27, 28, 29, 30, 31], [], false⟩] 31 (by kernel_rfl) (by kernel_rfl)
   ·refine ⟨?_, ?_, ?_, ?_, ?_, ?_, ?_, ?_, ?_, ?_, ?_, ?_, ?_, ?_, ?_, ?_, ?_, ?_, ?_, ?_, ?_, ?_, ?_, ?_, ?_, ?_, ?_, ?_, ?_, ?_, ?_, trivial⟩
    ·intro tm hr
     simp [AllL, rdV] at hr
     simp [hr, ← e4]
     intros; first | exact KD.mk | exact KD.mkN
    ·intro tm hr
     simp [AllL, rdV] at hr
     simp [hr, ← e4]
     intros; first | exact KD.mk | exact KD.mkN
    ·intro tm hr
     simp [AllL, rdV] at hr
     simp [hr, ← e4]
     intros; first | exact KD.mk | exact KD.mkN
    ·intro tm hr
     simp [AllL, rdV] at hr
     simp [hr, ← e4]
     intros; first | exact KD.mk | exact KD.mkN
    ·intro tm hr
     simp [AllL, rdV] at hr
     simp [hr, ← e4]
     intros; first | exact KD.mk | exact KD.mkN
    ·intro tm hr
     simp [AllL, rdV] at hr
     simp [hr, ← e4]
     intros; first | exact KD.mk | exact KD.mkN
    ·intro tm hr
     simp [AllL, rdV] at hr
     simp [hr, ← e4]
     intros; first | exact KD.mk | exact KD.mkN
    ·intro tm hr
     simp [AllL, rdV] at hr
     simp [hr, ← e4]
     intros; first | exact KD.mk | exact KD.mkN
    ·intro tm hr
     simp [AllL, rdV] at hr
     simp [hr, ← e4]
     intros; first | exact KD.mk | exact KD.mkN
    ·intro tm hr
     simp [AllL, rdV] at hr
     simp [hr, ← e4]
     intros; first | exact KD.mk | exact KD.mkN
    ·intro tm hr
     simp [AllL, rdV] at hr
     simp [hr, ← e4]
     intros; first | exact KD.mk | exact KD.mkN
    ·intro tm hr
     simp [AllL, rdV] at hr
     simp [hr, ← e4]
     intros; first | exact KD.mk | exact KD.mkN
    ·intro tm hr
     simp [AllL, rdV] at hr
     simp [hr, ← e4]
     intros; first | exact KD.mk | exact KD.mkN
    ·intro tm hr
     simp [AllL, rdV] at hr
     simp [hr, ← e4]
     intros; first | exact KD.mk | exact KD.mkN
    ·intro tm hr
     simp [AllL, rdV] at hr
     simp [hr, ← e4]
     intros; first | exact KD.mk | exact KD.mkN
    ·intro tm hr
     simp [AllL, rdV] at hr
     simp [hr, ← e4]
     intros; first | exact KD.mk | exact KD.mkN
    ·intro tm hr
     simp [AllL, rdV] at hr
     simp [hr, ← e4]
     intros; first | exact KD.mk | exact KD.mkN
    ·intro tm hr
     simp [AllL, rdV] at hr
     simp [hr, ← e4]
     intros; first | exact KD.mk | exact KD.mkN
    ·intro tm hr
     simp [AllL, rdV] at hr
     simp [hr, ← e4]
     intros; first | exact KD.mk | exact KD.mkN
    ·intro tm hr
     simp [AllL, rdV] at hr
     simp [hr, ← e4]
     intros; first | exact KD.mk | exact KD.mkN
    ·intro tm hr
     simp [AllL, rdV] at hr
     simp [hr, ← e4]
     intros; first | exact KD.mk | exact KD.mkN
    ·intro tm hr
     simp [AllL, rdV] at hr
     simp [hr, ← e4]
     intros; first | exact KD.mk | exact KD.mkN
    ·intro tm hr
     simp [AllL, rdV] at hr
     simp [hr, ← e4]
     intros; first | exact KD.mk | exact KD.mkN
    ·intro tm hr
     simp [AllL, rdV] at hr
     simp [hr, ← e4]
     intros; first | exact KD.mk | exact KD.mkN
    ·intro tm hr
     simp [AllL, rdV] at hr
     simp [hr, ← e4]
     intros; first | exact KD.mk | exact KD.mkN
    ·intro tm hr
     simp [AllL, rdV] at hr
     simp [hr, ← e4]
     intros; first | exact KD.mk | exact KD.mkN
    ·intro tm hr
     simp [AllL, rdV] at hr
     simp [hr, ← e4]
     intros; first | exact KD.mk | exact KD.mkN
    ·intro tm hr
     simp [AllL, rdV] at hr
     simp [hr, ← e4]
     intros; first | exact KD.mk | exact KD.mkN
    ·intro tm hr
     simp [AllL, rdV] at hr
     simp [hr, ← e4]
     intros; first | exact KD.mk | exact KD.mkN
    ·intro tm hr
     simp [AllL, rdV] at hr
     simp [hr, ← e4]
     intros; first | exact KD.mk | exact KD.mkN
    ·intro tm hr
     simp [AllL, rdV] at hr
     simp [hr, ← e4]
     intros; first | exact KD.mk | exact KD.mkN
   ·rfl
   ·simp [tmD, putD, ← e4]; rfl
   ·simp [← e4]
    intros; rfl
   obtain rfl := Option.some.inj h
   refine nP_i ?_
   refine Weak.mixB 1 [some 0, some 1] hn0 (by decide) (by decide) ?_ ?_ ?_
   all_goals first | (simp [inv_cons, inv_nil, pickOb]; done) | rfl
 ·rintro e s hp
  obtain ⟨rfl, hw⟩ := hp
  refine ⟨_, hw, ?_⟩
  try simp only [sp_l, sp_r, Post.seq, Post.block, Nat.reduceEqDiff, reduceIte, Nat.zero_ne_one, Nat.one_ne_zero]
  replace h := ltE h; obtain ⟨v13, e13, h⟩ := h
  rw [← e13]
  cases v13 with
  | true =>
   replace h := iteT rfl h
   refine AW.cond_true (by simp) ?_
   replace h := bnE h; obtain ⟨v14, e14, h⟩ := h
   have f15 := nth_lt e14
   try simp [nth_d e14] at f15
   replace h := ltE h; obtain ⟨v16, e16, h⟩ := h
   have f17 := encClaim_put (nth_d e14).2 e16 (j := 1) (cs := [.s (.int .i64 a1.to)]) (by simp) rfl
   try simp at f17
   have f18 := f15
   try simp only [set_len e16] at f18
   apply AW.step
   ·simp [nth_d e14, f15, encClaim_fitj (nth_d e14).2 (j := 1) (m := 1) (by decide), f17, f18]
    intros; rfl
   apply AW.step
   ·simp
    intros; rfl
   obtain rfl := Option.some.inj h
   refine AW.ret ?_
   refine Left.of (av := _) (by simp [Try.f27, resV, resC, comp]; rfl) ?_
   exact LeftV.mix 1 [some 0] hn0 rfl (by decide) rfl (by simp [pickOb, inv_cons, inv_nil, set_len e16]) (by simp [inv_cons, inv_nil, set_len e16])
  | false =>
   replace h := iteF rfl h
   refine AW.cond_false (by simp) ?_
   refine AW.skip ?_
   try simp only [sp_l, sp_r, Post.seq, Post.block, Nat.reduceEqDiff, reduceIte, Nat.zero_ne_one, Nat.one_ne_zero]
   try simp only [sp_l, sp_r, Post.seq, Post.block, Nat.reduceEqDiff, reduceIte, Nat.zero_ne_one, Nat.one_ne_zero]
   replace h := chkE h; obtain ⟨e19, h⟩ := h
   replace h := ltE h; obtain ⟨v20, e20, h⟩ := h
   apply AW.step
   ·simp [St.grow, obsBut, ← encClaim_append, ← e20, app_len1 e20]
    intros
    refine xrow_own ?_
    try simp [St.grow, obsBut, ← encClaim_append, ← e20, app_len1 e20]
    intros
    refine xapp_push (acc := encClaim a0) (ys := encClaim [a1]) (cap := none) (k := 1) tb_el24 tb_ti63 (by simp) (by simp [encClaim, lvs]) (encClaim_sz _) (by simp) (by simp) (by first | (simp; done) | simpa using (room_d e19).1) ?_
    try simp [St.grow, obsBut, ← encClaim_append, ← e20, app_len1 e20]
    intros; rfl
   obtain rfl := Option.some.inj h
   refine AW.ret ?_
   refine Left.of (av := _) (by simp [Try.f27, resV, resC, comp]; rfl) ?_
   exact LeftV.mix 1 [some 0] hn0 rfl (by decide) rfl (by simp [pickOb, inv_cons, inv_nil, lvs_encClaim1]) (by simp [inv_cons, inv_nil, lvs_encClaim1])
theorem en_r13_more_xf : Enters Try.prog 27 := enters Try.func27 (by kernel_rfl) rfl
def r13_Give_sh (n : Nat) (a0 : List Claim) (a1 : List Span) (a2 : Int) (a3 : Int) : Option (List Claim) :=
bn (r1_Norm_f_sh n a1) fun v1 =>
bn (r13_marks_sh n [] a0) fun v2 =>
bn (iter n (fun (y3 : List Int × Int) =>
lt (lenI v1) fun v6 =>
lt (ltI y3.2 v6) fun v7 =>
ite' v7 (bn (nth v1 y3.2) fun v8 =>
bn (r1_Mark_sh n y3.1 v8.frm) fun v9 =>
lt (addI .i64 v8.to 1) fun v10 =>
bn (r1_Mark_sh n v9 v10) fun v11 =>
lt (addI .i64 y3.2 1) fun v12 =>
some (.inl (v11, v12))) (some (.inr y3.1))) (v2, 0)) fun (y4 : List Int) =>
bn (iter n (fun (y13 : Int × List Claim) =>
lt (addI .i64 y13.1 1) fun v16 =>
lt (lenI y4) fun v17 =>
lt (ltI v16 v17) fun v18 =>
ite' v18 (bn (bn (nth y4 y13.1) fun v20 =>
bn (r13_Of_sh n a0 v20) fun v21 =>
bn (bn (r1_Has_ff_sh n v1 v20) fun v23 =>
ite' v23 (some ((a2, a3))) (some ((v21.1, v21.2)))) fun (y22 : Int × Int) =>
lt (geI y22.1 0) fun v24 =>
ite' v24 (bn (nth y4 y13.1) fun v25 =>
lt (addI .i64 y13.1 1) fun v26 =>
bn (nth y4 v26) fun v27 =>
lt (subI .i64 v27 1) fun v28 =>
bn (r13_more_xf_sh n y13.2 (⟨v25, v28, y22.1, y22.2⟩ : Claim)) fun v29 =>
some (v29)) (some (y13.2))) fun (y19 : List Claim) =>
lt (addI .i64 y13.1 1) fun v30 =>
some (.inl (v30, y19))) (some (.inr y13.2))) (0, [])) fun (y14 : List Claim) =>
chk (room y14.length 1) <|
some y14
set_option maxRecDepth 8000 in
set_option maxHeartbeats 8000000 in
theorem s_r13_Give {n : Nat} {a0 : List Claim} {a1 : List Span} {a2 : Int} {a3 : Int} {r : List Claim} (h : r13_Give_sh n a0 a1 a2 a3 = some r) : Sound Try.prog 12 [.l (.d false 4 (encClaim a0)), .l (.d false 2 (encSpan a1)), .l (.s (.int .i64 a2)), .l (.s (.int .i64 a3))] [] (.l (.d false 4 (encClaim r))) [] := by
 unfold r13_Give_sh at h
 refine Sound.of_aw (fn := Try.f12) (c := _) Try.func12 rfl (by simp [Try.f12]) fun cx hG hnb => ?_
 rw [show Try.f12.ntmps = 83 from rfl]
 have hn0 : cx.nb = 0 := hnb
 simp only [st0_mk, initTm, List.map_cons, List.map_nil]
 apply AW.step
 ·simp
  intros; rfl
 replace h := bnE h; obtain ⟨v1, e1, h⟩ := h
 apply AW.step
 ·simp
  intros
  refine xcall_plain en_r1_Norm_f (s_r1_Norm_f e1) rfl ⟨.same rfl, trivial⟩ ?_
  try simp
  intros; rfl
 replace h := bnE h; obtain ⟨v2, e2, h⟩ := h
 apply AW.step
 ·simp
  intros
  refine xcall_plain en_r13_marks (s_r13_marks e2) rfl ⟨.nil _ _, .same rfl, trivial⟩ ?_
  try simp
  intros; rfl
 refine AW.seq ?_
 apply AW.step
 ·simp
  intros; rfl
 refine AW.block ?_
 replace h := bnE h; obtain ⟨y4, g4, h⟩ := h
 refine AW.iterP g4 (mk := fun gh ls q => (⟨[(0, .l (.d false 4 (encClaim a0))), (2, .l (.s (.int .i64 a2))), (3, .l (.s (.int .i64 a3))), (9, .l (.d false 2 (encSpan v1))), (10, .l (.d false 1 (encI q.1))), (11, .l (.s (.int .i64 q.2)))], [], 83, gh, ls⟩ : St)) (N := fun gh ls => (xP 0 (cx := cx) (fun q => (⟨[(0, .l (.d false 4 (encClaim a0))), (2, .l (.s (.int .i64 a2))), (3, .l (.s (.int .i64 a3))), (9, .l (.d false 2 (encSpan v1))), (10, .l (.d false 1 (encI q)))], [], 83, gh, ls⟩ : St)))) ?_ noX ?_ ?_
 ·refine Weak.mixN [] hn0 (by decide) ?_ ?_ rfl
  all_goals first | (simp [inv_cons, inv_nil, pickOb]; done) | rfl
 ·clear h; intro y3 y5 h
  refine AW.seq ?_
  replace h := ltE h; obtain ⟨v6, e6, h⟩ := h
  replace h := ltE h; obtain ⟨v7, e7, h⟩ := h
  apply AW.step
  ·simp [lenI_cast e6, ← e7]
   intros; rfl
  cases v7 with
  | true =>
   replace h := iteT rfl h
   refine AW.cond_true (by simp) ?_
   refine AW.skip ?_
   try simp only [sp_l, sp_r, Post.seq, Post.block, Nat.reduceEqDiff, reduceIte, Nat.zero_ne_one, Nat.one_ne_zero]
   try simp only [sp_l, sp_r, Post.seq, Post.block, Nat.reduceEqDiff, reduceIte, Nat.zero_ne_one, Nat.one_ne_zero]
   refine AW.seq ?_
   refine AW.block ?_
   replace h := bnE h; obtain ⟨v8, e8, h⟩ := h
   replace h := bnE h; obtain ⟨v9, e9, h⟩ := h
   apply AW.step
   ·simp [nth_d e8]
    intros
    refine xcall_plain en_r1_Mark (s_r1_Mark e9) rfl ⟨.same rfl, .same rfl, trivial⟩ ?_
    try simp [nth_d e8]
    intros; rfl
   replace h := ltE h; obtain ⟨v10, e10, h⟩ := h
   replace h := bnE h; obtain ⟨v11, e11, h⟩ := h
   apply AW.last
   ·simp [nth_d e8, ← e10]
    intros
    refine xcall_plain en_r1_Mark (s_r1_Mark e11) rfl ⟨.same rfl, .same rfl, trivial⟩ ?_
    try simp [nth_d e8, ← e10]
    intros; rfl
   try simp only [sp_l, sp_r, Post.seq, Post.block, Nat.reduceEqDiff, reduceIte, Nat.zero_ne_one, Nat.one_ne_zero]
   replace h := ltE h; obtain ⟨v12, e12, h⟩ := h
   apply AW.last
   ·simp [← e12]
    intros; rfl
   obtain rfl := Option.some.inj h
   refine nP_i ?_
   refine Weak.mixN [] hn0 (by decide) ?_ ?_ rfl
   all_goals first | (simp [inv_cons, inv_nil, pickOb]; done) | rfl
  | false =>
   replace h := iteF rfl h
   refine AW.cond_false (by simp) ?_
   refine AW.exit ?_
   try simp only [sp_l, sp_r, Post.seq, Post.block, Nat.reduceEqDiff, reduceIte, Nat.zero_ne_one, Nat.one_ne_zero]
   obtain rfl := Option.some.inj h
   refine xP_i ?_
   refine Weak.mixN [] hn0 (by decide) ?_ ?_ rfl
   all_goals first | (simp [inv_cons, inv_nil, pickOb]; done) | rfl
 ·rintro e s hp
  obtain ⟨rfl, hw⟩ := hp
  refine ⟨_, hw, ?_⟩
  try simp only [sp_l, sp_r, Post.seq, Post.block, Nat.reduceEqDiff, reduceIte, Nat.zero_ne_one, Nat.one_ne_zero]
  apply AW.step
  ·simp
   intros; rfl
  refine AW.seq ?_
  apply AW.step
  ·simp
   intros; rfl
  refine AW.block ?_
  replace h := bnE h; obtain ⟨y14, g14, h⟩ := h
  refine AW.iterP g14 (mk := fun gh ls q => (⟨[(0, .l (.d false 4 (encClaim a0))), (2, .l (.s (.int .i64 a2))), (3, .l (.s (.int .i64 a3))), (9, .l (.d false 2 (encSpan v1))), (10, .l (.d false 1 (encI y4))), (12, .l (.r 0 4 0 q.2.length)), (13, .l (.s (.int .i64 q.1)))], [some ⟨63, 4, true, none, lvs (encClaim q.2)⟩], 83, gh, ls⟩ : St)) (N := fun gh ls => (xP 2 (cx := cx) (fun q => (⟨[(12, .l (.r 0 4 0 q.length))], [some ⟨63, 4, true, none, lvs (encClaim q)⟩], 83, gh, ls⟩ : St)))) ?_ noX ?_ ?_
  ·refine W.nilRow 12 63 4 0 (by simp) rfl rfl ?_
   refine Weak.mixN [some 0] hn0 (by decide) ?_ ?_ rfl
   all_goals first | (simp [inv_cons, inv_nil, pickOb]; done) | rfl
  ·clear h; intro y13 y15 h
   refine AW.seq ?_
   replace h := ltE h; obtain ⟨v16, e16, h⟩ := h
   replace h := ltE h; obtain ⟨v17, e17, h⟩ := h
   replace h := ltE h; obtain ⟨v18, e18, h⟩ := h
   apply AW.step
   ·simp [← e16, lenI_cast e17, ← e18]
    intros; rfl
   cases v18 with
   | true =>
    replace h := iteT rfl h
    refine AW.cond_true (by simp) ?_
    refine AW.skip ?_
    try simp only [sp_l, sp_r, Post.seq, Post.block, Nat.reduceEqDiff, reduceIte, Nat.zero_ne_one, Nat.one_ne_zero]
    try simp only [sp_l, sp_r, Post.seq, Post.block, Nat.reduceEqDiff, reduceIte, Nat.zero_ne_one, Nat.one_ne_zero]
    replace h := bnE h; obtain ⟨y19, g19, h⟩ := h
    refine AW.flow (p := fun gh ls => (nP (cx := cx) (fun q => (⟨[(0, .l (.d false 4 (encClaim a0))), (2, .l (.s (.int .i64 a2))), (3, .l (.s (.int .i64 a3))), (9, .l (.d false 2 (encSpan v1))), (10, .l (.d false 1 (encI y4))), (12, .l (.r 0 4 0 q.length)), (13, .l (.s (.int .i64 y13.1)))], [some ⟨63, 4, true, none, lvs (encClaim q)⟩], 83, gh, ls⟩ : St))) y19) ?_ ?_
    ·replace h := g19; clear g19
     refine AW.block ?_
     replace h := bnE h; obtain ⟨v20, e20, h⟩ := h
     replace h := bnE h; obtain ⟨v21, e21, h⟩ := h
     apply AW.step
     ·simp [nth_d e20]
      intros
      refine xcall_plain en_r13_Of (s_r13_Of e21) rfl ⟨.same rfl, .same rfl, trivial⟩ ?_
      try simp [nth_d e20]
      intros; rfl
     replace h := bnE h; obtain ⟨y22, g22, h⟩ := h
     refine AW.flow (p := fun gh ls => (nP (cx := cx) (fun q => (⟨[(0, .l (.d false 4 (encClaim a0))), (2, .l (.s (.int .i64 a2))), (3, .l (.s (.int .i64 a3))), (9, .l (.d false 2 (encSpan v1))), (10, .l (.d false 1 (encI y4))), (12, .l (.r 0 4 0 y13.2.length)), (13, .l (.s (.int .i64 y13.1))), (14, .l (.s (.int .i64 q.1))), (15, .l (.s (.int .i64 q.2)))], [some ⟨63, 4, true, none, lvs (encClaim y13.2)⟩], 83, gh, ls⟩ : St))) y22) ?_ ?_
     ·replace h := g22; clear g22
      replace h := bnE h; obtain ⟨v23, e23, h⟩ := h
      apply AW.step
      ·simp [nth_d e20]
       intros
       refine xcall_plain en_r1_Has_ff (s_r1_Has_ff e23) rfl ⟨.same rfl, .same rfl, trivial⟩ ?_
       try simp [nth_d e20]
       intros; rfl
      cases v23 with
      | true =>
       replace h := iteT rfl h
       refine AW.cond_true (by simp) ?_
       apply AW.step
       ·simp
        intros; rfl
       apply AW.last
       ·simp
        intros; rfl
       obtain rfl := Option.some.inj h
       refine nP_i ?_
       refine Weak.mixN [some 0] hn0 (by decide) ?_ ?_ rfl
       all_goals first | (simp [inv_cons, inv_nil, pickOb]; done) | rfl
      | false =>
       replace h := iteF rfl h
       refine AW.cond_false (by simp) ?_
       refine AW.skip ?_
       try simp only [sp_l, sp_r, Post.seq, Post.block, Nat.reduceEqDiff, reduceIte, Nat.zero_ne_one, Nat.one_ne_zero]
       obtain rfl := Option.some.inj h
       refine nP_i ?_
       refine Weak.mixN [some 0] hn0 (by decide) ?_ ?_ rfl
       all_goals first | (simp [inv_cons, inv_nil, pickOb]; done) | rfl
     ·rintro e s hp
      obtain ⟨rfl, hw⟩ := hp
      refine ⟨_, hw, ?_⟩
      try simp only [sp_l, sp_r, Post.seq, Post.block, Nat.reduceEqDiff, reduceIte, Nat.zero_ne_one, Nat.one_ne_zero]
      replace h := ltE h; obtain ⟨v24, e24, h⟩ := h
      apply AW.step
      ·simp [← e24]
       intros; rfl
      cases v24 with
      | true =>
       replace h := iteT rfl h
       refine AW.cond_true (by simp) ?_
       replace h := bnE h; obtain ⟨v25, e25, h⟩ := h
       replace h := ltE h; obtain ⟨v26, e26, h⟩ := h
       replace h := bnE h; obtain ⟨v27, e27, h⟩ := h
       replace h := ltE h; obtain ⟨v28, e28, h⟩ := h
       replace h := bnE h; obtain ⟨v29, e29, h⟩ := h
       apply AW.drawnR (V := [_, _, _, _, _, _, _, _, _, _, _, _, _, _]) mixed [⟨[0], [], [(12, none)], false⟩, ⟨[0], [], [(10, none)], false⟩, ⟨[0], [], [(13, none)], false⟩, ⟨[0], [1, 2], [(68, some 1), (69, some 2)], false⟩, ⟨[0], [1, 2, 3], [(70, some 3)], false⟩, ⟨[0], [], [(10, none)], false⟩, ⟨[0], [], [(13, none)], false⟩, ⟨[0], [6], [(73, some 6)], false⟩, ⟨[0], [5, 6, 7], [(72, some 5), (74, some 7)], false⟩, ⟨[0], [5, 6, 7, 8], [(75, some 8)], false⟩, ⟨[0], [5, 6, 7, 8, 9], [(76, some 9)], false⟩, ⟨[0], [], [(14, none)], false⟩, ⟨[0], [], [(15, none)], false⟩, ⟨[0], [1, 2, 3, 4, 5, 6, 7, 8, 9, 10, 11, 12], [(71, some 4), (77, some 10), (78, some 11), (79, some 12)], false⟩, ⟨[], [0, 1, 2, 3, 4, 5, 6, 7, 8, 9, 10, 11, 12, 13], [], false⟩, ⟨[], [0, 1, 2, 3, 4, 5, 6, 7, 8, 9, 10, 11, 12, 13, 14], [], false⟩] 14 (by kernel_rfl) (by kernel_rfl)
       ·refine ⟨?_, ?_, ?_, ?_, ?_, ?_, ?_, ?_, ?_, ?_, ?_, ?_, ?_, ?_, trivial⟩
        ·intro tm hr
         simp [AllL, rdV] at hr
         simp [hr, nth_d e25, ← e26, nth_d e27, ← e28, obAfter, outR, keptR, inv_cons, inv_nil]
         intros; first | exact KD.mk | exact KD.mkN
        ·intro tm hr
         simp [AllL, rdV] at hr
         simp [hr, nth_d e25, ← e26, nth_d e27, ← e28, obAfter, outR, keptR, inv_cons, inv_nil]
         intros; first | exact KD.mk | exact KD.mkN
        ·intro tm hr
         simp [AllL, rdV] at hr
         simp [hr, nth_d e25, ← e26, nth_d e27, ← e28, obAfter, outR, keptR, inv_cons, inv_nil]
         intros; first | exact KD.mk | exact KD.mkN
        ·intro tm hr
         simp [AllL, rdV] at hr
         simp [hr, nth_d e25, ← e26, nth_d e27, ← e28, obAfter, outR, keptR, inv_cons, inv_nil]
         intros; first | exact KD.mk | exact KD.mkN
        ·intro tm hr
         simp [AllL, rdV] at hr
         simp [hr, nth_d e25, ← e26, nth_d e27, ← e28, obAfter, outR, keptR, inv_cons, inv_nil]
         intros; first | exact KD.mk | exact KD.mkN
        ·intro tm hr
         simp [AllL, rdV] at hr
         simp [hr, nth_d e25, ← e26, nth_d e27, ← e28, obAfter, outR, keptR, inv_cons, inv_nil]
         intros; first | exact KD.mk | exact KD.mkN
        ·intro tm hr
         simp [AllL, rdV] at hr
         simp [hr, nth_d e25, ← e26, nth_d e27, ← e28, obAfter, outR, keptR, inv_cons, inv_nil]
         intros; first | exact KD.mk | exact KD.mkN
        ·intro tm hr
         simp [AllL, rdV] at hr
         simp [hr, nth_d e25, ← e26, nth_d e27, ← e28, obAfter, outR, keptR, inv_cons, inv_nil]
         intros; first | exact KD.mk | exact KD.mkN
        ·intro tm hr
         simp [AllL, rdV] at hr
         simp [hr, nth_d e25, ← e26, nth_d e27, ← e28, obAfter, outR, keptR, inv_cons, inv_nil]
         intros; first | exact KD.mk | exact KD.mkN
        ·intro tm hr
         simp [AllL, rdV] at hr
         simp [hr, nth_d e25, ← e26, nth_d e27, ← e28, obAfter, outR, keptR, inv_cons, inv_nil]
         intros; first | exact KD.mk | exact KD.mkN
        ·intro tm hr
         simp [AllL, rdV] at hr
         simp [hr, nth_d e25, ← e26, nth_d e27, ← e28, obAfter, outR, keptR, inv_cons, inv_nil]
         intros; first | exact KD.mk | exact KD.mkN
        ·intro tm hr
         simp [AllL, rdV] at hr
         simp [hr, nth_d e25, ← e26, nth_d e27, ← e28, obAfter, outR, keptR, inv_cons, inv_nil]
         intros; first | exact KD.mk | exact KD.mkN
        ·intro tm hr
         simp [AllL, rdV] at hr
         simp [hr, nth_d e25, ← e26, nth_d e27, ← e28, obAfter, outR, keptR, inv_cons, inv_nil]
         intros; first | exact KD.mk | exact KD.mkN
        ·intro tm hr
         simp [AllL, rdV] at hr
         simp [hr, nth_d e25, ← e26, nth_d e27, ← e28, obAfter, outR, keptR, inv_cons, inv_nil]
         intros; first | exact KD.mk | exact KD.mkN
       ·rfl
       ·simp [tmD, putD, nth_d e25, ← e26, nth_d e27, ← e28, obAfter, outR, keptR, inv_cons, inv_nil]; rfl
       ·simp [nth_d e25, ← e26, nth_d e27, ← e28, obAfter, outR, keptR, inv_cons, inv_nil]
        intros
        refine xcall_obs [0] en_r13_more_xf (s_r13_more_xf e29) (by decide) (by simp [pickOb, inv_cons, inv_nil]) rfl rfl (by simp) ⟨.l (.own' (by simp [inv_cons, inv_nil]) (by simp)), .g ⟨.s _, .s _, .s _, .s _, trivial⟩, trivial⟩ ?_
        try simp [nth_d e25, ← e26, nth_d e27, ← e28, obAfter, outR, keptR, inv_cons, inv_nil]
        intros; rfl
       obtain rfl := Option.some.inj h
       refine nP_i ?_
       refine Weak.mixN [some 0] hn0 (by decide) ?_ ?_ rfl
       all_goals first | (simp [inv_cons, inv_nil, pickOb]; done) | rfl
      | false =>
       replace h := iteF rfl h
       refine AW.cond_false (by simp) ?_
       refine AW.skip ?_
       try simp only [sp_l, sp_r, Post.seq, Post.block, Nat.reduceEqDiff, reduceIte, Nat.zero_ne_one, Nat.one_ne_zero]
       obtain rfl := Option.some.inj h
       refine nP_i ?_
       refine Weak.mixN [some 0] hn0 (by decide) ?_ ?_ rfl
       all_goals first | (simp [inv_cons, inv_nil, pickOb]; done) | rfl
    ·rintro e s hp
     obtain ⟨rfl, hw⟩ := hp
     refine ⟨_, hw, ?_⟩
     try simp only [sp_l, sp_r, Post.seq, Post.block, Nat.reduceEqDiff, reduceIte, Nat.zero_ne_one, Nat.one_ne_zero]
     replace h := ltE h; obtain ⟨v30, e30, h⟩ := h
     apply AW.last
     ·simp [← e30]
      intros; rfl
     obtain rfl := Option.some.inj h
     refine nP_i ?_
     refine Weak.mixN [some 0] hn0 (by decide) ?_ ?_ rfl
     all_goals first | (simp [inv_cons, inv_nil, pickOb]; done) | rfl
   | false =>
    replace h := iteF rfl h
    refine AW.cond_false (by simp) ?_
    refine AW.exit ?_
    try simp only [sp_l, sp_r, Post.seq, Post.block, Nat.reduceEqDiff, reduceIte, Nat.zero_ne_one, Nat.one_ne_zero]
    obtain rfl := Option.some.inj h
    refine xP_i ?_
    refine Weak.mixN [some 0] hn0 (by decide) ?_ ?_ rfl
    all_goals first | (simp [inv_cons, inv_nil, pickOb]; done) | rfl
  ·rintro e s hp
   obtain ⟨rfl, hw⟩ := hp
   refine ⟨_, hw, ?_⟩
   try simp only [sp_l, sp_r, Post.seq, Post.block, Nat.reduceEqDiff, reduceIte, Nat.zero_ne_one, Nat.one_ne_zero]
   apply AW.step
   ·simp
    intros; rfl
   replace h := chkE h; obtain ⟨e31, h⟩ := h
   refine AW.frzRow 0 (ty := 63) (cap := none) (sz := 4) (es := encClaim y14) (by simp) (by omega) (encClaim_sz _) (by first | exact (room_d e31).2 | simpa using (room_d e31).2 | simp) (by simp [Tm.frz, AV.frz, LV.frz]; rfl) (by simp [Ob.frz, LV.frz]; rfl) rfl ?_
   obtain rfl := Option.some.inj h
   refine AW.ret ?_
   refine Left.plain hnb (by simp [Try.f12, resV, resC, comp]; rfl) rfl rfl ?_
   simp
theorem en_r13_Give : Enters Try.prog 12 := enters Try.func12 (by kernel_rfl) rfl
end Go.Proofs.Ytaibolmbafacpaa

