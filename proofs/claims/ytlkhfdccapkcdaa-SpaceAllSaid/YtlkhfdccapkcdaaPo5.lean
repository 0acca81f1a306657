/- Part 5 of the proof. -/
import Derived.Test.YtlkhfdccapkcdaaPo4
/- Walks, printed: r5_bare, r5_MayItem, r5_MayEffect, r5_MayEffects, r13_MayFeed, r5_MaySpace -/
namespace Go.Proofs.Ytlkhfdccapkcdaa
open Go Go.RowKit
set_option linter.unusedVariables false
set_option linter.unusedSimpArgs false
def r5_bare_sh (n : Nat) (a0 : Item) : Option Bool :=
lt (eqI a0.kind 1) fun v1 =>
ite' v1 (bn (lt (lenI a0.f) fun v3 =>
lt (eqI v3 0) fun v4 =>
ite' v4 (lt (lenI a0.l) fun v5 =>
lt (eqI v5 0) fun v6 =>
some (v6)) (some (false))) fun (y2 : Bool) =>
some y2) (lt (eqI a0.kind 2) fun v7 =>
ite' v7 (bn (lt (eqS a0.s ⟨#[]⟩) fun v9 =>
ite' v9 (lt (lenI a0.l) fun v10 =>
lt (eqI v10 0) fun v11 =>
ite' v11 (lt (lenI a0.f) fun v12 =>
lt (gtI v12 0) fun v13 =>
some (v13)) (some (false))) (some (false))) fun (y8 : Bool) =>
some y8) (bn (lt (eqI a0.kind 3) fun v15 =>
ite' v15 (some (true)) (lt (eqI a0.kind 4) fun v16 =>
some (v16))) fun (y14 : Bool) =>
lt (y14) fun v17 =>
ite' v17 (bn (lt (eqS a0.s ⟨#[]⟩) fun v19 =>
ite' v19 (lt (lenI a0.f) fun v20 =>
lt (eqI v20 0) fun v21 =>
ite' v21 (lt (lenI a0.l) fun v22 =>
lt (gtI v22 0) fun v23 =>
some (v23)) (some (false))) (some (false))) fun (y18 : Bool) =>
some y18) (some false)))
set_option maxRecDepth 8000 in
set_option maxHeartbeats 8000000 in
theorem s_r5_bare {n : Nat} {a0 : Item} {r : Bool} (h : r5_bare_sh n a0 = some r) : Sound Try.prog 117 [.g [.s (.int .i64 a0.kind), .s (.string a0.s), .d false 2 (encField a0.f), .d false 1 (encS a0.l), .s (.int .i64 a0.exp)]] [] (.l (.s (.bool r))) [] := by
 unfold r5_bare_sh at h
 refine Sound.of_aw (fn := Try.f117) (c := _) Try.func117 rfl (by simp [Try.f117]) fun cx hG hnb => ?_
 rw [show Try.f117.ntmps = 52 from rfl]
 have hn0 : cx.nb = 0 := hnb
 simp only [st0_mk, initTm, List.map_cons, List.map_nil]
 apply AW.step
 ·simp
  intros; rfl
 refine AW.seq ?_
 apply AW.step
 ·simp
  intros; rfl
 refine AW.block ?_
 replace h := ltE h; obtain ⟨v1, e1, h⟩ := h
 apply AW.step
 ·simp [← e1]
  intros; rfl
 cases v1 with
 | true =>
  replace h := iteT rfl h
  refine AW.cond_true (by simp) ?_
  replace h := bnE h; obtain ⟨y2, g2, h⟩ := h
  refine AW.flow (p := fun gh ls => (nP (cx := cx) (fun q => (⟨[(2, .l (.s (.bool q)))], [], 52, gh, ls⟩ : St))) y2) ?_ ?_
  ·replace h := g2; clear g2
   replace h := ltE h; obtain ⟨v3, e3, h⟩ := h
   replace h := ltE h; obtain ⟨v4, e4, h⟩ := h
   cases v4 with
   | true =>
    replace h := iteT rfl h
    replace h := ltE h; obtain ⟨v5, e5, h⟩ := h
    replace h := ltE h; obtain ⟨v6, e6, h⟩ := h
    apply AW.last
    ·simp [lenI_cast e3, ← e4, lenI_cast e5, ← e6]
     intros; rfl
    obtain rfl := Option.some.inj h
    refine nP_i ?_
    refine Weak.mixN [] hn0 (by decide) ?_ ?_ rfl
    all_goals first | (simp [inv_cons, inv_nil, pickOb]; done) | rfl
   | false =>
    replace h := iteF rfl h
    apply AW.last
    ·simp [lenI_cast e3, ← e4]
     intros; rfl
    obtain rfl := Option.some.inj h
    refine nP_i ?_
    refine Weak.mixN [] hn0 (by decide) ?_ ?_ rfl
    all_goals first | (simp [inv_cons, inv_nil, pickOb]; done) | rfl
  ·rintro e s hp
   obtain ⟨rfl, hw⟩ := hp
   refine ⟨_, hw, ?_⟩
   try simp only [sp_l, sp_r, Post.seq, Post.block, Nat.reduceEqDiff, reduceIte, Nat.zero_ne_one, Nat.one_ne_zero]
   obtain rfl := Option.some.inj h
   refine AW.ret ?_
   refine Left.plain hnb (by simp [Try.f117, resV, resC, comp]; rfl) rfl rfl ?_
   simp
 | false =>
  replace h := iteF rfl h
  refine AW.cond_false (by simp) ?_
  replace h := ltE h; obtain ⟨v7, e7, h⟩ := h
  apply AW.step
  ·simp [← e7]
   intros; rfl
  cases v7 with
  | true =>
   replace h := iteT rfl h
   refine AW.cond_true (by simp) ?_
   replace h := bnE h; obtain ⟨y8, g8, h⟩ := h
   refine AW.flow (p := fun gh ls => (nP (cx := cx) (fun q => (⟨[(2, .l (.s (.bool q)))], [], 52, gh, ls⟩ : St))) y8) ?_ ?_
   ·replace h := g8; clear g8
    replace h := ltE h; obtain ⟨v9, e9, h⟩ := h
    cases v9 with
    | true =>
     replace h := iteT rfl h
     replace h := ltE h; obtain ⟨v10, e10, h⟩ := h
     replace h := ltE h; obtain ⟨v11, e11, h⟩ := h
     cases v11 with
     | true =>
      replace h := iteT rfl h
      replace h := ltE h; obtain ⟨v12, e12, h⟩ := h
      replace h := ltE h; obtain ⟨v13, e13, h⟩ := h
      apply AW.last
      ·simp [← e9, lenI_cast e10, ← e11, lenI_cast e12, ← e13]
       intros; rfl
      obtain rfl := Option.some.inj h
      refine nP_i ?_
      refine Weak.mixN [] hn0 (by decide) ?_ ?_ rfl
      all_goals first | (simp [inv_cons, inv_nil, pickOb]; done) | rfl
     | false =>
      replace h := iteF rfl h
      apply AW.last
      ·simp [← e9, lenI_cast e10, ← e11]
       intros; rfl
      obtain rfl := Option.some.inj h
      refine nP_i ?_
      refine Weak.mixN [] hn0 (by decide) ?_ ?_ rfl
      all_goals first | (simp [inv_cons, inv_nil, pickOb]; done) | rfl
    | false =>
     replace h := iteF rfl h
     apply AW.last
     ·simp [← e9]
      intros; rfl
     obtain rfl := Option.some.inj h
     refine nP_i ?_
     refine Weak.mixN [] hn0 (by decide) ?_ ?_ rfl
     all_goals first | (simp [inv_cons, inv_nil, pickOb]; done) | rfl
   ·rintro e s hp
    obtain ⟨rfl, hw⟩ := hp
    refine ⟨_, hw, ?_⟩
    try simp only [sp_l, sp_r, Post.seq, Post.block, Nat.reduceEqDiff, reduceIte, Nat.zero_ne_one, Nat.one_ne_zero]
    obtain rfl := Option.some.inj h
    refine AW.ret ?_
    refine Left.plain hnb (by simp [Try.f117, resV, resC, comp]; rfl) rfl rfl ?_
    simp
  | false =>
   replace h := iteF rfl h
   refine AW.cond_false (by simp) ?_
   replace h := bnE h; obtain ⟨y14, g14, h⟩ := h
   refine AW.flow (p := fun gh ls => (nP (cx := cx) (fun q => (⟨[(1, .l (.p 0 0)), (34, .l (.s (.bool q)))], [some ⟨34, 5, false, none, [.s (.int .i64 a0.kind), .s (.string a0.s), .d false 2 (encField a0.f), .d false 1 (encS a0.l), .s (.int .i64 a0.exp)]⟩], 52, gh, ls⟩ : St))) y14) ?_ ?_
   ·replace h := g14; clear g14
    replace h := ltE h; obtain ⟨v15, e15, h⟩ := h
    apply AW.step
    ·simp [← e15]
     intros; rfl
    cases v15 with
    | true =>
     replace h := iteT rfl h
     refine AW.cond_true (by simp) ?_
     refine AW.skip ?_
     try simp only [sp_l, sp_r, Post.seq, Post.block, Nat.reduceEqDiff, reduceIte, Nat.zero_ne_one, Nat.one_ne_zero]
     obtain rfl := Option.some.inj h
     refine nP_i ?_
     refine Weak.mixN [some 0] hn0 (by decide) ?_ ?_ rfl
     all_goals first | (simp [inv_cons, inv_nil, pickOb]; done) | rfl
    | false =>
     replace h := iteF rfl h
     refine AW.cond_false (by simp) ?_
     replace h := ltE h; obtain ⟨v16, e16, h⟩ := h
     apply AW.last
     ·simp [← e16]
      intros; rfl
     obtain rfl := Option.some.inj h
     refine nP_i ?_
     refine Weak.mixN [some 0] hn0 (by decide) ?_ ?_ rfl
     all_goals first | (simp [inv_cons, inv_nil, pickOb]; done) | rfl
   ·rintro e s hp
    obtain ⟨rfl, hw⟩ := hp
    refine ⟨_, hw, ?_⟩
    try simp only [sp_l, sp_r, Post.seq, Post.block, Nat.reduceEqDiff, reduceIte, Nat.zero_ne_one, Nat.one_ne_zero]
    replace h := ltE h; obtain ⟨v17, e17, h⟩ := h
    rw [← e17]
    cases v17 with
    | true =>
     replace h := iteT rfl h
     refine AW.cond_true (by simp) ?_
     replace h := bnE h; obtain ⟨y18, g18, h⟩ := h
     refine AW.flow (p := fun gh ls => (nP (cx := cx) (fun q => (⟨[(2, .l (.s (.bool q)))], [], 52, gh, ls⟩ : St))) y18) ?_ ?_
     ·replace h := g18; clear g18
      replace h := ltE h; obtain ⟨v19, e19, h⟩ := h
      cases v19 with
      | true =>
       replace h := iteT rfl h
       replace h := ltE h; obtain ⟨v20, e20, h⟩ := h
       replace h := ltE h; obtain ⟨v21, e21, h⟩ := h
       cases v21 with
       | true =>
        replace h := iteT rfl h
        replace h := ltE h; obtain ⟨v22, e22, h⟩ := h
        replace h := ltE h; obtain ⟨v23, e23, h⟩ := h
        apply AW.last
        ·simp [← e19, lenI_cast e20, ← e21, lenI_cast e22, ← e23]
         intros; rfl
        obtain rfl := Option.some.inj h
        refine nP_i ?_
        refine Weak.mixN [] hn0 (by decide) ?_ ?_ rfl
        all_goals first | (simp [inv_cons, inv_nil, pickOb]; done) | rfl
       | false =>
        replace h := iteF rfl h
        apply AW.last
        ·simp [← e19, lenI_cast e20, ← e21]
         intros; rfl
        obtain rfl := Option.some.inj h
        refine nP_i ?_
        refine Weak.mixN [] hn0 (by decide) ?_ ?_ rfl
        all_goals first | (simp [inv_cons, inv_nil, pickOb]; done) | rfl
      | false =>
       replace h := iteF rfl h
       apply AW.last
       ·simp [← e19]
        intros; rfl
       obtain rfl := Option.some.inj h
       refine nP_i ?_
       refine Weak.mixN [] hn0 (by decide) ?_ ?_ rfl
       all_goals first | (simp [inv_cons, inv_nil, pickOb]; done) | rfl
     ·rintro e s hp
      obtain ⟨rfl, hw⟩ := hp
      refine ⟨_, hw, ?_⟩
      try simp only [sp_l, sp_r, Post.seq, Post.block, Nat.reduceEqDiff, reduceIte, Nat.zero_ne_one, Nat.one_ne_zero]
      obtain rfl := Option.some.inj h
      refine AW.ret ?_
      refine Left.plain hnb (by simp [Try.f117, resV, resC, comp]; rfl) rfl rfl ?_
      simp
    | false =>
     replace h := iteF rfl h
     refine AW.cond_false (by simp) ?_
     refine AW.skip ?_
     try simp only [sp_l, sp_r, Post.seq, Post.block, Nat.reduceEqDiff, reduceIte, Nat.zero_ne_one, Nat.one_ne_zero]
     try simp only [sp_l, sp_r, Post.seq, Post.block, Nat.reduceEqDiff, reduceIte, Nat.zero_ne_one, Nat.one_ne_zero]
     apply AW.step
     ·simp
      intros; rfl
     obtain rfl := Option.some.inj h
     refine AW.ret ?_
     refine Left.plain hnb (by simp [Try.f117, resV, resC, comp]; rfl) rfl rfl ?_
     simp
theorem en_r5_bare : Enters Try.prog 117 := enters Try.func117 (by kernel_rfl) rfl
def r5_MayItem_sh (n : Nat) (a0 : Item) : Option Bool :=
bn (bn (r5_bare_sh n a0) fun v2 =>
lt (notB v2) fun v3 =>
ite' v3 (some (true)) (lt (lenS a0.s) fun v4 =>
lt (gtI v4 300) fun v5 =>
ite' v5 (some (true)) (lt (lenI a0.f) fun v6 =>
lt (gtI v6 40) fun v7 =>
ite' v7 (some (true)) (lt (lenI a0.l) fun v8 =>
lt (gtI v8 40) fun v9 =>
ite' v9 (some (true)) (lt (ltI a0.exp 0) fun v10 =>
ite' v10 (some (true)) (lt (gtI a0.exp 9007199254740992) fun v11 =>
some (v11))))))) fun (y1 : Bool) =>
lt (y1) fun v12 =>
ite' v12 (some false) (bn (iter n (fun (y13 : Int) =>
lt (lenI a0.f) fun v16 =>
lt (ltI y13 v16) fun v17 =>
ite' v17 (bn (bn (nth a0.f y13) fun v19 =>
lt (lenS v19.name) fun v20 =>
lt (gtI v20 300) fun v21 =>
ite' v21 (some (true)) (lt (lenS v19.val) fun v22 =>
lt (gtI v22 300) fun v23 =>
ite' v23 (some (true)) (lt (gtI y13 0) fun v24 =>
ite' v24 (lt (subI .i64 y13 1) fun v25 =>
bn (nth a0.f v25) fun v26 =>
lt (geS v26.name v19.name) fun v27 =>
some (v27)) (some (false))))) fun (y18 : Bool) =>
lt (y18) fun v28 =>
ite' v28 (some (.inr (.inr false))) (lt (addI .i64 y13 1) fun v29 =>
some (.inl v29))) (some (.inr (.inl ())))) 0) fun (y14 : Unit ⊕ Bool) =>
sm y14 (fun y30 => bn (iter n (fun (y32 : Int) =>
lt (lenI a0.l) fun v35 =>
lt (ltI y32 v35) fun v36 =>
ite' v36 (bn (bn (nth a0.l y32) fun v38 =>
lt (lenS v38) fun v39 =>
lt (gtI v39 300) fun v40 =>
ite' v40 (some (true)) (lt (eqI a0.kind 4) fun v41 =>
ite' v41 (lt (gtI y32 0) fun v42 =>
ite' v42 (lt (subI .i64 y32 1) fun v43 =>
bn (nth a0.l v43) fun v44 =>
lt (geS v44 v38) fun v45 =>
some (v45)) (some (false))) (some (false)))) fun (y37 : Bool) =>
lt (y37) fun v46 =>
ite' v46 (some (.inr (.inr false))) (lt (addI .i64 y32 1) fun v47 =>
some (.inl v47))) (some (.inr (.inl ())))) 0) fun (y33 : Unit ⊕ Bool) =>
sm y33 (fun y48 => some true) (fun y49 => some y49)) (fun y31 => some y31))
set_option maxRecDepth 8000 in
set_option maxHeartbeats 8000000 in
theorem s_r5_MayItem {n : Nat} {a0 : Item} {r : Bool} (h : r5_MayItem_sh n a0 = some r) : Sound Try.prog 88 [.g [.s (.int .i64 a0.kind), .s (.string a0.s), .d false 2 (encField a0.f), .d false 1 (encS a0.l), .s (.int .i64 a0.exp)]] [] (.l (.s (.bool r))) [] := by
 unfold r5_MayItem_sh at h
 refine Sound.of_aw (fn := Try.f88) (c := _) Try.func88 rfl (by simp [Try.f88]) fun cx hG hnb => ?_
 rw [show Try.f88.ntmps = 118 from rfl]
 have hn0 : cx.nb = 0 := hnb
 simp only [st0_mk, initTm, List.map_cons, List.map_nil]
 apply AW.step
 ·simp
  intros; rfl
 refine AW.seq ?_
 replace h := bnE h; obtain ⟨y1, g1, h⟩ := h
 refine AW.flow (p := fun gh ls => (nP (cx := cx) (fun q => (⟨[(1, .l (.p 0 0)), (35, .l (.s (.bool q)))], [some ⟨34, 5, false, none, [.s (.int .i64 a0.kind), .s (.string a0.s), .d false 2 (encField a0.f), .d false 1 (encS a0.l), .s (.int .i64 a0.exp)]⟩], 118, gh, ls⟩ : St))) y1) ?_ ?_
 ·replace h := g1; clear g1
  replace h := bnE h; obtain ⟨v2, e2, h⟩ := h
  replace h := ltE h; obtain ⟨v3, e3, h⟩ := h
  cases v3 with
  | true =>
   replace h := iteT rfl h
   apply AW.last
   ·simp [← e3]
    intros
    refine xcall_plain en_r5_bare (s_r5_bare e2) rfl ⟨.same rfl, trivial⟩ ?_
    try simp [← e3]
    intros; rfl
   obtain rfl := Option.some.inj h
   refine nP_i ?_
   refine Weak.mixN [some 0] hn0 (by decide) ?_ ?_ rfl
   all_goals first | (simp [inv_cons, inv_nil, pickOb]; done) | rfl
  | false =>
   replace h := iteF rfl h
   replace h := ltE h; obtain ⟨v4, e4, h⟩ := h
   replace h := ltE h; obtain ⟨v5, e5, h⟩ := h
   cases v5 with
   | true =>
    replace h := iteT rfl h
    apply AW.last
    ·simp [← e3, ← e4, ← e5]
     intros
     refine xcall_plain en_r5_bare (s_r5_bare e2) rfl ⟨.same rfl, trivial⟩ ?_
     try simp [← e3, ← e4, ← e5]
     intros; rfl
    obtain rfl := Option.some.inj h
    refine nP_i ?_
    refine Weak.mixN [some 0] hn0 (by decide) ?_ ?_ rfl
    all_goals first | (simp [inv_cons, inv_nil, pickOb]; done) | rfl
   | false =>
    replace h := iteF rfl h
    replace h := ltE h; obtain ⟨v6, e6, h⟩ := h
    replace h := ltE h; obtain ⟨v7, e7, h⟩ := h
    cases v7 with
    | true =>
     replace h := iteT rfl h
     apply AW.last
     ·simp [← e3, ← e4, ← e5, lenI_cast e6, ← e7]
      intros
      refine xcall_plain en_r5_bare (s_r5_bare e2) rfl ⟨.same rfl, trivial⟩ ?_
      try simp [← e3, ← e4, ← e5, lenI_cast e6, ← e7]
      intros; rfl
     obtain rfl := Option.some.inj h
     refine nP_i ?_
     refine Weak.mixN [some 0] hn0 (by decide) ?_ ?_ rfl
     all_goals first | (simp [inv_cons, inv_nil, pickOb]; done) | rfl
    | false =>
     replace h := iteF rfl h
     replace h := ltE h; obtain ⟨v8, e8, h⟩ := h
     replace h := ltE h; obtain ⟨v9, e9, h⟩ := h
     cases v9 with
     | true =>
      replace h := iteT rfl h
      apply AW.last
      ·simp [← e3, ← e4, ← e5, lenI_cast e6, ← e7, lenI_cast e8, ← e9]
       intros
       refine xcall_plain en_r5_bare (s_r5_bare e2) rfl ⟨.same rfl, trivial⟩ ?_
       try simp [← e3, ← e4, ← e5, lenI_cast e6, ← e7, lenI_cast e8, ← e9]
       intros; rfl
      obtain rfl := Option.some.inj h
      refine nP_i ?_
      refine Weak.mixN [some 0] hn0 (by decide) ?_ ?_ rfl
      all_goals first | (simp [inv_cons, inv_nil, pickOb]; done) | rfl
     | false =>
      replace h := iteF rfl h
      replace h := ltE h; obtain ⟨v10, e10, h⟩ := h
      cases v10 with
      | true =>
       replace h := iteT rfl h
       apply AW.last
       ·simp [← e3, ← e4, ← e5, lenI_cast e6, ← e7, lenI_cast e8, ← e9, ← e10]
        intros
        refine xcall_plain en_r5_bare (s_r5_bare e2) rfl ⟨.same rfl, trivial⟩ ?_
        try simp [← e3, ← e4, ← e5, lenI_cast e6, ← e7, lenI_cast e8, ← e9, ← e10]
        intros; rfl
       obtain rfl := Option.some.inj h
       refine nP_i ?_
       refine Weak.mixN [some 0] hn0 (by decide) ?_ ?_ rfl
       all_goals first | (simp [inv_cons, inv_nil, pickOb]; done) | rfl
      | false =>
       replace h := iteF rfl h
       replace h := ltE h; obtain ⟨v11, e11, h⟩ := h
       apply AW.last
       ·simp [← e3, ← e4, ← e5, lenI_cast e6, ← e7, lenI_cast e8, ← e9, ← e10, ← e11]
        intros
        refine xcall_plain en_r5_bare (s_r5_bare e2) rfl ⟨.same rfl, trivial⟩ ?_
        try simp [← e3, ← e4, ← e5, lenI_cast e6, ← e7, lenI_cast e8, ← e9, ← e10, ← e11]
        intros; rfl
       obtain rfl := Option.some.inj h
       refine nP_i ?_
       refine Weak.mixN [some 0] hn0 (by decide) ?_ ?_ rfl
       all_goals first | (simp [inv_cons, inv_nil, pickOb]; done) | rfl
 ·rintro e s hp
  obtain ⟨rfl, hw⟩ := hp
  refine ⟨_, hw, ?_⟩
  try simp only [sp_l, sp_r, Post.seq, Post.block, Nat.reduceEqDiff, reduceIte, Nat.zero_ne_one, Nat.one_ne_zero]
  replace h := ltE h; obtain ⟨v12, e12, h⟩ := h
  rw [← e12]
  cases v12 with
  | true =>
   replace h := iteT rfl h
   refine AW.cond_true (by simp) ?_
   apply AW.step
   ·simp
    intros; rfl
   obtain rfl := Option.some.inj h
   refine AW.ret ?_
   refine Left.plain hnb (by simp [Try.f88, resV, resC, comp]; rfl) rfl rfl ?_
   simp
  | false =>
   replace h := iteF rfl h
   refine AW.cond_false (by simp) ?_
   refine AW.skip ?_
   try simp only [sp_l, sp_r, Post.seq, Post.block, Nat.reduceEqDiff, reduceIte, Nat.zero_ne_one, Nat.one_ne_zero]
   try simp only [sp_l, sp_r, Post.seq, Post.block, Nat.reduceEqDiff, reduceIte, Nat.zero_ne_one, Nat.one_ne_zero]
   refine AW.seq ?_
   apply AW.step
   ·simp
    intros; rfl
   refine AW.block ?_
   replace h := bnE h; obtain ⟨y14, g14, h⟩ := h
   refine AW.iterP g14 (mk := fun gh ls q => (⟨[(1, .l (.p 0 0)), (3, .l (.s (.int .i64 q)))], [some ⟨34, 5, false, none, [.s (.int .i64 a0.kind), .s (.string a0.s), .d false 2 (encField a0.f), .d false 1 (encS a0.l), .s (.int .i64 a0.exp)]⟩], 118, gh, ls⟩ : St)) (N := fun gh ls => (sp (xP 0 (cx := cx) (fun _ => (⟨[(1, .l (.p 0 0))], [some ⟨34, 5, false, none, [.s (.int .i64 a0.kind), .s (.string a0.s), .d false 2 (encField a0.f), .d false 1 (encS a0.l), .s (.int .i64 a0.exp)]⟩], 118, gh, ls⟩ : St))) (rP (cx := cx) (P := Try.prog) Try.f88 (fun q => .l (.s (.bool q))) (fun q => [])))) ?_ (noS noX noR) ?_ ?_
   ·refine Weak.mixN [some 0] hn0 (by decide) ?_ ?_ rfl
    all_goals first | (simp [inv_cons, inv_nil, pickOb]; done) | rfl
   ·clear h; intro y13 y15 h
    refine AW.seq ?_
    replace h := ltE h; obtain ⟨v16, e16, h⟩ := h
    replace h := ltE h; obtain ⟨v17, e17, h⟩ := h
    apply AW.step
    ·simp [lenI_cast e16, ← e17]
     intros; rfl
    cases v17 with
    | true =>
     replace h := iteT rfl h
     refine AW.cond_true (by simp) ?_
     refine AW.skip ?_
     try simp only [sp_l, sp_r, Post.seq, Post.block, Nat.reduceEqDiff, reduceIte, Nat.zero_ne_one, Nat.one_ne_zero]
     try simp only [sp_l, sp_r, Post.seq, Post.block, Nat.reduceEqDiff, reduceIte, Nat.zero_ne_one, Nat.one_ne_zero]
     refine AW.seq ?_
     refine AW.block ?_
     replace h := bnE h; obtain ⟨y18, g18, h⟩ := h
     refine AW.flow (p := fun gh ls => (nP (cx := cx) (fun q => (⟨[(1, .l (.p 0 0)), (3, .l (.s (.int .i64 y13))), (80, .l (.s (.bool q)))], [some ⟨34, 5, false, none, [.s (.int .i64 a0.kind), .s (.string a0.s), .d false 2 (encField a0.f), .d false 1 (encS a0.l), .s (.int .i64 a0.exp)]⟩], 118, gh, ls⟩ : St))) y18) ?_ ?_
     ·replace h := g18; clear g18
      replace h := bnE h; obtain ⟨v19, e19, h⟩ := h
      replace h := ltE h; obtain ⟨v20, e20, h⟩ := h
      replace h := ltE h; obtain ⟨v21, e21, h⟩ := h
      cases v21 with
      | true =>
       replace h := iteT rfl h
       apply AW.drawnR (V := [_, _, _, _, _, _, _, _, _, _, _, _, _, _, _, _, _, _, _, _, _, _, _, _, _, _, _, _, _, _, _, _, _, _, _]) mixed [⟨[0], [], [(1, none)], false⟩, ⟨[0], [0], [(43, some 0)], false⟩, ⟨[0], [], [(3, none)], false⟩, ⟨[0], [0, 1, 2], [(44, some 1), (45, some 2)], false⟩, ⟨[0], [0, 1, 2, 3], [(46, some 3)], false⟩, ⟨[0], [0, 1, 2, 3, 4], [(47, some 4)], false⟩, ⟨[0], [0, 1, 2, 3, 4, 5], [(48, some 5)], false⟩, ⟨[0], [0, 1, 2, 3, 4, 5, 6], [(49, some 6)], false⟩, ⟨[0], [0, 1, 2, 3, 4, 5, 6, 7], [(50, some 7)], false⟩, ⟨[0], [0, 1, 2, 3, 4, 5, 6, 7, 8], [(1, none), (51, some 8)], false⟩, ⟨[0], [0, 1, 2, 3, 4, 5, 6, 7, 8, 9], [(51, some 8), (52, some 9)], false⟩, ⟨[0], [0, 1, 2, 3, 4, 5, 6, 7, 8], [(3, none), (51, some 8)], false⟩, ⟨[0], [0, 1, 2, 3, 4, 5, 6, 7, 8, 9, 10, 11], [(51, some 8), (53, some 10), (54, some 11)], false⟩, ⟨[0], [0, 1, 2, 3, 4, 5, 6, 7, 8, 9, 10, 11, 12], [(51, some 8), (55, some 12)], false⟩, ⟨[0], [0, 1, 2, 3, 4, 5, 6, 7, 8, 9, 10, 11, 12, 13], [(51, some 8), (56, some 13)], false⟩, ⟨[0], [0, 1, 2, 3, 4, 5, 6, 7, 8, 9, 10, 11, 12, 13, 14], [(51, some 8), (57, some 14)], false⟩, ⟨[0], [0, 1, 2, 3, 4, 5, 6, 7, 8, 9, 10, 11, 12, 13, 14, 15], [(51, some 8), (58, some 15)], false⟩, ⟨[0], [0, 1, 2, 3, 4, 5, 6, 7, 8, 9, 10, 11, 12, 13, 14, 15, 16], [(51, some 8), (59, some 16)], false⟩, ⟨[0], [0, 1, 2, 3, 4, 5, 6, 7, 8, 9, 10, 11, 12, 13, 14, 15, 16, 17], [(60, some 17)], false⟩, ⟨[0], [0, 1, 2, 3, 4, 5, 6, 7, 8, 9, 10, 11, 12, 13, 14, 15, 16, 17, 18], [(3, none), (61, some 18)], false⟩, ⟨[0], [0, 1, 2, 3, 4, 5, 6, 7, 8, 9, 10, 11, 12, 13, 14, 15, 16, 17, 18, 19], [(61, some 18), (62, some 19)], false⟩, ⟨[0], [0, 1, 2, 3, 4, 5, 6, 7, 8, 9, 10, 11, 12, 13, 14, 15, 16, 17, 18, 19, 20], [(61, some 18), (63, some 20)], false⟩, ⟨[0], [0, 1, 2, 3, 4, 5, 6, 7, 8, 9, 10, 11, 12, 13, 14, 15, 16, 17, 18, 19, 20, 21], [(1, none), (64, some 21)], false⟩, ⟨[0], [0, 1, 2, 3, 4, 5, 6, 7, 8, 9, 10, 11, 12, 13, 14, 15, 16, 17, 18, 19, 20, 21, 22], [(64, some 21), (65, some 22)], false⟩, ⟨[0], [0, 1, 2, 3, 4, 5, 6, 7, 8, 9, 10, 11, 12, 13, 14, 15, 16, 17, 18, 19, 20, 21], [(3, none), (64, some 21)], false⟩, ⟨[0], [0, 1, 2, 3, 4, 5, 6, 7, 8, 9, 10, 11, 12, 13, 14, 15, 16, 17, 18, 19, 20, 21, 24], [(64, some 21), (67, some 24)], false⟩, ⟨[0], [0, 1, 2, 3, 4, 5, 6, 7, 8, 9, 10, 11, 12, 13, 14, 15, 16, 17, 18, 19, 20, 21, 22, 23, 24, 25], [(64, some 21), (66, some 23), (68, some 25)], false⟩, ⟨[0], [0, 1, 2, 3, 4, 5, 6, 7, 8, 9, 10, 11, 12, 13, 14, 15, 16, 17, 18, 19, 20, 21, 22, 23, 24, 25, 26], [(64, some 21), (69, some 26)], false⟩, ⟨[0], [0, 1, 2, 3, 4, 5, 6, 7, 8, 9, 10, 11, 12, 13, 14, 15, 16, 17, 18, 19, 20, 21, 22, 23, 24, 25, 26, 27], [(64, some 21), (70, some 27)], false⟩, ⟨[0], [0, 1, 2, 3, 4, 5, 6, 7, 8, 9, 10, 11, 12, 13, 14, 15, 16, 17, 18, 19, 20, 21], [(1, none), (64, some 21)], false⟩, ⟨[0], [0, 1, 2, 3, 4, 5, 6, 7, 8, 9, 10, 11, 12, 13, 14, 15, 16, 17, 18, 19, 20, 21, 29], [(64, some 21), (72, some 29)], false⟩, ⟨[0], [0, 1, 2, 3, 4, 5, 6, 7, 8, 9, 10, 11, 12, 13, 14, 15, 16, 17, 18, 19, 20, 21], [(3, none), (64, some 21)], false⟩, ⟨[0], [0, 1, 2, 3, 4, 5, 6, 7, 8, 9, 10, 11, 12, 13, 14, 15, 16, 17, 18, 19, 20, 21, 29, 30, 31], [(64, some 21), (73, some 30), (74, some 31)], false⟩, ⟨[0], [0, 1, 2, 3, 4, 5, 6, 7, 8, 9, 10, 11, 12, 13, 14, 15, 16, 17, 18, 19, 20, 21, 29, 30, 31, 32], [(64, some 21), (75, some 32)], false⟩, ⟨[0], [0, 1, 2, 3, 4, 5, 6, 7, 8, 9, 10, 11, 12, 13, 14, 15, 16, 17, 18, 19, 20, 21, 29, 30, 31, 32, 33], [(64, some 21), (76, some 33)], false⟩, ⟨[], [0, 1, 2, 3, 4, 5, 6, 7, 8, 9, 10, 11, 12, 13, 14, 15, 16, 17, 18, 19, 20, 21, 22, 23, 24, 25, 26, 27, 28, 29, 30, 31, 32, 33, 34], [], false⟩, ⟨[], [0, 1, 2, 3, 4, 5, 6, 7, 8, 9, 10, 11, 12, 13, 14, 15, 16, 17, 18, 19, 20, 21, 22, 23, 24, 25, 26, 27, 28, 29, 30, 31, 32, 33, 34, 35], [], false⟩, ⟨[], [0, 1, 2, 3, 4, 5, 6, 7, 8, 9, 10, 11, 12, 13, 14, 15, 16, 17, 18, 19, 20, 21, 22, 23, 24, 25, 26, 27, 28, 29, 30, 31, 32, 33, 34, 35, 36], [], false⟩] 35 (by kernel_rfl) (by kernel_rfl)
       ·refine ⟨?_, ?_, ?_, ?_, ?_, ?_, ?_, ?_, ?_, ?_, ?_, ?_, ?_, ?_, ?_, ?_, ?_, ?_, ?_, ?_, ?_, ?_, ?_, ?_, ?_, ?_, ?_, ?_, ?_, ?_, ?_, ?_, ?_, ?_, ?_, trivial⟩
        ·intro tm hr
         simp [AllL, rdV] at hr
         simp [hr, nth_d e19, ← e20, ← e21]
         intros; first | exact KD.mk | exact KD.mkN
        ·intro tm hr
         simp [AllL, rdV] at hr
         simp [hr, nth_d e19, ← e20, ← e21]
         intros; first | exact KD.mk | exact KD.mkN
        ·intro tm hr
         simp [AllL, rdV] at hr
         simp [hr, nth_d e19, ← e20, ← e21]
         intros; first | exact KD.mk | exact KD.mkN
        ·intro tm hr
         simp [AllL, rdV] at hr
         simp [hr, nth_d e19, ← e20, ← e21]
         intros; first | exact KD.mk | exact KD.mkN
        ·intro tm hr
         simp [AllL, rdV] at hr
         simp [hr, nth_d e19, ← e20, ← e21]
         intros; first | exact KD.mk | exact KD.mkN
        ·intro tm hr
         simp [AllL, rdV] at hr
         simp [hr, nth_d e19, ← e20, ← e21]
         intros; first | exact KD.mk | exact KD.mkN
        ·intro tm hr
         simp [AllL, rdV] at hr
         simp [hr, nth_d e19, ← e20, ← e21]
         intros; first | exact KD.mk | exact KD.mkN
        ·intro tm hr
         simp [AllL, rdV] at hr
         simp [hr, nth_d e19, ← e20, ← e21]
         intros; first | exact KD.mk | exact KD.mkN
        ·intro tm hr
         simp [AllL, rdV] at hr
         simp [hr, nth_d e19, ← e20, ← e21]
         intros; first | exact KD.mk | exact KD.mkN
        ·intro tm hr
         simp [AllL, rdV] at hr
         simp [hr, nth_d e19, ← e20, ← e21]
         intros; first | exact KD.mk | exact KD.mkN
        ·intro tm hr
         simp [AllL, rdV] at hr
         simp [hr, nth_d e19, ← e20, ← e21]
         intros; first | exact KD.mk | exact KD.mkN
        ·intro tm hr
         simp [AllL, rdV] at hr
         simp [hr, nth_d e19, ← e20, ← e21]
         intros; first | exact KD.mk | exact KD.mkN
        ·intro tm hr
         simp [AllL, rdV] at hr
         simp [hr, nth_d e19, ← e20, ← e21]
         intros; first | exact KD.mk | exact KD.mkN
        ·intro tm hr
         simp [AllL, rdV] at hr
         simp [hr, nth_d e19, ← e20, ← e21]
         intros; first | exact KD.mk | exact KD.mkN
        ·intro tm hr
         simp [AllL, rdV] at hr
         simp [hr, nth_d e19, ← e20, ← e21]
         intros; first | exact KD.mk | exact KD.mkN
        ·intro tm hr
         simp [AllL, rdV] at hr
         simp [hr, nth_d e19, ← e20, ← e21]
         intros; first | exact KD.mk | exact KD.mkN
        ·intro tm hr
         simp [AllL, rdV] at hr
         simp [hr, nth_d e19, ← e20, ← e21]
         intros; first | exact KD.mk | exact KD.mkN
        ·intro tm hr
         simp [AllL, rdV] at hr
         simp [hr, nth_d e19, ← e20, ← e21]
         intros; first | exact KD.mk | exact KD.mkN
        ·intro tm hr
         simp [AllL, rdV] at hr
         simp [hr, nth_d e19, ← e20, ← e21]
         intros; first | exact KD.mk | exact KD.mkN
        ·intro tm hr
         simp [AllL, rdV] at hr
         simp [hr, nth_d e19, ← e20, ← e21]
         intros; first | exact KD.mk | exact KD.mkN
        ·intro tm hr
         simp [AllL, rdV] at hr
         simp [hr, nth_d e19, ← e20, ← e21]
         intros; first | exact KD.mk | exact KD.mkN
        ·intro tm hr
         simp [AllL, rdV] at hr
         simp [hr, nth_d e19, ← e20, ← e21]
         intros; first | exact KD.mk | exact KD.mkN
        ·intro tm hr
         simp [AllL, rdV] at hr
         simp [hr, nth_d e19, ← e20, ← e21]
         intros; first | exact KD.mk | exact KD.mkN
        ·intro tm hr
         simp [AllL, rdV] at hr
         simp [hr, nth_d e19, ← e20, ← e21]
         intros; first | exact KD.mk | exact KD.mkN
        ·intro tm hr
         simp [AllL, rdV] at hr
         simp [hr, nth_d e19, ← e20, ← e21]
         intros; first | exact KD.mk | exact KD.mkN
        ·intro tm hr
         simp [AllL, rdV] at hr
         simp [hr, nth_d e19, ← e20, ← e21]
         intros; first | exact KD.mk | exact KD.mkN
        ·intro tm hr
         simp [AllL, rdV] at hr
         simp [hr, nth_d e19, ← e20, ← e21]
         intros; first | exact KD.mk | exact KD.mkN
        ·intro tm hr
         simp [AllL, rdV] at hr
         simp [hr, nth_d e19, ← e20, ← e21]
         intros; first | exact KD.mk | exact KD.mkN
        ·intro tm hr
         simp [AllL, rdV] at hr
         simp [hr, nth_d e19, ← e20, ← e21]
         intros; first | exact KD.mk | exact KD.mkN
        ·intro tm hr
         simp [AllL, rdV] at hr
         simp [hr, nth_d e19, ← e20, ← e21]
         intros; first | exact KD.mk | exact KD.mkN
        ·intro tm hr
         simp [AllL, rdV] at hr
         simp [hr, nth_d e19, ← e20, ← e21]
         intros; first | exact KD.mk | exact KD.mkN
        ·intro tm hr
         simp [AllL, rdV] at hr
         simp [hr, nth_d e19, ← e20, ← e21]
         intros; first | exact KD.mk | exact KD.mkN
        ·intro tm hr
         simp [AllL, rdV] at hr
         simp [hr, nth_d e19, ← e20, ← e21]
         intros; first | exact KD.mk | exact KD.mkN
        ·intro tm hr
         simp [AllL, rdV] at hr
         simp [hr, nth_d e19, ← e20, ← e21]
         intros; first | exact KD.mk | exact KD.mkN
        ·intro tm hr
         simp [AllL, rdV] at hr
         simp [hr, nth_d e19, ← e20, ← e21]
         intros; first | exact KD.mk | exact KD.mkN
       ·rfl
       ·simp [tmD, putD, nth_d e19, ← e20, ← e21]; rfl
       ·simp [nth_d e19, ← e20, ← e21]
        intros; rfl
       obtain rfl := Option.some.inj h
       refine nP_i ?_
       refine Weak.mixN [some 0] hn0 (by decide) ?_ ?_ rfl
       all_goals first | (simp [inv_cons, inv_nil, pickOb]; done) | rfl
      | false =>
       replace h := iteF rfl h
       replace h := ltE h; obtain ⟨v22, e22, h⟩ := h
       replace h := ltE h; obtain ⟨v23, e23, h⟩ := h
       cases v23 with
       | true =>
        replace h := iteT rfl h
        apply AW.drawnR (V := [_, _, _, _, _, _, _, _, _, _, _, _, _, _, _, _, _, _, _, _, _, _, _, _, _, _, _, _, _, _, _, _, _, _, _]) mixed [⟨[0], [], [(1, none)], false⟩, ⟨[0], [0], [(43, some 0)], false⟩, ⟨[0], [], [(3, none)], false⟩, ⟨[0], [0, 1, 2], [(44, some 1), (45, some 2)], false⟩, ⟨[0], [0, 1, 2, 3], [(46, some 3)], false⟩, ⟨[0], [0, 1, 2, 3, 4], [(47, some 4)], false⟩, ⟨[0], [0, 1, 2, 3, 4, 5], [(48, some 5)], false⟩, ⟨[0], [0, 1, 2, 3, 4, 5, 6], [(49, some 6)], false⟩, ⟨[0], [0, 1, 2, 3, 4, 5, 6, 7], [(50, some 7)], false⟩, ⟨[0], [0, 1, 2, 3, 4, 5, 6, 7, 8], [(1, none), (51, some 8)], false⟩, ⟨[0], [0, 1, 2, 3, 4, 5, 6, 7, 8, 9], [(51, some 8), (52, some 9)], false⟩, ⟨[0], [0, 1, 2, 3, 4, 5, 6, 7, 8], [(3, none), (51, some 8)], false⟩, ⟨[0], [0, 1, 2, 3, 4, 5, 6, 7, 8, 9, 10, 11], [(51, some 8), (53, some 10), (54, some 11)], false⟩, ⟨[0], [0, 1, 2, 3, 4, 5, 6, 7, 8, 9, 10, 11, 12], [(51, some 8), (55, some 12)], false⟩, ⟨[0], [0, 1, 2, 3, 4, 5, 6, 7, 8, 9, 10, 11, 12, 13], [(51, some 8), (56, some 13)], false⟩, ⟨[0], [0, 1, 2, 3, 4, 5, 6, 7, 8, 9, 10, 11, 12, 13, 14], [(51, some 8), (57, some 14)], false⟩, ⟨[0], [0, 1, 2, 3, 4, 5, 6, 7, 8, 9, 10, 11, 12, 13, 14, 15], [(51, some 8), (58, some 15)], false⟩, ⟨[0], [0, 1, 2, 3, 4, 5, 6, 7, 8, 9, 10, 11, 12, 13, 14, 15, 16], [(51, some 8), (59, some 16)], false⟩, ⟨[0], [0, 1, 2, 3, 4, 5, 6, 7, 8, 9, 10, 11, 12, 13, 14, 15, 16, 17], [(60, some 17)], false⟩, ⟨[0], [0, 1, 2, 3, 4, 5, 6, 7, 8, 9, 10, 11, 12, 13, 14, 15, 16, 17, 18], [(3, none), (61, some 18)], false⟩, ⟨[0], [0, 1, 2, 3, 4, 5, 6, 7, 8, 9, 10, 11, 12, 13, 14, 15, 16, 17, 18, 19], [(61, some 18), (62, some 19)], false⟩, ⟨[0], [0, 1, 2, 3, 4, 5, 6, 7, 8, 9, 10, 11, 12, 13, 14, 15, 16, 17, 18, 19, 20], [(61, some 18), (63, some 20)], false⟩, ⟨[0], [0, 1, 2, 3, 4, 5, 6, 7, 8, 9, 10, 11, 12, 13, 14, 15, 16, 17, 18, 19, 20, 21], [(1, none), (64, some 21)], false⟩, ⟨[0], [0, 1, 2, 3, 4, 5, 6, 7, 8, 9, 10, 11, 12, 13, 14, 15, 16, 17, 18, 19, 20, 21, 22], [(64, some 21), (65, some 22)], false⟩, ⟨[0], [0, 1, 2, 3, 4, 5, 6, 7, 8, 9, 10, 11, 12, 13, 14, 15, 16, 17, 18, 19, 20, 21], [(3, none), (64, some 21)], false⟩, ⟨[0], [0, 1, 2, 3, 4, 5, 6, 7, 8, 9, 10, 11, 12, 13, 14, 15, 16, 17, 18, 19, 20, 21, 24], [(64, some 21), (67, some 24)], false⟩, ⟨[0], [0, 1, 2, 3, 4, 5, 6, 7, 8, 9, 10, 11, 12, 13, 14, 15, 16, 17, 18, 19, 20, 21, 22, 23, 24, 25], [(64, some 21), (66, some 23), (68, some 25)], false⟩, ⟨[0], [0, 1, 2, 3, 4, 5, 6, 7, 8, 9, 10, 11, 12, 13, 14, 15, 16, 17, 18, 19, 20, 21, 22, 23, 24, 25, 26], [(64, some 21), (69, some 26)], false⟩, ⟨[0], [0, 1, 2, 3, 4, 5, 6, 7, 8, 9, 10, 11, 12, 13, 14, 15, 16, 17, 18, 19, 20, 21, 22, 23, 24, 25, 26, 27], [(64, some 21), (70, some 27)], false⟩, ⟨[0], [0, 1, 2, 3, 4, 5, 6, 7, 8, 9, 10, 11, 12, 13, 14, 15, 16, 17, 18, 19, 20, 21], [(1, none), (64, some 21)], false⟩, ⟨[0], [0, 1, 2, 3, 4, 5, 6, 7, 8, 9, 10, 11, 12, 13, 14, 15, 16, 17, 18, 19, 20, 21, 29], [(64, some 21), (72, some 29)], false⟩, ⟨[0], [0, 1, 2, 3, 4, 5, 6, 7, 8, 9, 10, 11, 12, 13, 14, 15, 16, 17, 18, 19, 20, 21], [(3, none), (64, some 21)], false⟩, ⟨[0], [0, 1, 2, 3, 4, 5, 6, 7, 8, 9, 10, 11, 12, 13, 14, 15, 16, 17, 18, 19, 20, 21, 29, 30, 31], [(64, some 21), (73, some 30), (74, some 31)], false⟩, ⟨[0], [0, 1, 2, 3, 4, 5, 6, 7, 8, 9, 10, 11, 12, 13, 14, 15, 16, 17, 18, 19, 20, 21, 29, 30, 31, 32], [(64, some 21), (75, some 32)], false⟩, ⟨[0], [0, 1, 2, 3, 4, 5, 6, 7, 8, 9, 10, 11, 12, 13, 14, 15, 16, 17, 18, 19, 20, 21, 29, 30, 31, 32, 33], [(64, some 21), (76, some 33)], false⟩, ⟨[], [0, 1, 2, 3, 4, 5, 6, 7, 8, 9, 10, 11, 12, 13, 14, 15, 16, 17, 18, 19, 20, 21, 22, 23, 24, 25, 26, 27, 28, 29, 30, 31, 32, 33, 34], [], false⟩, ⟨[], [0, 1, 2, 3, 4, 5, 6, 7, 8, 9, 10, 11, 12, 13, 14, 15, 16, 17, 18, 19, 20, 21, 22, 23, 24, 25, 26, 27, 28, 29, 30, 31, 32, 33, 34, 35], [], false⟩, ⟨[], [0, 1, 2, 3, 4, 5, 6, 7, 8, 9, 10, 11, 12, 13, 14, 15, 16, 17, 18, 19, 20, 21, 22, 23, 24, 25, 26, 27, 28, 29, 30, 31, 32, 33, 34, 35, 36], [], false⟩] 35 (by kernel_rfl) (by kernel_rfl)
        ·refine ⟨?_, ?_, ?_, ?_, ?_, ?_, ?_, ?_, ?_, ?_, ?_, ?_, ?_, ?_, ?_, ?_, ?_, ?_, ?_, ?_, ?_, ?_, ?_, ?_, ?_, ?_, ?_, ?_, ?_, ?_, ?_, ?_, ?_, ?_, ?_, trivial⟩
         ·intro tm hr
          simp [AllL, rdV] at hr
          simp [hr, nth_d e19, ← e20, ← e21, ← e22, ← e23]
          intros; first | exact KD.mk | exact KD.mkN
         ·intro tm hr
          simp [AllL, rdV] at hr
          simp [hr, nth_d e19, ← e20, ← e21, ← e22, ← e23]
          intros; first | exact KD.mk | exact KD.mkN
         ·intro tm hr
          simp [AllL, rdV] at hr
          simp [hr, nth_d e19, ← e20, ← e21, ← e22, ← e23]
          intros; first | exact KD.mk | exact KD.mkN
         ·intro tm hr
          simp [AllL, rdV] at hr
          simp [hr, nth_d e19, ← e20, ← e21, ← e22, ← e23]
          intros; first | exact KD.mk | exact KD.mkN
         ·intro tm hr
          simp [AllL, rdV] at hr
          simp [hr, nth_d e19, ← e20, ← e21, ← e22, ← e23]
          intros; first | exact KD.mk | exact KD.mkN
         ·intro tm hr
          simp [AllL, rdV] at hr
          simp [hr, nth_d e19, ← e20, ← e21, ← e22, ← e23]
          intros; first | exact KD.mk | exact KD.mkN
         ·intro tm hr
          simp [AllL, rdV] at hr
          simp [hr, nth_d e19, ← e20, ← e21, ← e22, ← e23]
          intros; first | exact KD.mk | exact KD.mkN
         ·intro tm hr
          simp [AllL, rdV] at hr
          simp [hr, nth_d e19, ← e20, ← e21, ← e22, ← e23]
          intros; first | exact KD.mk | exact KD.mkN
         ·intro tm hr
          simp [AllL, rdV] at hr
          simp [hr, nth_d e19, ← e20, ← e21, ← e22, ← e23]
          intros; first | exact KD.mk | exact KD.mkN
         ·intro tm hr
          simp [AllL, rdV] at hr
          simp [hr, nth_d e19, ← e20, ← e21, ← e22, ← e23]
          intros; first | exact KD.mk | exact KD.mkN
         ·intro tm hr
          simp [AllL, rdV] at hr
          simp [hr, nth_d e19, ← e20, ← e21, ← e22, ← e23]
          intros; first | exact KD.mk | exact KD.mkN
         ·intro tm hr
          simp [AllL, rdV] at hr
          simp [hr, nth_d e19, ← e20, ← e21, ← e22, ← e23]
          intros; first | exact KD.mk | exact KD.mkN
         ·intro tm hr
          simp [AllL, rdV] at hr
          simp [hr, nth_d e19, ← e20, ← e21, ← e22, ← e23]
          intros; first | exact KD.mk | exact KD.mkN
         ·intro tm hr
          simp [AllL, rdV] at hr
          simp [hr, nth_d e19, ← e20, ← e21, ← e22, ← e23]
          intros; first | exact KD.mk | exact KD.mkN
         ·intro tm hr
          simp [AllL, rdV] at hr
          simp [hr, nth_d e19, ← e20, ← e21, ← e22, ← e23]
          intros; first | exact KD.mk | exact KD.mkN
         ·intro tm hr
          simp [AllL, rdV] at hr
          simp [hr, nth_d e19, ← e20, ← e21, ← e22, ← e23]
          intros; first | exact KD.mk | exact KD.mkN
         ·intro tm hr
          simp [AllL, rdV] at hr
          simp [hr, nth_d e19, ← e20, ← e21, ← e22, ← e23]
          intros; first | exact KD.mk | exact KD.mkN
         ·intro tm hr
          simp [AllL, rdV] at hr
          simp [hr, nth_d e19, ← e20, ← e21, ← e22, ← e23]
          intros; first | exact KD.mk | exact KD.mkN
         ·intro tm hr
          simp [AllL, rdV] at hr
          simp [hr, nth_d e19, ← e20, ← e21, ← e22, ← e23]
          intros; first | exact KD.mk | exact KD.mkN
         ·intro tm hr
          simp [AllL, rdV] at hr
          simp [hr, nth_d e19, ← e20, ← e21, ← e22, ← e23]
          intros; first | exact KD.mk | exact KD.mkN
         ·intro tm hr
          simp [AllL, rdV] at hr
          simp [hr, nth_d e19, ← e20, ← e21, ← e22, ← e23]
          intros; first | exact KD.mk | exact KD.mkN
         ·intro tm hr
          simp [AllL, rdV] at hr
          simp [hr, nth_d e19, ← e20, ← e21, ← e22, ← e23]
          intros; first | exact KD.mk | exact KD.mkN
         ·intro tm hr
          simp [AllL, rdV] at hr
          simp [hr, nth_d e19, ← e20, ← e21, ← e22, ← e23]
          intros; first | exact KD.mk | exact KD.mkN
         ·intro tm hr
          simp [AllL, rdV] at hr
          simp [hr, nth_d e19, ← e20, ← e21, ← e22, ← e23]
          intros; first | exact KD.mk | exact KD.mkN
         ·intro tm hr
          simp [AllL, rdV] at hr
          simp [hr, nth_d e19, ← e20, ← e21, ← e22, ← e23]
          intros; first | exact KD.mk | exact KD.mkN
         ·intro tm hr
          simp [AllL, rdV] at hr
          simp [hr, nth_d e19, ← e20, ← e21, ← e22, ← e23]
          intros; first | exact KD.mk | exact KD.mkN
         ·intro tm hr
          simp [AllL, rdV] at hr
          simp [hr, nth_d e19, ← e20, ← e21, ← e22, ← e23]
          intros; first | exact KD.mk | exact KD.mkN
         ·intro tm hr
          simp [AllL, rdV] at hr
          simp [hr, nth_d e19, ← e20, ← e21, ← e22, ← e23]
          intros; first | exact KD.mk | exact KD.mkN
         ·intro tm hr
          simp [AllL, rdV] at hr
          simp [hr, nth_d e19, ← e20, ← e21, ← e22, ← e23]
          intros; first | exact KD.mk | exact KD.mkN
         ·intro tm hr
          simp [AllL, rdV] at hr
          simp [hr, nth_d e19, ← e20, ← e21, ← e22, ← e23]
          intros; first | exact KD.mk | exact KD.mkN
         ·intro tm hr
          simp [AllL, rdV] at hr
          simp [hr, nth_d e19, ← e20, ← e21, ← e22, ← e23]
          intros; first | exact KD.mk | exact KD.mkN
         ·intro tm hr
          simp [AllL, rdV] at hr
          simp [hr, nth_d e19, ← e20, ← e21, ← e22, ← e23]
          intros; first | exact KD.mk | exact KD.mkN
         ·intro tm hr
          simp [AllL, rdV] at hr
          simp [hr, nth_d e19, ← e20, ← e21, ← e22, ← e23]
          intros; first | exact KD.mk | exact KD.mkN
         ·intro tm hr
          simp [AllL, rdV] at hr
          simp [hr, nth_d e19, ← e20, ← e21, ← e22, ← e23]
          intros; first | exact KD.mk | exact KD.mkN
         ·intro tm hr
          simp [AllL, rdV] at hr
          simp [hr, nth_d e19, ← e20, ← e21, ← e22, ← e23]
          intros; first | exact KD.mk | exact KD.mkN
        ·rfl
        ·simp [tmD, putD, nth_d e19, ← e20, ← e21, ← e22, ← e23]; rfl
        ·simp [nth_d e19, ← e20, ← e21, ← e22, ← e23]
         intros; rfl
        obtain rfl := Option.some.inj h
        refine nP_i ?_
        refine Weak.mixN [some 0] hn0 (by decide) ?_ ?_ rfl
        all_goals first | (simp [inv_cons, inv_nil, pickOb]; done) | rfl
       | false =>
        replace h := iteF rfl h
        replace h := ltE h; obtain ⟨v24, e24, h⟩ := h
        cases v24 with
        | true =>
         replace h := iteT rfl h
         replace h := ltE h; obtain ⟨v25, e25, h⟩ := h
         replace h := bnE h; obtain ⟨v26, e26, h⟩ := h
         replace h := ltE h; obtain ⟨v27, e27, h⟩ := h
         apply AW.drawnR (V := [_, _, _, _, _, _, _, _, _, _, _, _, _, _, _, _, _, _, _, _, _, _, _, _, _, _, _, _, _, _, _, _, _, _, _]) mixed [⟨[0], [], [(1, none)], false⟩, ⟨[0], [0], [(43, some 0)], false⟩, ⟨[0], [], [(3, none)], false⟩, ⟨[0], [0, 1, 2], [(44, some 1), (45, some 2)], false⟩, ⟨[0], [0, 1, 2, 3], [(46, some 3)], false⟩, ⟨[0], [0, 1, 2, 3, 4], [(47, some 4)], false⟩, ⟨[0], [0, 1, 2, 3, 4, 5], [(48, some 5)], false⟩, ⟨[0], [0, 1, 2, 3, 4, 5, 6], [(49, some 6)], false⟩, ⟨[0], [0, 1, 2, 3, 4, 5, 6, 7], [(50, some 7)], false⟩, ⟨[0], [0, 1, 2, 3, 4, 5, 6, 7, 8], [(1, none), (51, some 8)], false⟩, ⟨[0], [0, 1, 2, 3, 4, 5, 6, 7, 8, 9], [(51, some 8), (52, some 9)], false⟩, ⟨[0], [0, 1, 2, 3, 4, 5, 6, 7, 8], [(3, none), (51, some 8)], false⟩, ⟨[0], [0, 1, 2, 3, 4, 5, 6, 7, 8, 9, 10, 11], [(51, some 8), (53, some 10), (54, some 11)], false⟩, ⟨[0], [0, 1, 2, 3, 4, 5, 6, 7, 8, 9, 10, 11, 12], [(51, some 8), (55, some 12)], false⟩, ⟨[0], [0, 1, 2, 3, 4, 5, 6, 7, 8, 9, 10, 11, 12, 13], [(51, some 8), (56, some 13)], false⟩, ⟨[0], [0, 1, 2, 3, 4, 5, 6, 7, 8, 9, 10, 11, 12, 13, 14], [(51, some 8), (57, some 14)], false⟩, ⟨[0], [0, 1, 2, 3, 4, 5, 6, 7, 8, 9, 10, 11, 12, 13, 14, 15], [(51, some 8), (58, some 15)], false⟩, ⟨[0], [0, 1, 2, 3, 4, 5, 6, 7, 8, 9, 10, 11, 12, 13, 14, 15, 16], [(51, some 8), (59, some 16)], false⟩, ⟨[0], [0, 1, 2, 3, 4, 5, 6, 7, 8, 9, 10, 11, 12, 13, 14, 15, 16, 17], [(60, some 17)], false⟩, ⟨[0], [0, 1, 2, 3, 4, 5, 6, 7, 8, 9, 10, 11, 12, 13, 14, 15, 16, 17, 18], [(3, none), (61, some 18)], false⟩, ⟨[0], [0, 1, 2, 3, 4, 5, 6, 7, 8, 9, 10, 11, 12, 13, 14, 15, 16, 17, 18, 19], [(61, some 18), (62, some 19)], false⟩, ⟨[0], [0, 1, 2, 3, 4, 5, 6, 7, 8, 9, 10, 11, 12, 13, 14, 15, 16, 17, 18, 19, 20], [(61, some 18), (63, some 20)], false⟩, ⟨[0], [0, 1, 2, 3, 4, 5, 6, 7, 8, 9, 10, 11, 12, 13, 14, 15, 16, 17, 18, 19, 20, 21], [(1, none), (64, some 21)], false⟩, ⟨[0], [0, 1, 2, 3, 4, 5, 6, 7, 8, 9, 10, 11, 12, 13, 14, 15, 16, 17, 18, 19, 20, 21, 22], [(64, some 21), (65, some 22)], false⟩, ⟨[0], [0, 1, 2, 3, 4, 5, 6, 7, 8, 9, 10, 11, 12, 13, 14, 15, 16, 17, 18, 19, 20, 21], [(3, none), (64, some 21)], false⟩, ⟨[0], [0, 1, 2, 3, 4, 5, 6, 7, 8, 9, 10, 11, 12, 13, 14, 15, 16, 17, 18, 19, 20, 21, 24], [(64, some 21), (67, some 24)], false⟩, ⟨[0], [0, 1, 2, 3, 4, 5, 6, 7, 8, 9, 10, 11, 12, 13, 14, 15, 16, 17, 18, 19, 20, 21, 22, 23, 24, 25], [(64, some 21), (66, some 23), (68, some 25)], false⟩, ⟨[0], [0, 1, 2, 3, 4, 5, 6, 7, 8, 9, 10, 11, 12, 13, 14, 15, 16, 17, 18, 19, 20, 21, 22, 23, 24, 25, 26], [(64, some 21), (69, some 26)], false⟩, ⟨[0], [0, 1, 2, 3, 4, 5, 6, 7, 8, 9, 10, 11, 12, 13, 14, 15, 16, 17, 18, 19, 20, 21, 22, 23, 24, 25, 26, 27], [(64, some 21), (70, some 27)], false⟩, ⟨[0], [0, 1, 2, 3, 4, 5, 6, 7, 8, 9, 10, 11, 12, 13, 14, 15, 16, 17, 18, 19, 20, 21], [(1, none), (64, some 21)], false⟩, ⟨[0], [0, 1, 2, 3, 4, 5, 6, 7, 8, 9, 10, 11, 12, 13, 14, 15, 16, 17, 18, 19, 20, 21, 29], [(64, some 21), (72, some 29)], false⟩, ⟨[0], [0, 1, 2, 3, 4, 5, 6, 7, 8, 9, 10, 11, 12, 13, 14, 15, 16, 17, 18, 19, 20, 21], [(3, none), (64, some 21)], false⟩, ⟨[0], [0, 1, 2, 3, 4, 5, 6, 7, 8, 9, 10, 11, 12, 13, 14, 15, 16, 17, 18, 19, 20, 21, 29, 30, 31], [(64, some 21), (73, some 30), (74, some 31)], false⟩, ⟨[0], [0, 1, 2, 3, 4, 5, 6, 7, 8, 9, 10, 11, 12, 13, 14, 15, 16, 17, 18, 19, 20, 21, 29, 30, 31, 32], [(64, some 21), (75, some 32)], false⟩, ⟨[0], [0, 1, 2, 3, 4, 5, 6, 7, 8, 9, 10, 11, 12, 13, 14, 15, 16, 17, 18, 19, 20, 21, 29, 30, 31, 32, 33], [(64, some 21), (76, some 33)], false⟩, ⟨[], [0, 1, 2, 3, 4, 5, 6, 7, 8, 9, 10, 11, 12, 13, 14, 15, 16, 17, 18, 19, 20, 21, 22, 23, 24, 25, 26, 27, 28, 29, 30, 31, 32, 33, 34], [], false⟩, ⟨[], [0, 1, 2, 3, 4, 5, 6, 7, 8, 9, 10, 11, 12, 13, 14, 15, 16, 17, 18, 19, 20, 21, 22, 23, 24, 25, 26, 27, 28, 29, 30, 31, 32, 33, 34, 35], [], false⟩, ⟨[], [0, 1, 2, 3, 4, 5, 6, 7, 8, 9, 10, 11, 12, 13, 14, 15, 16, 17, 18, 19, 20, 21, 22, 23, 24, 25, 26, 27, 28, 29, 30, 31, 32, 33, 34, 35, 36], [], false⟩] 35 (by kernel_rfl) (by kernel_rfl)
         ·refine ⟨?_, ?_, ?_, ?_, ?_, ?_, ?_, ?_, ?_, ?_, ?_, ?_, ?_, ?_, ?_, ?_, ?_, ?_, ?_, ?_, ?_, ?_, ?_, ?_, ?_, ?_, ?_, ?_, ?_, ?_, ?_, ?_, ?_, ?_, ?_, trivial⟩
          ·intro tm hr
           simp [AllL, rdV] at hr
           simp [hr, nth_d e19, ← e20, ← e21, ← e22, ← e23, ← e24, ← e25, nth_d e26, ← e27]
           intros; first | exact KD.mk | exact KD.mkN
          ·intro tm hr
           simp [AllL, rdV] at hr
           simp [hr, nth_d e19, ← e20, ← e21, ← e22, ← e23, ← e24, ← e25, nth_d e26, ← e27]
           intros; first | exact KD.mk | exact KD.mkN
          ·intro tm hr
           simp [AllL, rdV] at hr
           simp [hr, nth_d e19, ← e20, ← e21, ← e22, ← e23, ← e24, ← e25, nth_d e26, ← e27]
           intros; first | exact KD.mk | exact KD.mkN
          ·intro tm hr
           simp [AllL, rdV] at hr
           simp [hr, nth_d e19, ← e20, ← e21, ← e22, ← e23, ← e24, ← e25, nth_d e26, ← e27]
           intros; first | exact KD.mk | exact KD.mkN
          ·intro tm hr
           simp [AllL, rdV] at hr
           simp [hr, nth_d e19, ← e20, ← e21, ← e22, ← e23, ← e24, ← e25, nth_d e26, ← e27]
           intros; first | exact KD.mk | exact KD.mkN
          ·intro tm hr
           simp [AllL, rdV] at hr
           simp [hr, nth_d e19, ← e20, ← e21, ← e22, ← e23, ← e24, ← e25, nth_d e26, ← e27]
           intros; first | exact KD.mk | exact KD.mkN
          ·intro tm hr
           simp [AllL, rdV] at hr
           simp [hr, nth_d e19, ← e20, ← e21, ← e22, ← e23, ← e24, ← e25, nth_d e26, ← e27]
           intros; first | exact KD.mk | exact KD.mkN
          ·intro tm hr
           simp [AllL, rdV] at hr
           simp [hr, nth_d e19, ← e20, ← e21, ← e22, ← e23, ← e24, ← e25, nth_d e26, ← e27]
           intros; first | exact KD.mk | exact KD.mkN
          ·intro tm hr
           simp [AllL, rdV] at hr
           simp [hr, nth_d e19, ← e20, ← e21, ← e22, ← e23, ← e24, ← e25, nth_d e26, ← e27]
           intros; first | exact KD.mk | exact KD.mkN
          ·intro tm hr
           simp [AllL, rdV] at hr
           simp [hr, nth_d e19, ← e20, ← e21, ← e22, ← e23, ← e24, ← e25, nth_d e26, ← e27]
           intros; first | exact KD.mk | exact KD.mkN
          ·intro tm hr
           simp [AllL, rdV] at hr
           simp [hr, nth_d e19, ← e20, ← e21, ← e22, ← e23, ← e24, ← e25, nth_d e26, ← e27]
           intros; first | exact KD.mk | exact KD.mkN
          ·intro tm hr
           simp [AllL, rdV] at hr
           simp [hr, nth_d e19, ← e20, ← e21, ← e22, ← e23, ← e24, ← e25, nth_d e26, ← e27]
           intros; first | exact KD.mk | exact KD.mkN
          ·intro tm hr
           simp [AllL, rdV] at hr
           simp [hr, nth_d e19, ← e20, ← e21, ← e22, ← e23, ← e24, ← e25, nth_d e26, ← e27]
           intros; first | exact KD.mk | exact KD.mkN
          ·intro tm hr
           simp [AllL, rdV] at hr
           simp [hr, nth_d e19, ← e20, ← e21, ← e22, ← e23, ← e24, ← e25, nth_d e26, ← e27]
           intros; first | exact KD.mk | exact KD.mkN
          ·intro tm hr
           simp [AllL, rdV] at hr
           simp [hr, nth_d e19, ← e20, ← e21, ← e22, ← e23, ← e24, ← e25, nth_d e26, ← e27]
           intros; first | exact KD.mk | exact KD.mkN
          ·intro tm hr
           simp [AllL, rdV] at hr
           simp [hr, nth_d e19, ← e20, ← e21, ← e22, ← e23, ← e24, ← e25, nth_d e26, ← e27]
           intros; first | exact KD.mk | exact KD.mkN
          ·intro tm hr
           simp [AllL, rdV] at hr
           simp [hr, nth_d e19, ← e20, ← e21, ← e22, ← e23, ← e24, ← e25, nth_d e26, ← e27]
           intros; first | exact KD.mk | exact KD.mkN
          ·intro tm hr
           simp [AllL, rdV] at hr
           simp [hr, nth_d e19, ← e20, ← e21, ← e22, ← e23, ← e24, ← e25, nth_d e26, ← e27]
           intros; first | exact KD.mk | exact KD.mkN
          ·intro tm hr
           simp [AllL, rdV] at hr
           simp [hr, nth_d e19, ← e20, ← e21, ← e22, ← e23, ← e24, ← e25, nth_d e26, ← e27]
           intros; first | exact KD.mk | exact KD.mkN
          ·intro tm hr
           simp [AllL, rdV] at hr
           simp [hr, nth_d e19, ← e20, ← e21, ← e22, ← e23, ← e24, ← e25, nth_d e26, ← e27]
           intros; first | exact KD.mk | exact KD.mkN
          ·intro tm hr
           simp [AllL, rdV] at hr
           simp [hr, nth_d e19, ← e20, ← e21, ← e22, ← e23, ← e24, ← e25, nth_d e26, ← e27]
           intros; first | exact KD.mk | exact KD.mkN
          ·intro tm hr
           simp [AllL, rdV] at hr
           simp [hr, nth_d e19, ← e20, ← e21, ← e22, ← e23, ← e24, ← e25, nth_d e26, ← e27]
           intros; first | exact KD.mk | exact KD.mkN
          ·intro tm hr
           simp [AllL, rdV] at hr
           simp [hr, nth_d e19, ← e20, ← e21, ← e22, ← e23, ← e24, ← e25, nth_d e26, ← e27]
           intros; first | exact KD.mk | exact KD.mkN
          ·intro tm hr
           simp [AllL, rdV] at hr
           simp [hr, nth_d e19, ← e20, ← e21, ← e22, ← e23, ← e24, ← e25, nth_d e26, ← e27]
           intros; first | exact KD.mk | exact KD.mkN
          ·intro tm hr
           simp [AllL, rdV] at hr
           simp [hr, nth_d e19, ← e20, ← e21, ← e22, ← e23, ← e24, ← e25, nth_d e26, ← e27]
           intros; first | exact KD.mk | exact KD.mkN
          ·intro tm hr
           simp [AllL, rdV] at hr
           simp [hr, nth_d e19, ← e20, ← e21, ← e22, ← e23, ← e24, ← e25, nth_d e26, ← e27]
           intros; first | exact KD.mk | exact KD.mkN
          ·intro tm hr
           simp [AllL, rdV] at hr
           simp [hr, nth_d e19, ← e20, ← e21, ← e22, ← e23, ← e24, ← e25, nth_d e26, ← e27]
           intros; first | exact KD.mk | exact KD.mkN
          ·intro tm hr
           simp [AllL, rdV] at hr
           simp [hr, nth_d e19, ← e20, ← e21, ← e22, ← e23, ← e24, ← e25, nth_d e26, ← e27]
           intros; first | exact KD.mk | exact KD.mkN
          ·intro tm hr
           simp [AllL, rdV] at hr
           simp [hr, nth_d e19, ← e20, ← e21, ← e22, ← e23, ← e24, ← e25, nth_d e26, ← e27]
           intros; first | exact KD.mk | exact KD.mkN
          ·intro tm hr
           simp [AllL, rdV] at hr
           simp [hr, nth_d e19, ← e20, ← e21, ← e22, ← e23, ← e24, ← e25, nth_d e26, ← e27]
           intros; first | exact KD.mk | exact KD.mkN
          ·intro tm hr
           simp [AllL, rdV] at hr
           simp [hr, nth_d e19, ← e20, ← e21, ← e22, ← e23, ← e24, ← e25, nth_d e26, ← e27]
           intros; first | exact KD.mk | exact KD.mkN
          ·intro tm hr
           simp [AllL, rdV] at hr
           simp [hr, nth_d e19, ← e20, ← e21, ← e22, ← e23, ← e24, ← e25, nth_d e26, ← e27]
           intros; first | exact KD.mk | exact KD.mkN
          ·intro tm hr
           simp [AllL, rdV] at hr
           simp [hr, nth_d e19, ← e20, ← e21, ← e22, ← e23, ← e24, ← e25, nth_d e26, ← e27]
           intros; first | exact KD.mk | exact KD.mkN
          ·intro tm hr
           simp [AllL, rdV] at hr
           simp [hr, nth_d e19, ← e20, ← e21, ← e22, ← e23, ← e24, ← e25, nth_d e26, ← e27]
           intros; first | exact KD.mk | exact KD.mkN
          ·intro tm hr
           simp [AllL, rdV] at hr
           simp [hr, nth_d e19, ← e20, ← e21, ← e22, ← e23, ← e24, ← e25, nth_d e26, ← e27]
           intros; first | exact KD.mk | exact KD.mkN
         ·rfl
         ·simp [tmD, putD, nth_d e19, ← e20, ← e21, ← e22, ← e23, ← e24, ← e25, nth_d e26, ← e27]; rfl
         ·simp [nth_d e19, ← e20, ← e21, ← e22, ← e23, ← e24, ← e25, nth_d e26, ← e27]
          intros; rfl
         obtain rfl := Option.some.inj h
         refine nP_i ?_
         refine Weak.mixN [some 0] hn0 (by decide) ?_ ?_ rfl
         all_goals first | (simp [inv_cons, inv_nil, pickOb]; done) | rfl
        | false =>
         replace h := iteF rfl h
         apply AW.drawnR (V := [_, _, _, _, _, _, _, _, _, _, _, _, _, _, _, _, _, _, _, _, _, _, _, _, _, _, _, _, _, _, _, _, _, _, _]) mixed [⟨[0], [], [(1, none)], false⟩, ⟨[0], [0], [(43, some 0)], false⟩, ⟨[0], [], [(3, none)], false⟩, ⟨[0], [0, 1, 2], [(44, some 1), (45, some 2)], false⟩, ⟨[0], [0, 1, 2, 3], [(46, some 3)], false⟩, ⟨[0], [0, 1, 2, 3, 4], [(47, some 4)], false⟩, ⟨[0], [0, 1, 2, 3, 4, 5], [(48, some 5)], false⟩, ⟨[0], [0, 1, 2, 3, 4, 5, 6], [(49, some 6)], false⟩, ⟨[0], [0, 1, 2, 3, 4, 5, 6, 7], [(50, some 7)], false⟩, ⟨[0], [0, 1, 2, 3, 4, 5, 6, 7, 8], [(1, none), (51, some 8)], false⟩, ⟨[0], [0, 1, 2, 3, 4, 5, 6, 7, 8, 9], [(51, some 8), (52, some 9)], false⟩, ⟨[0], [0, 1, 2, 3, 4, 5, 6, 7, 8], [(3, none), (51, some 8)], false⟩, ⟨[0], [0, 1, 2, 3, 4, 5, 6, 7, 8, 9, 10, 11], [(51, some 8), (53, some 10), (54, some 11)], false⟩, ⟨[0], [0, 1, 2, 3, 4, 5, 6, 7, 8, 9, 10, 11, 12], [(51, some 8), (55, some 12)], false⟩, ⟨[0], [0, 1, 2, 3, 4, 5, 6, 7, 8, 9, 10, 11, 12, 13], [(51, some 8), (56, some 13)], false⟩, ⟨[0], [0, 1, 2, 3, 4, 5, 6, 7, 8, 9, 10, 11, 12, 13, 14], [(51, some 8), (57, some 14)], false⟩, ⟨[0], [0, 1, 2, 3, 4, 5, 6, 7, 8, 9, 10, 11, 12, 13, 14, 15], [(51, some 8), (58, some 15)], false⟩, ⟨[0], [0, 1, 2, 3, 4, 5, 6, 7, 8, 9, 10, 11, 12, 13, 14, 15, 16], [(51, some 8), (59, some 16)], false⟩, ⟨[0], [0, 1, 2, 3, 4, 5, 6, 7, 8, 9, 10, 11, 12, 13, 14, 15, 16, 17], [(60, some 17)], false⟩, ⟨[0], [0, 1, 2, 3, 4, 5, 6, 7, 8, 9, 10, 11, 12, 13, 14, 15, 16, 17, 18], [(3, none), (61, some 18)], false⟩, ⟨[0], [0, 1, 2, 3, 4, 5, 6, 7, 8, 9, 10, 11, 12, 13, 14, 15, 16, 17, 18, 19], [(61, some 18), (62, some 19)], false⟩, ⟨[0], [0, 1, 2, 3, 4, 5, 6, 7, 8, 9, 10, 11, 12, 13, 14, 15, 16, 17, 18, 19, 20], [(61, some 18), (63, some 20)], false⟩, ⟨[0], [0, 1, 2, 3, 4, 5, 6, 7, 8, 9, 10, 11, 12, 13, 14, 15, 16, 17, 18, 19, 20, 21], [(1, none), (64, some 21)], false⟩, ⟨[0], [0, 1, 2, 3, 4, 5, 6, 7, 8, 9, 10, 11, 12, 13, 14, 15, 16, 17, 18, 19, 20, 21, 22], [(64, some 21), (65, some 22)], false⟩, ⟨[0], [0, 1, 2, 3, 4, 5, 6, 7, 8, 9, 10, 11, 12, 13, 14, 15, 16, 17, 18, 19, 20, 21], [(3, none), (64, some 21)], false⟩, ⟨[0], [0, 1, 2, 3, 4, 5, 6, 7, 8, 9, 10, 11, 12, 13, 14, 15, 16, 17, 18, 19, 20, 21, 24], [(64, some 21), (67, some 24)], false⟩, ⟨[0], [0, 1, 2, 3, 4, 5, 6, 7, 8, 9, 10, 11, 12, 13, 14, 15, 16, 17, 18, 19, 20, 21, 22, 23, 24, 25], [(64, some 21), (66, some 23), (68, some 25)], false⟩, ⟨[0], [0, 1, 2, 3, 4, 5, 6, 7, 8, 9, 10, 11, 12, 13, 14, 15, 16, 17, 18, 19, 20, 21, 22, 23, 24, 25, 26], [(64, some 21), (69, some 26)], false⟩, ⟨[0], [0, 1, 2, 3, 4, 5, 6, 7, 8, 9, 10, 11, 12, 13, 14, 15, 16, 17, 18, 19, 20, 21, 22, 23, 24, 25, 26, 27], [(64, some 21), (70, some 27)], false⟩, ⟨[0], [0, 1, 2, 3, 4, 5, 6, 7, 8, 9, 10, 11, 12, 13, 14, 15, 16, 17, 18, 19, 20, 21], [(1, none), (64, some 21)], false⟩, ⟨[0], [0, 1, 2, 3, 4, 5, 6, 7, 8, 9, 10, 11, 12, 13, 14, 15, 16, 17, 18, 19, 20, 21, 29], [(64, some 21), (72, some 29)], false⟩, ⟨[0], [0, 1, 2, 3, 4, 5, 6, 7, 8, 9, 10, 11, 12, 13, 14, 15, 16, 17, 18, 19, 20, 21], [(3, none), (64, some 21)], false⟩, ⟨[0], [0, 1, 2, 3, 4, 5, 6, 7, 8, 9, 10, 11, 12, 13, 14, 15, 16, 17, 18, 19, 20, 21, 29, 30, 31], [(64, some 21), (73, some 30), (74, some 31)], false⟩, ⟨[0], [0, 1, 2, 3, 4, 5, 6, 7, 8, 9, 10, 11, 12, 13, 14, 15, 16, 17, 18, 19, 20, 21, 29, 30, 31, 32], [(64, some 21), (75, some 32)], false⟩, ⟨[0], [0, 1, 2, 3, 4, 5, 6, 7, 8, 9, 10, 11, 12, 13, 14, 15, 16, 17, 18, 19, 20, 21, 29, 30, 31, 32, 33], [(64, some 21), (76, some 33)], false⟩, ⟨[], [0, 1, 2, 3, 4, 5, 6, 7, 8, 9, 10, 11, 12, 13, 14, 15, 16, 17, 18, 19, 20, 21, 22, 23, 24, 25, 26, 27, 28, 29, 30, 31, 32, 33, 34], [], false⟩, ⟨[], [0, 1, 2, 3, 4, 5, 6, 7, 8, 9, 10, 11, 12, 13, 14, 15, 16, 17, 18, 19, 20, 21, 22, 23, 24, 25, 26, 27, 28, 29, 30, 31, 32, 33, 34, 35], [], false⟩, ⟨[], [0, 1, 2, 3, 4, 5, 6, 7, 8, 9, 10, 11, 12, 13, 14, 15, 16, 17, 18, 19, 20, 21, 22, 23, 24, 25, 26, 27, 28, 29, 30, 31, 32, 33, 34, 35, 36], [], false⟩] 35 (by kernel_rfl) (by kernel_rfl)
         ·refine ⟨?_, ?_, ?_, ?_, ?_, ?_, ?_, ?_, ?_, ?_, ?_, ?_, ?_, ?_, ?_, ?_, ?_, ?_, ?_, ?_, ?_, ?_, ?_, ?_, ?_, ?_, ?_, ?_, ?_, ?_, ?_, ?_, ?_, ?_, ?_, trivial⟩
          ·intro tm hr
           simp [AllL, rdV] at hr
           simp [hr, nth_d e19, ← e20, ← e21, ← e22, ← e23, ← e24]
           intros; first | exact KD.mk | exact KD.mkN
          ·intro tm hr
           simp [AllL, rdV] at hr
           simp [hr, nth_d e19, ← e20, ← e21, ← e22, ← e23, ← e24]
           intros; first | exact KD.mk | exact KD.mkN
          ·intro tm hr
           simp [AllL, rdV] at hr
           simp [hr, nth_d e19, ← e20, ← e21, ← e22, ← e23, ← e24]
           intros; first | exact KD.mk | exact KD.mkN
          ·intro tm hr
           simp [AllL, rdV] at hr
           simp [hr, nth_d e19, ← e20, ← e21, ← e22, ← e23, ← e24]
           intros; first | exact KD.mk | exact KD.mkN
          ·intro tm hr
           simp [AllL, rdV] at hr
           simp [hr, nth_d e19, ← e20, ← e21, ← e22, ← e23, ← e24]
           intros; first | exact KD.mk | exact KD.mkN
          ·intro tm hr
           simp [AllL, rdV] at hr
           simp [hr, nth_d e19, ← e20, ← e21, ← e22, ← e23, ← e24]
           intros; first | exact KD.mk | exact KD.mkN
          ·intro tm hr
           simp [AllL, rdV] at hr
           simp [hr, nth_d e19, ← e20, ← e21, ← e22, ← e23, ← e24]
           intros; first | exact KD.mk | exact KD.mkN
          ·intro tm hr
           simp [AllL, rdV] at hr
           simp [hr, nth_d e19, ← e20, ← e21, ← e22, ← e23, ← e24]
           intros; first | exact KD.mk | exact KD.mkN
          ·intro tm hr
           simp [AllL, rdV] at hr
           simp [hr, nth_d e19, ← e20, ← e21, ← e22, ← e23, ← e24]
           intros; first | exact KD.mk | exact KD.mkN
          ·intro tm hr
           simp [AllL, rdV] at hr
           simp [hr, nth_d e19, ← e20, ← e21, ← e22, ← e23, ← e24]
           intros; first | exact KD.mk | exact KD.mkN
          ·intro tm hr
           simp [AllL, rdV] at hr
           simp [hr, nth_d e19, ← e20, ← e21, ← e22, ← e23, ← e24]
           intros; first | exact KD.mk | exact KD.mkN
          ·intro tm hr
           simp [AllL, rdV] at hr
           simp [hr, nth_d e19, ← e20, ← e21, ← e22, ← e23, ← e24]
           intros; first | exact KD.mk | exact KD.mkN
          ·intro tm hr
           simp [AllL, rdV] at hr
           simp [hr, nth_d e19, ← e20, ← e21, ← e22, ← e23, ← e24]
           intros; first | exact KD.mk | exact KD.mkN
          ·intro tm hr
           simp [AllL, rdV] at hr
           simp [hr, nth_d e19, ← e20, ← e21, ← e22, ← e23, ← e24]
           intros; first | exact KD.mk | exact KD.mkN
          ·intro tm hr
           simp [AllL, rdV] at hr
           simp [hr, nth_d e19, ← e20, ← e21, ← e22, ← e23, ← e24]
           intros; first | exact KD.mk | exact KD.mkN
          ·intro tm hr
           simp [AllL, rdV] at hr
           simp [hr, nth_d e19, ← e20, ← e21, ← e22, ← e23, ← e24]
           intros; first | exact KD.mk | exact KD.mkN
          ·intro tm hr
           simp [AllL, rdV] at hr
           simp [hr, nth_d e19, ← e20, ← e21, ← e22, ← e23, ← e24]
           intros; first | exact KD.mk | exact KD.mkN
          ·intro tm hr
           simp [AllL, rdV] at hr
           simp [hr, nth_d e19, ← e20, ← e21, ← e22, ← e23, ← e24]
           intros; first | exact KD.mk | exact KD.mkN
          ·intro tm hr
           simp [AllL, rdV] at hr
           simp [hr, nth_d e19, ← e20, ← e21, ← e22, ← e23, ← e24]
           intros; first | exact KD.mk | exact KD.mkN
          ·intro tm hr
           simp [AllL, rdV] at hr
           simp [hr, nth_d e19, ← e20, ← e21, ← e22, ← e23, ← e24]
           intros; first | exact KD.mk | exact KD.mkN
          ·intro tm hr
           simp [AllL, rdV] at hr
           simp [hr, nth_d e19, ← e20, ← e21, ← e22, ← e23, ← e24]
           intros; first | exact KD.mk | exact KD.mkN
          ·intro tm hr
           simp [AllL, rdV] at hr
           simp [hr, nth_d e19, ← e20, ← e21, ← e22, ← e23, ← e24]
           intros; first | exact KD.mk | exact KD.mkN
          ·intro tm hr
           simp [AllL, rdV] at hr
           simp [hr, nth_d e19, ← e20, ← e21, ← e22, ← e23, ← e24]
           intros; first | exact KD.mk | exact KD.mkN
          ·intro tm hr
           simp [AllL, rdV] at hr
           simp [hr, nth_d e19, ← e20, ← e21, ← e22, ← e23, ← e24]
           intros; first | exact KD.mk | exact KD.mkN
          ·intro tm hr
           simp [AllL, rdV] at hr
           simp [hr, nth_d e19, ← e20, ← e21, ← e22, ← e23, ← e24]
           intros; first | exact KD.mk | exact KD.mkN
          ·intro tm hr
           simp [AllL, rdV] at hr
           simp [hr, nth_d e19, ← e20, ← e21, ← e22, ← e23, ← e24]
           intros; first | exact KD.mk | exact KD.mkN
          ·intro tm hr
           simp [AllL, rdV] at hr
           simp [hr, nth_d e19, ← e20, ← e21, ← e22, ← e23, ← e24]
           intros; first | exact KD.mk | exact KD.mkN
          ·intro tm hr
           simp [AllL, rdV] at hr
           simp [hr, nth_d e19, ← e20, ← e21, ← e22, ← e23, ← e24]
           intros; first | exact KD.mk | exact KD.mkN
          ·intro tm hr
           simp [AllL, rdV] at hr
           simp [hr, nth_d e19, ← e20, ← e21, ← e22, ← e23, ← e24]
           intros; first | exact KD.mk | exact KD.mkN
          ·intro tm hr
           simp [AllL, rdV] at hr
           simp [hr, nth_d e19, ← e20, ← e21, ← e22, ← e23, ← e24]
           intros; first | exact KD.mk | exact KD.mkN
          ·intro tm hr
           simp [AllL, rdV] at hr
           simp [hr, nth_d e19, ← e20, ← e21, ← e22, ← e23, ← e24]
           intros; first | exact KD.mk | exact KD.mkN
          ·intro tm hr
           simp [AllL, rdV] at hr
           simp [hr, nth_d e19, ← e20, ← e21, ← e22, ← e23, ← e24]
           intros; first | exact KD.mk | exact KD.mkN
          ·intro tm hr
           simp [AllL, rdV] at hr
           simp [hr, nth_d e19, ← e20, ← e21, ← e22, ← e23, ← e24]
           intros; first | exact KD.mk | exact KD.mkN
          ·intro tm hr
           simp [AllL, rdV] at hr
           simp [hr, nth_d e19, ← e20, ← e21, ← e22, ← e23, ← e24]
           intros; first | exact KD.mk | exact KD.mkN
          ·intro tm hr
           simp [AllL, rdV] at hr
           simp [hr, nth_d e19, ← e20, ← e21, ← e22, ← e23, ← e24]
           intros; first | exact KD.mk | exact KD.mkN
         ·rfl
         ·simp [tmD, putD, nth_d e19, ← e20, ← e21, ← e22, ← e23, ← e24]; rfl
         ·simp [nth_d e19, ← e20, ← e21, ← e22, ← e23, ← e24]
          intros; rfl
         obtain rfl := Option.some.inj h
         refine nP_i ?_
         refine Weak.mixN [some 0] hn0 (by decide) ?_ ?_ rfl
         all_goals first | (simp [inv_cons, inv_nil, pickOb]; done) | rfl
     ·rintro e s hp
      obtain ⟨rfl, hw⟩ := hp
      refine ⟨_, hw, ?_⟩
      try simp only [sp_l, sp_r, Post.seq, Post.block, Nat.reduceEqDiff, reduceIte, Nat.zero_ne_one, Nat.one_ne_zero]
      replace h := ltE h; obtain ⟨v28, e28, h⟩ := h
      rw [← e28]
      cases v28 with
      | true =>
       replace h := iteT rfl h
       refine AW.cond_true (by simp) ?_
       apply AW.step
       ·simp
        intros; rfl
       obtain rfl := Option.some.inj h
       refine AW.ret ?_
       try simp only [sp_l, sp_r, Post.seq, Post.block, Nat.reduceEqDiff, reduceIte, Nat.zero_ne_one, Nat.one_ne_zero]
       refine rP_i ?_
       refine Left.plain hnb (by simp [Try.f88, resV, resC, comp]; rfl) rfl rfl ?_
       simp
      | false =>
       replace h := iteF rfl h
       refine AW.cond_false (by simp) ?_
       refine AW.skip ?_
       try simp only [sp_l, sp_r, Post.seq, Post.block, Nat.reduceEqDiff, reduceIte, Nat.zero_ne_one, Nat.one_ne_zero]
       try simp only [sp_l, sp_r, Post.seq, Post.block, Nat.reduceEqDiff, reduceIte, Nat.zero_ne_one, Nat.one_ne_zero]
       replace h := ltE h; obtain ⟨v29, e29, h⟩ := h
       apply AW.last
       ·simp [← e29]
        intros; rfl
       obtain rfl := Option.some.inj h
       refine nP_i ?_
       refine Weak.mixN [some 0] hn0 (by decide) ?_ ?_ rfl
       all_goals first | (simp [inv_cons, inv_nil, pickOb]; done) | rfl
    | false =>
     replace h := iteF rfl h
     refine AW.cond_false (by simp) ?_
     refine AW.exit ?_
     try simp only [sp_l, sp_r, Post.seq, Post.block, Nat.reduceEqDiff, reduceIte, Nat.zero_ne_one, Nat.one_ne_zero]
     obtain rfl := Option.some.inj h
     try simp only [sp_l, sp_r]
     refine xP_i ?_
     refine Weak.mixN [some 0] hn0 (by decide) ?_ ?_ rfl
     all_goals first | (simp [inv_cons, inv_nil, pickOb]; done) | rfl
   ·rintro e s hp
    rcases y14 with y30 | y31
    ·replace h := smL h
     obtain ⟨rfl, hw⟩ := hp
     refine ⟨_, hw, ?_⟩
     try simp only [sp_l, sp_r, Post.seq, Post.block, Nat.reduceEqDiff, reduceIte, Nat.zero_ne_one, Nat.one_ne_zero]
     refine AW.seq ?_
     apply AW.step
     ·simp
      intros; rfl
     refine AW.block ?_
     replace h := bnE h; obtain ⟨y33, g33, h⟩ := h
     refine AW.iterP g33 (mk := fun gh ls q => (⟨[(1, .l (.p 0 0)), (4, .l (.s (.int .i64 q)))], [some ⟨34, 5, false, none, [.s (.int .i64 a0.kind), .s (.string a0.s), .d false 2 (encField a0.f), .d false 1 (encS a0.l), .s (.int .i64 a0.exp)]⟩], 118, gh, ls⟩ : St)) (N := fun gh ls => (sp (xP 2 (cx := cx) (fun _ => (⟨[], [], 118, gh, ls⟩ : St))) (rP (cx := cx) (P := Try.prog) Try.f88 (fun q => .l (.s (.bool q))) (fun q => [])))) ?_ (noS noX noR) ?_ ?_
     ·refine Weak.mixN [some 0] hn0 (by decide) ?_ ?_ rfl
      all_goals first | (simp [inv_cons, inv_nil, pickOb]; done) | rfl
     ·clear h; intro y32 y34 h
      refine AW.seq ?_
      replace h := ltE h; obtain ⟨v35, e35, h⟩ := h
      replace h := ltE h; obtain ⟨v36, e36, h⟩ := h
      apply AW.step
      ·simp [lenI_cast e35, ← e36]
       intros; rfl
      cases v36 with
      | true =>
       replace h := iteT rfl h
       refine AW.cond_true (by simp) ?_
       refine AW.skip ?_
       try simp only [sp_l, sp_r, Post.seq, Post.block, Nat.reduceEqDiff, reduceIte, Nat.zero_ne_one, Nat.one_ne_zero]
       try simp only [sp_l, sp_r, Post.seq, Post.block, Nat.reduceEqDiff, reduceIte, Nat.zero_ne_one, Nat.one_ne_zero]
       refine AW.seq ?_
       refine AW.block ?_
       replace h := bnE h; obtain ⟨y37, g37, h⟩ := h
       refine AW.flow (p := fun gh ls => (nP (cx := cx) (fun q => (⟨[(1, .l (.p 0 0)), (4, .l (.s (.int .i64 y32))), (117, .l (.s (.bool q)))], [some ⟨34, 5, false, none, [.s (.int .i64 a0.kind), .s (.string a0.s), .d false 2 (encField a0.f), .d false 1 (encS a0.l), .s (.int .i64 a0.exp)]⟩], 118, gh, ls⟩ : St))) y37) ?_ ?_
       ·replace h := g37; clear g37
        replace h := bnE h; obtain ⟨v38, e38, h⟩ := h
        replace h := ltE h; obtain ⟨v39, e39, h⟩ := h
        replace h := ltE h; obtain ⟨v40, e40, h⟩ := h
        cases v40 with
        | true =>
         replace h := iteT rfl h
         apply AW.drawnR (V := [_, _, _, _, _, _, _, _, _, _, _, _, _, _, _, _, _, _, _, _, _, _, _, _, _, _, _]) mixed [⟨[0], [], [(1, none)], false⟩, ⟨[0], [0], [(88, some 0)], false⟩, ⟨[0], [], [(4, none)], false⟩, ⟨[0], [0, 1, 2], [(89, some 1), (90, some 2)], false⟩, ⟨[0], [0, 1, 2, 3], [(91, some 3)], false⟩, ⟨[0], [0, 1, 2, 3, 4], [(92, some 4)], false⟩, ⟨[0], [0, 1, 2, 3, 4, 5], [(93, some 5)], false⟩, ⟨[0], [0, 1, 2, 3, 4, 5, 6], [(94, some 6)], false⟩, ⟨[0], [0, 1, 2, 3, 4, 5, 6, 7], [(1, none), (95, some 7)], false⟩, ⟨[0], [0, 1, 2, 3, 4, 5, 6, 7, 8], [(95, some 7), (96, some 8)], false⟩, ⟨[0], [0, 1, 2, 3, 4, 5, 6, 7, 8, 9], [(95, some 7), (97, some 9)], false⟩, ⟨[0], [0, 1, 2, 3, 4, 5, 6, 7, 8, 9, 10], [(95, some 7), (98, some 10)], false⟩, ⟨[0], [0, 1, 2, 3, 4, 5, 6, 7, 8, 9, 10, 11], [(4, none), (99, some 11)], false⟩, ⟨[0], [0, 1, 2, 3, 4, 5, 6, 7, 8, 9, 10, 11, 12], [(99, some 11), (100, some 12)], false⟩, ⟨[0], [0, 1, 2, 3, 4, 5, 6, 7, 8, 9, 10, 11, 12, 13], [(95, some 7), (99, some 11), (101, some 13)], false⟩, ⟨[0], [0, 1, 2, 3, 4, 5, 6, 7, 8, 9, 10, 11, 12, 13, 14], [(95, some 7), (102, some 14)], false⟩, ⟨[0], [0, 1, 2, 3, 4, 5, 6, 7, 8, 9, 10, 11, 12, 13, 14, 15], [(1, none), (103, some 15)], false⟩, ⟨[0], [0, 1, 2, 3, 4, 5, 6, 7, 8, 9, 10, 11, 12, 13, 14, 15, 16], [(103, some 15), (104, some 16)], false⟩, ⟨[0], [0, 1, 2, 3, 4, 5, 6, 7, 8, 9, 10, 11, 12, 13, 14, 15], [(4, none), (103, some 15)], false⟩, ⟨[0], [0, 1, 2, 3, 4, 5, 6, 7, 8, 9, 10, 11, 12, 13, 14, 15, 18], [(103, some 15), (106, some 18)], false⟩, ⟨[0], [0, 1, 2, 3, 4, 5, 6, 7, 8, 9, 10, 11, 12, 13, 14, 15, 16, 17, 18, 19], [(103, some 15), (105, some 17), (107, some 19)], false⟩, ⟨[0], [0, 1, 2, 3, 4, 5, 6, 7, 8, 9, 10, 11, 12, 13, 14, 15, 16, 17, 18, 19, 20], [(103, some 15), (108, some 20)], false⟩, ⟨[0], [0, 1, 2, 3, 4, 5, 6, 7, 8, 9, 10, 11, 12, 13, 14, 15], [(1, none), (103, some 15)], false⟩, ⟨[0], [0, 1, 2, 3, 4, 5, 6, 7, 8, 9, 10, 11, 12, 13, 14, 15, 22], [(103, some 15), (110, some 22)], false⟩, ⟨[0], [0, 1, 2, 3, 4, 5, 6, 7, 8, 9, 10, 11, 12, 13, 14, 15], [(4, none), (103, some 15)], false⟩, ⟨[0], [0, 1, 2, 3, 4, 5, 6, 7, 8, 9, 10, 11, 12, 13, 14, 15, 22, 23, 24], [(103, some 15), (111, some 23), (112, some 24)], false⟩, ⟨[0], [0, 1, 2, 3, 4, 5, 6, 7, 8, 9, 10, 11, 12, 13, 14, 15, 22, 23, 24, 25], [(103, some 15), (113, some 25)], false⟩, ⟨[], [0, 1, 2, 3, 4, 5, 6, 7, 8, 9, 10, 11, 12, 13, 14, 15, 16, 17, 18, 19, 20, 21, 22, 23, 24, 25, 26], [], false⟩, ⟨[], [0, 1, 2, 3, 4, 5, 6, 7, 8, 9, 10, 11, 12, 13, 14, 15, 16, 17, 18, 19, 20, 21, 22, 23, 24, 25, 26, 27], [], false⟩, ⟨[], [0, 1, 2, 3, 4, 5, 6, 7, 8, 9, 10, 11, 12, 13, 14, 15, 16, 17, 18, 19, 20, 21, 22, 23, 24, 25, 26, 27, 28], [], false⟩] 27 (by kernel_rfl) (by kernel_rfl)
         ·refine ⟨?_, ?_, ?_, ?_, ?_, ?_, ?_, ?_, ?_, ?_, ?_, ?_, ?_, ?_, ?_, ?_, ?_, ?_, ?_, ?_, ?_, ?_, ?_, ?_, ?_, ?_, ?_, trivial⟩
          ·intro tm hr
           simp [AllL, rdV] at hr
           simp [hr, nth_d e38, ← e39, ← e40]
           intros; first | exact KD.mk | exact KD.mkN
          ·intro tm hr
           simp [AllL, rdV] at hr
           simp [hr, nth_d e38, ← e39, ← e40]
           intros; first | exact KD.mk | exact KD.mkN
          ·intro tm hr
           simp [AllL, rdV] at hr
           simp [hr, nth_d e38, ← e39, ← e40]
           intros; first | exact KD.mk | exact KD.mkN
          ·intro tm hr
           simp [AllL, rdV] at hr
           simp [hr, nth_d e38, ← e39, ← e40]
           intros; first | exact KD.mk | exact KD.mkN
          ·intro tm hr
           simp [AllL, rdV] at hr
           simp [hr, nth_d e38, ← e39, ← e40]
           intros; first | exact KD.mk | exact KD.mkN
          ·intro tm hr
           simp [AllL, rdV] at hr
           simp [hr, nth_d e38, ← e39, ← e40]
           intros; first | exact KD.mk | exact KD.mkN
          ·intro tm hr
           simp [AllL, rdV] at hr
           simp [hr, nth_d e38, ← e39, ← e40]
           intros; first | exact KD.mk | exact KD.mkN
          ·intro tm hr
           simp [AllL, rdV] at hr
           simp [hr, nth_d e38, ← e39, ← e40]
           intros; first | exact KD.mk | exact KD.mkN
          ·intro tm hr
           simp [AllL, rdV] at hr
           simp [hr, nth_d e38, ← e39, ← e40]
           intros; first | exact KD.mk | exact KD.mkN
          ·intro tm hr
           simp [AllL, rdV] at hr
           simp [hr, nth_d e38, ← e39, ← e40]
           intros; first | exact KD.mk | exact KD.mkN
          ·intro tm hr
           simp [AllL, rdV] at hr
           simp [hr, nth_d e38, ← e39, ← e40]
           intros; first | exact KD.mk | exact KD.mkN
          ·intro tm hr
           simp [AllL, rdV] at hr
           simp [hr, nth_d e38, ← e39, ← e40]
           intros; first | exact KD.mk | exact KD.mkN
          ·intro tm hr
           simp [AllL, rdV] at hr
           simp [hr, nth_d e38, ← e39, ← e40]
           intros; first | exact KD.mk | exact KD.mkN
          ·intro tm hr
           simp [AllL, rdV] at hr
           simp [hr, nth_d e38, ← e39, ← e40]
           intros; first | exact KD.mk | exact KD.mkN
          ·intro tm hr
           simp [AllL, rdV] at hr
           simp [hr, nth_d e38, ← e39, ← e40]
           intros; first | exact KD.mk | exact KD.mkN
          ·intro tm hr
           simp [AllL, rdV] at hr
           simp [hr, nth_d e38, ← e39, ← e40]
           intros; first | exact KD.mk | exact KD.mkN
          ·intro tm hr
           simp [AllL, rdV] at hr
           simp [hr, nth_d e38, ← e39, ← e40]
           intros; first | exact KD.mk | exact KD.mkN
          ·intro tm hr
           simp [AllL, rdV] at hr
           simp [hr, nth_d e38, ← e39, ← e40]
           intros; first | exact KD.mk | exact KD.mkN
          ·intro tm hr
           simp [AllL, rdV] at hr
           simp [hr, nth_d e38, ← e39, ← e40]
           intros; first | exact KD.mk | exact KD.mkN
          ·intro tm hr
           simp [AllL, rdV] at hr
           simp [hr, nth_d e38, ← e39, ← e40]
           intros; first | exact KD.mk | exact KD.mkN
          ·intro tm hr
           simp [AllL, rdV] at hr
           simp [hr, nth_d e38, ← e39, ← e40]
           intros; first | exact KD.mk | exact KD.mkN
          ·intro tm hr
           simp [AllL, rdV] at hr
           simp [hr, nth_d e38, ← e39, ← e40]
           intros; first | exact KD.mk | exact KD.mkN
          ·intro tm hr
           simp [AllL, rdV] at hr
           simp [hr, nth_d e38, ← e39, ← e40]
           intros; first | exact KD.mk | exact KD.mkN
          ·intro tm hr
           simp [AllL, rdV] at hr
           simp [hr, nth_d e38, ← e39, ← e40]
           intros; first | exact KD.mk | exact KD.mkN
          ·intro tm hr
           simp [AllL, rdV] at hr
           simp [hr, nth_d e38, ← e39, ← e40]
           intros; first | exact KD.mk | exact KD.mkN
          ·intro tm hr
           simp [AllL, rdV] at hr
           simp [hr, nth_d e38, ← e39, ← e40]
           intros; first | exact KD.mk | exact KD.mkN
          ·intro tm hr
           simp [AllL, rdV] at hr
           simp [hr, nth_d e38, ← e39, ← e40]
           intros; first | exact KD.mk | exact KD.mkN
         ·rfl
         ·simp [tmD, putD, nth_d e38, ← e39, ← e40]; rfl
         ·simp [nth_d e38, ← e39, ← e40]
          intros; rfl
         obtain rfl := Option.some.inj h
         refine nP_i ?_
         refine Weak.mixN [some 0] hn0 (by decide) ?_ ?_ rfl
         all_goals first | (simp [inv_cons, inv_nil, pickOb]; done) | rfl
        | false =>
         replace h := iteF rfl h
         replace h := ltE h; obtain ⟨v41, e41, h⟩ := h
         cases v41 with
         | true =>
          replace h := iteT rfl h
          replace h := ltE h; obtain ⟨v42, e42, h⟩ := h
          cases v42 with
          | true =>
           replace h := iteT rfl h
           replace h := ltE h; obtain ⟨v43, e43, h⟩ := h
           replace h := bnE h; obtain ⟨v44, e44, h⟩ := h
           replace h := ltE h; obtain ⟨v45, e45, h⟩ := h
           apply AW.drawnR (V := [_, _, _, _, _, _, _, _, _, _, _, _, _, _, _, _, _, _, _, _, _, _, _, _, _, _, _]) mixed [⟨[0], [], [(1, none)], false⟩, ⟨[0], [0], [(88, some 0)], false⟩, ⟨[0], [], [(4, none)], false⟩, ⟨[0], [0, 1, 2], [(89, some 1), (90, some 2)], false⟩, ⟨[0], [0, 1, 2, 3], [(91, some 3)], false⟩, ⟨[0], [0, 1, 2, 3, 4], [(92, some 4)], false⟩, ⟨[0], [0, 1, 2, 3, 4, 5], [(93, some 5)], false⟩, ⟨[0], [0, 1, 2, 3, 4, 5, 6], [(94, some 6)], false⟩, ⟨[0], [0, 1, 2, 3, 4, 5, 6, 7], [(1, none), (95, some 7)], false⟩, ⟨[0], [0, 1, 2, 3, 4, 5, 6, 7, 8], [(95, some 7), (96, some 8)], false⟩, ⟨[0], [0, 1, 2, 3, 4, 5, 6, 7, 8, 9], [(95, some 7), (97, some 9)], false⟩, ⟨[0], [0, 1, 2, 3, 4, 5, 6, 7, 8, 9, 10], [(95, some 7), (98, some 10)], false⟩, ⟨[0], [0, 1, 2, 3, 4, 5, 6, 7, 8, 9, 10, 11], [(4, none), (99, some 11)], false⟩, ⟨[0], [0, 1, 2, 3, 4, 5, 6, 7, 8, 9, 10, 11, 12], [(99, some 11), (100, some 12)], false⟩, ⟨[0], [0, 1, 2, 3, 4, 5, 6, 7, 8, 9, 10, 11, 12, 13], [(95, some 7), (99, some 11), (101, some 13)], false⟩, ⟨[0], [0, 1, 2, 3, 4, 5, 6, 7, 8, 9, 10, 11, 12, 13, 14], [(95, some 7), (102, some 14)], false⟩, ⟨[0], [0, 1, 2, 3, 4, 5, 6, 7, 8, 9, 10, 11, 12, 13, 14, 15], [(1, none), (103, some 15)], false⟩, ⟨[0], [0, 1, 2, 3, 4, 5, 6, 7, 8, 9, 10, 11, 12, 13, 14, 15, 16], [(103, some 15), (104, some 16)], false⟩, ⟨[0], [0, 1, 2, 3, 4, 5, 6, 7, 8, 9, 10, 11, 12, 13, 14, 15], [(4, none), (103, some 15)], false⟩, ⟨[0], [0, 1, 2, 3, 4, 5, 6, 7, 8, 9, 10, 11, 12, 13, 14, 15, 18], [(103, some 15), (106, some 18)], false⟩, ⟨[0], [0, 1, 2, 3, 4, 5, 6, 7, 8, 9, 10, 11, 12, 13, 14, 15, 16, 17, 18, 19], [(103, some 15), (105, some 17), (107, some 19)], false⟩, ⟨[0], [0, 1, 2, 3, 4, 5, 6, 7, 8, 9, 10, 11, 12, 13, 14, 15, 16, 17, 18, 19, 20], [(103, some 15), (108, some 20)], false⟩, ⟨[0], [0, 1, 2, 3, 4, 5, 6, 7, 8, 9, 10, 11, 12, 13, 14, 15], [(1, none), (103, some 15)], false⟩, ⟨[0], [0, 1, 2, 3, 4, 5, 6, 7, 8, 9, 10, 11, 12, 13, 14, 15, 22], [(103, some 15), (110, some 22)], false⟩, ⟨[0], [0, 1, 2, 3, 4, 5, 6, 7, 8, 9, 10, 11, 12, 13, 14, 15], [(4, none), (103, some 15)], false⟩, ⟨[0], [0, 1, 2, 3, 4, 5, 6, 7, 8, 9, 10, 11, 12, 13, 14, 15, 22, 23, 24], [(103, some 15), (111, some 23), (112, some 24)], false⟩, ⟨[0], [0, 1, 2, 3, 4, 5, 6, 7, 8, 9, 10, 11, 12, 13, 14, 15, 22, 23, 24, 25], [(103, some 15), (113, some 25)], false⟩, ⟨[], [0, 1, 2, 3, 4, 5, 6, 7, 8, 9, 10, 11, 12, 13, 14, 15, 16, 17, 18, 19, 20, 21, 22, 23, 24, 25, 26], [], false⟩, ⟨[], [0, 1, 2, 3, 4, 5, 6, 7, 8, 9, 10, 11, 12, 13, 14, 15, 16, 17, 18, 19, 20, 21, 22, 23, 24, 25, 26, 27], [], false⟩, ⟨[], [0, 1, 2, 3, 4, 5, 6, 7, 8, 9, 10, 11, 12, 13, 14, 15, 16, 17, 18, 19, 20, 21, 22, 23, 24, 25, 26, 27, 28], [], false⟩] 27 (by kernel_rfl) (by kernel_rfl)
           ·refine ⟨?_, ?_, ?_, ?_, ?_, ?_, ?_, ?_, ?_, ?_, ?_, ?_, ?_, ?_, ?_, ?_, ?_, ?_, ?_, ?_, ?_, ?_, ?_, ?_, ?_, ?_, ?_, trivial⟩
            ·intro tm hr
             simp [AllL, rdV] at hr
             simp [hr, nth_d e38, ← e39, ← e40, ← e41, ← e42, ← e43, nth_d e44, ← e45]
             intros; first | exact KD.mk | exact KD.mkN
            ·intro tm hr
             simp [AllL, rdV] at hr
             simp [hr, nth_d e38, ← e39, ← e40, ← e41, ← e42, ← e43, nth_d e44, ← e45]
             intros; first | exact KD.mk | exact KD.mkN
            ·intro tm hr
             simp [AllL, rdV] at hr
             simp [hr, nth_d e38, ← e39, ← e40, ← e41, ← e42, ← e43, nth_d e44, ← e45]
             intros; first | exact KD.mk | exact KD.mkN
            ·intro tm hr
             simp [AllL, rdV] at hr
             simp [hr, nth_d e38, ← e39, ← e40, ← e41, ← e42, ← e43, nth_d e44, ← e45]
             intros; first | exact KD.mk | exact KD.mkN
            ·intro tm hr
             simp [AllL, rdV] at hr
             simp [hr, nth_d e38, ← e39, ← e40, ← e41, ← e42, ← e43, nth_d e44, ← e45]
             intros; first | exact KD.mk | exact KD.mkN
            ·intro tm hr
             simp [AllL, rdV] at hr
             simp [hr, nth_d e38, ← e39, ← e40, ← e41, ← e42, ← e43, nth_d e44, ← e45]
             intros; first | exact KD.mk | exact KD.mkN
            ·intro tm hr
             simp [AllL, rdV] at hr
             simp [hr, nth_d e38, ← e39, ← e40, ← e41, ← e42, ← e43, nth_d e44, ← e45]
             intros; first | exact KD.mk | exact KD.mkN
            ·intro tm hr
             simp [AllL, rdV] at hr
             simp [hr, nth_d e38, ← e39, ← e40, ← e41, ← e42, ← e43, nth_d e44, ← e45]
             intros; first | exact KD.mk | exact KD.mkN
            ·intro tm hr
             simp [AllL, rdV] at hr
             simp [hr, nth_d e38, ← e39, ← e40, ← e41, ← e42, ← e43, nth_d e44, ← e45]
             intros; first | exact KD.mk | exact KD.mkN
            ·intro tm hr
             simp [AllL, rdV] at hr
             simp [hr, nth_d e38, ← e39, ← e40, ← e41, ← e42, ← e43, nth_d e44, ← e45]
             intros; first | exact KD.mk | exact KD.mkN
            ·intro tm hr
             simp [AllL, rdV] at hr
             simp [hr, nth_d e38, ← e39, ← e40, ← e41, ← e42, ← e43, nth_d e44, ← e45]
             intros; first | exact KD.mk | exact KD.mkN
            ·intro tm hr
             simp [AllL, rdV] at hr
             simp [hr, nth_d e38, ← e39, ← e40, ← e41, ← e42, ← e43, nth_d e44, ← e45]
             intros; first | exact KD.mk | exact KD.mkN
            ·intro tm hr
             simp [AllL, rdV] at hr
             simp [hr, nth_d e38, ← e39, ← e40, ← e41, ← e42, ← e43, nth_d e44, ← e45]
             intros; first | exact KD.mk | exact KD.mkN
            ·intro tm hr
             simp [AllL, rdV] at hr
             simp [hr, nth_d e38, ← e39, ← e40, ← e41, ← e42, ← e43, nth_d e44, ← e45]
             intros; first | exact KD.mk | exact KD.mkN
            ·intro tm hr
             simp [AllL, rdV] at hr
             simp [hr, nth_d e38, ← e39, ← e40, ← e41, ← e42, ← e43, nth_d e44, ← e45]
             intros; first | exact KD.mk | exact KD.mkN
            ·intro tm hr
             simp [AllL, rdV] at hr
             simp [hr, nth_d e38, ← e39, ← e40, ← e41, ← e42, ← e43, nth_d e44, ← e45]
             intros; first | exact KD.mk | exact KD.mkN
            ·intro tm hr
             simp [AllL, rdV] at hr
             simp [hr, nth_d e38, ← e39, ← e40, ← e41, ← e42, ← e43, nth_d e44, ← e45]
             intros; first | exact KD.mk | exact KD.mkN
            ·intro tm hr
             simp [AllL, rdV] at hr
             simp [hr, nth_d e38, ← e39, ← e40, ← e41, ← e42, ← e43, nth_d e44, ← e45]
             intros; first | exact KD.mk | exact KD.mkN
            ·intro tm hr
             simp [AllL, rdV] at hr
             simp [hr, nth_d e38, ← e39, ← e40, ← e41, ← e42, ← e43, nth_d e44, ← e45]
             intros; first | exact KD.mk | exact KD.mkN
            ·intro tm hr
             simp [AllL, rdV] at hr
             simp [hr, nth_d e38, ← e39, ← e40, ← e41, ← e42, ← e43, nth_d e44, ← e45]
             intros; first | exact KD.mk | exact KD.mkN
            ·intro tm hr
             simp [AllL, rdV] at hr
             simp [hr, nth_d e38, ← e39, ← e40, ← e41, ← e42, ← e43, nth_d e44, ← e45]
             intros; first | exact KD.mk | exact KD.mkN
            ·intro tm hr
             simp [AllL, rdV] at hr
             simp [hr, nth_d e38, ← e39, ← e40, ← e41, ← e42, ← e43, nth_d e44, ← e45]
             intros; first | exact KD.mk | exact KD.mkN
            ·intro tm hr
             simp [AllL, rdV] at hr
             simp [hr, nth_d e38, ← e39, ← e40, ← e41, ← e42, ← e43, nth_d e44, ← e45]
             intros; first | exact KD.mk | exact KD.mkN
            ·intro tm hr
             simp [AllL, rdV] at hr
             simp [hr, nth_d e38, ← e39, ← e40, ← e41, ← e42, ← e43, nth_d e44, ← e45]
             intros; first | exact KD.mk | exact KD.mkN
            ·intro tm hr
             simp [AllL, rdV] at hr
             simp [hr, nth_d e38, ← e39, ← e40, ← e41, ← e42, ← e43, nth_d e44, ← e45]
             intros; first | exact KD.mk | exact KD.mkN
            ·intro tm hr
             simp [AllL, rdV] at hr
             simp [hr, nth_d e38, ← e39, ← e40, ← e41, ← e42, ← e43, nth_d e44, ← e45]
             intros; first | exact KD.mk | exact KD.mkN
            ·intro tm hr
             simp [AllL, rdV] at hr
             simp [hr, nth_d e38, ← e39, ← e40, ← e41, ← e42, ← e43, nth_d e44, ← e45]
             intros; first | exact KD.mk | exact KD.mkN
           ·rfl
           ·simp [tmD, putD, nth_d e38, ← e39, ← e40, ← e41, ← e42, ← e43, nth_d e44, ← e45]; rfl
           ·simp [nth_d e38, ← e39, ← e40, ← e41, ← e42, ← e43, nth_d e44, ← e45]
            intros; rfl
           obtain rfl := Option.some.inj h
           refine nP_i ?_
           refine Weak.mixN [some 0] hn0 (by decide) ?_ ?_ rfl
           all_goals first | (simp [inv_cons, inv_nil, pickOb]; done) | rfl
          | false =>
           replace h := iteF rfl h
           apply AW.drawnR (V := [_, _, _, _, _, _, _, _, _, _, _, _, _, _, _, _, _, _, _, _, _, _, _, _, _, _, _]) mixed [⟨[0], [], [(1, none)], false⟩, ⟨[0], [0], [(88, some 0)], false⟩, ⟨[0], [], [(4, none)], false⟩, ⟨[0], [0, 1, 2], [(89, some 1), (90, some 2)], false⟩, ⟨[0], [0, 1, 2, 3], [(91, some 3)], false⟩, ⟨[0], [0, 1, 2, 3, 4], [(92, some 4)], false⟩, ⟨[0], [0, 1, 2, 3, 4, 5], [(93, some 5)], false⟩, ⟨[0], [0, 1, 2, 3, 4, 5, 6], [(94, some 6)], false⟩, ⟨[0], [0, 1, 2, 3, 4, 5, 6, 7], [(1, none), (95, some 7)], false⟩, ⟨[0], [0, 1, 2, 3, 4, 5, 6, 7, 8], [(95, some 7), (96, some 8)], false⟩, ⟨[0], [0, 1, 2, 3, 4, 5, 6, 7, 8, 9], [(95, some 7), (97, some 9)], false⟩, ⟨[0], [0, 1, 2, 3, 4, 5, 6, 7, 8, 9, 10], [(95, some 7), (98, some 10)], false⟩, ⟨[0], [0, 1, 2, 3, 4, 5, 6, 7, 8, 9, 10, 11], [(4, none), (99, some 11)], false⟩, ⟨[0], [0, 1, 2, 3, 4, 5, 6, 7, 8, 9, 10, 11, 12], [(99, some 11), (100, some 12)], false⟩, ⟨[0], [0, 1, 2, 3, 4, 5, 6, 7, 8, 9, 10, 11, 12, 13], [(95, some 7), (99, some 11), (101, some 13)], false⟩, ⟨[0], [0, 1, 2, 3, 4, 5, 6, 7, 8, 9, 10, 11, 12, 13, 14], [(95, some 7), (102, some 14)], false⟩, ⟨[0], [0, 1, 2, 3, 4, 5, 6, 7, 8, 9, 10, 11, 12, 13, 14, 15], [(1, none), (103, some 15)], false⟩, ⟨[0], [0, 1, 2, 3, 4, 5, 6, 7, 8, 9, 10, 11, 12, 13, 14, 15, 16], [(103, some 15), (104, some 16)], false⟩, ⟨[0], [0, 1, 2, 3, 4, 5, 6, 7, 8, 9, 10, 11, 12, 13, 14, 15], [(4, none), (103, some 15)], false⟩, ⟨[0], [0, 1, 2, 3, 4, 5, 6, 7, 8, 9, 10, 11, 12, 13, 14, 15, 18], [(103, some 15), (106, some 18)], false⟩, ⟨[0], [0, 1, 2, 3, 4, 5, 6, 7, 8, 9, 10, 11, 12, 13, 14, 15, 16, 17, 18, 19], [(103, some 15), (105, some 17), (107, some 19)], false⟩, ⟨[0], [0, 1, 2, 3, 4, 5, 6, 7, 8, 9, 10, 11, 12, 13, 14, 15, 16, 17, 18, 19, 20], [(103, some 15), (108, some 20)], false⟩, ⟨[0], [0, 1, 2, 3, 4, 5, 6, 7, 8, 9, 10, 11, 12, 13, 14, 15], [(1, none), (103, some 15)], false⟩, ⟨[0], [0, 1, 2, 3, 4, 5, 6, 7, 8, 9, 10, 11, 12, 13, 14, 15, 22], [(103, some 15), (110, some 22)], false⟩, ⟨[0], [0, 1, 2, 3, 4, 5, 6, 7, 8, 9, 10, 11, 12, 13, 14, 15], [(4, none), (103, some 15)], false⟩, ⟨[0], [0, 1, 2, 3, 4, 5, 6, 7, 8, 9, 10, 11, 12, 13, 14, 15, 22, 23, 24], [(103, some 15), (111, some 23), (112, some 24)], false⟩, ⟨[0], [0, 1, 2, 3, 4, 5, 6, 7, 8, 9, 10, 11, 12, 13, 14, 15, 22, 23, 24, 25], [(103, some 15), (113, some 25)], false⟩, ⟨[], [0, 1, 2, 3, 4, 5, 6, 7, 8, 9, 10, 11, 12, 13, 14, 15, 16, 17, 18, 19, 20, 21, 22, 23, 24, 25, 26], [], false⟩, ⟨[], [0, 1, 2, 3, 4, 5, 6, 7, 8, 9, 10, 11, 12, 13, 14, 15, 16, 17, 18, 19, 20, 21, 22, 23, 24, 25, 26, 27], [], false⟩, ⟨[], [0, 1, 2, 3, 4, 5, 6, 7, 8, 9, 10, 11, 12, 13, 14, 15, 16, 17, 18, 19, 20, 21, 22, 23, 24, 25, 26, 27, 28], [], false⟩] 27 (by kernel_rfl) (by kernel_rfl)
           ·refine ⟨?_, ?_, ?_, ?_, ?_, ?_, ?_, ?_, ?_, ?_, ?_, ?_, ?_, ?_, ?_, ?_, ?_, ?_, ?_, ?_, ?_, ?_, ?_, ?_, ?_, ?_, ?_, trivial⟩
            ·intro tm hr
             simp [AllL, rdV] at hr
             simp [hr, nth_d e38, ← e39, ← e40, ← e41, ← e42]
             intros; first | exact KD.mk | exact KD.mkN
            ·intro tm hr
             simp [AllL, rdV] at hr
             simp [hr, nth_d e38, ← e39, ← e40, ← e41, ← e42]
             intros; first | exact KD.mk | exact KD.mkN
            ·intro tm hr
             simp [AllL, rdV] at hr
             simp [hr, nth_d e38, ← e39, ← e40, ← e41, ← e42]
             intros; first | exact KD.mk | exact KD.mkN
            ·intro tm hr
             simp [AllL, rdV] at hr
             simp [hr, nth_d e38, ← e39, ← e40, ← e41, ← e42]
             intros; first | exact KD.mk | exact KD.mkN
            ·intro tm hr
             simp [AllL, rdV] at hr
             simp [hr, nth_d e38, ← e39, ← e40, ← e41, ← e42]
             intros; first | exact KD.mk | exact KD.mkN
            ·intro tm hr
             simp [AllL, rdV] at hr
             simp [hr, nth_d e38, ← e39, ← e40, ← e41, ← e42]
             intros; first | exact KD.mk | exact KD.mkN
            ·intro tm hr
             simp [AllL, rdV] at hr
             simp [hr, nth_d e38, ← e39, ← e40, ← e41, ← e42]
             intros; first | exact KD.mk | exact KD.mkN
            ·intro tm hr
             simp [AllL, rdV] at hr
             simp [hr, nth_d e38, ← e39, ← e40, ← e41, ← e42]
             intros; first | exact KD.mk | exact KD.mkN
            ·intro tm hr
             simp [AllL, rdV] at hr
             simp [hr, nth_d e38, ← e39, ← e40, ← e41, ← e42]
             intros; first | exact KD.mk | exact KD.mkN
            ·intro tm hr
             simp [AllL, rdV] at hr
             simp [hr, nth_d e38, ← e39, ← e40, ← e41, ← e42]
             intros; first | exact KD.mk | exact KD.mkN
            ·intro tm hr
             simp [AllL, rdV] at hr
             simp [hr, nth_d e38, ← e39, ← e40, ← e41, ← e42]
             intros; first | exact KD.mk | exact KD.mkN
            ·intro tm hr
             simp [AllL, rdV] at hr
             simp [hr, nth_d e38, ← e39, ← e40, ← e41, ← e42]
             intros; first | exact KD.mk | exact KD.mkN
            ·intro tm hr
             simp [AllL, rdV] at hr
             simp [hr, nth_d e38, ← e39, ← e40, ← e41, ← e42]
             intros; first | exact KD.mk | exact KD.mkN
            ·intro tm hr
             simp [AllL, rdV] at hr
             simp [hr, nth_d e38, ← e39, ← e40, ← e41, ← e42]
             intros; first | exact KD.mk | exact KD.mkN
            ·intro tm hr
             simp [AllL, rdV] at hr
             simp [hr, nth_d e38, ← e39, ← e40, ← e41, ← e42]
             intros; first | exact KD.mk | exact KD.mkN
            ·intro tm hr
             simp [AllL, rdV] at hr
             simp [hr, nth_d e38, ← e39, ← e40, ← e41, ← e42]
             intros; first | exact KD.mk | exact KD.mkN
            ·intro tm hr
             simp [AllL, rdV] at hr
             simp [hr, nth_d e38, ← e39, ← e40, ← e41, ← e42]
             intros; first | exact KD.mk | exact KD.mkN
            ·intro tm hr
             simp [AllL, rdV] at hr
             simp [hr, nth_d e38, ← e39, ← e40, ← e41, ← e42]
             intros; first | exact KD.mk | exact KD.mkN
            ·intro tm hr
             simp [AllL, rdV] at hr
             simp [hr, nth_d e38, ← e39, ← e40, ← e41, ← e42]
             intros; first | exact KD.mk | exact KD.mkN
            ·intro tm hr
             simp [AllL, rdV] at hr
             simp [hr, nth_d e38, ← e39, ← e40, ← e41, ← e42]
             intros; first | exact KD.mk | exact KD.mkN
            ·intro tm hr
             simp [AllL, rdV] at hr
             simp [hr, nth_d e38, ← e39, ← e40, ← e41, ← e42]
             intros; first | exact KD.mk | exact KD.mkN
            ·intro tm hr
             simp [AllL, rdV] at hr
             simp [hr, nth_d e38, ← e39, ← e40, ← e41, ← e42]
             intros; first | exact KD.mk | exact KD.mkN
            ·intro tm hr
             simp [AllL, rdV] at hr
             simp [hr, nth_d e38, ← e39, ← e40, ← e41, ← e42]
             intros; first | exact KD.mk | exact KD.mkN
            ·intro tm hr
             simp [AllL, rdV] at hr
             simp [hr, nth_d e38, ← e39, ← e40, ← e41, ← e42]
             intros; first | exact KD.mk | exact KD.mkN
            ·intro tm hr
             simp [AllL, rdV] at hr
             simp [hr, nth_d e38, ← e39, ← e40, ← e41, ← e42]
             intros; first | exact KD.mk | exact KD.mkN
            ·intro tm hr
             simp [AllL, rdV] at hr
             simp [hr, nth_d e38, ← e39, ← e40, ← e41, ← e42]
             intros; first | exact KD.mk | exact KD.mkN
            ·intro tm hr
             simp [AllL, rdV] at hr
             simp [hr, nth_d e38, ← e39, ← e40, ← e41, ← e42]
             intros; first | exact KD.mk | exact KD.mkN
           ·rfl
           ·simp [tmD, putD, nth_d e38, ← e39, ← e40, ← e41, ← e42]; rfl
           ·simp [nth_d e38, ← e39, ← e40, ← e41, ← e42]
            intros; rfl
           obtain rfl := Option.some.inj h
           refine nP_i ?_
           refine Weak.mixN [some 0] hn0 (by decide) ?_ ?_ rfl
           all_goals first | (simp [inv_cons, inv_nil, pickOb]; done) | rfl
         | false =>
          replace h := iteF rfl h
          apply AW.drawnR (V := [_, _, _, _, _, _, _, _, _, _, _, _, _, _, _, _, _, _, _, _, _, _, _, _, _, _, _]) mixed [⟨[0], [], [(1, none)], false⟩, ⟨[0], [0], [(88, some 0)], false⟩, ⟨[0], [], [(4, none)], false⟩, ⟨[0], [0, 1, 2], [(89, some 1), (90, some 2)], false⟩, ⟨[0], [0, 1, 2, 3], [(91, some 3)], false⟩, ⟨[0], [0, 1, 2, 3, 4], [(92, some 4)], false⟩, ⟨[0], [0, 1, 2, 3, 4, 5], [(93, some 5)], false⟩, ⟨[0], [0, 1, 2, 3, 4, 5, 6], [(94, some 6)], false⟩, ⟨[0], [0, 1, 2, 3, 4, 5, 6, 7], [(1, none), (95, some 7)], false⟩, ⟨[0], [0, 1, 2, 3, 4, 5, 6, 7, 8], [(95, some 7), (96, some 8)], false⟩, ⟨[0], [0, 1, 2, 3, 4, 5, 6, 7, 8, 9], [(95, some 7), (97, some 9)], false⟩, ⟨[0], [0, 1, 2, 3, 4, 5, 6, 7, 8, 9, 10], [(95, some 7), (98, some 10)], false⟩, ⟨[0], [0, 1, 2, 3, 4, 5, 6, 7, 8, 9, 10, 11], [(4, none), (99, some 11)], false⟩, ⟨[0], [0, 1, 2, 3, 4, 5, 6, 7, 8, 9, 10, 11, 12], [(99, some 11), (100, some 12)], false⟩, ⟨[0], [0, 1, 2, 3, 4, 5, 6, 7, 8, 9, 10, 11, 12, 13], [(95, some 7), (99, some 11), (101, some 13)], false⟩, ⟨[0], [0, 1, 2, 3, 4, 5, 6, 7, 8, 9, 10, 11, 12, 13, 14], [(95, some 7), (102, some 14)], false⟩, ⟨[0], [0, 1, 2, 3, 4, 5, 6, 7, 8, 9, 10, 11, 12, 13, 14, 15], [(1, none), (103, some 15)], false⟩, ⟨[0], [0, 1, 2, 3, 4, 5, 6, 7, 8, 9, 10, 11, 12, 13, 14, 15, 16], [(103, some 15), (104, some 16)], false⟩, ⟨[0], [0, 1, 2, 3, 4, 5, 6, 7, 8, 9, 10, 11, 12, 13, 14, 15], [(4, none), (103, some 15)], false⟩, ⟨[0], [0, 1, 2, 3, 4, 5, 6, 7, 8, 9, 10, 11, 12, 13, 14, 15, 18], [(103, some 15), (106, some 18)], false⟩, ⟨[0], [0, 1, 2, 3, 4, 5, 6, 7, 8, 9, 10, 11, 12, 13, 14, 15, 16, 17, 18, 19], [(103, some 15), (105, some 17), (107, some 19)], false⟩, ⟨[0], [0, 1, 2, 3, 4, 5, 6, 7, 8, 9, 10, 11, 12, 13, 14, 15, 16, 17, 18, 19, 20], [(103, some 15), (108, some 20)], false⟩, ⟨[0], [0, 1, 2, 3, 4, 5, 6, 7, 8, 9, 10, 11, 12, 13, 14, 15], [(1, none), (103, some 15)], false⟩, ⟨[0], [0, 1, 2, 3, 4, 5, 6, 7, 8, 9, 10, 11, 12, 13, 14, 15, 22], [(103, some 15), (110, some 22)], false⟩, ⟨[0], [0, 1, 2, 3, 4, 5, 6, 7, 8, 9, 10, 11, 12, 13, 14, 15], [(4, none), (103, some 15)], false⟩, ⟨[0], [0, 1, 2, 3, 4, 5, 6, 7, 8, 9, 10, 11, 12, 13, 14, 15, 22, 23, 24], [(103, some 15), (111, some 23), (112, some 24)], false⟩, ⟨[0], [0, 1, 2, 3, 4, 5, 6, 7, 8, 9, 10, 11, 12, 13, 14, 15, 22, 23, 24, 25], [(103, some 15), (113, some 25)], false⟩, ⟨[], [0, 1, 2, 3, 4, 5, 6, 7, 8, 9, 10, 11, 12, 13, 14, 15, 16, 17, 18, 19, 20, 21, 22, 23, 24, 25, 26], [], false⟩, ⟨[], [0, 1, 2, 3, 4, 5, 6, 7, 8, 9, 10, 11, 12, 13, 14, 15, 16, 17, 18, 19, 20, 21, 22, 23, 24, 25, 26, 27], [], false⟩, ⟨[], [0, 1, 2, 3, 4, 5, 6, 7, 8, 9, 10, 11, 12, 13, 14, 15, 16, 17, 18, 19, 20, 21, 22, 23, 24, 25, 26, 27, 28], [], false⟩] 27 (by kernel_rfl) (by kernel_rfl)
          ·refine ⟨?_, ?_, ?_, ?_, ?_, ?_, ?_, ?_, ?_, ?_, ?_, ?_, ?_, ?_, ?_, ?_, ?_, ?_, ?_, ?_, ?_, ?_, ?_, ?_, ?_, ?_, ?_, trivial⟩
           ·intro tm hr
            simp [AllL, rdV] at hr
            simp [hr, nth_d e38, ← e39, ← e40, ← e41]
            intros; first | exact KD.mk | exact KD.mkN
           ·intro tm hr
            simp [AllL, rdV] at hr
            simp [hr, nth_d e38, ← e39, ← e40, ← e41]
            intros; first | exact KD.mk | exact KD.mkN
           ·intro tm hr
            simp [AllL, rdV] at hr
            simp [hr, nth_d e38, ← e39, ← e40, ← e41]
            intros; first | exact KD.mk | exact KD.mkN
           ·intro tm hr
            simp [AllL, rdV] at hr
            simp [hr, nth_d e38, ← e39, ← e40, ← e41]
            intros; first | exact KD.mk | exact KD.mkN
           ·intro tm hr
            simp [AllL, rdV] at hr
            simp [hr, nth_d e38, ← e39, ← e40, ← e41]
            intros; first | exact KD.mk | exact KD.mkN
           ·intro tm hr
            simp [AllL, rdV] at hr
            simp [hr, nth_d e38, ← e39, ← e40, ← e41]
            intros; first | exact KD.mk | exact KD.mkN
           ·intro tm hr
            simp [AllL, rdV] at hr
            simp [hr, nth_d e38, ← e39, ← e40, ← e41]
            intros; first | exact KD.mk | exact KD.mkN
           ·intro tm hr
            simp [AllL, rdV] at hr
            simp [hr, nth_d e38, ← e39, ← e40, ← e41]
            intros; first | exact KD.mk | exact KD.mkN
           ·intro tm hr
            simp [AllL, rdV] at hr
            simp [hr, nth_d e38, ← e39, ← e40, ← e41]
            intros; first | exact KD.mk | exact KD.mkN
           ·intro tm hr
            simp [AllL, rdV] at hr
            simp [hr, nth_d e38, ← e39, ← e40, ← e41]
            intros; first | exact KD.mk | exact KD.mkN
           ·intro tm hr
            simp [AllL, rdV] at hr
            simp [hr, nth_d e38, ← e39, ← e40, ← e41]
            intros; first | exact KD.mk | exact KD.mkN
           ·intro tm hr
            simp [AllL, rdV] at hr
            simp [hr, nth_d e38, ← e39, ← e40, ← e41]
            intros; first | exact KD.mk | exact KD.mkN
           ·intro tm hr
            simp [AllL, rdV] at hr
            simp [hr, nth_d e38, ← e39, ← e40, ← e41]
            intros; first | exact KD.mk | exact KD.mkN
           ·intro tm hr
            simp [AllL, rdV] at hr
            simp [hr, nth_d e38, ← e39, ← e40, ← e41]
            intros; first | exact KD.mk | exact KD.mkN
           ·intro tm hr
            simp [AllL, rdV] at hr
            simp [hr, nth_d e38, ← e39, ← e40, ← e41]
            intros; first | exact KD.mk | exact KD.mkN
           ·intro tm hr
            simp [AllL, rdV] at hr
            simp [hr, nth_d e38, ← e39, ← e40, ← e41]
            intros; first | exact KD.mk | exact KD.mkN
           ·intro tm hr
            simp [AllL, rdV] at hr
            simp [hr, nth_d e38, ← e39, ← e40, ← e41]
            intros; first | exact KD.mk | exact KD.mkN
           ·intro tm hr
            simp [AllL, rdV] at hr
            simp [hr, nth_d e38, ← e39, ← e40, ← e41]
            intros; first | exact KD.mk | exact KD.mkN
           ·intro tm hr
            simp [AllL, rdV] at hr
            simp [hr, nth_d e38, ← e39, ← e40, ← e41]
            intros; first | exact KD.mk | exact KD.mkN
           ·intro tm hr
            simp [AllL, rdV] at hr
            simp [hr, nth_d e38, ← e39, ← e40, ← e41]
            intros; first | exact KD.mk | exact KD.mkN
           ·intro tm hr
            simp [AllL, rdV] at hr
            simp [hr, nth_d e38, ← e39, ← e40, ← e41]
            intros; first | exact KD.mk | exact KD.mkN
           ·intro tm hr
            simp [AllL, rdV] at hr
            simp [hr, nth_d e38, ← e39, ← e40, ← e41]
            intros; first | exact KD.mk | exact KD.mkN
           ·intro tm hr
            simp [AllL, rdV] at hr
            simp [hr, nth_d e38, ← e39, ← e40, ← e41]
            intros; first | exact KD.mk | exact KD.mkN
           ·intro tm hr
            simp [AllL, rdV] at hr
            simp [hr, nth_d e38, ← e39, ← e40, ← e41]
            intros; first | exact KD.mk | exact KD.mkN
           ·intro tm hr
            simp [AllL, rdV] at hr
            simp [hr, nth_d e38, ← e39, ← e40, ← e41]
            intros; first | exact KD.mk | exact KD.mkN
           ·intro tm hr
            simp [AllL, rdV] at hr
            simp [hr, nth_d e38, ← e39, ← e40, ← e41]
            intros; first | exact KD.mk | exact KD.mkN
           ·intro tm hr
            simp [AllL, rdV] at hr
            simp [hr, nth_d e38, ← e39, ← e40, ← e41]
            intros; first | exact KD.mk | exact KD.mkN
          ·rfl
          ·simp [tmD, putD, nth_d e38, ← e39, ← e40, ← e41]; rfl
          ·simp [nth_d e38, ← e39, ← e40, ← e41]
           intros; rfl
          obtain rfl := Option.some.inj h
          refine nP_i ?_
          refine Weak.mixN [some 0] hn0 (by decide) ?_ ?_ rfl
          all_goals first | (simp [inv_cons, inv_nil, pickOb]; done) | rfl
       ·rintro e s hp
        obtain ⟨rfl, hw⟩ := hp
        refine ⟨_, hw, ?_⟩
        try simp only [sp_l, sp_r, Post.seq, Post.block, Nat.reduceEqDiff, reduceIte, Nat.zero_ne_one, Nat.one_ne_zero]
        replace h := ltE h; obtain ⟨v46, e46, h⟩ := h
        rw [← e46]
        cases v46 with
        | true =>
         replace h := iteT rfl h
         refine AW.cond_true (by simp) ?_
         apply AW.step
         ·simp
          intros; rfl
         obtain rfl := Option.some.inj h
         refine AW.ret ?_
         try simp only [sp_l, sp_r, Post.seq, Post.block, Nat.reduceEqDiff, reduceIte, Nat.zero_ne_one, Nat.one_ne_zero]
         refine rP_i ?_
         refine Left.plain hnb (by simp [Try.f88, resV, resC, comp]; rfl) rfl rfl ?_
         simp
        | false =>
         replace h := iteF rfl h
         refine AW.cond_false (by simp) ?_
         refine AW.skip ?_
         try simp only [sp_l, sp_r, Post.seq, Post.block, Nat.reduceEqDiff, reduceIte, Nat.zero_ne_one, Nat.one_ne_zero]
         try simp only [sp_l, sp_r, Post.seq, Post.block, Nat.reduceEqDiff, reduceIte, Nat.zero_ne_one, Nat.one_ne_zero]
         replace h := ltE h; obtain ⟨v47, e47, h⟩ := h
         apply AW.last
         ·simp [← e47]
          intros; rfl
         obtain rfl := Option.some.inj h
         refine nP_i ?_
         refine Weak.mixN [some 0] hn0 (by decide) ?_ ?_ rfl
         all_goals first | (simp [inv_cons, inv_nil, pickOb]; done) | rfl
      | false =>
       replace h := iteF rfl h
       refine AW.cond_false (by simp) ?_
       refine AW.exit ?_
       try simp only [sp_l, sp_r, Post.seq, Post.block, Nat.reduceEqDiff, reduceIte, Nat.zero_ne_one, Nat.one_ne_zero]
       obtain rfl := Option.some.inj h
       try simp only [sp_l, sp_r]
       refine xP_i ?_
       refine Weak.mixN [] hn0 (by decide) ?_ ?_ rfl
       all_goals first | (simp [inv_cons, inv_nil, pickOb]; done) | rfl
     ·rintro e s hp
      rcases y33 with y48 | y49
      ·replace h := smL h
       obtain ⟨rfl, hw⟩ := hp
       refine ⟨_, hw, ?_⟩
       try simp only [sp_l, sp_r, Post.seq, Post.block, Nat.reduceEqDiff, reduceIte, Nat.zero_ne_one, Nat.one_ne_zero]
       apply AW.step
       ·simp
        intros; rfl
       obtain rfl := Option.some.inj h
       refine AW.ret ?_
       refine Left.plain hnb (by simp [Try.f88, resV, resC, comp]; rfl) rfl rfl ?_
       simp
      ·replace h := smR h
       obtain ⟨rfl, hl⟩ := hp
       refine ⟨_, Weak.refl _, ?_⟩
       obtain rfl := Option.some.inj h
       exact hl
    ·replace h := smR h
     obtain ⟨rfl, hl⟩ := hp
     refine ⟨_, Weak.refl _, ?_⟩
     obtain rfl := Option.some.inj h
     exact hl
theorem en_r5_MayItem : Enters Try.prog 88 := enters Try.func88 (by kernel_rfl) rfl
def r5_MayEffect_sh (n : Nat) (a0 : Effect) : Option Bool :=
bn (lt (lenS a0.key) fun v2 =>
lt (leI v2 40) fun v3 =>
ite' v3 (lt (a0.gone) fun v4 =>
ite' v4 (some (true)) (bn (r5_MayItem_sh n a0.item) fun v5 =>
some (v5))) (some (false))) fun (y1 : Bool) =>
some y1
set_option maxRecDepth 8000 in
set_option maxHeartbeats 8000000 in
theorem s_r5_MayEffect {n : Nat} {a0 : Effect} {r : Bool} (h : r5_MayEffect_sh n a0 = some r) : Sound Try.prog 89 [.g [.s (.string a0.key), .s (.bool a0.gone), .s (.int .i64 a0.item.kind), .s (.string a0.item.s), .d false 2 (encField a0.item.f), .d false 1 (encS a0.item.l), .s (.int .i64 a0.item.exp)]] [] (.l (.s (.bool r))) [] := by
 unfold r5_MayEffect_sh at h
 refine Sound.of_aw (fn := Try.f89) (c := _) Try.func89 rfl (by simp [Try.f89]) fun cx hG hnb => ?_
 rw [show Try.f89.ntmps = 16 from rfl]
 have hn0 : cx.nb = 0 := hnb
 simp only [st0_mk, initTm, List.map_cons, List.map_nil]
 apply AW.step
 ·simp
  intros; rfl
 replace h := bnE h; obtain ⟨y1, g1, h⟩ := h
 refine AW.flow (p := fun gh ls => (nP (cx := cx) (fun q => (⟨[(2, .l (.s (.bool q)))], [], 16, gh, ls⟩ : St))) y1) ?_ ?_
 ·replace h := g1; clear g1
  replace h := ltE h; obtain ⟨v2, e2, h⟩ := h
  replace h := ltE h; obtain ⟨v3, e3, h⟩ := h
  cases v3 with
  | true =>
   replace h := iteT rfl h
   replace h := ltE h; obtain ⟨v4, e4, h⟩ := h
   cases v4 with
   | true =>
    replace h := iteT rfl h
    apply AW.last
    ·simp [← e2, ← e3, ← e4]
     intros; rfl
    obtain rfl := Option.some.inj h
    refine nP_i ?_
    refine Weak.mixN [] hn0 (by decide) ?_ ?_ rfl
    all_goals first | (simp [inv_cons, inv_nil, pickOb]; done) | rfl
   | false =>
    replace h := iteF rfl h
    replace h := bnE h; obtain ⟨v5, e5, h⟩ := h
    apply AW.last
    ·simp [← e2, ← e3, ← e4]
     intros
     refine xcall_plain en_r5_MayItem (s_r5_MayItem e5) rfl ⟨.same rfl, trivial⟩ ?_
     try simp [← e2, ← e3, ← e4]
     intros; rfl
    obtain rfl := Option.some.inj h
    refine nP_i ?_
    refine Weak.mixN [] hn0 (by decide) ?_ ?_ rfl
    all_goals first | (simp [inv_cons, inv_nil, pickOb]; done) | rfl
  | false =>
   replace h := iteF rfl h
   apply AW.last
   ·simp [← e2, ← e3]
    intros; rfl
   obtain rfl := Option.some.inj h
   refine nP_i ?_
   refine Weak.mixN [] hn0 (by decide) ?_ ?_ rfl
   all_goals first | (simp [inv_cons, inv_nil, pickOb]; done) | rfl
 ·rintro e s hp
  obtain ⟨rfl, hw⟩ := hp
  refine ⟨_, hw, ?_⟩
  try simp only [sp_l, sp_r, Post.seq, Post.block, Nat.reduceEqDiff, reduceIte, Nat.zero_ne_one, Nat.one_ne_zero]
  obtain rfl := Option.some.inj h
  refine AW.ret ?_
  refine Left.plain hnb (by simp [Try.f89, resV, resC, comp]; rfl) rfl rfl ?_
  simp
theorem en_r5_MayEffect : Enters Try.prog 89 := enters Try.func89 (by kernel_rfl) rfl
def r5_MayEffects_sh (n : Nat) (a0 : List Effect) : Option Bool :=
bn (iter n (fun (y1 : Int) =>
lt (lenI a0) fun v4 =>
lt (ltI y1 v4) fun v5 =>
ite' v5 (bn (nth a0 y1) fun v6 =>
bn (r5_MayEffect_sh n v6) fun v7 =>
lt (notB v7) fun v8 =>
ite' v8 (some (.inr (.inr false))) (lt (addI .i64 y1 1) fun v9 =>
some (.inl v9))) (some (.inr (.inl ())))) 0) fun (y2 : Unit ⊕ Bool) =>
sm y2 (fun y10 => some true) (fun y11 => some y11)
set_option maxRecDepth 8000 in
set_option maxHeartbeats 8000000 in
theorem s_r5_MayEffects {n : Nat} {a0 : List Effect} {r : Bool} (h : r5_MayEffects_sh n a0 = some r) : Sound Try.prog 48 [.l (.d false 7 (encEffect a0))] [] (.l (.s (.bool r))) [] := by
 unfold r5_MayEffects_sh at h
 refine Sound.of_aw (fn := Try.f48) (c := _) Try.func48 rfl (by simp [Try.f48]) fun cx hG hnb => ?_
 rw [show Try.f48.ntmps = 16 from rfl]
 have hn0 : cx.nb = 0 := hnb
 simp only [st0_mk, initTm, List.map_cons, List.map_nil]
 apply AW.step
 ·simp
  intros; rfl
 refine AW.seq ?_
 apply AW.step
 ·simp
  intros; rfl
 refine AW.block ?_
 replace h := bnE h; obtain ⟨y2, g2, h⟩ := h
 refine AW.iterP g2 (mk := fun gh ls q => (⟨[(0, .l (.d false 7 (encEffect a0))), (3, .l (.s (.int .i64 q)))], [], 16, gh, ls⟩ : St)) (N := fun gh ls => (sp (xP 0 (cx := cx) (fun _ => (⟨[], [], 16, gh, ls⟩ : St))) (rP (cx := cx) (P := Try.prog) Try.f48 (fun q => .l (.s (.bool q))) (fun q => [])))) ?_ (noS noX noR) ?_ ?_
 ·refine Weak.mixN [] hn0 (by decide) ?_ ?_ rfl
  all_goals first | (simp [inv_cons, inv_nil, pickOb]; done) | rfl
 ·clear h; intro y1 y3 h
  refine AW.seq ?_
  replace h := ltE h; obtain ⟨v4, e4, h⟩ := h
  replace h := ltE h; obtain ⟨v5, e5, h⟩ := h
  apply AW.step
  ·simp [lenI_cast e4, ← e5]
   intros; rfl
  cases v5 with
  | true =>
   replace h := iteT rfl h
   refine AW.cond_true (by simp) ?_
   refine AW.skip ?_
   try simp only [sp_l, sp_r, Post.seq, Post.block, Nat.reduceEqDiff, reduceIte, Nat.zero_ne_one, Nat.one_ne_zero]
   try simp only [sp_l, sp_r, Post.seq, Post.block, Nat.reduceEqDiff, reduceIte, Nat.zero_ne_one, Nat.one_ne_zero]
   refine AW.seq ?_
   refine AW.block ?_
   replace h := bnE h; obtain ⟨v6, e6, h⟩ := h
   replace h := bnE h; obtain ⟨v7, e7, h⟩ := h
   replace h := ltE h; obtain ⟨v8, e8, h⟩ := h
   apply AW.step
   ·simp [nth_d e6, ← e8]
    intros
    refine xcall_plain en_r5_MayEffect (s_r5_MayEffect e7) rfl ⟨.same rfl, trivial⟩ ?_
    try simp [nth_d e6, ← e8]
    intros; rfl
   cases v8 with
   | true =>
    replace h := iteT rfl h
    refine AW.cond_true (by simp) ?_
    apply AW.step
    ·simp
     intros; rfl
    obtain rfl := Option.some.inj h
    refine AW.ret ?_
    try simp only [sp_l, sp_r, Post.seq, Post.block, Nat.reduceEqDiff, reduceIte, Nat.zero_ne_one, Nat.one_ne_zero]
    refine rP_i ?_
    refine Left.plain hnb (by simp [Try.f48, resV, resC, comp]; rfl) rfl rfl ?_
    simp
   | false =>
    replace h := iteF rfl h
    refine AW.cond_false (by simp) ?_
    refine AW.skip ?_
    try simp only [sp_l, sp_r, Post.seq, Post.block, Nat.reduceEqDiff, reduceIte, Nat.zero_ne_one, Nat.one_ne_zero]
    try simp only [sp_l, sp_r, Post.seq, Post.block, Nat.reduceEqDiff, reduceIte, Nat.zero_ne_one, Nat.one_ne_zero]
    replace h := ltE h; obtain ⟨v9, e9, h⟩ := h
    apply AW.last
    ·simp [← e9]
     intros; rfl
    obtain rfl := Option.some.inj h
    refine nP_i ?_
    refine Weak.mixN [] hn0 (by decide) ?_ ?_ rfl
    all_goals first | (simp [inv_cons, inv_nil, pickOb]; done) | rfl
  | false =>
   replace h := iteF rfl h
   refine AW.cond_false (by simp) ?_
   refine AW.exit ?_
   try simp only [sp_l, sp_r, Post.seq, Post.block, Nat.reduceEqDiff, reduceIte, Nat.zero_ne_one, Nat.one_ne_zero]
   obtain rfl := Option.some.inj h
   try simp only [sp_l, sp_r]
   refine xP_i ?_
   refine Weak.mixN [] hn0 (by decide) ?_ ?_ rfl
   all_goals first | (simp [inv_cons, inv_nil, pickOb]; done) | rfl
 ·rintro e s hp
  rcases y2 with y10 | y11
  ·replace h := smL h
   obtain ⟨rfl, hw⟩ := hp
   refine ⟨_, hw, ?_⟩
   try simp only [sp_l, sp_r, Post.seq, Post.block, Nat.reduceEqDiff, reduceIte, Nat.zero_ne_one, Nat.one_ne_zero]
   apply AW.step
   ·simp
    intros; rfl
   obtain rfl := Option.some.inj h
   refine AW.ret ?_
   refine Left.plain hnb (by simp [Try.f48, resV, resC, comp]; rfl) rfl rfl ?_
   simp
  ·replace h := smR h
   obtain ⟨rfl, hl⟩ := hp
   refine ⟨_, Weak.refl _, ?_⟩
   obtain rfl := Option.some.inj h
   exact hl
theorem en_r5_MayEffects : Enters Try.prog 48 := enters Try.func48 (by kernel_rfl) rfl
def r5_MaySpace_sh (n : Nat) (a0 : List Pair) : Option Bool :=
bn (iter n (fun (y1 : Int) =>
lt (lenI a0) fun v4 =>
lt (ltI y1 v4) fun v5 =>
ite' v5 (bn (bn (nth a0 y1) fun v7 =>
lt (lenS v7.key) fun v8 =>
lt (gtI v8 40) fun v9 =>
ite' v9 (some (true)) (bn (r5_MayItem_sh n v7.item) fun v10 =>
lt (notB v10) fun v11 =>
ite' v11 (some (true)) (lt (gtI y1 0) fun v12 =>
ite' v12 (lt (subI .i64 y1 1) fun v13 =>
bn (nth a0 v13) fun v14 =>
lt (geS v14.key v7.key) fun v15 =>
some (v15)) (some (false))))) fun (y6 : Bool) =>
lt (y6) fun v16 =>
ite' v16 (some (.inr (.inr false))) (lt (addI .i64 y1 1) fun v17 =>
some (.inl v17))) (some (.inr (.inl ())))) 0) fun (y2 : Unit ⊕ Bool) =>
sm y2 (fun y18 => some true) (fun y19 => some y19)
set_option maxRecDepth 8000 in
set_option maxHeartbeats 8000000 in
theorem s_r5_MaySpace {n : Nat} {a0 : List Pair} {r : Bool} (h : r5_MaySpace_sh n a0 = some r) : Sound Try.prog 47 [.l (.d false 6 (encPair a0))] [] (.l (.s (.bool r))) [] := by
 unfold r5_MaySpace_sh at h
 refine Sound.of_aw (fn := Try.f47) (c := _) Try.func47 rfl (by simp [Try.f47]) fun cx hG hnb => ?_
 rw [show Try.f47.ntmps = 44 from rfl]
 have hn0 : cx.nb = 0 := hnb
 simp only [st0_mk, initTm, List.map_cons, List.map_nil]
 apply AW.step
 ·simp
  intros; rfl
 refine AW.seq ?_
 apply AW.step
 ·simp
  intros; rfl
 refine AW.block ?_
 replace h := bnE h; obtain ⟨y2, g2, h⟩ := h
 refine AW.iterP g2 (mk := fun gh ls q => (⟨[(0, .l (.d false 6 (encPair a0))), (3, .l (.s (.int .i64 q)))], [], 44, gh, ls⟩ : St)) (N := fun gh ls => (sp (xP 0 (cx := cx) (fun _ => (⟨[], [], 44, gh, ls⟩ : St))) (rP (cx := cx) (P := Try.prog) Try.f47 (fun q => .l (.s (.bool q))) (fun q => [])))) ?_ (noS noX noR) ?_ ?_
 ·refine Weak.mixN [] hn0 (by decide) ?_ ?_ rfl
  all_goals first | (simp [inv_cons, inv_nil, pickOb]; done) | rfl
 ·clear h; intro y1 y3 h
  refine AW.seq ?_
  replace h := ltE h; obtain ⟨v4, e4, h⟩ := h
  replace h := ltE h; obtain ⟨v5, e5, h⟩ := h
  apply AW.step
  ·simp [lenI_cast e4, ← e5]
   intros; rfl
  cases v5 with
  | true =>
   replace h := iteT rfl h
   refine AW.cond_true (by simp) ?_
   refine AW.skip ?_
   try simp only [sp_l, sp_r, Post.seq, Post.block, Nat.reduceEqDiff, reduceIte, Nat.zero_ne_one, Nat.one_ne_zero]
   try simp only [sp_l, sp_r, Post.seq, Post.block, Nat.reduceEqDiff, reduceIte, Nat.zero_ne_one, Nat.one_ne_zero]
   refine AW.seq ?_
   refine AW.block ?_
   replace h := bnE h; obtain ⟨y6, g6, h⟩ := h
   refine AW.flow (p := fun gh ls => (nP (cx := cx) (fun q => (⟨[(0, .l (.d false 6 (encPair a0))), (3, .l (.s (.int .i64 y1))), (43, .l (.s (.bool q)))], [], 44, gh, ls⟩ : St))) y6) ?_ ?_
   ·replace h := g6; clear g6
    replace h := bnE h; obtain ⟨v7, e7, h⟩ := h
    replace h := ltE h; obtain ⟨v8, e8, h⟩ := h
    replace h := ltE h; obtain ⟨v9, e9, h⟩ := h
    cases v9 with
    | true =>
     replace h := iteT rfl h
     apply AW.drawnR (V := [_, _, _, _, _, _, _, _, _, _, _, _, _, _, _, _, _, _, _, _, _, _, _, _, _, _, _, _, _, _, _]) mixed [⟨[0], [], [(0, none)], false⟩, ⟨[0], [], [(3, none)], false⟩, ⟨[0], [0, 1], [(10, some 0), (11, some 1)], false⟩, ⟨[0], [0, 1, 2], [(12, some 2)], false⟩, ⟨[0], [0, 1, 2, 3], [(13, some 3)], false⟩, ⟨[0], [0, 1, 2, 3, 4], [(14, some 4)], false⟩, ⟨[0], [0, 1, 2, 3, 4, 5], [(15, some 5)], false⟩, ⟨[0], [0, 1, 2, 3, 4, 5, 6], [(16, some 6)], false⟩, ⟨[0], [0, 1, 2, 3, 4, 5, 6, 7], [(0, none), (17, some 7)], false⟩, ⟨[0], [0, 1, 2, 3, 4, 5, 6, 7], [(3, none), (17, some 7)], false⟩, ⟨[0], [0, 1, 2, 3, 4, 5, 6, 7, 8, 9], [(17, some 7), (18, some 8), (19, some 9)], false⟩, ⟨[0], [0, 1, 2, 3, 4, 5, 6, 7, 8, 9, 10], [(17, some 7), (20, some 10)], false⟩, ⟨[0], [0, 1, 2, 3, 4, 5, 6, 7, 8, 9, 10, 11], [(17, some 7), (21, some 11)], false⟩, ⟨[0], [0, 1, 2, 3, 4, 5, 6, 7, 8, 9, 10, 11, 12], [(17, some 7), (22, some 12)], false⟩, ⟨[0], [0, 1, 2, 3, 4, 5, 6, 7, 8, 9, 10, 11, 12, 13], [(17, some 7), (23, some 13)], false⟩, ⟨[0], [0, 1, 2, 3, 4, 5, 6, 7, 8, 9, 10, 11, 12, 13, 14], [(17, some 7), (24, some 14)], false⟩, ⟨[0], [0, 1, 2, 3, 4, 5, 6, 7, 8, 9, 10, 11, 12, 13, 14, 15], [(25, some 15)], false⟩, ⟨[0], [0, 1, 2, 3, 4, 5, 6, 7, 8, 9, 10, 11, 12, 13, 14, 15, 16], [(3, none), (26, some 16)], false⟩, ⟨[0], [0, 1, 2, 3, 4, 5, 6, 7, 8, 9, 10, 11, 12, 13, 14, 15, 16, 17], [(26, some 16), (27, some 17)], false⟩, ⟨[0], [0, 1, 2, 3, 4, 5, 6, 7, 8, 9, 10, 11, 12, 13, 14, 15, 16, 17, 18], [(26, some 16), (28, some 18)], false⟩, ⟨[0], [0, 1, 2, 3, 4, 5, 6, 7, 8, 9, 10, 11, 12, 13, 14, 15, 16, 17, 18, 19], [(0, none), (29, some 19)], false⟩, ⟨[0], [0, 1, 2, 3, 4, 5, 6, 7, 8, 9, 10, 11, 12, 13, 14, 15, 16, 17, 18, 19], [(3, none), (29, some 19)], false⟩, ⟨[0], [0, 1, 2, 3, 4, 5, 6, 7, 8, 9, 10, 11, 12, 13, 14, 15, 16, 17, 18, 19, 21], [(29, some 19), (31, some 21)], false⟩, ⟨[0], [0, 1, 2, 3, 4, 5, 6, 7, 8, 9, 10, 11, 12, 13, 14, 15, 16, 17, 18, 19, 20, 21, 22], [(29, some 19), (30, some 20), (32, some 22)], false⟩, ⟨[0], [0, 1, 2, 3, 4, 5, 6, 7, 8, 9, 10, 11, 12, 13, 14, 15, 16, 17, 18, 19, 20, 21, 22, 23], [(29, some 19), (33, some 23)], false⟩, ⟨[0], [0, 1, 2, 3, 4, 5, 6, 7, 8, 9, 10, 11, 12, 13, 14, 15, 16, 17, 18, 19, 20, 21, 22, 23, 24], [(29, some 19), (34, some 24)], false⟩, ⟨[0], [0, 1, 2, 3, 4, 5, 6, 7, 8, 9, 10, 11, 12, 13, 14, 15, 16, 17, 18, 19], [(0, none), (29, some 19)], false⟩, ⟨[0], [0, 1, 2, 3, 4, 5, 6, 7, 8, 9, 10, 11, 12, 13, 14, 15, 16, 17, 18, 19], [(3, none), (29, some 19)], false⟩, ⟨[0], [0, 1, 2, 3, 4, 5, 6, 7, 8, 9, 10, 11, 12, 13, 14, 15, 16, 17, 18, 19, 26, 27], [(29, some 19), (36, some 26), (37, some 27)], false⟩, ⟨[0], [0, 1, 2, 3, 4, 5, 6, 7, 8, 9, 10, 11, 12, 13, 14, 15, 16, 17, 18, 19, 26, 27, 28], [(29, some 19), (38, some 28)], false⟩, ⟨[0], [0, 1, 2, 3, 4, 5, 6, 7, 8, 9, 10, 11, 12, 13, 14, 15, 16, 17, 18, 19, 26, 27, 28, 29], [(29, some 19), (39, some 29)], false⟩, ⟨[], [0, 1, 2, 3, 4, 5, 6, 7, 8, 9, 10, 11, 12, 13, 14, 15, 16, 17, 18, 19, 20, 21, 22, 23, 24, 25, 26, 27, 28, 29, 30], [], false⟩, ⟨[], [0, 1, 2, 3, 4, 5, 6, 7, 8, 9, 10, 11, 12, 13, 14, 15, 16, 17, 18, 19, 20, 21, 22, 23, 24, 25, 26, 27, 28, 29, 30, 31], [], false⟩, ⟨[], [0, 1, 2, 3, 4, 5, 6, 7, 8, 9, 10, 11, 12, 13, 14, 15, 16, 17, 18, 19, 20, 21, 22, 23, 24, 25, 26, 27, 28, 29, 30, 31, 32], [], false⟩] 31 (by kernel_rfl) (by kernel_rfl)
     ·refine ⟨?_, ?_, ?_, ?_, ?_, ?_, ?_, ?_, ?_, ?_, ?_, ?_, ?_, ?_, ?_, ?_, ?_, ?_, ?_, ?_, ?_, ?_, ?_, ?_, ?_, ?_, ?_, ?_, ?_, ?_, ?_, trivial⟩
      ·intro tm hr
       simp [AllL, rdV] at hr
       simp [hr, nth_d e7, ← e8, ← e9]
       intros; first | exact KD.mk | exact KD.mkN
      ·intro tm hr
       simp [AllL, rdV] at hr
       simp [hr, nth_d e7, ← e8, ← e9]
       intros; first | exact KD.mk | exact KD.mkN
      ·intro tm hr
       simp [AllL, rdV] at hr
       simp [hr, nth_d e7, ← e8, ← e9]
       intros; first | exact KD.mk | exact KD.mkN
      ·intro tm hr
       simp [AllL, rdV] at hr
       simp [hr, nth_d e7, ← e8, ← e9]
       intros; first | exact KD.mk | exact KD.mkN
      ·intro tm hr
       simp [AllL, rdV] at hr
       simp [hr, nth_d e7, ← e8, ← e9]
       intros; first | exact KD.mk | exact KD.mkN
      ·intro tm hr
       simp [AllL, rdV] at hr
       simp [hr, nth_d e7, ← e8, ← e9]
       intros; first | exact KD.mk | exact KD.mkN
      ·intro tm hr
       simp [AllL, rdV] at hr
       simp [hr, nth_d e7, ← e8, ← e9]
       intros; first | exact KD.mk | exact KD.mkN
      ·intro tm hr
       simp [AllL, rdV] at hr
       simp [hr, nth_d e7, ← e8, ← e9]
       intros; first | exact KD.mk | exact KD.mkN
      ·intro tm hr
       simp [AllL, rdV] at hr
       simp [hr, nth_d e7, ← e8, ← e9]
       intros; first | exact KD.mk | exact KD.mkN
      ·intro tm hr
       simp [AllL, rdV] at hr
       simp [hr, nth_d e7, ← e8, ← e9]
       intros; first | exact KD.mk | exact KD.mkN
      ·intro tm hr
       simp [AllL, rdV] at hr
       simp [hr, nth_d e7, ← e8, ← e9]
       intros; first | exact KD.mk | exact KD.mkN
      ·intro tm hr
       simp [AllL, rdV] at hr
       simp [hr, nth_d e7, ← e8, ← e9]
       intros; first | exact KD.mk | exact KD.mkN
      ·intro tm hr
       simp [AllL, rdV] at hr
       simp [hr, nth_d e7, ← e8, ← e9]
       intros; first | exact KD.mk | exact KD.mkN
      ·intro tm hr
       simp [AllL, rdV] at hr
       simp [hr, nth_d e7, ← e8, ← e9]
       intros; first | exact KD.mk | exact KD.mkN
      ·intro tm hr
       simp [AllL, rdV] at hr
       simp [hr, nth_d e7, ← e8, ← e9]
       intros; first | exact KD.mk | exact KD.mkN
      ·intro tm hr
       simp [AllL, rdV] at hr
       simp [hr, nth_d e7, ← e8, ← e9]
       intros; first | exact KD.mk | exact KD.mkN
      ·intro tm hr
       simp [AllL, rdV] at hr
       simp [hr, nth_d e7, ← e8, ← e9]
       intros; first | exact KD.mk | exact KD.mkN
      ·intro tm hr
       simp [AllL, rdV] at hr
       simp [hr, nth_d e7, ← e8, ← e9]
       intros; first | exact KD.mk | exact KD.mkN
      ·intro tm hr
       simp [AllL, rdV] at hr
       simp [hr, nth_d e7, ← e8, ← e9]
       intros; first | exact KD.mk | exact KD.mkN
      ·intro tm hr
       simp [AllL, rdV] at hr
       simp [hr, nth_d e7, ← e8, ← e9]
       intros; first | exact KD.mk | exact KD.mkN
      ·intro tm hr
       simp [AllL, rdV] at hr
       simp [hr, nth_d e7, ← e8, ← e9]
       intros; first | exact KD.mk | exact KD.mkN
      ·intro tm hr
       simp [AllL, rdV] at hr
       simp [hr, nth_d e7, ← e8, ← e9]
       intros; first | exact KD.mk | exact KD.mkN
      ·intro tm hr
       simp [AllL, rdV] at hr
       simp [hr, nth_d e7, ← e8, ← e9]
       intros; first | exact KD.mk | exact KD.mkN
      ·intro tm hr
       simp [AllL, rdV] at hr
       simp [hr, nth_d e7, ← e8, ← e9]
       intros; first | exact KD.mk | exact KD.mkN
      ·intro tm hr
       simp [AllL, rdV] at hr
       simp [hr, nth_d e7, ← e8, ← e9]
       intros; first | exact KD.mk | exact KD.mkN
      ·intro tm hr
       simp [AllL, rdV] at hr
       simp [hr, nth_d e7, ← e8, ← e9]
       intros; first | exact KD.mk | exact KD.mkN
      ·intro tm hr
       simp [AllL, rdV] at hr
       simp [hr, nth_d e7, ← e8, ← e9]
       intros; first | exact KD.mk | exact KD.mkN
      ·intro tm hr
       simp [AllL, rdV] at hr
       simp [hr, nth_d e7, ← e8, ← e9]
       intros; first | exact KD.mk | exact KD.mkN
      ·intro tm hr
       simp [AllL, rdV] at hr
       simp [hr, nth_d e7, ← e8, ← e9]
       intros; first | exact KD.mk | exact KD.mkN
      ·intro tm hr
       simp [AllL, rdV] at hr
       simp [hr, nth_d e7, ← e8, ← e9]
       intros; first | exact KD.mk | exact KD.mkN
      ·intro tm hr
       simp [AllL, rdV] at hr
       simp [hr, nth_d e7, ← e8, ← e9]
       intros; first | exact KD.mk | exact KD.mkN
     ·rfl
     ·simp [tmD, putD, nth_d e7, ← e8, ← e9]; rfl
     ·simp [nth_d e7, ← e8, ← e9]
      intros; rfl
     obtain rfl := Option.some.inj h
     refine nP_i ?_
     refine Weak.mixN [] hn0 (by decide) ?_ ?_ rfl
     all_goals first | (simp [inv_cons, inv_nil, pickOb]; done) | rfl
    | false =>
     replace h := iteF rfl h
     replace h := bnE h; obtain ⟨v10, e10, h⟩ := h
     replace h := ltE h; obtain ⟨v11, e11, h⟩ := h
     cases v11 with
     | true =>
      replace h := iteT rfl h
      apply AW.drawnR (V := [_, _, _, _, _, _, _, _, _, _, _, _, _, _, _, _, _, _, _, _, _, _, _, _, _, _, _, _, _, _, _]) mixed [⟨[0], [], [(0, none)], false⟩, ⟨[0], [], [(3, none)], false⟩, ⟨[0], [0, 1], [(10, some 0), (11, some 1)], false⟩, ⟨[0], [0, 1, 2], [(12, some 2)], false⟩, ⟨[0], [0, 1, 2, 3], [(13, some 3)], false⟩, ⟨[0], [0, 1, 2, 3, 4], [(14, some 4)], false⟩, ⟨[0], [0, 1, 2, 3, 4, 5], [(15, some 5)], false⟩, ⟨[0], [0, 1, 2, 3, 4, 5, 6], [(16, some 6)], false⟩, ⟨[0], [0, 1, 2, 3, 4, 5, 6, 7], [(0, none), (17, some 7)], false⟩, ⟨[0], [0, 1, 2, 3, 4, 5, 6, 7], [(3, none), (17, some 7)], false⟩, ⟨[0], [0, 1, 2, 3, 4, 5, 6, 7, 8, 9], [(17, some 7), (18, some 8), (19, some 9)], false⟩, ⟨[0], [0, 1, 2, 3, 4, 5, 6, 7, 8, 9, 10], [(17, some 7), (20, some 10)], false⟩, ⟨[0], [0, 1, 2, 3, 4, 5, 6, 7, 8, 9, 10, 11], [(17, some 7), (21, some 11)], false⟩, ⟨[0], [0, 1, 2, 3, 4, 5, 6, 7, 8, 9, 10, 11, 12], [(17, some 7), (22, some 12)], false⟩, ⟨[0], [0, 1, 2, 3, 4, 5, 6, 7, 8, 9, 10, 11, 12, 13], [(17, some 7), (23, some 13)], false⟩, ⟨[0], [0, 1, 2, 3, 4, 5, 6, 7, 8, 9, 10, 11, 12, 13, 14], [(17, some 7), (24, some 14)], false⟩, ⟨[0], [0, 1, 2, 3, 4, 5, 6, 7, 8, 9, 10, 11, 12, 13, 14, 15], [(25, some 15)], false⟩, ⟨[0], [0, 1, 2, 3, 4, 5, 6, 7, 8, 9, 10, 11, 12, 13, 14, 15, 16], [(3, none), (26, some 16)], false⟩, ⟨[0], [0, 1, 2, 3, 4, 5, 6, 7, 8, 9, 10, 11, 12, 13, 14, 15, 16, 17], [(26, some 16), (27, some 17)], false⟩, ⟨[0], [0, 1, 2, 3, 4, 5, 6, 7, 8, 9, 10, 11, 12, 13, 14, 15, 16, 17, 18], [(26, some 16), (28, some 18)], false⟩, ⟨[0], [0, 1, 2, 3, 4, 5, 6, 7, 8, 9, 10, 11, 12, 13, 14, 15, 16, 17, 18, 19], [(0, none), (29, some 19)], false⟩, ⟨[0], [0, 1, 2, 3, 4, 5, 6, 7, 8, 9, 10, 11, 12, 13, 14, 15, 16, 17, 18, 19], [(3, none), (29, some 19)], false⟩, ⟨[0], [0, 1, 2, 3, 4, 5, 6, 7, 8, 9, 10, 11, 12, 13, 14, 15, 16, 17, 18, 19, 21], [(29, some 19), (31, some 21)], false⟩, ⟨[0], [0, 1, 2, 3, 4, 5, 6, 7, 8, 9, 10, 11, 12, 13, 14, 15, 16, 17, 18, 19, 20, 21, 22], [(29, some 19), (30, some 20), (32, some 22)], false⟩, ⟨[0], [0, 1, 2, 3, 4, 5, 6, 7, 8, 9, 10, 11, 12, 13, 14, 15, 16, 17, 18, 19, 20, 21, 22, 23], [(29, some 19), (33, some 23)], false⟩, ⟨[0], [0, 1, 2, 3, 4, 5, 6, 7, 8, 9, 10, 11, 12, 13, 14, 15, 16, 17, 18, 19, 20, 21, 22, 23, 24], [(29, some 19), (34, some 24)], false⟩, ⟨[0], [0, 1, 2, 3, 4, 5, 6, 7, 8, 9, 10, 11, 12, 13, 14, 15, 16, 17, 18, 19], [(0, none), (29, some 19)], false⟩, ⟨[0], [0, 1, 2, 3, 4, 5, 6, 7, 8, 9, 10, 11, 12, 13, 14, 15, 16, 17, 18, 19], [(3, none), (29, some 19)], false⟩, ⟨[0], [0, 1, 2, 3, 4, 5, 6, 7, 8, 9, 10, 11, 12, 13, 14, 15, 16, 17, 18, 19, 26, 27], [(29, some 19), (36, some 26), (37, some 27)], false⟩, ⟨[0], [0, 1, 2, 3, 4, 5, 6, 7, 8, 9, 10, 11, 12, 13, 14, 15, 16, 17, 18, 19, 26, 27, 28], [(29, some 19), (38, some 28)], false⟩, ⟨[0], [0, 1, 2, 3, 4, 5, 6, 7, 8, 9, 10, 11, 12, 13, 14, 15, 16, 17, 18, 19, 26, 27, 28, 29], [(29, some 19), (39, some 29)], false⟩, ⟨[], [0, 1, 2, 3, 4, 5, 6, 7, 8, 9, 10, 11, 12, 13, 14, 15, 16, 17, 18, 19, 20, 21, 22, 23, 24, 25, 26, 27, 28, 29, 30], [], false⟩, ⟨[], [0, 1, 2, 3, 4, 5, 6, 7, 8, 9, 10, 11, 12, 13, 14, 15, 16, 17, 18, 19, 20, 21, 22, 23, 24, 25, 26, 27, 28, 29, 30, 31], [], false⟩, ⟨[], [0, 1, 2, 3, 4, 5, 6, 7, 8, 9, 10, 11, 12, 13, 14, 15, 16, 17, 18, 19, 20, 21, 22, 23, 24, 25, 26, 27, 28, 29, 30, 31, 32], [], false⟩] 31 (by kernel_rfl) (by kernel_rfl)
      ·refine ⟨?_, ?_, ?_, ?_, ?_, ?_, ?_, ?_, ?_, ?_, ?_, ?_, ?_, ?_, ?_, ?_, ?_, ?_, ?_, ?_, ?_, ?_, ?_, ?_, ?_, ?_, ?_, ?_, ?_, ?_, ?_, trivial⟩
       ·intro tm hr
        simp [AllL, rdV] at hr
        simp [hr, nth_d e7, ← e8, ← e9, ← e11]
        intros; first | exact KD.mk | exact KD.mkN
       ·intro tm hr
        simp [AllL, rdV] at hr
        simp [hr, nth_d e7, ← e8, ← e9, ← e11]
        intros; first | exact KD.mk | exact KD.mkN
       ·intro tm hr
        simp [AllL, rdV] at hr
        simp [hr, nth_d e7, ← e8, ← e9, ← e11]
        intros; first | exact KD.mk | exact KD.mkN
       ·intro tm hr
        simp [AllL, rdV] at hr
        simp [hr, nth_d e7, ← e8, ← e9, ← e11]
        intros; first | exact KD.mk | exact KD.mkN
       ·intro tm hr
        simp [AllL, rdV] at hr
        simp [hr, nth_d e7, ← e8, ← e9, ← e11]
        intros; first | exact KD.mk | exact KD.mkN
       ·intro tm hr
        simp [AllL, rdV] at hr
        simp [hr, nth_d e7, ← e8, ← e9, ← e11]
        intros; first | exact KD.mk | exact KD.mkN
       ·intro tm hr
        simp [AllL, rdV] at hr
        simp [hr, nth_d e7, ← e8, ← e9, ← e11]
        intros; first | exact KD.mk | exact KD.mkN
       ·intro tm hr
        simp [AllL, rdV] at hr
        simp [hr, nth_d e7, ← e8, ← e9, ← e11]
        intros; first | exact KD.mk | exact KD.mkN
       ·intro tm hr
        simp [AllL, rdV] at hr
        simp [hr, nth_d e7, ← e8, ← e9, ← e11]
        intros; first | exact KD.mk | exact KD.mkN
       ·intro tm hr
        simp [AllL, rdV] at hr
        simp [hr, nth_d e7, ← e8, ← e9, ← e11]
        intros; first | exact KD.mk | exact KD.mkN
       ·intro tm hr
        simp [AllL, rdV] at hr
        simp [hr, nth_d e7, ← e8, ← e9, ← e11]
        intros; first | exact KD.mk | exact KD.mkN
       ·intro tm hr
        simp [AllL, rdV] at hr
        simp [hr, nth_d e7, ← e8, ← e9, ← e11]
        intros; first | exact KD.mk | exact KD.mkN
       ·intro tm hr
        simp [AllL, rdV] at hr
        simp [hr, nth_d e7, ← e8, ← e9, ← e11]
        intros; first | exact KD.mk | exact KD.mkN
       ·intro tm hr
        simp [AllL, rdV] at hr
        simp [hr, nth_d e7, ← e8, ← e9, ← e11]
        intros
        refine xcall_plain en_r5_MayItem (s_r5_MayItem e10) rfl ⟨.same rfl, trivial⟩ ?_
        try simp [nth_d e7, ← e8, ← e9, ← e11]
        intros; first | exact KD.mk | exact KD.mkN
       ·intro tm hr
        simp [AllL, rdV] at hr
        simp [hr, nth_d e7, ← e8, ← e9, ← e11]
        intros; first | exact KD.mk | exact KD.mkN
       ·intro tm hr
        simp [AllL, rdV] at hr
        simp [hr, nth_d e7, ← e8, ← e9, ← e11]
        intros; first | exact KD.mk | exact KD.mkN
       ·intro tm hr
        simp [AllL, rdV] at hr
        simp [hr, nth_d e7, ← e8, ← e9, ← e11]
        intros; first | exact KD.mk | exact KD.mkN
       ·intro tm hr
        simp [AllL, rdV] at hr
        simp [hr, nth_d e7, ← e8, ← e9, ← e11]
        intros; first | exact KD.mk | exact KD.mkN
       ·intro tm hr
        simp [AllL, rdV] at hr
        simp [hr, nth_d e7, ← e8, ← e9, ← e11]
        intros; first | exact KD.mk | exact KD.mkN
       ·intro tm hr
        simp [AllL, rdV] at hr
        simp [hr, nth_d e7, ← e8, ← e9, ← e11]
        intros; first | exact KD.mk | exact KD.mkN
       ·intro tm hr
        simp [AllL, rdV] at hr
        simp [hr, nth_d e7, ← e8, ← e9, ← e11]
        intros; first | exact KD.mk | exact KD.mkN
       ·intro tm hr
        simp [AllL, rdV] at hr
        simp [hr, nth_d e7, ← e8, ← e9, ← e11]
        intros; first | exact KD.mk | exact KD.mkN
       ·intro tm hr
        simp [AllL, rdV] at hr
        simp [hr, nth_d e7, ← e8, ← e9, ← e11]
        intros; first | exact KD.mk | exact KD.mkN
       ·intro tm hr
        simp [AllL, rdV] at hr
        simp [hr, nth_d e7, ← e8, ← e9, ← e11]
        intros; first | exact KD.mk | exact KD.mkN
       ·intro tm hr
        simp [AllL, rdV] at hr
        simp [hr, nth_d e7, ← e8, ← e9, ← e11]
        intros; first | exact KD.mk | exact KD.mkN
       ·intro tm hr
        simp [AllL, rdV] at hr
        simp [hr, nth_d e7, ← e8, ← e9, ← e11]
        intros; first | exact KD.mk | exact KD.mkN
       ·intro tm hr
        simp [AllL, rdV] at hr
        simp [hr, nth_d e7, ← e8, ← e9, ← e11]
        intros; first | exact KD.mk | exact KD.mkN
       ·intro tm hr
        simp [AllL, rdV] at hr
        simp [hr, nth_d e7, ← e8, ← e9, ← e11]
        intros; first | exact KD.mk | exact KD.mkN
       ·intro tm hr
        simp [AllL, rdV] at hr
        simp [hr, nth_d e7, ← e8, ← e9, ← e11]
        intros; first | exact KD.mk | exact KD.mkN
       ·intro tm hr
        simp [AllL, rdV] at hr
        simp [hr, nth_d e7, ← e8, ← e9, ← e11]
        intros; first | exact KD.mk | exact KD.mkN
       ·intro tm hr
        simp [AllL, rdV] at hr
        simp [hr, nth_d e7, ← e8, ← e9, ← e11]
        intros; first | exact KD.mk | exact KD.mkN
      ·rfl
      ·simp [tmD, putD, nth_d e7, ← e8, ← e9, ← e11]; rfl
      ·simp [nth_d e7, ← e8, ← e9, ← e11]
       intros; rfl
      obtain rfl := Option.some.inj h
      refine nP_i ?_
      refine Weak.mixN [] hn0 (by decide) ?_ ?_ rfl
      all_goals first | (simp [inv_cons, inv_nil, pickOb]; done) | rfl
     | false =>
      replace h := iteF rfl h
      replace h := ltE h; obtain ⟨v12, e12, h⟩ := h
      cases v12 with
      | true =>
       replace h := iteT rfl h
       replace h := ltE h; obtain ⟨v13, e13, h⟩ := h
       replace h := bnE h; obtain ⟨v14, e14, h⟩ := h
       replace h := ltE h; obtain ⟨v15, e15, h⟩ := h
       apply AW.drawnR (V := [_, _, _, _, _, _, _, _, _, _, _, _, _, _, _, _, _, _, _, _, _, _, _, _, _, _, _, _, _, _, _]) mixed [⟨[0], [], [(0, none)], false⟩, ⟨[0], [], [(3, none)], false⟩, ⟨[0], [0, 1], [(10, some 0), (11, some 1)], false⟩, ⟨[0], [0, 1, 2], [(12, some 2)], false⟩, ⟨[0], [0, 1, 2, 3], [(13, some 3)], false⟩, ⟨[0], [0, 1, 2, 3, 4], [(14, some 4)], false⟩, ⟨[0], [0, 1, 2, 3, 4, 5], [(15, some 5)], false⟩, ⟨[0], [0, 1, 2, 3, 4, 5, 6], [(16, some 6)], false⟩, ⟨[0], [0, 1, 2, 3, 4, 5, 6, 7], [(0, none), (17, some 7)], false⟩, ⟨[0], [0, 1, 2, 3, 4, 5, 6, 7], [(3, none), (17, some 7)], false⟩, ⟨[0], [0, 1, 2, 3, 4, 5, 6, 7, 8, 9], [(17, some 7), (18, some 8), (19, some 9)], false⟩, ⟨[0], [0, 1, 2, 3, 4, 5, 6, 7, 8, 9, 10], [(17, some 7), (20, some 10)], false⟩, ⟨[0], [0, 1, 2, 3, 4, 5, 6, 7, 8, 9, 10, 11], [(17, some 7), (21, some 11)], false⟩, ⟨[0], [0, 1, 2, 3, 4, 5, 6, 7, 8, 9, 10, 11, 12], [(17, some 7), (22, some 12)], false⟩, ⟨[0], [0, 1, 2, 3, 4, 5, 6, 7, 8, 9, 10, 11, 12, 13], [(17, some 7), (23, some 13)], false⟩, ⟨[0], [0, 1, 2, 3, 4, 5, 6, 7, 8, 9, 10, 11, 12, 13, 14], [(17, some 7), (24, some 14)], false⟩, ⟨[0], [0, 1, 2, 3, 4, 5, 6, 7, 8, 9, 10, 11, 12, 13, 14, 15], [(25, some 15)], false⟩, ⟨[0], [0, 1, 2, 3, 4, 5, 6, 7, 8, 9, 10, 11, 12, 13, 14, 15, 16], [(3, none), (26, some 16)], false⟩, ⟨[0], [0, 1, 2, 3, 4, 5, 6, 7, 8, 9, 10, 11, 12, 13, 14, 15, 16, 17], [(26, some 16), (27, some 17)], false⟩, ⟨[0], [0, 1, 2, 3, 4, 5, 6, 7, 8, 9, 10, 11, 12, 13, 14, 15, 16, 17, 18], [(26, some 16), (28, some 18)], false⟩, ⟨[0], [0, 1, 2, 3, 4, 5, 6, 7, 8, 9, 10, 11, 12, 13, 14, 15, 16, 17, 18, 19], [(0, none), (29, some 19)], false⟩, ⟨[0], [0, 1, 2, 3, 4, 5, 6, 7, 8, 9, 10, 11, 12, 13, 14, 15, 16, 17, 18, 19], [(3, none), (29, some 19)], false⟩, ⟨[0], [0, 1, 2, 3, 4, 5, 6, 7, 8, 9, 10, 11, 12, 13, 14, 15, 16, 17, 18, 19, 21], [(29, some 19), (31, some 21)], false⟩, ⟨[0], [0, 1, 2, 3, 4, 5, 6, 7, 8, 9, 10, 11, 12, 13, 14, 15, 16, 17, 18, 19, 20, 21, 22], [(29, some 19), (30, some 20), (32, some 22)], false⟩, ⟨[0], [0, 1, 2, 3, 4, 5, 6, 7, 8, 9, 10, 11, 12, 13, 14, 15, 16, 17, 18, 19, 20, 21, 22, 23], [(29, some 19), (33, some 23)], false⟩, ⟨[0], [0, 1, 2, 3, 4, 5, 6, 7, 8, 9, 10, 11, 12, 13, 14, 15, 16, 17, 18, 19, 20, 21, 22, 23, 24], [(29, some 19), (34, some 24)], false⟩, ⟨[0], [0, 1, 2, 3, 4, 5, 6, 7, 8, 9, 10, 11, 12, 13, 14, 15, 16, 17, 18, 19], [(0, none), (29, some 19)], false⟩, ⟨[0], [0, 1, 2, 3, 4, 5, 6, 7, 8, 9, 10, 11, 12, 13, 14, 15, 16, 17, 18, 19], [(3, none), (29, some 19)], false⟩, ⟨[0], [0, 1, 2, 3, 4, 5, 6, 7, 8, 9, 10, 11, 12, 13, 14, 15, 16, 17, 18, 19, 26, 27], [(29, some 19), (36, some 26), (37, some 27)], false⟩, ⟨[0], [0, 1, 2, 3, 4, 5, 6, 7, 8, 9, 10, 11, 12, 13, 14, 15, 16, 17, 18, 19, 26, 27, 28], [(29, some 19), (38, some 28)], false⟩, ⟨[0], [0, 1, 2, 3, 4, 5, 6, 7, 8, 9, 10, 11, 12, 13, 14, 15, 16, 17, 18, 19, 26, 27, 28, 29], [(29, some 19), (39, some 29)], false⟩, ⟨[], [0, 1, 2, 3, 4, 5, 6, 7, 8, 9, 10, 11, 12, 13, 14, 15, 16, 17, 18, 19, 20, 21, 22, 23, 24, 25, 26, 27, 28, 29, 30], [], false⟩, ⟨[], [0, 1, 2, 3, 4, 5, 6, 7, 8, 9, 10, 11, 12, 13, 14, 15, 16, 17, 18, 19, 20, 21, 22, 23, 24, 25, 26, 27, 28, 29, 30, 31], [], false⟩, ⟨[], [0, 1, 2, 3, 4, 5, 6, 7, 8, 9, 10, 11, 12, 13, 14, 15, 16, 17, 18, 19, 20, 21, 22, 23, 24, 25, 26, 27, 28, 29, 30, 31, 32], [], false⟩] 31 (by kernel_rfl) (by kernel_rfl)
       ·refine ⟨?_, ?_, ?_, ?_, ?_, ?_, ?_, ?_, ?_, ?_, ?_, ?_, ?_, ?_, ?_, ?_, ?_, ?_, ?_, ?_, ?_, ?_, ?_, ?_, ?_, ?_, ?_, ?_, ?_, ?_, ?_, trivial⟩
        ·intro tm hr
         simp [AllL, rdV] at hr
         simp [hr, nth_d e7, ← e8, ← e9, ← e11, ← e12, ← e13, nth_d e14, ← e15]
         intros; first | exact KD.mk | exact KD.mkN
        ·intro tm hr
         simp [AllL, rdV] at hr
         simp [hr, nth_d e7, ← e8, ← e9, ← e11, ← e12, ← e13, nth_d e14, ← e15]
         intros; first | exact KD.mk | exact KD.mkN
        ·intro tm hr
         simp [AllL, rdV] at hr
         simp [hr, nth_d e7, ← e8, ← e9, ← e11, ← e12, ← e13, nth_d e14, ← e15]
         intros; first | exact KD.mk | exact KD.mkN
        ·intro tm hr
         simp [AllL, rdV] at hr
         simp [hr, nth_d e7, ← e8, ← e9, ← e11, ← e12, ← e13, nth_d e14, ← e15]
         intros; first | exact KD.mk | exact KD.mkN
        ·intro tm hr
         simp [AllL, rdV] at hr
         simp [hr, nth_d e7, ← e8, ← e9, ← e11, ← e12, ← e13, nth_d e14, ← e15]
         intros; first | exact KD.mk | exact KD.mkN
        ·intro tm hr
         simp [AllL, rdV] at hr
         simp [hr, nth_d e7, ← e8, ← e9, ← e11, ← e12, ← e13, nth_d e14, ← e15]
         intros; first | exact KD.mk | exact KD.mkN
        ·intro tm hr
         simp [AllL, rdV] at hr
         simp [hr, nth_d e7, ← e8, ← e9, ← e11, ← e12, ← e13, nth_d e14, ← e15]
         intros; first | exact KD.mk | exact KD.mkN
        ·intro tm hr
         simp [AllL, rdV] at hr
         simp [hr, nth_d e7, ← e8, ← e9, ← e11, ← e12, ← e13, nth_d e14, ← e15]
         intros; first | exact KD.mk | exact KD.mkN
        ·intro tm hr
         simp [AllL, rdV] at hr
         simp [hr, nth_d e7, ← e8, ← e9, ← e11, ← e12, ← e13, nth_d e14, ← e15]
         intros; first | exact KD.mk | exact KD.mkN
        ·intro tm hr
         simp [AllL, rdV] at hr
         simp [hr, nth_d e7, ← e8, ← e9, ← e11, ← e12, ← e13, nth_d e14, ← e15]
         intros; first | exact KD.mk | exact KD.mkN
        ·intro tm hr
         simp [AllL, rdV] at hr
         simp [hr, nth_d e7, ← e8, ← e9, ← e11, ← e12, ← e13, nth_d e14, ← e15]
         intros; first | exact KD.mk | exact KD.mkN
        ·intro tm hr
         simp [AllL, rdV] at hr
         simp [hr, nth_d e7, ← e8, ← e9, ← e11, ← e12, ← e13, nth_d e14, ← e15]
         intros; first | exact KD.mk | exact KD.mkN
        ·intro tm hr
         simp [AllL, rdV] at hr
         simp [hr, nth_d e7, ← e8, ← e9, ← e11, ← e12, ← e13, nth_d e14, ← e15]
         intros; first | exact KD.mk | exact KD.mkN
        ·intro tm hr
         simp [AllL, rdV] at hr
         simp [hr, nth_d e7, ← e8, ← e9, ← e11, ← e12, ← e13, nth_d e14, ← e15]
         intros
         refine xcall_plain en_r5_MayItem (s_r5_MayItem e10) rfl ⟨.same rfl, trivial⟩ ?_
         try simp [nth_d e7, ← e8, ← e9, ← e11, ← e12, ← e13, nth_d e14, ← e15]
         intros; first | exact KD.mk | exact KD.mkN
        ·intro tm hr
         simp [AllL, rdV] at hr
         simp [hr, nth_d e7, ← e8, ← e9, ← e11, ← e12, ← e13, nth_d e14, ← e15]
         intros; first | exact KD.mk | exact KD.mkN
        ·intro tm hr
         simp [AllL, rdV] at hr
         simp [hr, nth_d e7, ← e8, ← e9, ← e11, ← e12, ← e13, nth_d e14, ← e15]
         intros; first | exact KD.mk | exact KD.mkN
        ·intro tm hr
         simp [AllL, rdV] at hr
         simp [hr, nth_d e7, ← e8, ← e9, ← e11, ← e12, ← e13, nth_d e14, ← e15]
         intros; first | exact KD.mk | exact KD.mkN
        ·intro tm hr
         simp [AllL, rdV] at hr
         simp [hr, nth_d e7, ← e8, ← e9, ← e11, ← e12, ← e13, nth_d e14, ← e15]
         intros; first | exact KD.mk | exact KD.mkN
        ·intro tm hr
         simp [AllL, rdV] at hr
         simp [hr, nth_d e7, ← e8, ← e9, ← e11, ← e12, ← e13, nth_d e14, ← e15]
         intros; first | exact KD.mk | exact KD.mkN
        ·intro tm hr
         simp [AllL, rdV] at hr
         simp [hr, nth_d e7, ← e8, ← e9, ← e11, ← e12, ← e13, nth_d e14, ← e15]
         intros; first | exact KD.mk | exact KD.mkN
        ·intro tm hr
         simp [AllL, rdV] at hr
         simp [hr, nth_d e7, ← e8, ← e9, ← e11, ← e12, ← e13, nth_d e14, ← e15]
         intros; first | exact KD.mk | exact KD.mkN
        ·intro tm hr
         simp [AllL, rdV] at hr
         simp [hr, nth_d e7, ← e8, ← e9, ← e11, ← e12, ← e13, nth_d e14, ← e15]
         intros; first | exact KD.mk | exact KD.mkN
        ·intro tm hr
         simp [AllL, rdV] at hr
         simp [hr, nth_d e7, ← e8, ← e9, ← e11, ← e12, ← e13, nth_d e14, ← e15]
         intros; first | exact KD.mk | exact KD.mkN
        ·intro tm hr
         simp [AllL, rdV] at hr
         simp [hr, nth_d e7, ← e8, ← e9, ← e11, ← e12, ← e13, nth_d e14, ← e15]
         intros; first | exact KD.mk | exact KD.mkN
        ·intro tm hr
         simp [AllL, rdV] at hr
         simp [hr, nth_d e7, ← e8, ← e9, ← e11, ← e12, ← e13, nth_d e14, ← e15]
         intros; first | exact KD.mk | exact KD.mkN
        ·intro tm hr
         simp [AllL, rdV] at hr
         simp [hr, nth_d e7, ← e8, ← e9, ← e11, ← e12, ← e13, nth_d e14, ← e15]
         intros; first | exact KD.mk | exact KD.mkN
        ·intro tm hr
         simp [AllL, rdV] at hr
         simp [hr, nth_d e7, ← e8, ← e9, ← e11, ← e12, ← e13, nth_d e14, ← e15]
         intros; first | exact KD.mk | exact KD.mkN
        ·intro tm hr
         simp [AllL, rdV] at hr
         simp [hr, nth_d e7, ← e8, ← e9, ← e11, ← e12, ← e13, nth_d e14, ← e15]
         intros; first | exact KD.mk | exact KD.mkN
        ·intro tm hr
         simp [AllL, rdV] at hr
         simp [hr, nth_d e7, ← e8, ← e9, ← e11, ← e12, ← e13, nth_d e14, ← e15]
         intros; first | exact KD.mk | exact KD.mkN
        ·intro tm hr
         simp [AllL, rdV] at hr
         simp [hr, nth_d e7, ← e8, ← e9, ← e11, ← e12, ← e13, nth_d e14, ← e15]
         intros; first | exact KD.mk | exact KD.mkN
        ·intro tm hr
         simp [AllL, rdV] at hr
         simp [hr, nth_d e7, ← e8, ← e9, ← e11, ← e12, ← e13, nth_d e14, ← e15]
         intros; first | exact KD.mk | exact KD.mkN
       ·rfl
       ·simp [tmD, putD, nth_d e7, ← e8, ← e9, ← e11, ← e12, ← e13, nth_d e14, ← e15]; rfl
       ·simp [nth_d e7, ← e8, ← e9, ← e11, ← e12, ← e13, nth_d e14, ← e15]
        intros; rfl
       obtain rfl := Option.some.inj h
       refine nP_i ?_
       refine Weak.mixN [] hn0 (by decide) ?_ ?_ rfl
       all_goals first | (simp [inv_cons, inv_nil, pickOb]; done) | rfl
      | false =>
       replace h := iteF rfl h
       apply AW.drawnR (V := [_, _, _, _, _, _, _, _, _, _, _, _, _, _, _, _, _, _, _, _, _, _, _, _, _, _, _, _, _, _, _]) mixed [⟨[0], [], [(0, none)], false⟩, ⟨[0], [], [(3, none)], false⟩, ⟨[0], [0, 1], [(10, some 0), (11, some 1)], false⟩, ⟨[0], [0, 1, 2], [(12, some 2)], false⟩, ⟨[0], [0, 1, 2, 3], [(13, some 3)], false⟩, ⟨[0], [0, 1, 2, 3, 4], [(14, some 4)], false⟩, ⟨[0], [0, 1, 2, 3, 4, 5], [(15, some 5)], false⟩, ⟨[0], [0, 1, 2, 3, 4, 5, 6], [(16, some 6)], false⟩, ⟨[0], [0, 1, 2, 3, 4, 5, 6, 7], [(0, none), (17, some 7)], false⟩, ⟨[0], [0, 1, 2, 3, 4, 5, 6, 7], [(3, none), (17, some 7)], false⟩, ⟨[0], [0, 1, 2, 3, 4, 5, 6, 7, 8, 9], [(17, some 7), (18, some 8), (19, some 9)], false⟩, ⟨[0], [0, 1, 2, 3, 4, 5, 6, 7, 8, 9, 10], [(17, some 7), (20, some 10)], false⟩, ⟨[0], [0, 1, 2, 3, 4, 5, 6, 7, 8, 9, 10, 11], [(17, some 7), (21, some 11)], false⟩, ⟨[0], [0, 1, 2, 3, 4, 5, 6, 7, 8, 9, 10, 11, 12], [(17, some 7), (22, some 12)], false⟩, ⟨[0], [0, 1, 2, 3, 4, 5, 6, 7, 8, 9, 10, 11, 12, 13], [(17, some 7), (23, some 13)], false⟩, ⟨[0], [0, 1, 2, 3, 4, 5, 6, 7, 8, 9, 10, 11, 12, 13, 14], [(17, some 7), (24, some 14)], false⟩, ⟨[0], [0, 1, 2, 3, 4, 5, 6, 7, 8, 9, 10, 11, 12, 13, 14, 15], [(25, some 15)], false⟩, ⟨[0], [0, 1, 2, 3, 4, 5, 6, 7, 8, 9, 10, 11, 12, 13, 14, 15, 16], [(3, none), (26, some 16)], false⟩, ⟨[0], [0, 1, 2, 3, 4, 5, 6, 7, 8, 9, 10, 11, 12, 13, 14, 15, 16, 17], [(26, some 16), (27, some 17)], false⟩, ⟨[0], [0, 1, 2, 3, 4, 5, 6, 7, 8, 9, 10, 11, 12, 13, 14, 15, 16, 17, 18], [(26, some 16), (28, some 18)], false⟩, ⟨[0], [0, 1, 2, 3, 4, 5, 6, 7, 8, 9, 10, 11, 12, 13, 14, 15, 16, 17, 18, 19], [(0, none), (29, some 19)], false⟩, ⟨[0], [0, 1, 2, 3, 4, 5, 6, 7, 8, 9, 10, 11, 12, 13, 14, 15, 16, 17, 18, 19], [(3, none), (29, some 19)], false⟩, ⟨[0], [0, 1, 2, 3, 4, 5, 6, 7, 8, 9, 10, 11, 12, 13, 14, 15, 16, 17, 18, 19, 21], [(29, some 19), (31, some 21)], false⟩, ⟨[0], [0, 1, 2, 3, 4, 5, 6, 7, 8, 9, 10, 11, 12, 13, 14, 15, 16, 17, 18, 19, 20, 21, 22], [(29, some 19), (30, some 20), (32, some 22)], false⟩, ⟨[0], [0, 1, 2, 3, 4, 5, 6, 7, 8, 9, 10, 11, 12, 13, 14, 15, 16, 17, 18, 19, 20, 21, 22, 23], [(29, some 19), (33, some 23)], false⟩, ⟨[0], [0, 1, 2, 3, 4, 5, 6, 7, 8, 9, 10, 11, 12, 13, 14, 15, 16, 17, 18, 19, 20, 21, 22, 23, 24], [(29, some 19), (34, some 24)], false⟩, ⟨[0], [0, 1, 2, 3, 4, 5, 6, 7, 8, 9, 10, 11, 12, 13, 14, 15, 16, 17, 18, 19], [(0, none), (29, some 19)], false⟩, ⟨[0], [0, 1, 2, 3, 4, 5, 6, 7, 8, 9, 10, 11, 12, 13, 14, 15, 16, 17, 18, 19], [(3, none), (29, some 19)], false⟩, ⟨[0], [0, 1, 2, 3, 4, 5, 6, 7, 8, 9, 10, 11, 12, 13, 14, 15, 16, 17, 18, 19, 26, 27], [(29, some 19), (36, some 26), (37, some 27)], false⟩, ⟨[0], [0, 1, 2, 3, 4, 5, 6, 7, 8, 9, 10, 11, 12, 13, 14, 15, 16, 17, 18, 19, 26, 27, 28], [(29, some 19), (38, some 28)], false⟩, ⟨[0], [0, 1, 2, 3, 4, 5, 6, 7, 8, 9, 10, 11, 12, 13, 14, 15, 16, 17, 18, 19, 26, 27, 28, 29], [(29, some 19), (39, some 29)], false⟩, ⟨[], [0, 1, 2, 3, 4, 5, 6, 7, 8, 9, 10, 11, 12, 13, 14, 15, 16, 17, 18, 19, 20, 21, 22, 23, 24, 25, 26, 27, 28, 29, 30], [], false⟩, ⟨[], [0, 1, 2, 3, 4, 5, 6, 7, 8, 9, 10, 11, 12, 13, 14, 15, 16, 17, 18, 19, 20, 21, 22, 23, 24, 25, 26, 27, 28, 29, 30, 31], [], false⟩, ⟨[], [0, 1, 2, 3, 4, 5, 6, 7, 8, 9, 10, 11, 12, 13, 14, 15, 16, 17, 18, 19, 20, 21, 22, 23, 24, 25, 26, 27, 28, 29, 30, 31, 32], [], false⟩] 31 (by kernel_rfl) (by kernel_rfl)
       ·refine ⟨?_, ?_, ?_, ?_, ?_, ?_, ?_, ?_, ?_, ?_, ?_, ?_, ?_, ?_, ?_, ?_, ?_, ?_, ?_, ?_, ?_, ?_, ?_, ?_, ?_, ?_, ?_, ?_, ?_, ?_, ?_, trivial⟩
        ·intro tm hr
         simp [AllL, rdV] at hr
         simp [hr, nth_d e7, ← e8, ← e9, ← e11, ← e12]
         intros; first | exact KD.mk | exact KD.mkN
        ·intro tm hr
         simp [AllL, rdV] at hr
         simp [hr, nth_d e7, ← e8, ← e9, ← e11, ← e12]
         intros; first | exact KD.mk | exact KD.mkN
        ·intro tm hr
         simp [AllL, rdV] at hr
         simp [hr, nth_d e7, ← e8, ← e9, ← e11, ← e12]
         intros; first | exact KD.mk | exact KD.mkN
        ·intro tm hr
         simp [AllL, rdV] at hr
         simp [hr, nth_d e7, ← e8, ← e9, ← e11, ← e12]
         intros; first | exact KD.mk | exact KD.mkN
        ·intro tm hr
         simp [AllL, rdV] at hr
         simp [hr, nth_d e7, ← e8, ← e9, ← e11, ← e12]
         intros; first | exact KD.mk | exact KD.mkN
        ·intro tm hr
         simp [AllL, rdV] at hr
         simp [hr, nth_d e7, ← e8, ← e9, ← e11, ← e12]
         intros; first | exact KD.mk | exact KD.mkN
        ·intro tm hr
         simp [AllL, rdV] at hr
         simp [hr, nth_d e7, ← e8, ← e9, ← e11, ← e12]
         intros; first | exact KD.mk | exact KD.mkN
        ·intro tm hr
         simp [AllL, rdV] at hr
         simp [hr, nth_d e7, ← e8, ← e9, ← e11, ← e12]
         intros; first | exact KD.mk | exact KD.mkN
        ·intro tm hr
         simp [AllL, rdV] at hr
         simp [hr, nth_d e7, ← e8, ← e9, ← e11, ← e12]
         intros; first | exact KD.mk | exact KD.mkN
        ·intro tm hr
         simp [AllL, rdV] at hr
         simp [hr, nth_d e7, ← e8, ← e9, ← e11, ← e12]
         intros; first | exact KD.mk | exact KD.mkN
        ·intro tm hr
         simp [AllL, rdV] at hr
         simp [hr, nth_d e7, ← e8, ← e9, ← e11, ← e12]
         intros; first | exact KD.mk | exact KD.mkN
        ·intro tm hr
         simp [AllL, rdV] at hr
         simp [hr, nth_d e7, ← e8, ← e9, ← e11, ← e12]
         intros; first | exact KD.mk | exact KD.mkN
        ·intro tm hr
         simp [AllL, rdV] at hr
         simp [hr, nth_d e7, ← e8, ← e9, ← e11, ← e12]
         intros; first | exact KD.mk | exact KD.mkN
        ·intro tm hr
         simp [AllL, rdV] at hr
         simp [hr, nth_d e7, ← e8, ← e9, ← e11, ← e12]
         intros
         refine xcall_plain en_r5_MayItem (s_r5_MayItem e10) rfl ⟨.same rfl, trivial⟩ ?_
         try simp [nth_d e7, ← e8, ← e9, ← e11, ← e12]
         intros; first | exact KD.mk | exact KD.mkN
        ·intro tm hr
         simp [AllL, rdV] at hr
         simp [hr, nth_d e7, ← e8, ← e9, ← e11, ← e12]
         intros; first | exact KD.mk | exact KD.mkN
        ·intro tm hr
         simp [AllL, rdV] at hr
         simp [hr, nth_d e7, ← e8, ← e9, ← e11, ← e12]
         intros; first | exact KD.mk | exact KD.mkN
        ·intro tm hr
         simp [AllL, rdV] at hr
         simp [hr, nth_d e7, ← e8, ← e9, ← e11, ← e12]
         intros; first | exact KD.mk | exact KD.mkN
        ·intro tm hr
         simp [AllL, rdV] at hr
         simp [hr, nth_d e7, ← e8, ← e9, ← e11, ← e12]
         intros; first | exact KD.mk | exact KD.mkN
        ·intro tm hr
         simp [AllL, rdV] at hr
         simp [hr, nth_d e7, ← e8, ← e9, ← e11, ← e12]
         intros; first | exact KD.mk | exact KD.mkN
        ·intro tm hr
         simp [AllL, rdV] at hr
         simp [hr, nth_d e7, ← e8, ← e9, ← e11, ← e12]
         intros; first | exact KD.mk | exact KD.mkN
        ·intro tm hr
         simp [AllL, rdV] at hr
         simp [hr, nth_d e7, ← e8, ← e9, ← e11, ← e12]
         intros; first | exact KD.mk | exact KD.mkN
        ·intro tm hr
         simp [AllL, rdV] at hr
         simp [hr, nth_d e7, ← e8, ← e9, ← e11, ← e12]
         intros; first | exact KD.mk | exact KD.mkN
        ·intro tm hr
         simp [AllL, rdV] at hr
         simp [hr, nth_d e7, ← e8, ← e9, ← e11, ← e12]
         intros; first | exact KD.mk | exact KD.mkN
        ·intro tm hr
         simp [AllL, rdV] at hr
         simp [hr, nth_d e7, ← e8, ← e9, ← e11, ← e12]
         intros; first | exact KD.mk | exact KD.mkN
        ·intro tm hr
         simp [AllL, rdV] at hr
         simp [hr, nth_d e7, ← e8, ← e9, ← e11, ← e12]
         intros; first | exact KD.mk | exact KD.mkN
        ·intro tm hr
         simp [AllL, rdV] at hr
         simp [hr, nth_d e7, ← e8, ← e9, ← e11, ← e12]
         intros; first | exact KD.mk | exact KD.mkN
        ·intro tm hr
         simp [AllL, rdV] at hr
         simp [hr, nth_d e7, ← e8, ← e9, ← e11, ← e12]
         intros; first | exact KD.mk | exact KD.mkN
        ·intro tm hr
         simp [AllL, rdV] at hr
         simp [hr, nth_d e7, ← e8, ← e9, ← e11, ← e12]
         intros; first | exact KD.mk | exact KD.mkN
        ·intro tm hr
         simp [AllL, rdV] at hr
         simp [hr, nth_d e7, ← e8, ← e9, ← e11, ← e12]
         intros; first | exact KD.mk | exact KD.mkN
        ·intro tm hr
         simp [AllL, rdV] at hr
         simp [hr, nth_d e7, ← e8, ← e9, ← e11, ← e12]
         intros; first | exact KD.mk | exact KD.mkN
        ·intro tm hr
         simp [AllL, rdV] at hr
         simp [hr, nth_d e7, ← e8, ← e9, ← e11, ← e12]
         intros; first | exact KD.mk | exact KD.mkN
       ·rfl
       ·simp [tmD, putD, nth_d e7, ← e8, ← e9, ← e11, ← e12]; rfl
       ·simp [nth_d e7, ← e8, ← e9, ← e11, ← e12]
        intros; rfl
       obtain rfl := Option.some.inj h
       refine nP_i ?_
       refine Weak.mixN [] hn0 (by decide) ?_ ?_ rfl
       all_goals first | (simp [inv_cons, inv_nil, pickOb]; done) | rfl
   ·rintro e s hp
    obtain ⟨rfl, hw⟩ := hp
    refine ⟨_, hw, ?_⟩
    try simp only [sp_l, sp_r, Post.seq, Post.block, Nat.reduceEqDiff, reduceIte, Nat.zero_ne_one, Nat.one_ne_zero]
    replace h := ltE h; obtain ⟨v16, e16, h⟩ := h
    rw [← e16]
    cases v16 with
    | true =>
     replace h := iteT rfl h
     refine AW.cond_true (by simp) ?_
     apply AW.step
     ·simp
      intros; rfl
     obtain rfl := Option.some.inj h
     refine AW.ret ?_
     try simp only [sp_l, sp_r, Post.seq, Post.block, Nat.reduceEqDiff, reduceIte, Nat.zero_ne_one, Nat.one_ne_zero]
     refine rP_i ?_
     refine Left.plain hnb (by simp [Try.f47, resV, resC, comp]; rfl) rfl rfl ?_
     simp
    | false =>
     replace h := iteF rfl h
     refine AW.cond_false (by simp) ?_
     refine AW.skip ?_
     try simp only [sp_l, sp_r, Post.seq, Post.block, Nat.reduceEqDiff, reduceIte, Nat.zero_ne_one, Nat.one_ne_zero]
     try simp only [sp_l, sp_r, Post.seq, Post.block, Nat.reduceEqDiff, reduceIte, Nat.zero_ne_one, Nat.one_ne_zero]
     replace h := ltE h; obtain ⟨v17, e17, h⟩ := h
     apply AW.last
     ·simp [← e17]
      intros; rfl
     obtain rfl := Option.some.inj h
     refine nP_i ?_
     refine Weak.mixN [] hn0 (by decide) ?_ ?_ rfl
     all_goals first | (simp [inv_cons, inv_nil, pickOb]; done) | rfl
  | false =>
   replace h := iteF rfl h
   refine AW.cond_false (by simp) ?_
   refine AW.exit ?_
   try simp only [sp_l, sp_r, Post.seq, Post.block, Nat.reduceEqDiff, reduceIte, Nat.zero_ne_one, Nat.one_ne_zero]
   obtain rfl := Option.some.inj h
   try simp only [sp_l, sp_r]
   refine xP_i ?_
   refine Weak.mixN [] hn0 (by decide) ?_ ?_ rfl
   all_goals first | (simp [inv_cons, inv_nil, pickOb]; done) | rfl
 ·rintro e s hp
  rcases y2 with y18 | y19
  ·replace h := smL h
   obtain ⟨rfl, hw⟩ := hp
   refine ⟨_, hw, ?_⟩
   try simp only [sp_l, sp_r, Post.seq, Post.block, Nat.reduceEqDiff, reduceIte, Nat.zero_ne_one, Nat.one_ne_zero]
   apply AW.step
   ·simp
    intros; rfl
   obtain rfl := Option.some.inj h
   refine AW.ret ?_
   refine Left.plain hnb (by simp [Try.f47, resV, resC, comp]; rfl) rfl rfl ?_
   simp
  ·replace h := smR h
   obtain ⟨rfl, hl⟩ := hp
   refine ⟨_, Weak.refl _, ?_⟩
   obtain rfl := Option.some.inj h
   exact hl
theorem en_r5_MaySpace : Enters Try.prog 47 := enters Try.func47 (by kernel_rfl) rfl
end Go.Proofs.Ytlkhfdccapkcdaa

/- Walks, printed: l5_Great, l11_Heavy, l15_great, l11_Great -/
namespace Go.Proofs.Ytlkhfdccapkcdaa
open Go Go.RowKit
set_option linter.unusedVariables false
set_option linter.unusedSimpArgs false
def l5_Great_sh (n : Nat) (a0 : Item) : Option Bool :=
bn (iter n (fun (y1 : Int) =>
bn (lt (lenI a0.f) fun v5 =>
lt (ltI y1 v5) fun v6 =>
ite' v6 (lt (ltI y1 60) fun v7 =>
some (v7)) (some (false))) fun (y4 : Bool) =>
lt (y4) fun v8 =>
ite' v8 (bn (bn (nth a0.f y1) fun v10 =>
lt (lenS v10.name) fun v11 =>
lt (gtI v11 400) fun v12 =>
ite' v12 (some (true)) (lt (lenS v10.val) fun v13 =>
lt (gtI v13 400) fun v14 =>
some (v14))) fun (y9 : Bool) =>
lt (y9) fun v15 =>
ite' v15 (some (.inr (.inr true))) (lt (addI .i64 y1 1) fun v16 =>
some (.inl v16))) (some (.inr (.inl ())))) 0) fun (y2 : Unit ⊕ Bool) =>
sm y2 (fun y17 => bn (iter n (fun (y19 : Int) =>
bn (lt (lenI a0.l) fun v23 =>
lt (ltI y19 v23) fun v24 =>
ite' v24 (lt (ltI y19 60) fun v25 =>
some (v25)) (some (false))) fun (y22 : Bool) =>
lt (y22) fun v26 =>
ite' v26 (bn (nth a0.l y19) fun v27 =>
lt (lenS v27) fun v28 =>
lt (gtI v28 400) fun v29 =>
ite' v29 (some (.inr (.inr true))) (lt (addI .i64 y19 1) fun v30 =>
some (.inl v30))) (some (.inr (.inl ())))) 0) fun (y20 : Unit ⊕ Bool) =>
sm y20 (fun y31 => bn (lt (lenS a0.s) fun v34 =>
lt (gtI v34 1000) fun v35 =>
ite' v35 (some (true)) (lt (lenI a0.f) fun v36 =>
lt (gtI v36 50) fun v37 =>
ite' v37 (some (true)) (lt (lenI a0.l) fun v38 =>
lt (gtI v38 50) fun v39 =>
some (v39)))) fun (y33 : Bool) =>
some y33) (fun y32 => some y32)) (fun y18 => some y18)
set_option maxRecDepth 8000 in
set_option maxHeartbeats 8000000 in
theorem s_l5_Great {n : Nat} {a0 : Item} {r : Bool} (h : l5_Great_sh n a0 = some r) : Sound Try.prog 87 [.g [.s (.int .i64 a0.kind), .s (.string a0.s), .d false 2 (encField a0.f), .d false 1 (encS a0.l), .s (.int .i64 a0.exp)]] [] (.l (.s (.bool r))) [] := by
 unfold l5_Great_sh at h
 refine Sound.of_aw (fn := Try.f87) (c := _) Try.func87 rfl (by simp [Try.f87]) fun cx hG hnb => ?_
 rw [show Try.f87.ntmps = 68 from rfl]
 have hn0 : cx.nb = 0 := hnb
 simp only [st0_mk, initTm, List.map_cons, List.map_nil]
 apply AW.step
 ·simp
  intros; rfl
 refine AW.seq ?_
 apply AW.step
 ·simp
  intros; rfl
 refine AW.block ?_
 replace h := bnE h; obtain ⟨y2, g2, h⟩ := h
 refine AW.iterP g2 (mk := fun gh ls q => (⟨[(1, .l (.p 0 0)), (3, .l (.s (.int .i64 q)))], [some ⟨34, 5, false, none, [.s (.int .i64 a0.kind), .s (.string a0.s), .d false 2 (encField a0.f), .d false 1 (encS a0.l), .s (.int .i64 a0.exp)]⟩], 68, gh, ls⟩ : St)) (N := fun gh ls => (sp (xP 0 (cx := cx) (fun _ => (⟨[(1, .l (.p 0 0))], [some ⟨34, 5, false, none, [.s (.int .i64 a0.kind), .s (.string a0.s), .d false 2 (encField a0.f), .d false 1 (encS a0.l), .s (.int .i64 a0.exp)]⟩], 68, gh, ls⟩ : St))) (rP (cx := cx) (P := Try.prog) Try.f87 (fun q => .l (.s (.bool q))) (fun q => [])))) ?_ (noS noX noR) ?_ ?_
 ·refine Weak.mixN [some 0] hn0 (by decide) ?_ ?_ rfl
  all_goals first | (simp [inv_cons, inv_nil, pickOb]; done) | rfl
 ·clear h; intro y1 y3 h
  refine AW.seq ?_
  replace h := bnE h; obtain ⟨y4, g4, h⟩ := h
  refine AW.flow (p := fun gh ls => (nP (cx := cx) (fun q => (⟨[(1, .l (.p 0 0)), (3, .l (.s (.int .i64 y1))), (13, .l (.s (.bool q)))], [some ⟨34, 5, false, none, [.s (.int .i64 a0.kind), .s (.string a0.s), .d false 2 (encField a0.f), .d false 1 (encS a0.l), .s (.int .i64 a0.exp)]⟩], 68, gh, ls⟩ : St))) y4) ?_ ?_
  ·replace h := g4; clear g4
   replace h := ltE h; obtain ⟨v5, e5, h⟩ := h
   replace h := ltE h; obtain ⟨v6, e6, h⟩ := h
   cases v6 with
   | true =>
    replace h := iteT rfl h
    replace h := ltE h; obtain ⟨v7, e7, h⟩ := h
    apply AW.last
    ·simp [lenI_cast e5, ← e6, ← e7]
     intros; rfl
    obtain rfl := Option.some.inj h
    refine nP_i ?_
    refine Weak.mixN [some 0] hn0 (by decide) ?_ ?_ rfl
    all_goals first | (simp [inv_cons, inv_nil, pickOb]; done) | rfl
   | false =>
    replace h := iteF rfl h
    apply AW.last
    ·simp [lenI_cast e5, ← e6]
     intros; rfl
    obtain rfl := Option.some.inj h
    refine nP_i ?_
    refine Weak.mixN [some 0] hn0 (by decide) ?_ ?_ rfl
    all_goals first | (simp [inv_cons, inv_nil, pickOb]; done) | rfl
  ·rintro e s hp
   obtain ⟨rfl, hw⟩ := hp
   refine ⟨_, hw, ?_⟩
   try simp only [sp_l, sp_r, Post.seq, Post.block, Nat.reduceEqDiff, reduceIte, Nat.zero_ne_one, Nat.one_ne_zero]
   replace h := ltE h; obtain ⟨v8, e8, h⟩ := h
   rw [← e8]
   cases v8 with
   | true =>
    replace h := iteT rfl h
    refine AW.cond_true (by simp) ?_
    refine AW.skip ?_
    try simp only [sp_l, sp_r, Post.seq, Post.block, Nat.reduceEqDiff, reduceIte, Nat.zero_ne_one, Nat.one_ne_zero]
    try simp only [sp_l, sp_r, Post.seq, Post.block, Nat.reduceEqDiff, reduceIte, Nat.zero_ne_one, Nat.one_ne_zero]
    refine AW.seq ?_
    refine AW.block ?_
    replace h := bnE h; obtain ⟨y9, g9, h⟩ := h
    refine AW.flow (p := fun gh ls => (nP (cx := cx) (fun q => (⟨[(1, .l (.p 0 0)), (3, .l (.s (.int .i64 y1))), (33, .l (.s (.bool q)))], [some ⟨34, 5, false, none, [.s (.int .i64 a0.kind), .s (.string a0.s), .d false 2 (encField a0.f), .d false 1 (encS a0.l), .s (.int .i64 a0.exp)]⟩], 68, gh, ls⟩ : St))) y9) ?_ ?_
    ·replace h := g9; clear g9
     replace h := bnE h; obtain ⟨v10, e10, h⟩ := h
     replace h := ltE h; obtain ⟨v11, e11, h⟩ := h
     replace h := ltE h; obtain ⟨v12, e12, h⟩ := h
     cases v12 with
     | true =>
      replace h := iteT rfl h
      apply AW.last
      ·simp [nth_d e10, ← e11, ← e12]
       intros; rfl
      obtain rfl := Option.some.inj h
      refine nP_i ?_
      refine Weak.mixN [some 0] hn0 (by decide) ?_ ?_ rfl
      all_goals first | (simp [inv_cons, inv_nil, pickOb]; done) | rfl
     | false =>
      replace h := iteF rfl h
      replace h := ltE h; obtain ⟨v13, e13, h⟩ := h
      replace h := ltE h; obtain ⟨v14, e14, h⟩ := h
      apply AW.last
      ·simp [nth_d e10, ← e11, ← e12, ← e13, ← e14]
       intros; rfl
      obtain rfl := Option.some.inj h
      refine nP_i ?_
      refine Weak.mixN [some 0] hn0 (by decide) ?_ ?_ rfl
      all_goals first | (simp [inv_cons, inv_nil, pickOb]; done) | rfl
    ·rintro e s hp
     obtain ⟨rfl, hw⟩ := hp
     refine ⟨_, hw, ?_⟩
     try simp only [sp_l, sp_r, Post.seq, Post.block, Nat.reduceEqDiff, reduceIte, Nat.zero_ne_one, Nat.one_ne_zero]
     replace h := ltE h; obtain ⟨v15, e15, h⟩ := h
     rw [← e15]
     cases v15 with
     | true =>
      replace h := iteT rfl h
      refine AW.cond_true (by simp) ?_
      apply AW.step
      ·simp
       intros; rfl
      obtain rfl := Option.some.inj h
      refine AW.ret ?_
      try simp only [sp_l, sp_r, Post.seq, Post.block, Nat.reduceEqDiff, reduceIte, Nat.zero_ne_one, Nat.one_ne_zero]
      refine rP_i ?_
      refine Left.plain hnb (by simp [Try.f87, resV, resC, comp]; rfl) rfl rfl ?_
      simp
     | false =>
      replace h := iteF rfl h
      refine AW.cond_false (by simp) ?_
      refine AW.skip ?_
      try simp only [sp_l, sp_r, Post.seq, Post.block, Nat.reduceEqDiff, reduceIte, Nat.zero_ne_one, Nat.one_ne_zero]
      try simp only [sp_l, sp_r, Post.seq, Post.block, Nat.reduceEqDiff, reduceIte, Nat.zero_ne_one, Nat.one_ne_zero]
      replace h := ltE h; obtain ⟨v16, e16, h⟩ := h
      apply AW.last
      ·simp [← e16]
       intros; rfl
      obtain rfl := Option.some.inj h
      refine nP_i ?_
      refine Weak.mixN [some 0] hn0 (by decide) ?_ ?_ rfl
      all_goals first | (simp [inv_cons, inv_nil, pickOb]; done) | rfl
   | false =>
    replace h := iteF rfl h
    refine AW.cond_false (by simp) ?_
    refine AW.exit ?_
    try simp only [sp_l, sp_r, Post.seq, Post.block, Nat.reduceEqDiff, reduceIte, Nat.zero_ne_one, Nat.one_ne_zero]
    obtain rfl := Option.some.inj h
    try simp only [sp_l, sp_r]
    refine xP_i ?_
    refine Weak.mixN [some 0] hn0 (by decide) ?_ ?_ rfl
    all_goals first | (simp [inv_cons, inv_nil, pickOb]; done) | rfl
 ·rintro e s hp
  rcases y2 with y17 | y18
  ·replace h := smL h
   obtain ⟨rfl, hw⟩ := hp
   refine ⟨_, hw, ?_⟩
   try simp only [sp_l, sp_r, Post.seq, Post.block, Nat.reduceEqDiff, reduceIte, Nat.zero_ne_one, Nat.one_ne_zero]
   refine AW.seq ?_
   apply AW.step
   ·simp
    intros; rfl
   refine AW.block ?_
   replace h := bnE h; obtain ⟨y20, g20, h⟩ := h
   refine AW.iterP g20 (mk := fun gh ls q => (⟨[(1, .l (.p 0 0)), (4, .l (.s (.int .i64 q)))], [some ⟨34, 5, false, none, [.s (.int .i64 a0.kind), .s (.string a0.s), .d false 2 (encField a0.f), .d false 1 (encS a0.l), .s (.int .i64 a0.exp)]⟩], 68, gh, ls⟩ : St)) (N := fun gh ls => (sp (xP 2 (cx := cx) (fun _ => (⟨[(1, .l (.p 0 0))], [some ⟨34, 5, false, none, [.s (.int .i64 a0.kind), .s (.string a0.s), .d false 2 (encField a0.f), .d false 1 (encS a0.l), .s (.int .i64 a0.exp)]⟩], 68, gh, ls⟩ : St))) (rP (cx := cx) (P := Try.prog) Try.f87 (fun q => .l (.s (.bool q))) (fun q => [])))) ?_ (noS noX noR) ?_ ?_
   ·refine Weak.mixN [some 0] hn0 (by decide) ?_ ?_ rfl
    all_goals first | (simp [inv_cons, inv_nil, pickOb]; done) | rfl
   ·clear h; intro y19 y21 h
    refine AW.seq ?_
    replace h := bnE h; obtain ⟨y22, g22, h⟩ := h
    refine AW.flow (p := fun gh ls => (nP (cx := cx) (fun q => (⟨[(1, .l (.p 0 0)), (4, .l (.s (.int .i64 y19))), (42, .l (.s (.bool q)))], [some ⟨34, 5, false, none, [.s (.int .i64 a0.kind), .s (.string a0.s), .d false 2 (encField a0.f), .d false 1 (encS a0.l), .s (.int .i64 a0.exp)]⟩], 68, gh, ls⟩ : St))) y22) ?_ ?_
    ·replace h := g22; clear g22
     replace h := ltE h; obtain ⟨v23, e23, h⟩ := h
     replace h := ltE h; obtain ⟨v24, e24, h⟩ := h
     cases v24 with
     | true =>
      replace h := iteT rfl h
      replace h := ltE h; obtain ⟨v25, e25, h⟩ := h
      apply AW.last
      ·simp [lenI_cast e23, ← e24, ← e25]
       intros; rfl
      obtain rfl := Option.some.inj h
      refine nP_i ?_
      refine Weak.mixN [some 0] hn0 (by decide) ?_ ?_ rfl
      all_goals first | (simp [inv_cons, inv_nil, pickOb]; done) | rfl
     | false =>
      replace h := iteF rfl h
      apply AW.last
      ·simp [lenI_cast e23, ← e24]
       intros; rfl
      obtain rfl := Option.some.inj h
      refine nP_i ?_
      refine Weak.mixN [some 0] hn0 (by decide) ?_ ?_ rfl
      all_goals first | (simp [inv_cons, inv_nil, pickOb]; done) | rfl
    ·rintro e s hp
     obtain ⟨rfl, hw⟩ := hp
     refine ⟨_, hw, ?_⟩
     try simp only [sp_l, sp_r, Post.seq, Post.block, Nat.reduceEqDiff, reduceIte, Nat.zero_ne_one, Nat.one_ne_zero]
     replace h := ltE h; obtain ⟨v26, e26, h⟩ := h
     rw [← e26]
     cases v26 with
     | true =>
      replace h := iteT rfl h
      refine AW.cond_true (by simp) ?_
      refine AW.skip ?_
      try simp only [sp_l, sp_r, Post.seq, Post.block, Nat.reduceEqDiff, reduceIte, Nat.zero_ne_one, Nat.one_ne_zero]
      try simp only [sp_l, sp_r, Post.seq, Post.block, Nat.reduceEqDiff, reduceIte, Nat.zero_ne_one, Nat.one_ne_zero]
      refine AW.seq ?_
      refine AW.block ?_
      replace h := bnE h; obtain ⟨v27, e27, h⟩ := h
      replace h := ltE h; obtain ⟨v28, e28, h⟩ := h
      replace h := ltE h; obtain ⟨v29, e29, h⟩ := h
      apply AW.step
      ·simp [nth_d e27, ← e28, ← e29]
       intros; rfl
      cases v29 with
      | true =>
       replace h := iteT rfl h
       refine AW.cond_true (by simp) ?_
       apply AW.step
       ·simp
        intros; rfl
       obtain rfl := Option.some.inj h
       refine AW.ret ?_
       try simp only [sp_l, sp_r, Post.seq, Post.block, Nat.reduceEqDiff, reduceIte, Nat.zero_ne_one, Nat.one_ne_zero]
       refine rP_i ?_
       refine Left.plain hnb (by simp [Try.f87, resV, resC, comp]; rfl) rfl rfl ?_
       simp
      | false =>
       replace h := iteF rfl h
       refine AW.cond_false (by simp) ?_
       refine AW.skip ?_
       try simp only [sp_l, sp_r, Post.seq, Post.block, Nat.reduceEqDiff, reduceIte, Nat.zero_ne_one, Nat.one_ne_zero]
       try simp only [sp_l, sp_r, Post.seq, Post.block, Nat.reduceEqDiff, reduceIte, Nat.zero_ne_one, Nat.one_ne_zero]
       replace h := ltE h; obtain ⟨v30, e30, h⟩ := h
       apply AW.last
       ·simp [← e30]
        intros; rfl
       obtain rfl := Option.some.inj h
       refine nP_i ?_
       refine Weak.mixN [some 0] hn0 (by decide) ?_ ?_ rfl
       all_goals first | (simp [inv_cons, inv_nil, pickOb]; done) | rfl
     | false =>
      replace h := iteF rfl h
      refine AW.cond_false (by simp) ?_
      refine AW.exit ?_
      try simp only [sp_l, sp_r, Post.seq, Post.block, Nat.reduceEqDiff, reduceIte, Nat.zero_ne_one, Nat.one_ne_zero]
      obtain rfl := Option.some.inj h
      try simp only [sp_l, sp_r]
      refine xP_i ?_
      refine Weak.mixN [some 0] hn0 (by decide) ?_ ?_ rfl
      all_goals first | (simp [inv_cons, inv_nil, pickOb]; done) | rfl
   ·rintro e s hp
    rcases y20 with y31 | y32
    ·replace h := smL h
     obtain ⟨rfl, hw⟩ := hp
     refine ⟨_, hw, ?_⟩
     try simp only [sp_l, sp_r, Post.seq, Post.block, Nat.reduceEqDiff, reduceIte, Nat.zero_ne_one, Nat.one_ne_zero]
     replace h := bnE h; obtain ⟨y33, g33, h⟩ := h
     refine AW.flow (p := fun gh ls => (nP (cx := cx) (fun q => (⟨[(2, .l (.s (.bool q)))], [], 68, gh, ls⟩ : St))) y33) ?_ ?_
     ·replace h := g33; clear g33
      replace h := ltE h; obtain ⟨v34, e34, h⟩ := h
      replace h := ltE h; obtain ⟨v35, e35, h⟩ := h
      cases v35 with
      | true =>
       replace h := iteT rfl h
       apply AW.last
       ·simp [← e34, ← e35]
        intros; rfl
       obtain rfl := Option.some.inj h
       refine nP_i ?_
       refine Weak.mixN [] hn0 (by decide) ?_ ?_ rfl
       all_goals first | (simp [inv_cons, inv_nil, pickOb]; done) | rfl
      | false =>
       replace h := iteF rfl h
       replace h := ltE h; obtain ⟨v36, e36, h⟩ := h
       replace h := ltE h; obtain ⟨v37, e37, h⟩ := h
       cases v37 with
       | true =>
        replace h := iteT rfl h
        apply AW.last
        ·simp [← e34, ← e35, lenI_cast e36, ← e37]
         intros; rfl
        obtain rfl := Option.some.inj h
        refine nP_i ?_
        refine Weak.mixN [] hn0 (by decide) ?_ ?_ rfl
        all_goals first | (simp [inv_cons, inv_nil, pickOb]; done) | rfl
       | false =>
        replace h := iteF rfl h
        replace h := ltE h; obtain ⟨v38, e38, h⟩ := h
        replace h := ltE h; obtain ⟨v39, e39, h⟩ := h
        apply AW.last
        ·simp [← e34, ← e35, lenI_cast e36, ← e37, lenI_cast e38, ← e39]
         intros; rfl
        obtain rfl := Option.some.inj h
        refine nP_i ?_
        refine Weak.mixN [] hn0 (by decide) ?_ ?_ rfl
        all_goals first | (simp [inv_cons, inv_nil, pickOb]; done) | rfl
     ·rintro e s hp
      obtain ⟨rfl, hw⟩ := hp
      refine ⟨_, hw, ?_⟩
      try simp only [sp_l, sp_r, Post.seq, Post.block, Nat.reduceEqDiff, reduceIte, Nat.zero_ne_one, Nat.one_ne_zero]
      obtain rfl := Option.some.inj h
      refine AW.ret ?_
      refine Left.plain hnb (by simp [Try.f87, resV, resC, comp]; rfl) rfl rfl ?_
      simp
    ·replace h := smR h
     obtain ⟨rfl, hl⟩ := hp
     refine ⟨_, Weak.refl _, ?_⟩
     obtain rfl := Option.some.inj h
     exact hl
  ·replace h := smR h
   obtain ⟨rfl, hl⟩ := hp
   refine ⟨_, Weak.refl _, ?_⟩
   obtain rfl := Option.some.inj h
   exact hl
theorem en_l5_Great : Enters Try.prog 87 := enters Try.func87 (by kernel_rfl) rfl
def l11_Heavy_sh (n : Nat) (a0 : List Effect) : Option Bool :=
bn (iter n (fun (y1 : Int) =>
bn (lt (lenI a0) fun v5 =>
lt (ltI y1 v5) fun v6 =>
ite' v6 (lt (ltI y1 60) fun v7 =>
some (v7)) (some (false))) fun (y4 : Bool) =>
lt (y4) fun v8 =>
ite' v8 (bn (bn (nth a0 y1) fun v10 =>
lt (lenS v10.key) fun v11 =>
lt (gtI v11 200) fun v12 =>
ite' v12 (some (true)) (bn (l5_Great_sh n v10.item) fun v13 =>
some (v13))) fun (y9 : Bool) =>
lt (y9) fun v14 =>
ite' v14 (some (.inr (.inr true))) (lt (addI .i64 y1 1) fun v15 =>
some (.inl v15))) (some (.inr (.inl ())))) 0) fun (y2 : Unit ⊕ Bool) =>
sm y2 (fun y16 => lt (lenI a0) fun v18 =>
lt (gtI v18 50) fun v19 =>
some v19) (fun y17 => some y17)
set_option maxRecDepth 8000 in
set_option maxHeartbeats 8000000 in
theorem s_l11_Heavy {n : Nat} {a0 : List Effect} {r : Bool} (h : l11_Heavy_sh n a0 = some r) : Sound Try.prog 45 [.l (.d false 7 (encEffect a0))] [] (.l (.s (.bool r))) [] := by
 unfold l11_Heavy_sh at h
 refine Sound.of_aw (fn := Try.f45) (c := _) Try.func45 rfl (by simp [Try.f45]) fun cx hG hnb => ?_
 rw [show Try.f45.ntmps = 32 from rfl]
 have hn0 : cx.nb = 0 := hnb
 simp only [st0_mk, initTm, List.map_cons, List.map_nil]
 apply AW.step
 ·simp
  intros; rfl
 refine AW.seq ?_
 apply AW.step
 ·simp
  intros; rfl
 refine AW.block ?_
 replace h := bnE h; obtain ⟨y2, g2, h⟩ := h
 refine AW.iterP g2 (mk := fun gh ls q => (⟨[(0, .l (.d false 7 (encEffect a0))), (3, .l (.s (.int .i64 q)))], [], 32, gh, ls⟩ : St)) (N := fun gh ls => (sp (xP 0 (cx := cx) (fun _ => (⟨[(0, .l (.d false 7 (encEffect a0)))], [], 32, gh, ls⟩ : St))) (rP (cx := cx) (P := Try.prog) Try.f45 (fun q => .l (.s (.bool q))) (fun q => [])))) ?_ (noS noX noR) ?_ ?_
 ·refine Weak.mixN [] hn0 (by decide) ?_ ?_ rfl
  all_goals first | (simp [inv_cons, inv_nil, pickOb]; done) | rfl
 ·clear h; intro y1 y3 h
  refine AW.seq ?_
  replace h := bnE h; obtain ⟨y4, g4, h⟩ := h
  refine AW.flow (p := fun gh ls => (nP (cx := cx) (fun q => (⟨[(0, .l (.d false 7 (encEffect a0))), (3, .l (.s (.int .i64 y1))), (11, .l (.s (.bool q)))], [], 32, gh, ls⟩ : St))) y4) ?_ ?_
  ·replace h := g4; clear g4
   replace h := ltE h; obtain ⟨v5, e5, h⟩ := h
   replace h := ltE h; obtain ⟨v6, e6, h⟩ := h
   cases v6 with
   | true =>
    replace h := iteT rfl h
    replace h := ltE h; obtain ⟨v7, e7, h⟩ := h
    apply AW.last
    ·simp [lenI_cast e5, ← e6, ← e7]
     intros; rfl
    obtain rfl := Option.some.inj h
    refine nP_i ?_
    refine Weak.mixN [] hn0 (by decide) ?_ ?_ rfl
    all_goals first | (simp [inv_cons, inv_nil, pickOb]; done) | rfl
   | false =>
    replace h := iteF rfl h
    apply AW.last
    ·simp [lenI_cast e5, ← e6]
     intros; rfl
    obtain rfl := Option.some.inj h
    refine nP_i ?_
    refine Weak.mixN [] hn0 (by decide) ?_ ?_ rfl
    all_goals first | (simp [inv_cons, inv_nil, pickOb]; done) | rfl
  ·rintro e s hp
   obtain ⟨rfl, hw⟩ := hp
   refine ⟨_, hw, ?_⟩
   try simp only [sp_l, sp_r, Post.seq, Post.block, Nat.reduceEqDiff, reduceIte, Nat.zero_ne_one, Nat.one_ne_zero]
   replace h := ltE h; obtain ⟨v8, e8, h⟩ := h
   rw [← e8]
   cases v8 with
   | true =>
    replace h := iteT rfl h
    refine AW.cond_true (by simp) ?_
    refine AW.skip ?_
    try simp only [sp_l, sp_r, Post.seq, Post.block, Nat.reduceEqDiff, reduceIte, Nat.zero_ne_one, Nat.one_ne_zero]
    try simp only [sp_l, sp_r, Post.seq, Post.block, Nat.reduceEqDiff, reduceIte, Nat.zero_ne_one, Nat.one_ne_zero]
    refine AW.seq ?_
    refine AW.block ?_
    replace h := bnE h; obtain ⟨y9, g9, h⟩ := h
    refine AW.flow (p := fun gh ls => (nP (cx := cx) (fun q => (⟨[(0, .l (.d false 7 (encEffect a0))), (3, .l (.s (.int .i64 y1))), (28, .l (.s (.bool q)))], [], 32, gh, ls⟩ : St))) y9) ?_ ?_
    ·replace h := g9; clear g9
     replace h := bnE h; obtain ⟨v10, e10, h⟩ := h
     replace h := ltE h; obtain ⟨v11, e11, h⟩ := h
     replace h := ltE h; obtain ⟨v12, e12, h⟩ := h
     cases v12 with
     | true =>
      replace h := iteT rfl h
      apply AW.last
      ·simp [nth_d e10, ← e11, ← e12]
       intros; rfl
      obtain rfl := Option.some.inj h
      refine nP_i ?_
      refine Weak.mixN [] hn0 (by decide) ?_ ?_ rfl
      all_goals first | (simp [inv_cons, inv_nil, pickOb]; done) | rfl
     | false =>
      replace h := iteF rfl h
      replace h := bnE h; obtain ⟨v13, e13, h⟩ := h
      apply AW.last
      ·simp [nth_d e10, ← e11, ← e12]
       intros
       refine xcall_plain en_l5_Great (s_l5_Great e13) rfl ⟨.same rfl, trivial⟩ ?_
       try simp [nth_d e10, ← e11, ← e12]
       intros; rfl
      obtain rfl := Option.some.inj h
      refine nP_i ?_
      refine Weak.mixN [] hn0 (by decide) ?_ ?_ rfl
      all_goals first | (simp [inv_cons, inv_nil, pickOb]; done) | rfl
    ·rintro e s hp
     obtain ⟨rfl, hw⟩ := hp
     refine ⟨_, hw, ?_⟩
     try simp only [sp_l, sp_r, Post.seq, Post.block, Nat.reduceEqDiff, reduceIte, Nat.zero_ne_one, Nat.one_ne_zero]
     replace h := ltE h; obtain ⟨v14, e14, h⟩ := h
     rw [← e14]
     cases v14 with
     | true =>
      replace h := iteT rfl h
      refine AW.cond_true (by simp) ?_
      apply AW.step
      ·simp
       intros; rfl
      obtain rfl := Option.some.inj h
      refine AW.ret ?_
      try simp only [sp_l, sp_r, Post.seq, Post.block, Nat.reduceEqDiff, reduceIte, Nat.zero_ne_one, Nat.one_ne_zero]
      refine rP_i ?_
      refine Left.plain hnb (by simp [Try.f45, resV, resC, comp]; rfl) rfl rfl ?_
      simp
     | false =>
      replace h := iteF rfl h
      refine AW.cond_false (by simp) ?_
      refine AW.skip ?_
      try simp only [sp_l, sp_r, Post.seq, Post.block, Nat.reduceEqDiff, reduceIte, Nat.zero_ne_one, Nat.one_ne_zero]
      try simp only [sp_l, sp_r, Post.seq, Post.block, Nat.reduceEqDiff, reduceIte, Nat.zero_ne_one, Nat.one_ne_zero]
      replace h := ltE h; obtain ⟨v15, e15, h⟩ := h
      apply AW.last
      ·simp [← e15]
       intros; rfl
      obtain rfl := Option.some.inj h
      refine nP_i ?_
      refine Weak.mixN [] hn0 (by decide) ?_ ?_ rfl
      all_goals first | (simp [inv_cons, inv_nil, pickOb]; done) | rfl
   | false =>
    replace h := iteF rfl h
    refine AW.cond_false (by simp) ?_
    refine AW.exit ?_
    try simp only [sp_l, sp_r, Post.seq, Post.block, Nat.reduceEqDiff, reduceIte, Nat.zero_ne_one, Nat.one_ne_zero]
    obtain rfl := Option.some.inj h
    try simp only [sp_l, sp_r]
    refine xP_i ?_
    refine Weak.mixN [] hn0 (by decide) ?_ ?_ rfl
    all_goals first | (simp [inv_cons, inv_nil, pickOb]; done) | rfl
 ·rintro e s hp
  rcases y2 with y16 | y17
  ·replace h := smL h
   obtain ⟨rfl, hw⟩ := hp
   refine ⟨_, hw, ?_⟩
   try simp only [sp_l, sp_r, Post.seq, Post.block, Nat.reduceEqDiff, reduceIte, Nat.zero_ne_one, Nat.one_ne_zero]
   replace h := ltE h; obtain ⟨v18, e18, h⟩ := h
   replace h := ltE h; obtain ⟨v19, e19, h⟩ := h
   apply AW.step
   ·simp [lenI_cast e18, ← e19]
    intros; rfl
   obtain rfl := Option.some.inj h
   refine AW.ret ?_
   refine Left.plain hnb (by simp [Try.f45, resV, resC, comp]; rfl) rfl rfl ?_
   simp
  ·replace h := smR h
   obtain ⟨rfl, hl⟩ := hp
   refine ⟨_, Weak.refl _, ?_⟩
   obtain rfl := Option.some.inj h
   exact hl
theorem en_l11_Heavy : Enters Try.prog 45 := enters Try.func45 (by kernel_rfl) rfl
def l11_Great_sh (n : Nat) (a0 : List Pair) : Option Bool :=
bn (iter n (fun (y1 : Int) =>
bn (lt (lenI a0) fun v5 =>
lt (ltI y1 v5) fun v6 =>
ite' v6 (lt (ltI y1 60) fun v7 =>
some (v7)) (some (false))) fun (y4 : Bool) =>
lt (y4) fun v8 =>
ite' v8 (bn (bn (nth a0 y1) fun v10 =>
lt (lenS v10.key) fun v11 =>
lt (gtI v11 200) fun v12 =>
ite' v12 (some (true)) (bn (l5_Great_sh n v10.item) fun v13 =>
some (v13))) fun (y9 : Bool) =>
lt (y9) fun v14 =>
ite' v14 (some (.inr (.inr true))) (lt (addI .i64 y1 1) fun v15 =>
some (.inl v15))) (some (.inr (.inl ())))) 0) fun (y2 : Unit ⊕ Bool) =>
sm y2 (fun y16 => lt (lenI a0) fun v18 =>
lt (gtI v18 50) fun v19 =>
some v19) (fun y17 => some y17)
set_option maxRecDepth 8000 in
set_option maxHeartbeats 8000000 in
theorem s_l11_Great {n : Nat} {a0 : List Pair} {r : Bool} (h : l11_Great_sh n a0 = some r) : Sound Try.prog 44 [.l (.d false 6 (encPair a0))] [] (.l (.s (.bool r))) [] := by
 unfold l11_Great_sh at h
 refine Sound.of_aw (fn := Try.f44) (c := _) Try.func44 rfl (by simp [Try.f44]) fun cx hG hnb => ?_
 rw [show Try.f44.ntmps = 32 from rfl]
 have hn0 : cx.nb = 0 := hnb
 simp only [st0_mk, initTm, List.map_cons, List.map_nil]
 apply AW.step
 ·simp
  intros; rfl
 refine AW.seq ?_
 apply AW.step
 ·simp
  intros; rfl
 refine AW.block ?_
 replace h := bnE h; obtain ⟨y2, g2, h⟩ := h
 refine AW.iterP g2 (mk := fun gh ls q => (⟨[(0, .l (.d false 6 (encPair a0))), (3, .l (.s (.int .i64 q)))], [], 32, gh, ls⟩ : St)) (N := fun gh ls => (sp (xP 0 (cx := cx) (fun _ => (⟨[(0, .l (.d false 6 (encPair a0)))], [], 32, gh, ls⟩ : St))) (rP (cx := cx) (P := Try.prog) Try.f44 (fun q => .l (.s (.bool q))) (fun q => [])))) ?_ (noS noX noR) ?_ ?_
 ·refine Weak.mixN [] hn0 (by decide) ?_ ?_ rfl
  all_goals first | (simp [inv_cons, inv_nil, pickOb]; done) | rfl
 ·clear h; intro y1 y3 h
  refine AW.seq ?_
  replace h := bnE h; obtain ⟨y4, g4, h⟩ := h
  refine AW.flow (p := fun gh ls => (nP (cx := cx) (fun q => (⟨[(0, .l (.d false 6 (encPair a0))), (3, .l (.s (.int .i64 y1))), (11, .l (.s (.bool q)))], [], 32, gh, ls⟩ : St))) y4) ?_ ?_
  ·replace h := g4; clear g4
   replace h := ltE h; obtain ⟨v5, e5, h⟩ := h
   replace h := ltE h; obtain ⟨v6, e6, h⟩ := h
   cases v6 with
   | true =>
    replace h := iteT rfl h
    replace h := ltE h; obtain ⟨v7, e7, h⟩ := h
    apply AW.last
    ·simp [lenI_cast e5, ← e6, ← e7]
     intros; rfl
    obtain rfl := Option.some.inj h
    refine nP_i ?_
    refine Weak.mixN [] hn0 (by decide) ?_ ?_ rfl
    all_goals first | (simp [inv_cons, inv_nil, pickOb]; done) | rfl
   | false =>
    replace h := iteF rfl h
    apply AW.last
    ·simp [lenI_cast e5, ← e6]
     intros; rfl
    obtain rfl := Option.some.inj h
    refine nP_i ?_
    refine Weak.mixN [] hn0 (by decide) ?_ ?_ rfl
    all_goals first | (simp [inv_cons, inv_nil, pickOb]; done) | rfl
  ·rintro e s hp
   obtain ⟨rfl, hw⟩ := hp
   refine ⟨_, hw, ?_⟩
   try simp only [sp_l, sp_r, Post.seq, Post.block, Nat.reduceEqDiff, reduceIte, Nat.zero_ne_one, Nat.one_ne_zero]
   replace h := ltE h; obtain ⟨v8, e8, h⟩ := h
   rw [← e8]
   cases v8 with
   | true =>
    replace h := iteT rfl h
    refine AW.cond_true (by simp) ?_
    refine AW.skip ?_
    try simp only [sp_l, sp_r, Post.seq, Post.block, Nat.reduceEqDiff, reduceIte, Nat.zero_ne_one, Nat.one_ne_zero]
    try simp only [sp_l, sp_r, Post.seq, Post.block, Nat.reduceEqDiff, reduceIte, Nat.zero_ne_one, Nat.one_ne_zero]
    refine AW.seq ?_
    refine AW.block ?_
    replace h := bnE h; obtain ⟨y9, g9, h⟩ := h
    refine AW.flow (p := fun gh ls => (nP (cx := cx) (fun q => (⟨[(0, .l (.d false 6 (encPair a0))), (3, .l (.s (.int .i64 y1))), (28, .l (.s (.bool q)))], [], 32, gh, ls⟩ : St))) y9) ?_ ?_
    ·replace h := g9; clear g9
     replace h := bnE h; obtain ⟨v10, e10, h⟩ := h
     replace h := ltE h; obtain ⟨v11, e11, h⟩ := h
     replace h := ltE h; obtain ⟨v12, e12, h⟩ := h
     cases v12 with
     | true =>
      replace h := iteT rfl h
      apply AW.last
      ·simp [nth_d e10, ← e11, ← e12]
       intros; rfl
      obtain rfl := Option.some.inj h
      refine nP_i ?_
      refine Weak.mixN [] hn0 (by decide) ?_ ?_ rfl
      all_goals first | (simp [inv_cons, inv_nil, pickOb]; done) | rfl
     | false =>
      replace h := iteF rfl h
      replace h := bnE h; obtain ⟨v13, e13, h⟩ := h
      apply AW.last
      ·simp [nth_d e10, ← e11, ← e12]
       intros
       refine xcall_plain en_l5_Great (s_l5_Great e13) rfl ⟨.same rfl, trivial⟩ ?_
       try simp [nth_d e10, ← e11, ← e12]
       intros; rfl
      obtain rfl := Option.some.inj h
      refine nP_i ?_
      refine Weak.mixN [] hn0 (by decide) ?_ ?_ rfl
      all_goals first | (simp [inv_cons, inv_nil, pickOb]; done) | rfl
    ·rintro e s hp
     obtain ⟨rfl, hw⟩ := hp
     refine ⟨_, hw, ?_⟩
     try simp only [sp_l, sp_r, Post.seq, Post.block, Nat.reduceEqDiff, reduceIte, Nat.zero_ne_one, Nat.one_ne_zero]
     replace h := ltE h; obtain ⟨v14, e14, h⟩ := h
     rw [← e14]
     cases v14 with
     | true =>
      replace h := iteT rfl h
      refine AW.cond_true (by simp) ?_
      apply AW.step
      ·simp
       intros; rfl
      obtain rfl := Option.some.inj h
      refine AW.ret ?_
      try simp only [sp_l, sp_r, Post.seq, Post.block, Nat.reduceEqDiff, reduceIte, Nat.zero_ne_one, Nat.one_ne_zero]
      refine rP_i ?_
      refine Left.plain hnb (by simp [Try.f44, resV, resC, comp]; rfl) rfl rfl ?_
      simp
     | false =>
      replace h := iteF rfl h
      refine AW.cond_false (by simp) ?_
      refine AW.skip ?_
      try simp only [sp_l, sp_r, Post.seq, Post.block, Nat.reduceEqDiff, reduceIte, Nat.zero_ne_one, Nat.one_ne_zero]
      try simp only [sp_l, sp_r, Post.seq, Post.block, Nat.reduceEqDiff, reduceIte, Nat.zero_ne_one, Nat.one_ne_zero]
      replace h := ltE h; obtain ⟨v15, e15, h⟩ := h
      apply AW.last
      ·simp [← e15]
       intros; rfl
      obtain rfl := Option.some.inj h
      refine nP_i ?_
      refine Weak.mixN [] hn0 (by decide) ?_ ?_ rfl
      all_goals first | (simp [inv_cons, inv_nil, pickOb]; done) | rfl
   | false =>
    replace h := iteF rfl h
    refine AW.cond_false (by simp) ?_
    refine AW.exit ?_
    try simp only [sp_l, sp_r, Post.seq, Post.block, Nat.reduceEqDiff, reduceIte, Nat.zero_ne_one, Nat.one_ne_zero]
    obtain rfl := Option.some.inj h
    try simp only [sp_l, sp_r]
    refine xP_i ?_
    refine Weak.mixN [] hn0 (by decide) ?_ ?_ rfl
    all_goals first | (simp [inv_cons, inv_nil, pickOb]; done) | rfl
 ·rintro e s hp
  rcases y2 with y16 | y17
  ·replace h := smL h
   obtain ⟨rfl, hw⟩ := hp
   refine ⟨_, hw, ?_⟩
   try simp only [sp_l, sp_r, Post.seq, Post.block, Nat.reduceEqDiff, reduceIte, Nat.zero_ne_one, Nat.one_ne_zero]
   replace h := ltE h; obtain ⟨v18, e18, h⟩ := h
   replace h := ltE h; obtain ⟨v19, e19, h⟩ := h
   apply AW.step
   ·simp [lenI_cast e18, ← e19]
    intros; rfl
   obtain rfl := Option.some.inj h
   refine AW.ret ?_
   refine Left.plain hnb (by simp [Try.f44, resV, resC, comp]; rfl) rfl rfl ?_
   simp
  ·replace h := smR h
   obtain ⟨rfl, hl⟩ := hp
   refine ⟨_, Weak.refl _, ?_⟩
   obtain rfl := Option.some.inj h
   exact hl
theorem en_l11_Great : Enters Try.prog 44 := enters Try.func44 (by kernel_rfl) rfl
end Go.Proofs.Ytlkhfdccapkcdaa

/- Plain laws: what may be, what is great. -/
namespace Go.Proofs.Ytlkhfdccapkcdaa
open Go Go.RowKit
set_option linter.unusedVariables false
set_option linter.unusedSimpArgs false
theorem gtI_n {a b : Int} (h : gtI a b = false) : a ≤ b := by simpa [gtI] using h
theorem gtI_d {a b : Int} (h : gtI a b = true) : b < a := by simpa [gtI] using h
theorem leI_d {a b : Int} (h : leI a b = true) : a ≤ b := by simpa [leI] using h
theorem geI_d {a b : Int} (h : geI a b = true) : b ≤ a := by simpa [geI] using h
/-- A loop over the first sixty that ends at once where something is great. -/
theorem sixty {α : Type} {β : Type} (l : List α) (body : α → Option Bool) (hbody : ∀ x ∈ l, Rn (body x) fun _ => True) (Q : α → Prop) (hQ : ∀ x ∈ l, body x = some false → Q x)
    {k : Unit ⊕ Bool → Option β} {R : β → Prop} (f : Int → Option (Int ⊕ (Unit ⊕ Bool)))
    (hf : ∀ i : Nat, f (i : Int) = if hi : i < l.length ∧ i < 60 then (body (l[i]'hi.1)).bind fun b => if b = true then some (.inr (.inr true)) else some (.inl ((i : Int) + 1)) else some (.inr (.inl ())))
    (h1 : (∀ i (hi : i < l.length), i < 60 → Q l[i]) → Rn (k (.inl ())) R) (h2 : Rn (k (.inr true)) R) : Rn (bn (iter big f 0) k) R := by
  refine Rn.bn (P := fun y => (y = .inl () ∧ ∀ i (hi : i < l.length), i < 60 → Q l[i]) ∨ y = .inr true) (Rn.iter _ (fun q a => a = (q : Int) ∧ ∀ i (hi : i < l.length), i < q → Q l[i]) 60 (by unfold big; omega) ⟨rfl, fun i hi h => by omega⟩ fun q a hq hI => ?_) fun y hy => ?_
  · obtain ⟨rfl, hI⟩ := hI
    rw [hf]
    by_cases hi : q < l.length ∧ q < 60
    · rw [dif_pos hi]
      obtain ⟨b, hb, -⟩ := hbody _ (List.getElem_mem hi.1)
      rw [hb]
      cases b
      · refine ⟨_, rfl, hi.2, by omega, fun i hil hiq => ?_⟩
        by_cases h : i = q
        · subst h
          exact hQ _ (List.getElem_mem hil) hb
        · exact hI i hil (by omega)
      · exact ⟨_, rfl, .inr rfl⟩
    · rw [dif_neg hi]
      refine ⟨_, rfl, .inl ⟨rfl, fun i hil h60 => hI i hil ?_⟩⟩
      omega
  · rcases hy with ⟨rfl, hy⟩ | rfl
    · exact h1 hy
    · exact h2
theorem ite60 {α γ : Type} (l : List α) (i : Nat) (x y : Option γ) : (bn (lt (lenI l) fun v5 => lt (ltI (i : Int) v5) fun v6 => ite' v6 (lt (ltI (i : Int) 60) fun v7 => some v7) (some false)) fun y4 => lt y4 fun v8 => ite' v8 x y) = if i < l.length ∧ i < 60 then x else y := by
  simp only [lt_eq, bn_some, ite_t, ite_f, sm_inl, sm_inr, lenI_eq, Option.some.injEq]
  by_cases h1 : i < l.length
  · rw [ltI_t (show (i : Int) < l.length by omega)]
    by_cases h2 : i < 60
    · rw [ltI_t (show (i : Int) < 60 by omega), if_pos ⟨h1, h2⟩]; rfl
    · rw [ltI_f (show ¬ (i : Int) < 60 by omega), if_neg (by omega)]; rfl
  · rw [ltI_f (show ¬ (i : Int) < l.length by omega), if_neg (by omega)]; rfl
/-- A loop over i < n that ends at once where body i is true. -/
theorem scan {β : Type} (n : Nat) (hn : n < big) (body : Nat → Option Bool) (hbody : ∀ i, i < n → Rn (body i) fun _ => True) (r : Bool)
    {k : Unit ⊕ Bool → Option β} {R : β → Prop} (f : Int → Option (Int ⊕ (Unit ⊕ Bool)))
    (hf : ∀ i : Nat, f (i : Int) = if i < n then (body i).bind fun b => if b = true then some (.inr (.inr r)) else some (.inl ((i + 1 : Nat) : Int)) else some (.inr (.inl ())))
    (h1 : (∀ i, i < n → body i = some false) → Rn (k (.inl ())) R) (h2 : (∃ i, i < n ∧ body i = some true) → Rn (k (.inr r)) R) : Rn (bn (iter big f 0) k) R := by
  refine Rn.bn (P := fun y => (y = .inl () ∧ ∀ i, i < n → body i = some false) ∨ (y = .inr r ∧ ∃ i, i < n ∧ body i = some true)) (Rn.iter _ (fun q a => a = (q : Int) ∧ ∀ i, i < q → body i = some false) n hn ⟨rfl, fun i h => by omega⟩ fun q a hq hI => ?_) fun y hy => ?_
  · obtain ⟨rfl, hI⟩ := hI
    rw [hf]
    by_cases hi : q < n
    · rw [if_pos hi]
      obtain ⟨b, hb, -⟩ := hbody q hi
      rw [hb]
      cases b
      · refine ⟨_, rfl, hi, rfl, fun i hiq => ?_⟩
        by_cases h : i = q
        · rw [h]; exact hb
        · exact hI i (by omega)
      · exact ⟨_, rfl, .inr ⟨rfl, q, hi, hb⟩⟩
    · rw [if_neg hi]
      exact ⟨_, rfl, .inl ⟨rfl, fun i h => hI i (by omega)⟩⟩
  · rcases hy with ⟨rfl, hy⟩ | ⟨rfl, hy⟩
    · exact h1 hy
    · exact h2 hy
theorem Great_ok (it : Item) : Rn (l5_Great_sh big it) fun b => b = false → it.f.length ≤ 50 ∧ it.l.length ≤ 50 := by
  unfold l5_Great_sh
  refine sixty it.f (fun v10 => lt (lenS v10.name) fun v11 => lt (gtI v11 400) fun v12 => ite' v12 (some (true)) (lt (lenS v10.val) fun v13 => lt (gtI v13 400) fun v14 => some (v14))) (fun x _ => Rn.lt (Rn.lt (Rn.ite (fun _ => Rn.some trivial) (fun _ => Rn.lt (Rn.lt (Rn.some trivial)))))) (fun _ => True) (fun _ _ _ => trivial) _ (fun i => ?_) (fun _ => ?_) ⟨_, rfl, by simp⟩
  · rw [ite60]
    by_cases hi : i < it.f.length ∧ i < 60
    · rw [if_pos hi, dif_pos hi, nth_some hi.1]
      simp only [lt_eq, bn_some, ite_t, ite_f, sm_inl, sm_inr, lenI_eq, Option.some.injEq]
      generalize (ite' (gtI (lenS it.f[i].name) 400) (some true) (some (gtI (lenS it.f[i].val) 400))) = o
      cases o with
      | none => rfl
      | some b => cases b <;> simp [bn_some, ite_t, ite_f, lt_eq]; rw [addI_64 (by omega) (by omega)]
    · rw [if_neg hi, dif_neg hi]
  · rw [sm_inl]
    refine sixty it.l (fun v27 => lt (lenS v27) fun v28 => lt (gtI v28 400) fun v29 => some v29) (fun x _ => Rn.lt (Rn.lt (Rn.some trivial))) (fun _ => True) (fun _ _ _ => trivial) _ (fun i => ?_) (fun _ => ?_) ⟨_, rfl, by simp⟩
    · rw [ite60]
      by_cases hi : i < it.l.length ∧ i < 60
      · rw [if_pos hi, dif_pos hi, nth_some hi.1]
        simp only [lt_eq, bn_some, ite_t, ite_f, sm_inl, sm_inr, lenI_eq, Option.some.injEq]
        cases gtI (lenS it.l[i]) 400 <;> simp [ite_t, ite_f]
        rw [addI_64 (by omega) (by omega)]
      · rw [if_neg hi, dif_neg hi]
    · rw [sm_inl]
      refine Rn.bn (P := fun b => b = false → it.f.length ≤ 50 ∧ it.l.length ≤ 50) ?_ fun b hb => Rn.some hb
      refine Rn.lt (Rn.lt (Rn.ite (fun _ => Rn.some (by simp)) (fun _ => Rn.lt (Rn.lt (Rn.ite (fun _ => Rn.some (by simp)) (fun h1 => Rn.lt (Rn.lt (Rn.some fun h2 => ?_))))))))
      have h1 := gtI_n h1
      have h2 := gtI_n h2
      simp only [lenI] at h1 h2
      omega
theorem Heavy_ok (l : List Effect) : Rn (l11_Heavy_sh big l) fun b => b = false → l.length ≤ 50 ∧ ∀ e ∈ l, e.item.f.length ≤ 50 ∧ e.item.l.length ≤ 50 := by
  unfold l11_Heavy_sh
  refine sixty l (fun v10 => lt (lenS v10.key) fun v11 => lt (gtI v11 200) fun v12 => ite' v12 (some (true)) (bn (l5_Great_sh big v10.item) fun v13 => some (v13))) (fun x _ => Rn.lt (Rn.lt (Rn.ite (fun _ => Rn.some trivial) (fun _ => Rn.bn (Great_ok _) fun _ _ => Rn.some trivial)))) (fun x => x.item.f.length ≤ 50 ∧ x.item.l.length ≤ 50) (fun x _ hx => ?_) _ (fun i => ?_) (fun hall => ?_) ⟨_, rfl, by simp⟩
  · obtain ⟨g, hg, hg2⟩ := Great_ok x.item
    simp only [lt_eq, bn_some, ite_t, ite_f, sm_inl, sm_inr, lenI_eq, Option.some.injEq, hg] at hx
    cases h : gtI (lenS x.key) 200 <;> rw [h] at hx <;> simp [ite_t, ite_f] at hx
    exact hg2 hx
  · rw [ite60]
    by_cases hi : i < l.length ∧ i < 60
    · rw [if_pos hi, dif_pos hi, nth_some hi.1]
      simp only [lt_eq, bn_some, ite_t, ite_f, sm_inl, sm_inr, lenI_eq, Option.some.injEq]
      generalize (ite' (gtI (lenS l[i].key) 200) (some true) (bn (l5_Great_sh big l[i].item) fun v13 => some v13)) = o
      cases o with
      | none => rfl
      | some b => cases b <;> simp [bn_some, ite_t, ite_f, lt_eq]; rw [addI_64 (by omega) (by omega)]
    · rw [if_neg hi, dif_neg hi]
  · rw [sm_inl]
    refine Rn.lt (Rn.lt (Rn.some fun h => ?_))
    have h := gtI_n h
    simp only [lenI] at h
    refine ⟨by omega, fun e he => ?_⟩
    obtain ⟨i, hi, rfl⟩ := List.getElem_of_mem he
    exact hall i hi (by omega)
theorem bare_ok (it : Item) : Rn (r5_bare_sh big it) fun _ => True := by
  unfold r5_bare_sh
  refine Rn.lt (Rn.ite (fun _ => Rn.bn (P := fun _ => True) ?_ fun _ _ => Rn.some trivial) (fun _ => Rn.lt (Rn.ite (fun _ => Rn.bn (P := fun _ => True) ?_ fun _ _ => Rn.some trivial) (fun _ => Rn.bn (P := fun _ => True) ?_ fun _ _ => Rn.lt (Rn.ite (fun _ => Rn.bn (P := fun _ => True) ?_ fun _ _ => Rn.some trivial) (fun _ => Rn.some trivial))))))
  · exact Rn.lt (Rn.lt (Rn.ite (fun _ => Rn.lt (Rn.lt (Rn.some trivial))) (fun _ => Rn.some trivial)))
  · exact Rn.lt (Rn.ite (fun _ => Rn.lt (Rn.lt (Rn.ite (fun _ => Rn.lt (Rn.lt (Rn.some trivial))) (fun _ => Rn.some trivial)))) (fun _ => Rn.some trivial))
  · exact Rn.lt (Rn.ite (fun _ => Rn.some trivial) (fun _ => Rn.lt (Rn.some trivial)))
  · exact Rn.lt (Rn.ite (fun _ => Rn.lt (Rn.lt (Rn.ite (fun _ => Rn.lt (Rn.lt (Rn.some trivial))) (fun _ => Rn.some trivial)))) (fun _ => Rn.some trivial))
theorem ite_len {α γ : Type} (l : List α) (i : Nat) (x y : Option γ) : (lt (lenI l) fun v16 => lt (ltI (i : Int) v16) fun v17 => ite' v17 x y) = if i < l.length then x else y := by
  simp only [lt_eq, bn_some, ite_t, ite_f, sm_inl, sm_inr, lenI_eq, Option.some.injEq]
  by_cases h1 : i < l.length
  · rw [ltI_t (show (i : Int) < l.length by omega), if_pos h1]; rfl
  · rw [ltI_f (show ¬ (i : Int) < l.length by omega), if_neg h1]; rfl
/-- Rounds over a list, from an Int on. -/
theorem scanL {α β : Type} (l : List α) (hl : l.length ≤ 140737488355328) (body : Nat → Option Bool) (hbody : ∀ i, i < l.length → Rn (body i) fun _ => True) (r : Bool)
    {k : Unit ⊕ Bool → Option β} {R : β → Prop} (g : Int → Option Bool) (hg : ∀ i : Nat, i < l.length → g (i : Int) = body i)
    (h1 : (∀ i, i < l.length → body i = some false) → Rn (k (.inl ())) R) (h2 : (∃ i, i < l.length ∧ body i = some true) → Rn (k (.inr r)) R) :
    Rn (bn (iter big (fun (y : Int) => lt (lenI l) fun v16 => lt (ltI y v16) fun v17 => ite' v17 (bn (g y) fun y18 => lt y18 fun v28 => ite' v28 (some (.inr (.inr r))) (lt (addI .i64 y 1) fun v29 => some (.inl v29))) (some (.inr (.inl ())))) 0) k) R := by
  refine scan l.length (by unfold big; omega) body hbody r _ (fun i => ?_) h1 h2
  rw [ite_len]
  by_cases hi : i < l.length
  · rw [if_pos hi, if_pos hi, hg i hi]
    obtain ⟨b, hb, -⟩ := hbody i hi
    rw [hb]
    cases b
    · simp only [lt_eq, bn_some, ite_t, ite_f, sm_inl, sm_inr, lenI_eq, Option.some.injEq, Option.bind_some]
      rw [addI_64 (by omega) (by omega)]
      rfl
    · rfl
  · rw [if_neg hi, if_neg hi]
theorem MayItem_ok (it : Item) : Rn (r5_MayItem_sh big it) fun _ => True := by
  unfold r5_MayItem_sh
  refine Rn.bn (P := fun b => b = false → it.f.length ≤ 40 ∧ it.l.length ≤ 40) ?_ fun b hb => Rn.lt (Rn.ite (fun _ => Rn.some trivial) (fun hd => ?_))
  · refine Rn.bn (bare_ok it) fun _ _ => Rn.lt (Rn.ite (fun _ => Rn.some (by simp)) (fun _ => ?_))
    refine Rn.lt (Rn.lt (Rn.ite (fun _ => Rn.some (by simp)) (fun _ => ?_)))
    refine Rn.lt (Rn.lt (Rn.ite (fun _ => Rn.some (by simp)) (fun h1 => ?_)))
    refine Rn.lt (Rn.lt (Rn.ite (fun _ => Rn.some (by simp)) (fun h2 => ?_)))
    refine Rn.lt (Rn.ite (fun _ => Rn.some (by simp)) (fun _ => Rn.lt (Rn.some fun _ => ?_)))
    have h1 := gtI_n h1
    have h2 := gtI_n h2
    simp only [lenI] at h1 h2
    omega
  obtain ⟨hf, hl⟩ := hb hd
  refine scanL it.f (by omega) (fun i => bn (nth it.f (i : Int)) fun v19 => lt (lenS v19.name) fun v20 => lt (gtI v20 300) fun v21 => ite' v21 (some (true)) (lt (lenS v19.val) fun v22 => lt (gtI v22 300) fun v23 => ite' v23 (some (true)) (lt (gtI (i : Int) 0) fun v24 => ite' v24 (lt (subI .i64 (i : Int) 1) fun v25 => bn (nth it.f v25) fun v26 => lt (geS v26.name v19.name) fun v27 => some (v27)) (some (false))))) (fun i hi => ?_) false _ (fun i hi => rfl) (fun _ => ?_) (fun _ => ⟨_, rfl, trivial⟩)
  · refine Rn.bnE (nth_some hi) (Rn.lt (Rn.lt (Rn.ite (fun _ => Rn.some trivial) (fun _ => Rn.lt (Rn.lt (Rn.ite (fun _ => Rn.some trivial) (fun _ => Rn.lt (Rn.ite (fun hg => Rn.lt ?_) (fun _ => Rn.some trivial)))))))))
    have hg := gtI_d hg
    rw [subI_64 (by omega) (by omega), show (i : Int) - 1 = ((i - 1 : Nat) : Int) by omega]
    exact Rn.bnE (nth_some (show i - 1 < it.f.length by omega)) (Rn.lt (Rn.some trivial))
  rw [sm_inl]
  refine scanL it.l (by omega) (fun i => bn (nth it.l (i : Int)) fun v38 => lt (lenS v38) fun v39 => lt (gtI v39 300) fun v40 => ite' v40 (some (true)) (lt (eqI it.kind 4) fun v41 => ite' v41 (lt (gtI (i : Int) 0) fun v42 => ite' v42 (lt (subI .i64 (i : Int) 1) fun v43 => bn (nth it.l v43) fun v44 => lt (geS v44 v38) fun v45 => some (v45)) (some (false))) (some (false)))) (fun i hi => ?_) false _ (fun i hi => rfl) (fun _ => ?_) (fun _ => ⟨_, rfl, trivial⟩)
  · refine Rn.bnE (nth_some hi) (Rn.lt (Rn.lt (Rn.ite (fun _ => Rn.some trivial) (fun _ => Rn.lt (Rn.ite (fun _ => Rn.lt (Rn.ite (fun hg => Rn.lt ?_) (fun _ => Rn.some trivial))) (fun _ => Rn.some trivial))))))
    have hg := gtI_d hg
    rw [subI_64 (by omega) (by omega), show (i : Int) - 1 = ((i - 1 : Nat) : Int) by omega]
    exact Rn.bnE (nth_some (show i - 1 < it.l.length by omega)) (Rn.lt (Rn.some trivial))
  · exact ⟨_, rfl, trivial⟩
end Go.Proofs.Ytlkhfdccapkcdaa

/- Plain laws: whether two spaces are one, what is at a key. -/
namespace Go.Proofs.Ytlkhfdccapkcdaa
open Go Go.RowKit
set_option linter.unusedVariables false
set_option linter.unusedSimpArgs false
/-- Rounds that compare two lists. -/
theorem eqLoop {α : Type} [DecidableEq α] (a b : List α) (hab : a.length = b.length) (hl : a.length ≤ 140737488355328) (f : Int → Option (Int ⊕ (Unit ⊕ Bool)))
    (hf : ∀ i (hi : i < a.length) (hj : i < b.length), f (i : Int) = bif decide (a[i] = b[i]) then some (.inl (addI .i64 i 1)) else some (.inr (.inr false)))
    (he : f (a.length : Int) = some (.inr (.inl ()))) : bn (iter big f 0) (fun y => sm y (fun _ => some true) (fun y => some y)) = some (decide (a = b)) := by
  refine Rn.eq ?_
  refine Rn.bn (P := fun y => (y = .inl () ∧ a = b) ∨ (y = .inr false ∧ a ≠ b)) (Rn.iter _ (fun q x => x = (q : Int) ∧ ∀ i (h : i < q) (hi : i < a.length) (hj : i < b.length), a[i] = b[i]) a.length (by unfold big; omega) ⟨rfl, fun i h => by omega⟩ fun q x hq hI => ?_) fun y hy => ?_
  · obtain ⟨rfl, hI⟩ := hI
    by_cases hl : q < a.length
    · rw [hf q hl (by omega)]
      by_cases h : a[q] = b[q]
      · rw [decide_eq_true h]
        refine ⟨_, rfl, hl, by rw [addI_64 (by omega) (by omega)]; omega, fun i hi h1 h2 => ?_⟩
        by_cases hiq : i = q
        · subst hiq; exact h
        · exact hI i (by omega) h1 h2
      · rw [decide_eq_false h]
        exact ⟨_, rfl, .inr ⟨rfl, fun e => h (by subst e; rfl)⟩⟩
    · obtain rfl : q = a.length := by omega
      rw [he]
      exact ⟨_, rfl, .inl ⟨rfl, List.ext_getElem hab fun i h1 h2 => hI i (by omega) h1 h2⟩⟩
  · rcases hy with ⟨rfl, h⟩ | ⟨rfl, h⟩
    · exact ⟨_, rfl, by simp [h]⟩
    · exact ⟨_, rfl, by simp [h]⟩
theorem neLen {α : Type} {a b : List α} (h : a.length = b.length) : neI (lenI a) (lenI b) = false := by simp [neI, lenI, h]
theorem neLen2 {α : Type} {a b : List α} (h : ¬ a.length = b.length) : neI (lenI a) (lenI b) = true := by
  have : ¬ (a.length : Int) = b.length := by omega
  unfold neI lenI
  rw [decide_eq_false this]
  rfl
theorem fieldEq (x y : Field) : andB (eqS x.name y.name) (andB (eqS x.val y.val) true) = decide (x = y) := by
  rw [Bool.eq_iff_iff]
  simp only [andB, eqS, Bool.and_true, Bool.and_eq_true, decide_eq_true_eq]
  exact ⟨fun h => Field.ext h.1 h.2, fun h => by rw [h]; exact ⟨rfl, rfl⟩⟩
theorem itemEq (a b : Item) : (eqI a.kind b.kind && (eqS a.s b.s && (eqI a.exp b.exp && (decide (a.f = b.f) && decide (a.l = b.l))))) = decide (a = b) := by
  rw [Bool.eq_iff_iff]
  simp only [eqI, eqS, Bool.and_eq_true, decide_eq_true_eq]
  exact ⟨fun h => Item.ext h.1 h.2.1 h.2.2.2.1 h.2.2.2.2 h.2.2.1, fun h => by rw [h]; exact ⟨rfl, rfl, rfl, rfl, rfl⟩⟩
theorem pairEq (a b : Pair) : (eqS a.key b.key && decide (a.item = b.item)) = decide (a = b) := by
  rw [Bool.eq_iff_iff]
  simp only [eqS, Bool.and_eq_true, decide_eq_true_eq]
  exact ⟨fun h => Pair.ext h.1 h.2, fun h => by rw [h]; exact ⟨rfl, rfl⟩⟩
theorem eqF_dec (a b : List Field) (h : a.length ≤ 10000000000000) : slices_Equal_api_Field_sh big a b = some (decide (a = b)) := by
  unfold slices_Equal_api_Field_sh
  by_cases hab : a.length = b.length
  · simp only [lt_eq, neLen hab, ite_f]
    refine eqLoop a b hab (by omega) _ (fun i hi hj => ?_) ?_
    · rw [ltI_t (by simp only [lenI]; omega)]
      simp only [lt_eq, bn_some, ite_t, ite_f, sm_inl, sm_inr, lenI_eq, Option.some.injEq, nth_some hi, nth_some hj, fieldEq]
      cases decide (a[i] = b[i]) <;> rfl
    · rw [ltI_f (by simp only [lenI]; omega)]
      rfl
  · have : a ≠ b := fun h => hab (by rw [h])
    simp only [lt_eq, neLen2 hab, ite_t, decide_eq_false this]
theorem eqT_dec (a b : List ByteArray) (h : a.length ≤ 10000000000000) : slices_Equal_string_sh big a b = some (decide (a = b)) := by
  unfold slices_Equal_string_sh
  by_cases hab : a.length = b.length
  · simp only [lt_eq, neLen hab, ite_f]
    refine eqLoop a b hab (by omega) _ (fun i hi hj => ?_) ?_
    · rw [ltI_t (by simp only [lenI]; omega)]
      simp only [lt_eq, bn_some, ite_t, ite_f, sm_inl, sm_inr, lenI_eq, Option.some.injEq, nth_some hi, nth_some hj, neS]
      cases decide (a[i] = b[i]) <;> rfl
    · rw [ltI_f (by simp only [lenI]; omega)]
      rfl
  · have : a ≠ b := fun h => hab (by rw [h])
    simp only [lt_eq, neLen2 hab, ite_t, decide_eq_false this]
theorem item_Same_dec (a b : Item) (h : okI a) : item_Same_sh big a b = some (decide (a = b)) := by
  unfold item_Same_sh
  rw [eqF_dec _ _ (by have := h.1; omega), eqT_dec _ _ (by have := h.2; omega)]
  simp only [lt_eq, bn_some, ite_and, itemEq]
theorem space_Same1_dec (a b : Pair) (h : okI a.item) : space_Same_1_sh big a b = some (decide (a = b)) := by
  unfold space_Same_1_sh
  rw [item_Same_dec _ _ h]
  simp only [lt_eq, bn_some, ite_and, pairEq]
theorem eqP_dec (a b : List Pair) (h : a.length ≤ 10000000000000) (ho : okP a) : slices_EqualFunc_api_Pair_sh big a b = some (decide (a = b)) := by
  unfold slices_EqualFunc_api_Pair_sh
  by_cases hab : a.length = b.length
  · simp only [lt_eq, neLen hab, ite_f]
    refine eqLoop a b hab (by omega) _ (fun i hi hj => ?_) ?_
    · rw [ltI_t (by simp only [lenI]; omega)]
      simp only [lt_eq, bn_some, ite_t, ite_f, sm_inl, sm_inr, lenI_eq, Option.some.injEq, nth_some hi, nth_some hj, space_Same1_dec _ _ (ho _ (List.getElem_mem hi))]
      cases decide (a[i] = b[i]) <;> rfl
    · rw [ltI_f (by simp only [lenI]; omega)]
      rfl
  · have : a ≠ b := fun h => hab (by rw [h])
    simp only [lt_eq, neLen2 hab, ite_t, decide_eq_false this]
theorem space_Same_dec (a b : List Pair) (h : a.length ≤ 10000000000000) (ho : okP a) : space_Same_sh big a b = some (decide (a = b)) := by
  unfold space_Same_sh
  rw [eqP_dec a b h ho]
  rfl
theorem r_eqF_dec (a b : List Field) (h : a.length ≤ 10000000000000) : r5_SameFields_sh big a b = some (decide (a = b)) := by
  unfold r5_SameFields_sh
  by_cases hab : a.length = b.length
  · simp only [lt_eq, neLen hab, ite_f]
    refine eqLoop a b hab (by omega) _ (fun i hi hj => ?_) ?_
    · rw [ltI_t (by simp only [lenI]; omega)]
      simp only [lt_eq, bn_some, ite_t, ite_f, sm_inl, sm_inr, lenI_eq, Option.some.injEq, nth_some hi, nth_some hj, fieldEq]
      cases decide (a[i] = b[i]) <;> rfl
    · rw [ltI_f (by simp only [lenI]; omega)]
      rfl
  · have : a ≠ b := fun h => hab (by rw [h])
    simp only [lt_eq, neLen2 hab, ite_t, decide_eq_false this]
theorem r_eqT_dec (a b : List ByteArray) (h : a.length ≤ 10000000000000) : r1_Texts_sh big a b = some (decide (a = b)) := by
  unfold r1_Texts_sh
  by_cases hab : a.length = b.length
  · simp only [lt_eq, neLen hab, ite_f]
    refine eqLoop a b hab (by omega) _ (fun i hi hj => ?_) ?_
    · rw [ltI_t (by simp only [lenI]; omega)]
      simp only [lt_eq, bn_some, ite_t, ite_f, sm_inl, sm_inr, lenI_eq, Option.some.injEq, nth_some hi, nth_some hj, neS]
      cases decide (a[i] = b[i]) <;> rfl
    · rw [ltI_f (by simp only [lenI]; omega)]
      rfl
  · have : a ≠ b := fun h => hab (by rw [h])
    simp only [lt_eq, neLen2 hab, ite_t, decide_eq_false this]
theorem r_SameItem_dec (a b : Item) (h : okI a) : r5_SameItem_sh big a b = some (decide (a = b)) := by
  unfold r5_SameItem_sh
  rw [r_eqF_dec _ _ (by have := h.1; omega), r_eqT_dec _ _ (by have := h.2; omega)]
  simp only [lt_eq, bn_some, ite_and, itemEq]
theorem r_SameSpace_dec (a b : List Pair) (h : a.length ≤ 10000000000000) (ho : okP a) : r5_SameSpace_sh big a b = some (decide (a = b)) := by
  unfold r5_SameSpace_sh
  by_cases hab : a.length = b.length
  · simp only [lt_eq, neLen hab, ite_f]
    refine eqLoop a b hab (by omega) _ (fun i hi hj => ?_) ?_
    · rw [ltI_t (by simp only [lenI]; omega)]
      simp only [lt_eq, bn_some, ite_t, ite_f, sm_inl, sm_inr, lenI_eq, Option.some.injEq, nth_some hi, nth_some hj, r_SameItem_dec _ _ (ho _ (List.getElem_mem hi)), notB]
      rw [← pairEq a[i] b[i]]
      cases h1 : decide (a[i].item = b[i].item) <;> cases h2 : eqS a[i].key b[i].key <;> simp [neS, eqS] at h2 ⊢ <;> simp [h2, lt_eq, bn_some, ite_t, ite_f, sm_inl, sm_inr, lenI_eq, Option.some.injEq]
    · rw [ltI_f (by simp only [lenI]; omega)]
      rfl
  · have : a ≠ b := fun h => hab (by rw [h])
    simp only [lt_eq, neLen2 hab, ite_t, decide_eq_false this]
/-- What is at a key. -/
def rawP (l : List Pair) (k : ByteArray) : Option Item := (l.find? fun p => decide (p.key = k)).map fun p => p.item
def noI : Item := ⟨0, ⟨#[]⟩, [], [], 0⟩
theorem rawP_no {l : List Pair} {k : ByteArray} (h : ∀ p ∈ l, p.key ≠ k) : rawP l k = none := by
  unfold rawP
  rw [List.find?_eq_none.2 (fun p hp => by simpa using h p hp)]
  rfl
theorem rawP_at {l : List Pair} {k : ByteArray} {i : Nat} (hi : i < l.length) (h : l[i].key = k) (hb : ∀ j (hj : j < i), l[j].key ≠ k) : rawP l k = some l[i].item := by
  unfold rawP
  rw [List.find?_eq_some_iff_getElem.2 ⟨by simpa using h, i, hi, rfl, fun j hj => by simpa using hb j hj⟩]
  rfl
theorem rawP_shape {A B C : List Pair} {k : ByteArray} (hA : ∀ a ∈ A, slt a.key k = true) (hC : ∀ c ∈ C, slt k c.key = true) (hB : B = [] ∨ ∃ x, B = [x] ∧ x.key = k) : rawP (A ++ B ++ C) k = (B.head?).map fun p => p.item := by
  have h1 : A.find? (fun p => decide (p.key = k)) = none := List.find?_eq_none.2 fun p hp => by simpa using slt_ne (hA p hp)
  have h2 : C.find? (fun p => decide (p.key = k)) = none := List.find?_eq_none.2 fun p hp => by simpa using fun e => slt_ne (hC p hp) e.symm
  unfold rawP
  rw [List.find?_append, List.find?_append, h1, h2]
  rcases hB with rfl | ⟨x, rfl, hx⟩
  · rfl
  · simp [hx]
theorem rawP_ok {l : List Pair} {k : ByteArray} {it : Item} (ho : okP l) (h : rawP l k = some it) : okI it := by
  unfold rawP at h
  obtain ⟨p, hp, rfl⟩ := Option.map_eq_some_iff.1 h
  exact ho p (List.mem_of_find?_eq_some hp)
theorem space_Raw_ok (l : List Pair) (k : ByteArray) (h : SrtP l) (ho : okP l) (hl : l.length ≤ 1000000000) : space_Raw_sh big l k = some ((rawP l k).getD noI, (rawP l k).isSome) := by
  obtain ⟨A, B, C, rfl, hA, hC, hB⟩ := shapeG (key := Pair.key) k l h
  unfold space_Raw_sh
  rw [find_ok1 A B C k hA hC hB hl, rawP_shape hA hC hB]
  rcases hB with rfl | ⟨x, rfl, hx⟩
  · rfl
  · have hn : (A ++ [x] ++ C)[A.length]? = some x := by simp
    simp only [lt_eq, bn_some, ite_t, ite_f, sm_inl, sm_inr, lenI_eq, Option.some.injEq, List.isEmpty_cons, Bool.not_false, notB_t, nth_nat, hn]
    rw [item_Copy_ok _ (ho x (by simp))]
    rfl
theorem r_Raw_ok (l : List Pair) (k : ByteArray) (hl : l.length ≤ 1000000000) : r5_Raw_sh big l k = some ⟨(rawP l k).getD noI, (rawP l k).isSome⟩ := by
  refine Rn.eq ?_
  unfold r5_Raw_sh
  refine Rn.bn (P := fun y => (y = .inl () ∧ rawP l k = none) ∨ (∃ it, y = .inr ⟨it, true⟩ ∧ rawP l k = some it)) (Rn.iter _ (fun q x => x = (q : Int) ∧ ∀ i (h : i < q) (hi : i < l.length), l[i].key ≠ k) l.length (by unfold big; omega) ⟨rfl, fun i h => by omega⟩ fun q x hq hI => ?_) fun y hy => ?_
  · obtain ⟨rfl, hI⟩ := hI
    by_cases hq2 : q < l.length
    · simp only [lt_eq]
      rw [ltI_t (by simp only [lenI]; omega), nth_some hq2]
      simp only [lt_eq, bn_some, ite_t, ite_f, sm_inl, sm_inr, lenI_eq, Option.some.injEq, eqS]
      by_cases hk : l[q].key = k
      · rw [decide_eq_true hk]
        exact ⟨_, rfl, .inr ⟨_, rfl, rawP_at hq2 hk fun j hj => hI j hj (by omega)⟩⟩
      · rw [decide_eq_false hk]
        refine ⟨_, rfl, hq2, by rw [addI_64 (by omega) (by omega)]; omega, fun i hi h1 => ?_⟩
        by_cases hiq : i = q
        · subst hiq; exact hk
        · exact hI i (by omega) h1
    · obtain rfl : q = l.length := by omega
      simp only [lt_eq]
      rw [ltI_f (by simp only [lenI]; omega)]
      refine ⟨_, rfl, .inl ⟨rfl, rawP_no fun p hp => ?_⟩⟩
      obtain ⟨i, hi, rfl⟩ := List.getElem_of_mem hp
      exact hI i hi hi
  · rcases hy with ⟨rfl, h⟩ | ⟨it, rfl, h⟩
    · rw [h]; exact ⟨_, rfl, rfl⟩
    · rw [h]; exact ⟨_, rfl, rfl⟩
def alive (i : Item) (now : Int) : Bool := decide (i.exp = 0) || decide (now < i.exp)
def getP (l : List Pair) (k : ByteArray) (now : Int) : Option Item := bif alive ((rawP l k).getD noI) now then rawP l k else none
theorem item_Alive_ok (i : Item) (now : Int) : item_Alive_sh big i now = some (alive i now) := by
  unfold item_Alive_sh
  simp only [lt_eq, bn_some, ite_or]
  rfl
theorem r_Alive_ok (i : Item) (now : Int) : r5_Alive_sh big i now = some (alive i now) := by
  unfold r5_Alive_sh
  simp only [lt_eq, bn_some, ite_or]
  rfl
theorem space_Get_ok (l : List Pair) (k : ByteArray) (now : Int) (h : SrtP l) (ho : okP l) (hl : l.length ≤ 1000000000) : space_Get_sh big l k now = some ((getP l k now).getD noI, (getP l k now).isSome) := by
  unfold space_Get_sh getP
  rw [space_Raw_ok l k h ho hl]
  simp only [lt_eq, bn_some, ite_t, ite_f, sm_inl, sm_inr, lenI_eq, Option.some.injEq]
  cases h1 : rawP l k
  · cases alive ((none : Option Item).getD noI) now <;> rfl
  · simp only [Option.isSome_some, Option.getD_some, notB_t, lt_eq, bn_some, ite_t, ite_f, sm_inl, sm_inr, lenI_eq, Option.some.injEq, item_Alive_ok]
    rename_i v
    cases h2 : alive v now <;> rfl
theorem r_Get_ok (l : List Pair) (k : ByteArray) (now : Int) (hl : l.length ≤ 1000000000) : r5_Get_sh big l k now = some ⟨(getP l k now).getD noI, (getP l k now).isSome⟩ := by
  unfold r5_Get_sh getP
  rw [r_Raw_ok l k hl]
  simp only [lt_eq, bn_some, ite_t, ite_f, sm_inl, sm_inr, lenI_eq, Option.some.injEq]
  cases h1 : rawP l k
  · cases alive ((none : Option Item).getD noI) now <;> rfl
  · simp only [Option.isSome_some, Option.getD_some, notB_t, lt_eq, bn_some, ite_t, ite_f, sm_inl, sm_inr, lenI_eq, Option.some.injEq, r_Alive_ok]
    rename_i v
    cases h2 : alive v now <;> rfl
theorem getP_ok {l : List Pair} {k : ByteArray} {now : Int} {it : Item} (ho : okP l) (h : getP l k now = some it) : okI it := by
  unfold getP at h
  cases h2 : alive ((rawP l k).getD noI) now
  · rw [h2] at h; simp at h
  · rw [h2] at h; exact rawP_ok ho h
theorem okI_no : okI noI := ⟨by simp [noI], by simp [noI]⟩
theorem okI_getD {o : Option Item} (h : ∀ it, o = some it → okI it) : okI (o.getD noI) := by
  cases o with
  | none => exact okI_no
  | some v => exact h v rfl
end Go.Proofs.Ytlkhfdccapkcdaa

/- Plain laws: the program's slot is the document's. -/
namespace Go.Proofs.Ytlkhfdccapkcdaa
open Go Go.RowKit
set_option linter.unusedVariables false
set_option linter.unusedSimpArgs false
theorem ltT {a b : Int} (h : a < b) : ltI a b = true := by simp [ltI, h]
theorem ltF {a b : Int} (h : ¬ a < b) : ltI a b = false := by simp [ltI]; omega
/-! ### The first of a byte -/
theorem indexByte_spec (c : UInt8) : ∀ l : List UInt8, (Lib.indexByte l c = -1 ∧ ∀ b ∈ l, b ≠ c) ∨ ∃ i : Nat, Lib.indexByte l c = i ∧ ∃ hi : i < l.length, l[i] = c ∧ ∀ j (hj : j < i), l[j] ≠ c
  | [] => .inl ⟨rfl, by simp⟩
  | b :: l => by
    by_cases h : b = c
    · refine .inr ⟨0, ?_, by simp, h, fun j hj => by omega⟩
      unfold Lib.indexByte
      simp [h]
    · rcases indexByte_spec c l with ⟨h1, h2⟩ | ⟨i, h1, hi, h2, h3⟩
      · refine .inl ⟨?_, fun x hx => ?_⟩
        · unfold Lib.indexByte
          simp [h, h1]
        · rcases List.mem_cons.1 hx with rfl | hx
          · exact h
          · exact h2 x hx
      · refine .inr ⟨i + 1, ?_, by simp; omega, by simpa using h2, fun j hj => ?_⟩
        · unfold Lib.indexByte
          have : ¬ ((i : Int) = -1) := by omega
          simp [h, h1, this]
        · cases j with
          | zero => exact h
          | succ j => simpa using h3 j (by omega)
theorem bAt_list {s : ByteArray} {i : Nat} (h : i < s.size) : bAt s i = ((s.data.toList[i]'(by simpa using h)).toNat : Int) := by
  unfold bAt
  rw [dif_pos h]
  rfl
theorem byte_inj {a : UInt8} {c : Nat} (hc : c < 256) : ((a.toNat : Int) = (c : Int)) ↔ a = (c : Int).toNat.toUInt8 := by
  have e : ((c : Int).toNat.toUInt8).toNat = c := by simp; omega
  constructor
  · intro h
    apply UInt8.toNat_inj.1
    rw [e]
    omega
  · rintro rfl
    rw [e]
theorem idxB_spec (s : ByteArray) (c : Int) (hc0 : 0 ≤ c) (hc : c < 256) : (idxB s c = -1 ∧ ∀ i, i < s.size → bAt s i ≠ c) ∨ ∃ i : Nat, idxB s c = i ∧ i < s.size ∧ bAt s i = c ∧ ∀ j, j < i → bAt s j ≠ c := by
  obtain ⟨c, rfl⟩ : ∃ n : Nat, c = n := ⟨c.toNat, by omega⟩
  have hc : c < 256 := by omega
  have hlen : s.data.toList.length = s.size := by simp
  rcases indexByte_spec ((c : Int).toNat.toUInt8) s.data.toList with ⟨h1, h2⟩ | ⟨i, h1, hi, h2, h3⟩
  · refine .inl ⟨h1, fun i hi => ?_⟩
    rw [bAt_list hi, Ne, byte_inj hc]
    exact h2 _ (List.getElem_mem _)
  · refine .inr ⟨i, h1, by omega, ?_, fun j hj => ?_⟩
    · rw [bAt_list (by omega), byte_inj hc]
      exact h2
    · rw [bAt_list (by omega), Ne, byte_inj hc]
      exact h3 j hj
/-! ### The tag -/
theorem Index_ok (s : ByteArray) : stringslite_Index_sh big s = some (idxB s 123) := by
  unfold stringslite_Index_sh
  by_cases h : (⟨#[123]⟩ : ByteArray) = s
  · subst h
    rfl
  · simp only [lt_eq, eqS, decide_eq_false h, ite_f]
    rfl
theorem Index_fx_ok (s : ByteArray) : stringslite_Index_fx_sh big s = some (idxB s 125) := by
  unfold stringslite_Index_fx_sh
  by_cases h : (⟨#[125]⟩ : ByteArray) = s
  · subst h
    rfl
  · simp only [lt_eq, eqS, decide_eq_false h, ite_f]
    rfl
theorem geT {a b : Int} (h : b ≤ a) : geI a b = true := by simp [geI, h]
theorem geF {a b : Int} (h : ¬ b ≤ a) : geI a b = false := by simp [geI]; omega
theorem Cut_no (s : ByteArray) (h : idxB s 123 = -1) : strings_Cut_sh big s = some (s, ⟨#[]⟩, false) := by
  unfold strings_Cut_sh stringslite_Cut_sh
  rw [Index_ok, h]
  rfl
theorem Cut_fx_no (s : ByteArray) (h : idxB s 125 = -1) : strings_Cut_fx_sh big s = some (s, ⟨#[]⟩, false) := by
  unfold strings_Cut_fx_sh stringslite_Cut_fx_sh
  rw [Index_fx_ok, h]
  rfl
theorem Cut_at (s : ByteArray) (i : Nat) (h : idxB s 123 = i) (hi : i < s.size) (hs : s.size ≤ 1000000000000) : strings_Cut_sh big s = some (s.extract 0 i, s.extract (i + 1) s.size, true) := by
  unfold strings_Cut_sh stringslite_Cut_sh
  rw [Index_ok, h]
  have e1 : segSh s (i : Int) = some (s.extract 0 i) := by
    unfold segSh
    rw [if_pos (by omega)]
    rfl
  have e2 : segSl s ((i : Int) + 1) = some (s.extract (i + 1) s.size) := by
    unfold segSl
    rw [if_pos (by omega)]
    rfl
  simp only [lt_eq, bn_some, ite_t, ite_f, sm_inl, sm_inr, lenI_eq, Option.some.injEq]
  rw [geT (by omega), addI_64 (by omega) (by omega), e1, e2]
  rfl
theorem Cut_fx_at (s : ByteArray) (i : Nat) (h : idxB s 125 = i) (hi : i < s.size) (hs : s.size ≤ 1000000000000) : strings_Cut_fx_sh big s = some (s.extract 0 i, s.extract (i + 1) s.size, true) := by
  unfold strings_Cut_fx_sh stringslite_Cut_fx_sh
  rw [Index_fx_ok, h]
  have e1 : segSh s (i : Int) = some (s.extract 0 i) := by
    unfold segSh
    rw [if_pos (by omega)]
    rfl
  have e2 : segSl s ((i : Int) + 1) = some (s.extract (i + 1) s.size) := by
    unfold segSl
    rw [if_pos (by omega)]
    rfl
  simp only [lt_eq, bn_some, ite_t, ite_f, sm_inl, sm_inr, lenI_eq, Option.some.injEq]
  rw [geT (by omega), addI_64 (by omega) (by omega), e1, e2]
  rfl
theorem bAt_extract {s : ByteArray} {a j : Nat} (h : a + j < s.size) : bAt (s.extract a s.size) j = bAt s (a + j) := by
  have h2 : j < (s.extract a s.size).size := by rw [ByteArray.size_extract]; omega
  unfold bAt
  rw [dif_pos h2, dif_pos h, ByteArray.getElem_extract]
theorem atS_ok {s : ByteArray} {i : Nat} (h : i < s.size) : atS s (i : Int) = some (bAt s i) := by
  unfold atS
  rw [if_pos (by omega)]
  rfl
theorem neT {a b : Int} (h : a ≠ b) : neI a b = true := by simp [neI, h]
theorem eqF' {a b : Int} (h : a ≠ b) : eqI a b = false := by simp [eqI, h]
theorem Tag_ok (s : ByteArray) (hs : s.size ≤ 1000000000000) : ∃ t : ByteArray, r1_Tag_sh big s = some t ∧ slot_Tag_sh big s = some t ∧ t.size ≤ s.size := by
  rcases idxB_spec s 123 (by omega) (by omega) with ⟨h1, h2⟩ | ⟨i, h1, h2, h3, h4⟩
  · refine ⟨s, ?_, ?_, Nat.le_refl _⟩
    · unfold r1_Tag_sh
      refine bn_run (.inl ()) (fun i => (i : Int)) s.size (by unfold big; omega) rfl (fun i hi => ?_) ?_ rfl
      · simp only [lt_eq]
        rw [ltT (by simp only [lenS]; omega), atS_ok hi]
        simp only [lt_eq, bn_some, ite_t, ite_f, sm_inl, sm_inr, lenI_eq, Option.some.injEq]
        rw [neT (h2 i hi), ite_t, addI_64 (by omega) (by omega)]
        rfl
      · simp only [lt_eq]
        rw [ltF (by simp only [lenS]; omega)]
        rfl
    · unfold slot_Tag_sh
      rw [Cut_no s h1]
      rfl
  have hstep : ∀ q, q < i → ∀ {γ : Type} (x : Option (Int ⊕ γ)) (y : Option (Int ⊕ γ)), ite' (ltI (q : Int) (lenS s)) (bn (atS s (q : Int)) fun v6 => ite' (neI v6 123) (some (.inl (addI .i64 (q : Int) 1))) x) y = some (.inl ((q + 1 : Nat) : Int)) := fun q hq γ x y => by
    rw [ltT (by simp only [lenS]; omega), atS_ok (by omega)]
    simp only [lt_eq, bn_some, ite_t, ite_f, sm_inl, sm_inr, lenI_eq, Option.some.injEq]
    rw [neT (h4 q hq), ite_t, addI_64 (by omega) (by omega)]
    rfl
  have hsz : (s.extract (i + 1) s.size).size = s.size - (i + 1) := by rw [ByteArray.size_extract]; omega
  rcases idxB_spec (s.extract (i + 1) s.size) 125 (by omega) (by omega) with ⟨k1, k2⟩ | ⟨j, k1, k2, k3, k4⟩
  · have k2 : ∀ q, i + 1 + q < s.size → bAt s (i + 1 + q) ≠ 125 := fun q hq => by
      have := k2 q (by omega)
      rwa [bAt_extract hq] at this
    refine ⟨s, ?_, ?_, Nat.le_refl _⟩
    · unfold r1_Tag_sh
      refine bn_run (.inr s) (fun i => (i : Int)) i (by unfold big; omega) rfl (fun q hq => hstep q hq _ _) ?_ rfl
      simp only [lt_eq]
      rw [ltT (by simp only [lenS]; omega), atS_ok h2]
      simp only [lt_eq, bn_some, ite_t, ite_f, sm_inl, sm_inr, lenI_eq, Option.some.injEq, h3]
      rw [show neI (123 : Int) 123 = false by rfl, ite_f]
      refine bn_run (.inl ()) (fun q => ((i + 1 + q : Nat) : Int)) (s.size - (i + 1)) (by unfold big; omega) (by rw [addI_64 (by omega) (by omega)]; omega) (fun q hq => ?_) ?_ rfl
      · rw [ltT (by simp only [lenS]; omega), atS_ok (by omega)]
        simp only [lt_eq, bn_some, ite_t, ite_f, sm_inl, sm_inr, lenI_eq, Option.some.injEq]
        rw [eqF' (k2 q (by omega)), ite_f, addI_64 (by omega) (by omega)]
        rfl
      · rw [ltF (by simp only [lenS]; omega)]
        rfl
    · unfold slot_Tag_sh
      rw [Cut_at s i h1 h2 hs]
      simp only [lt_eq, bn_some, ite_t, ite_f, sm_inl, sm_inr, lenI_eq, Option.some.injEq]
      rw [Cut_fx_no _ k1]
      rfl
  · have hj : i + 1 + j < s.size := by omega
    have k3 : bAt s (i + 1 + j) = 125 := by rwa [bAt_extract hj] at k3
    have k4 : ∀ q, q < j → bAt s (i + 1 + q) ≠ 125 := fun q hq => by
      have := k4 q hq
      rwa [bAt_extract (by omega)] at this
    have hex : (s.extract (i + 1) s.size).extract 0 j = s.extract (i + 1) (i + 1 + j) := by
      rw [ByteArray.extract_extract]
      congr 1
      omega
    have hez : (s.extract (i + 1) (i + 1 + j)).size = j := by rw [ByteArray.size_extract]; omega
    have hslot : slot_Tag_sh big s = some (bif decide (j = 0) then s else s.extract (i + 1) (i + 1 + j)) := by
      unfold slot_Tag_sh
      rw [Cut_at s i h1 h2 hs]
      simp only [lt_eq, bn_some, ite_t, ite_f, sm_inl, sm_inr, lenI_eq, Option.some.injEq]
      rw [Cut_fx_at _ j k1 k2 (by omega)]
      simp only [lt_eq, bn_some, ite_t, ite_f, sm_inl, sm_inr, lenI_eq, Option.some.injEq, hex]
      by_cases h0 : j = 0
      · have : s.extract (i + 1) (i + 1 + j) = ⟨#[]⟩ := by
          apply ByteArray.ext
          apply Array.eq_empty_of_size_eq_zero
          exact hez.trans h0
        rw [this, show neS (⟨#[]⟩ : ByteArray) ⟨#[]⟩ = false by rfl, decide_eq_true h0]
        rfl
      · have : s.extract (i + 1) (i + 1 + j) ≠ ⟨#[]⟩ := fun h => by
          rw [h] at hez
          exact h0 hez.symm
        rw [show neS (s.extract (i + 1) (i + 1 + j)) ⟨#[]⟩ = true by simp [neS, this], decide_eq_false h0]
        rfl
    have hr1 : r1_Tag_sh big s = some (bif decide (j = 0) then s else s.extract (i + 1) (i + 1 + j)) := by
      unfold r1_Tag_sh
      refine bn_run (.inr (bif decide (j = 0) then s else s.extract (i + 1) (i + 1 + j))) (fun i => (i : Int)) i (by unfold big; omega) rfl (fun q hq => hstep q hq _ _) ?_ rfl
      simp only [lt_eq]
      rw [ltT (by simp only [lenS]; omega), atS_ok h2]
      simp only [lt_eq, bn_some, ite_t, ite_f, sm_inl, sm_inr, lenI_eq, Option.some.injEq, h3]
      rw [show neI (123 : Int) 123 = false by rfl, ite_f]
      refine bn_run (.inr (bif decide (j = 0) then s else s.extract (i + 1) (i + 1 + j))) (fun q => ((i + 1 + q : Nat) : Int)) j (by unfold big; omega) (by rw [addI_64 (by omega) (by omega)]; omega) (fun q hq => ?_) ?_ rfl
      · rw [ltT (by simp only [lenS]; omega), atS_ok (by omega)]
        simp only [lt_eq, bn_some, ite_t, ite_f, sm_inl, sm_inr, lenI_eq, Option.some.injEq]
        rw [eqF' (k4 q hq), ite_f, addI_64 (by omega) (by omega)]
        rfl
      · rw [ltT (by simp only [lenS]; omega), atS_ok hj]
        simp only [lt_eq, bn_some, ite_t, ite_f, sm_inl, sm_inr, lenI_eq, Option.some.injEq, k3]
        rw [show eqI (125 : Int) 125 = true by rfl, ite_t, addI_64 (by omega) (by omega)]
        by_cases h0 : j = 0
        · rw [show eqI ((i + 1 + j : Nat) : Int) ((i : Int) + 1) = true by simp [eqI]; omega, decide_eq_true h0]
          rfl
        · rw [eqF' (by omega), decide_eq_false h0, ite_f]
          have : segSlh s ((i : Int) + 1) ((i + 1 + j : Nat) : Int) = some (s.extract (i + 1) (i + 1 + j)) := by
            unfold segSlh segS
            rw [if_pos (by omega)]
            rfl
          rw [this]
          rfl
    refine ⟨_, hr1, hslot, ?_⟩
    cases decide (j = 0)
    · simp only [cond_false]; omega
    · exact Nat.le_refl _
/-! ### The check sum -/
theorem xorI_64 {x y : Nat} (hx : x < 2 ^ 62) (hy : y < 2 ^ 62) : xorI .i64 (x : Int) (y : Int) = ((x ^^^ y : Nat) : Int) := by
  have h := Nat.xor_lt_two_pow hx hy
  show IntKind.i64.wrap ((BitVec.ofInt 64 (x : Int) ^^^ BitVec.ofInt 64 (y : Int)).toNat : Int) = _
  simp only [BitVec.ofInt_natCast, BitVec.toNat_xor, BitVec.toNat_ofNat]
  rw [Nat.mod_eq_of_lt (show x < 2 ^ 64 by omega), Nat.mod_eq_of_lt (show y < 2 ^ 64 by omega), wrap64 (by omega) (by omega)]
theorem wrapU16 (a : Int) : IntKind.u16.wrap a = a % 65536 := by simp [IntKind.wrap, IntKind.bits, IntKind.signed]
theorem xorI_16 {x y : Nat} (hx : x < 2 ^ 16) (hy : y < 2 ^ 16) : xorI .u16 (x : Int) (y : Int) = ((x ^^^ y : Nat) : Int) := by
  have h := Nat.xor_lt_two_pow hx hy
  show IntKind.u16.wrap ((BitVec.ofInt 16 (x : Int) ^^^ BitVec.ofInt 16 (y : Int)).toNat : Int) = _
  simp only [BitVec.ofInt_natCast, BitVec.toNat_xor, BitVec.toNat_ofNat]
  rw [Nat.mod_eq_of_lt hx, Nat.mod_eq_of_lt hy, wrapU16]
  omega
theorem andI_16 {x : Nat} (hx : x < 2 ^ 62) : andI .i64 (x : Int) 65535 = ((x % 65536 : Nat) : Int) := by
  have e : (65535 : Int) = ((65535 : Nat) : Int) := rfl
  rw [e]
  show IntKind.i64.wrap ((BitVec.ofInt 64 (x : Int) &&& BitVec.ofInt 64 ((65535 : Nat) : Int)).toNat : Int) = _
  simp only [BitVec.ofInt_natCast, BitVec.toNat_and, BitVec.toNat_ofNat]
  rw [Nat.mod_eq_of_lt (show x < 2 ^ 64 by omega), show 65535 % 2 ^ 64 = 2 ^ 16 - 1 by rfl, Nat.and_two_pow_sub_one_eq_mod, wrap64 (by omega) (by omega)]
/-- One bit. -/
def bit1 (c : Nat) : Nat := if 32768 ≤ c then (2 * c ^^^ 4129) % 65536 else 2 * c
theorem bit1_lt {c : Nat} (h : c < 65536) : bit1 c < 65536 := by unfold bit1; split <;> omega
def bits : Nat → Nat → Nat
  | 0, c => c
  | k + 1, c => bit1 (bits k c)
theorem bits_lt {c : Nat} (h : c < 65536) : ∀ k, bits k c < 65536
  | 0 => h
  | k + 1 => bit1_lt (bits_lt h k)
def byteN (s : ByteArray) (i : Nat) : Nat := (bAt s i).toNat
theorem bAt_byte (s : ByteArray) (i : Nat) : bAt s i = (byteN s i : Int) ∧ byteN s i < 256 := by
  unfold byteN bAt
  split
  · rename_i h
    have := (s[i]'h).toNat_lt
    omega
  · exact ⟨rfl, by simp⟩
def crcN (s : ByteArray) : Nat → Nat
  | 0 => 0
  | i + 1 => bits 8 (crcN s i ^^^ byteN s i * 256)
theorem crcN_lt (s : ByteArray) : ∀ i, crcN s i < 65536
  | 0 => by simp [crcN]
  | i + 1 => by
    have h1 := crcN_lt s i
    have h2 := (bAt_byte s i).2
    exact bits_lt (Nat.xor_lt_two_pow (n := 16) (by omega) (by omega)) 8
theorem r1_Crc_ok (s : ByteArray) (hs : s.size ≤ 1000000000000) : r1_Crc_sh big s = some (crcN s s.size : Int) := by
  unfold r1_Crc_sh
  refine bn_run (crcN s s.size : Int) (fun i => ((crcN s i : Int), (i : Int))) s.size (by unfold big; omega) rfl (fun i hi => ?_) ?_ rfl
  · simp only [lt_eq]
    rw [ltT (by simp only [lenS]; omega), atS_ok hi]
    obtain ⟨b1, b2⟩ := bAt_byte s i
    have hc := crcN_lt s i
    rw [b1]
    simp only [lt_eq, bn_some, ite_t, ite_f, sm_inl, sm_inr, lenI_eq, Option.some.injEq]
    rw [cvI_64 (by omega) (by omega)]
    have e1 : shlI .i64 (byteN s i : Int) 8 = some ((byteN s i * 256 : Nat) : Int) := by
      unfold shlI
      rw [if_pos (by omega)]
      simp only [IntKind.bits, show min (8 : Int).toNat 64 = 8 by rfl]
      rw [wrap64 (by omega) (by omega)]
      congr 1
    rw [e1]
    simp only [bn_some]
    rw [xorI_64 (by omega) (by omega)]
    have hx : crcN s i ^^^ byteN s i * 256 < 65536 := Nat.xor_lt_two_pow (n := 16) (by omega) (by omega)
    have hcs : crcN s (i + 1) = bits 8 (crcN s i ^^^ byteN s i * 256) := rfl
    rw [hcs]
    clear hcs
    generalize crcN s i ^^^ byteN s i * 256 = x at hx ⊢
    refine bn_run (bits 8 x : Int) (fun k => ((bits k x : Int), (k : Int))) 8 (by unfold big; omega) rfl (fun k hk => ?_) ?_ ?_
    · simp only
      rw [ltT (by omega), ite_t]
      have hb := bits_lt hx k
      have e2 : shlI .i64 (bits k x : Int) 1 = some ((2 * bits k x : Nat) : Int) := by
        unfold shlI
        rw [if_pos (by omega)]
        simp only [IntKind.bits, show min (1 : Int).toNat 64 = 1 by rfl]
        rw [wrap64 (by omega) (by omega)]
        congr 1
        omega
      rw [e2]
      simp only [bn_some]
      have e3 : ite' (geI ((2 * bits k x : Nat) : Int) 65536) (some (andI .i64 (xorI .i64 ((2 * bits k x : Nat) : Int) 4129) 65535)) (some ((2 * bits k x : Nat) : Int)) = some (bit1 (bits k x) : Int) := by
        unfold bit1
        by_cases h : 32768 ≤ bits k x
        · rw [geT (by omega), if_pos h, ite_t, show (4129 : Int) = ((4129 : Nat) : Int) by rfl, xorI_64 (by omega) (by omega)]
          have h2 : 2 * bits k x ^^^ 4129 < 2 ^ 17 := Nat.xor_lt_two_pow (by omega) (by omega)
          rw [andI_16 (by omega)]
        · rw [geF (by omega), if_neg h, ite_f]
      rw [e3]
      simp only [bn_some]
      rw [addI_64 (by omega) (by omega)]
      rfl
    · simp only
      rw [ltF (by omega)]
      rfl
    · rw [addI_64 (by omega) (by omega)]
      rfl
  · simp only [lt_eq]
    rw [ltF (by simp only [lenS]; omega)]
    rfl
theorem bytesI_len (s : ByteArray) : (bytesI s).length = s.size := by simp [bytesI]
theorem bytesI_get (s : ByteArray) (i : Nat) (h : i < (bytesI s).length) : (bytesI s)[i] = bAt s i := by
  rw [bAt_list (by rw [bytesI_len] at h; exact h)]
  simp [bytesI]
theorem slot_Crc_ok (s : ByteArray) (hs : s.size ≤ 1000000000000) : slot_Crc_sh big (bytesI s) = some (crcN s s.size : Int) := by
  unfold slot_Crc_sh
  have hl := bytesI_len s
  simp only [lt_eq]
  refine bn_run (crcN s s.size : Int) (fun i => ((crcN s i : Int), (i : Int))) s.size (by unfold big; omega) rfl (fun i hi => ?_) ?_ ?_
  · simp only
    rw [ltT (by simp only [lenI]; omega), nth_some (by omega), bytesI_get]
    obtain ⟨b1, b2⟩ := bAt_byte s i
    have hc := crcN_lt s i
    rw [b1]
    simp only [lt_eq, bn_some, ite_t, ite_f, sm_inl, sm_inr, lenI_eq, Option.some.injEq]
    have e0 : cvI .u16 (byteN s i : Int) = (byteN s i : Int) := by unfold cvI; rw [wrapU16]; omega
    rw [e0]
    have e1 : shlI .u16 (byteN s i : Int) 8 = some ((byteN s i * 256 : Nat) : Int) := by
      unfold shlI
      rw [if_pos (by omega)]
      simp only [IntKind.bits, show min (8 : Int).toNat 16 = 8 by rfl]
      rw [wrapU16]
      congr 1
      omega
    rw [e1]
    simp only [bn_some]
    rw [xorI_16 (by omega) (by omega)]
    have hx : crcN s i ^^^ byteN s i * 256 < 65536 := Nat.xor_lt_two_pow (n := 16) (by omega) (by omega)
    have hcs : crcN s (i + 1) = bits 8 (crcN s i ^^^ byteN s i * 256) := rfl
    rw [hcs]
    clear hcs
    generalize crcN s i ^^^ byteN s i * 256 = x at hx ⊢
    refine bn_run (bits 8 x : Int) (fun k => ((bits k x : Int), (k : Int))) 8 (by unfold big; omega) rfl (fun k hk => ?_) ?_ ?_
    · simp only
      rw [ltT (by omega), ite_t]
      have hb := bits_lt hx k
      have e2 : shlI .u16 (bits k x : Int) 1 = some ((2 * bits k x % 65536 : Nat) : Int) := by
        unfold shlI
        rw [if_pos (by omega)]
        simp only [IntKind.bits, show min (1 : Int).toNat 16 = 1 by rfl]
        rw [wrapU16]
        congr 1
        omega
      have e4 : shrI .u16 (bits k x : Int) 15 = some ((bits k x / 32768 : Nat) : Int) := by
        unfold shrI
        rw [if_pos (by omega)]
        simp only [IntKind.bits, show min (15 : Int).toNat 16 = 15 by rfl]
        rw [Int.fdiv_eq_ediv_of_nonneg _ (by omega)]
        rfl
      rw [e2, e4]
      simp only [bn_some]
      have e5 : mulI .u16 4129 ((bits k x / 32768 : Nat) : Int) = ((4129 * (bits k x / 32768) : Nat) : Int) := by
        unfold mulI
        rw [wrapU16]
        omega
      rw [e5, xorI_16 (by omega) (by omega)]
      have e3 : (2 * bits k x % 65536) ^^^ (4129 * (bits k x / 32768)) = bit1 (bits k x) := by
        unfold bit1
        by_cases h : 32768 ≤ bits k x
        · rw [if_pos h, show bits k x / 32768 = 1 by omega]
          have := @Nat.xor_mod_two_pow (2 * bits k x) 4129 16
          rw [show (2 : Nat) ^ 16 = 65536 by rfl] at this
          rw [this]
        · rw [if_neg h, show bits k x / 32768 = 0 by omega, Nat.mod_eq_of_lt (by omega), Nat.mul_zero, Nat.xor_zero]
      rw [e3, addI_64 (by omega) (by omega)]
      rfl
    · simp only
      rw [ltF (by omega)]
      rfl
    · rw [addI_64 (by omega) (by omega)]
      rfl
  · simp only
    rw [ltF (by simp only [lenI]; omega)]
    rfl
  · have hc := crcN_lt s s.size
    rw [cvI_64 (by omega) (by omega)]
/-- A key's slot. -/
def slotOf (k : ByteArray) : Int := (r1_Slot_sh big k).getD 0
theorem slot_ok (k : ByteArray) (h : k.size ≤ 1000000000000) : r1_Slot_sh big k = some (slotOf k) ∧ slot_Of_sh big k = some (slotOf k) := by
  obtain ⟨t, h1, h2, h3⟩ := Tag_ok k h
  have hc := crcN_lt t t.size
  have e : remI .i64 (crcN t t.size : Int) 16384 = some (((crcN t t.size) % 16384 : Nat) : Int) := by
    simp [remI, Int.tmod_eq_emod_of_nonneg]
  have e1 : r1_Slot_sh big k = some (((crcN t t.size) % 16384 : Nat) : Int) := by
    unfold r1_Slot_sh
    rw [h1]
    simp only [bn_some]
    rw [r1_Crc_ok t (by omega)]
    simp only [bn_some]
    rw [e]
    rfl
  have e2 : slot_Of_sh big k = some (((crcN t t.size) % 16384 : Nat) : Int) := by
    unfold slot_Of_sh
    rw [h2]
    simp only [bn_some]
    rw [chk_room (by omega) (by omega)]
    simp only [lt_eq]
    rw [slot_Crc_ok t (by omega)]
    simp only [bn_some]
    rw [e]
    rfl
  unfold slotOf
  rw [e1, e2]
  exact ⟨rfl, rfl⟩
/-- The keys of a slot. -/
def inP (l : List Pair) (s : Int) : List ByteArray := (l.filter fun p => decide (slotOf p.key = s)).map fun p => p.key
theorem inP_take (l : List Pair) (s : Int) (i : Nat) (hi : i < l.length) : inP (l.take (i + 1)) s = bif decide (slotOf l[i].key = s) then inP (l.take i) s ++ [l[i].key] else inP (l.take i) s := by
  rw [← List.take_append_getElem hi]
  unfold inP
  rw [List.filter_append, List.map_append]
  by_cases h : slotOf l[i].key = s
  · simp [h]
  · simp [h]
theorem inP_len (l : List Pair) (s : Int) : (inP l s).length ≤ l.length := by
  unfold inP
  rw [List.length_map]
  exact List.length_filter_le _ _
theorem r_In_ok (l : List Pair) (s : Int) (hl : l.length ≤ 1000000000) (hk : ∀ p ∈ l, p.key.size ≤ 1000000000000) : r5_In_sh big l s = some (inP l s) := by
  unfold r5_In_sh
  have hlen := inP_len l s
  refine bn_run (inP l s) (fun i => ((i : Int), inP (l.take i) s)) l.length (by unfold big; omega) rfl (fun i hi => ?_) ?_ ?_
  · have hn := inP_len (l.take i) s
    rw [List.length_take] at hn
    simp only [lt_eq, bn_some, ite_t, ite_f, sm_inl, sm_inr, lenI_eq, Option.some.injEq]
    rw [ltT (by omega), nth_some hi]
    simp only [lt_eq, bn_some, ite_t, ite_f, sm_inl, sm_inr, lenI_eq, Option.some.injEq]
    rw [(slot_ok _ (hk _ (List.getElem_mem hi))).1]
    simp only [lt_eq, bn_some, ite_t, ite_f, sm_inl, sm_inr, lenI_eq, Option.some.injEq]
    rw [chk_room (by omega) (by omega), addI_64 (by omega) (by omega), inP_take l s i hi]
    unfold eqI
    cases decide (slotOf l[i].key = s) <;> rfl
  · simp only [lt_eq, bn_some, ite_t, ite_f, sm_inl, sm_inr, lenI_eq, Option.some.injEq]
    rw [ltF (by omega), List.take_length]
    rfl
  · rw [chk_room (by omega) (by omega)]
theorem space_In_ok (l : List Pair) (s : Int) (hl : l.length ≤ 1000000000) (hk : ∀ p ∈ l, p.key.size ≤ 1000000000000) : space_In_sh big l s = some (inP l s) := by
  unfold space_In_sh space_keys_sh slices_Collect_string_sh slices_AppendSeq_string_sh
  have hlen := inP_len l s
  simp only [lt_eq, bn_some, ite_t, ite_f, sm_inl, sm_inr, lenI_eq, Option.some.injEq]
  have e : ∀ x : Option (List ByteArray), x = some (inP l s) → (bn (bn (bn x fun y4 => some y4) fun y1 => chk (room y1.length 1) (some y1)) fun v1 => some v1) = some (inP l s) := by
    rintro x rfl
    simp only [lt_eq, bn_some, ite_t, ite_f, sm_inl, sm_inr, lenI_eq, Option.some.injEq]
    rw [chk_room (by omega) (by omega)]
    rfl
  refine (congrArg (fun x => bn x fun v2 => some v2) (e _ ?_)).trans rfl
  refine iter_run (fun i => ((i : Int), inP (l.take i) s)) l.length (by unfold big; omega) rfl (fun i hi => ?_) ?_
  · have hn := inP_len (l.take i) s
    rw [List.length_take] at hn
    simp only [lt_eq, bn_some, ite_t, ite_f, sm_inl, sm_inr, lenI_eq, Option.some.injEq]
    rw [ltT (by omega), nth_some hi]
    simp only [lt_eq, bn_some, ite_t, ite_f, sm_inl, sm_inr, lenI_eq, Option.some.injEq]
    rw [(slot_ok _ (hk _ (List.getElem_mem hi))).2]
    simp only [lt_eq, bn_some, ite_t, ite_f, sm_inl, sm_inr, lenI_eq, Option.some.injEq]
    rw [chk_room (by omega) (by omega), addI_64 (by omega) (by omega), inP_take l s i hi]
    unfold eqI
    cases decide (slotOf l[i].key = s) <;> rfl
  · simp only [lt_eq, bn_some, ite_t, ite_f, sm_inl, sm_inr, lenI_eq, Option.some.injEq]
    rw [ltF (by omega), List.take_length]
    rfl
end Go.Proofs.Ytlkhfdccapkcdaa

/- Walks, printed: l11_Make, l11_awake, l11_SpaceSlots -/
namespace Go.Proofs.Ytlkhfdccapkcdaa
open Go Go.RowKit
set_option linter.unusedVariables false
set_option linter.unusedSimpArgs false
def l11_awake_sh (n : Nat)  : Option Bool :=
bn (space_Apply_sh n [] [(⟨⟨#[97]⟩, false, (⟨1, ⟨#[]⟩, [], [], 0⟩ : Item)⟩ : Effect)]) fun v1 =>
bn (bn (space_In_sh n [] 0) fun v3 =>
lt (lenI v3) fun v4 =>
lt (eqI v4 0) fun v5 =>
ite' v5 (lt (lenI v1) fun v6 =>
lt (eqI v6 1) fun v7 =>
ite' v7 (bn (r1_Slot_sh n ⟨#[97]⟩) fun v8 =>
bn (space_In_sh n v1 v8) fun v9 =>
lt (lenI v9) fun v10 =>
lt (eqI v10 1) fun v11 =>
some (v11)) (some (false))) (some (false))) fun (y2 : Bool) =>
some y2
set_option maxRecDepth 8000 in
set_option maxHeartbeats 8000000 in
theorem s_l11_awake {n : Nat}  {r : Bool} (h : l11_awake_sh n  = some r) : Sound Try.prog 50 [] [] (.l (.s (.bool r))) [] := by
 unfold l11_awake_sh at h
 refine Sound.of_aw (fn := Try.f50) (c := _) Try.func50 rfl (by simp [Try.f50]) fun cx hG hnb => ?_
 rw [show Try.f50.ntmps = 21 from rfl]
 have hn0 : cx.nb = 0 := hnb
 simp only [st0_mk, initTm, List.map_cons, List.map_nil]
 apply AW.step
 ·simp
  intros; rfl
 replace h := bnE h; obtain ⟨v1, e1, h⟩ := h
 apply AW.step
 ·simp
  intros
  refine xrow_data (es := encEffect [(⟨⟨#[97]⟩, false, (⟨1, ⟨#[]⟩, [], [], 0⟩ : Item)⟩ : Effect)]) (by simp [encEffect, lvs, All2]) (encEffect_sz _) (by omega) (by simp) ?_
  try simp
  intros
  refine xcall_plain en_space_Apply (s_space_Apply e1) rfl ⟨.nil _ _, .same rfl, trivial⟩ ?_
  try simp
  intros; rfl
 replace h := bnE h; obtain ⟨y2, g2, h⟩ := h
 refine AW.flow (p := fun gh ls => (nP (cx := cx) (fun q => (⟨[(0, .l (.s (.bool q)))], [], 21, gh, ls⟩ : St))) y2) ?_ ?_
 ·replace h := g2; clear g2
  replace h := bnE h; obtain ⟨v3, e3, h⟩ := h
  replace h := ltE h; obtain ⟨v4, e4, h⟩ := h
  replace h := ltE h; obtain ⟨v5, e5, h⟩ := h
  cases v5 with
  | true =>
   replace h := iteT rfl h
   replace h := ltE h; obtain ⟨v6, e6, h⟩ := h
   replace h := ltE h; obtain ⟨v7, e7, h⟩ := h
   cases v7 with
   | true =>
    replace h := iteT rfl h
    replace h := bnE h; obtain ⟨v8, e8, h⟩ := h
    replace h := bnE h; obtain ⟨v9, e9, h⟩ := h
    replace h := ltE h; obtain ⟨v10, e10, h⟩ := h
    replace h := ltE h; obtain ⟨v11, e11, h⟩ := h
    apply AW.last
    ·simp [lenI_cast e4, ← e5, lenI_cast e6, ← e7, lenI_cast e10, ← e11]
     intros
     refine xcall_plain en_space_In (s_space_In e3) rfl ⟨.nil _ _, .same rfl, trivial⟩ ?_
     try simp [lenI_cast e4, ← e5, lenI_cast e6, ← e7, lenI_cast e10, ← e11]
     intros
     refine xcall_plain en_r1_Slot (s_r1_Slot e8) rfl ⟨.same rfl, trivial⟩ ?_
     try simp [lenI_cast e4, ← e5, lenI_cast e6, ← e7, lenI_cast e10, ← e11]
     intros
     refine xcall_plain en_space_In (s_space_In e9) rfl ⟨.same rfl, .same rfl, trivial⟩ ?_
     try simp [lenI_cast e4, ← e5, lenI_cast e6, ← e7, lenI_cast e10, ← e11]
     intros; rfl
    obtain rfl := Option.some.inj h
    refine nP_i ?_
    refine Weak.mixN [] hn0 (by decide) ?_ ?_ rfl
    all_goals first | (simp [inv_cons, inv_nil, pickOb]; done) | rfl
   | false =>
    replace h := iteF rfl h
    apply AW.last
    ·simp [lenI_cast e4, ← e5, lenI_cast e6, ← e7]
     intros
     refine xcall_plain en_space_In (s_space_In e3) rfl ⟨.nil _ _, .same rfl, trivial⟩ ?_
     try simp [lenI_cast e4, ← e5, lenI_cast e6, ← e7]
     intros; rfl
    obtain rfl := Option.some.inj h
    refine nP_i ?_
    refine Weak.mixN [] hn0 (by decide) ?_ ?_ rfl
    all_goals first | (simp [inv_cons, inv_nil, pickOb]; done) | rfl
  | false =>
   replace h := iteF rfl h
   apply AW.last
   ·simp [lenI_cast e4, ← e5]
    intros
    refine xcall_plain en_space_In (s_space_In e3) rfl ⟨.nil _ _, .same rfl, trivial⟩ ?_
    try simp [lenI_cast e4, ← e5]
    intros; rfl
   obtain rfl := Option.some.inj h
   refine nP_i ?_
   refine Weak.mixN [] hn0 (by decide) ?_ ?_ rfl
   all_goals first | (simp [inv_cons, inv_nil, pickOb]; done) | rfl
 ·rintro e s hp
  obtain ⟨rfl, hw⟩ := hp
  refine ⟨_, hw, ?_⟩
  try simp only [sp_l, sp_r, Post.seq, Post.block, Nat.reduceEqDiff, reduceIte, Nat.zero_ne_one, Nat.one_ne_zero]
  obtain rfl := Option.some.inj h
  refine AW.ret ?_
  refine Left.plain hnb (by simp [Try.f50, resV, resC, comp]; rfl) rfl rfl ?_
  simp
theorem en_l11_awake : Enters Try.prog 50 := enters Try.func50 (by kernel_rfl) rfl
end Go.Proofs.Ytlkhfdccapkcdaa

/- Walks, printed: l11_SpaceDead -/
namespace Go.Proofs.Ytlkhfdccapkcdaa
open Go Go.RowKit
set_option linter.unusedVariables false
set_option linter.unusedSimpArgs false
end Go.Proofs.Ytlkhfdccapkcdaa

/- Walks, printed: l11_SpaceWhole -/
namespace Go.Proofs.Ytlkhfdccapkcdaa
open Go Go.RowKit
set_option linter.unusedVariables false
set_option linter.unusedSimpArgs false
end Go.Proofs.Ytlkhfdccapkcdaa

/- Plain laws: spaces by numbers, their keys and slots. -/
namespace Go.Proofs.Ytlkhfdccapkcdaa
open Go Go.RowKit
set_option linter.unusedVariables false
set_option linter.unusedSimpArgs false
theorem awake11_ok : l11_awake_sh big = some true := by kernel_rfl
/-! ### Keys by numbers -/
def keyT (j : Nat) : ByteArray := (l11_Key_sh big (j : Int)).getD ⟨#[]⟩
def keysB : Bool := (List.range 20).all fun j => (l11_Key_sh big (j : Int)).isSome && decide ((keyT j).size = 4) && decide (slotOf (keyT j) = slotOf (keyT (j % 4)))
def slotsB : Bool := (List.range 4).all fun a => (List.range 4).all fun b => decide (a = b) || !decide (slotOf (keyT a) = slotOf (keyT b))
def keyed (k : ByteArray) : Prop := ∃ j, j < 20 ∧ k = keyT j
/-- Effects by numbers. -/
def okM (m : List Effect) : Prop := m.length ≤ 40 ∧ ∀ e ∈ m, okI e.item ∧ keyed e.key ∧ (e.gone = true → e.item = noI)
/-! ### What effects make of keys -/
def setO (k : ByteArray) (o : Option Item) (e : Effect) : Option Item := if e.key = k then (if e.gone then none else some e.item) else o
/-- A space by numbers. -/
def okDB (db : List Pair) : Prop := SrtP db ∧ okP db ∧ db.length ≤ 40 ∧ ∀ p ∈ db, keyed p.key
/-! ### SpaceSlots -/
def cntS (f : Nat → Nat) : Nat → Nat
  | 0 => 0
  | k + 1 => cntS f k + f k
/-! ### SpaceDead -/
def hasS (l : List ByteArray) (x : ByteArray) : Bool := l.any fun y => decide (y = x)
/-! ### SpaceWhole -/
end Go.Proofs.Ytlkhfdccapkcdaa

/- Plain law: any feed. -/
namespace Go.Proofs.Ytlkhfdccapkcdaa
open Go Go.RowKit
set_option linter.unusedVariables false
set_option linter.unusedSimpArgs false
theorem GreatDb_ok (l : List Pair) : Rn (l11_Great_sh big l) fun b => b = false → l.length ≤ 50 ∧ ∀ e ∈ l, e.item.f.length ≤ 50 ∧ e.item.l.length ≤ 50 := by
  unfold l11_Great_sh
  refine sixty l (fun v10 => lt (lenS v10.key) fun v11 => lt (gtI v11 200) fun v12 => ite' v12 (some (true)) (bn (l5_Great_sh big v10.item) fun v13 => some (v13))) (fun x _ => Rn.lt (Rn.lt (Rn.ite (fun _ => Rn.some trivial) (fun _ => Rn.bn (Great_ok _) fun _ _ => Rn.some trivial)))) (fun x => x.item.f.length ≤ 50 ∧ x.item.l.length ≤ 50) (fun x _ hx => ?_) _ (fun i => ?_) (fun hall => ?_) ⟨_, rfl, by simp⟩
  · obtain ⟨g, hg, hg2⟩ := Great_ok x.item
    simp only [lt_eq, bn_some, ite_t, ite_f, sm_inl, sm_inr, lenI_eq, Option.some.injEq, hg] at hx
    cases h : gtI (lenS x.key) 200 <;> rw [h] at hx <;> simp [ite_t, ite_f] at hx
    exact hg2 hx
  · rw [ite60]
    by_cases hi : i < l.length ∧ i < 60
    · rw [if_pos hi, dif_pos hi, nth_some hi.1]
      simp only [lt_eq, bn_some, ite_t, ite_f, sm_inl, sm_inr, lenI_eq, Option.some.injEq]
      generalize (ite' (gtI (lenS l[i].key) 200) (some true) (bn (l5_Great_sh big l[i].item) fun v13 => some v13)) = o
      cases o with
      | none => rfl
      | some b => cases b <;> simp [bn_some, ite_t, ite_f, lt_eq]; rw [addI_64 (by omega) (by omega)]
    · rw [if_neg hi, dif_neg hi]
  · rw [sm_inl]
    refine Rn.lt (Rn.lt (Rn.some fun h => ?_))
    have h := gtI_n h
    simp only [lenI] at h
    refine ⟨by omega, fun e he => ?_⟩
    obtain ⟨i, hi, rfl⟩ := List.getElem_of_mem he
    exact hall i hi (by omega)
theorem MayEffect_ok (e : Effect) : Rn (r5_MayEffect_sh big e) fun _ => True := by
  unfold r5_MayEffect_sh
  refine Rn.bn (P := fun _ => True) ?_ fun _ _ => Rn.some trivial
  refine Rn.lt (Rn.lt (Rn.ite (fun _ => Rn.lt (Rn.ite (fun _ => Rn.some trivial) (fun _ => Rn.bn (MayItem_ok _) fun _ _ => Rn.some trivial))) (fun _ => Rn.some trivial)))
theorem MayEffects_ok (l : List Effect) (hl : l.length ≤ 1000000000) : Rn (r5_MayEffects_sh big l) fun _ => True := by
  unfold r5_MayEffects_sh
  refine scan l.length (by unfold big; omega) (fun i => bn (nth l (i : Int)) fun v6 => bn (r5_MayEffect_sh big v6) fun v7 => some (notB v7)) (fun i hi => ?_) false _ (fun i => ?_) (fun _ => ⟨_, rfl, trivial⟩) (fun _ => ⟨_, rfl, trivial⟩)
  · exact Rn.bnE (nth_some hi) (Rn.bn (MayEffect_ok _) fun _ _ => Rn.some trivial)
  · rw [ite_len]
    by_cases hi : i < l.length
    · rw [if_pos hi, if_pos hi, nth_some hi]
      obtain ⟨b, hb, -⟩ := MayEffect_ok l[i]
      simp only [lt_eq, bn_some, ite_t, ite_f, sm_inl, sm_inr, lenI_eq, Option.some.injEq, hb]
      cases b
      · rfl
      · simp only [notB_t, ite_f, Option.bind_some]
        rw [addI_64 (by omega) (by omega)]
        rfl
    · rw [if_neg hi, if_neg hi]
end Go.Proofs.Ytlkhfdccapkcdaa

