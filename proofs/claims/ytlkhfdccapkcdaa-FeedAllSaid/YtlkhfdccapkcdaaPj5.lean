/- Part 5 of the proof. -/
import Derived.Test.YtlkhfdccapkcdaaPj4
/- Walks, printed: l15_Make, r13_SameClaims, r1_Ints, r19_SameMsg, r13_SameFeed, r5_SameSpace -/
namespace Go.Proofs.Ytlkhfdccapkcdaa
open Go Go.RowKit
set_option linter.unusedVariables false
set_option linter.unusedSimpArgs false
def r13_SameClaims_sh (n : Nat) (a0 : List Claim) (a1 : List Claim) : Option Bool :=
lt (lenI a0) fun v1 =>
lt (lenI a1) fun v2 =>
lt (neI v1 v2) fun v3 =>
ite' v3 (some false) (bn (iter n (fun (y4 : Int) =>
lt (lenI a0) fun v7 =>
lt (ltI y4 v7) fun v8 =>
ite' v8 (bn (nth a0 y4) fun v9 =>
bn (nth a1 y4) fun v10 =>
lt (notB (andB (eqI v9.frm v10.frm) (andB (eqI v9.to v10.to) (andB (eqI v9.node v10.node) (andB (eqI v9.epoch v10.epoch) true))))) fun v11 =>
ite' v11 (some (.inr (.inr false))) (lt (addI .i64 y4 1) fun v12 =>
some (.inl v12))) (some (.inr (.inl ())))) 0) fun (y5 : Unit ⊕ Bool) =>
sm y5 (fun y13 => some true) (fun y14 => some y14))
set_option maxRecDepth 8000 in
set_option maxHeartbeats 8000000 in
theorem s_r13_SameClaims {n : Nat} {a0 : List Claim} {a1 : List Claim} {r : Bool} (h : r13_SameClaims_sh n a0 a1 = some r) : Sound Try.prog 85 [.l (.d false 4 (encClaim a0)), .l (.d false 4 (encClaim a1))] [] (.l (.s (.bool r))) [] := by
  unfold r13_SameClaims_sh at h
  refine Sound.of_aw (fn := Try.f85) (c := _) Try.func85 rfl (by simp [Try.f85]) fun cx hG hnb => ?_
  rw [show Try.f85.ntmps = 26 from rfl]
  have hn0 : cx.nb = 0 := hnb
  simp only [st0_mk, initTm, List.map_cons, List.map_nil]
  apply AW.step
  · simp
    intros; rfl
  refine AW.seq ?_
  replace h := ltE h; obtain ⟨v1, e1, h⟩ := h
  replace h := ltE h; obtain ⟨v2, e2, h⟩ := h
  replace h := ltE h; obtain ⟨v3, e3, h⟩ := h
  apply AW.step
  · simp [lenI_cast e1, lenI_cast e2, ← e3]
    intros; rfl
  cases v3 with
  | true =>
    replace h := iteT rfl h
    refine AW.cond_true (by simp) ?_
    apply AW.step
    · simp
      intros; rfl
    obtain rfl := Option.some.inj h
    refine AW.ret ?_
    refine Left.plain hnb (by simp [Try.f85, resV, resC, comp]; rfl) rfl rfl ?_
    simp
  | false =>
    replace h := iteF rfl h
    refine AW.cond_false (by simp) ?_
    refine AW.skip ?_
    try simp only [sp_l, sp_r, Post.seq, Post.block, Nat.reduceEqDiff, reduceIte, Nat.zero_ne_one, Nat.one_ne_zero]
    try simp only [sp_l, sp_r, Post.seq, Post.block, Nat.reduceEqDiff, reduceIte, Nat.zero_ne_one, Nat.one_ne_zero]
    refine AW.seq ?_
    apply AW.step
    · simp
      intros; rfl
    refine AW.block ?_
    replace h := bnE h; obtain ⟨y5, g5, h⟩ := h
    refine AW.iterP g5 (mk := fun gh ls q => (⟨[(0, .l (.d false 4 (encClaim a0))), (1, .l (.d false 4 (encClaim a1))), (5, .l (.s (.int .i64 q)))], [], 26, gh, ls⟩ : St)) (N := fun gh ls => (sp (xP 0 (cx := cx) (fun _ => (⟨[], [], 26, gh, ls⟩ : St))) (rP (cx := cx) (P := Try.prog) Try.f85 (fun q => .l (.s (.bool q))) (fun q => [])))) ?_ (noS noX noR) ?_ ?_
    · refine Weak.mixN [] hn0 (by decide) ?_ ?_ rfl
      all_goals first | (simp [inv_cons, inv_nil, pickOb]; done) | rfl
    · clear h; intro y4 y6 h
      refine AW.seq ?_
      replace h := ltE h; obtain ⟨v7, e7, h⟩ := h
      replace h := ltE h; obtain ⟨v8, e8, h⟩ := h
      apply AW.step
      · simp [lenI_cast e7, ← e8]
        intros; rfl
      cases v8 with
      | true =>
        replace h := iteT rfl h
        refine AW.cond_true (by simp) ?_
        refine AW.skip ?_
        try simp only [sp_l, sp_r, Post.seq, Post.block, Nat.reduceEqDiff, reduceIte, Nat.zero_ne_one, Nat.one_ne_zero]
        try simp only [sp_l, sp_r, Post.seq, Post.block, Nat.reduceEqDiff, reduceIte, Nat.zero_ne_one, Nat.one_ne_zero]
        refine AW.seq ?_
        refine AW.block ?_
        replace h := bnE h; obtain ⟨v9, e9, h⟩ := h
        replace h := bnE h; obtain ⟨v10, e10, h⟩ := h
        replace h := ltE h; obtain ⟨v11, e11, h⟩ := h
        apply AW.drawnP (V := [_, _, _, _, _, _, _, _]) mixed [⟨[0], [], [(0, none)], false⟩, ⟨[0], [], [(5, none)], false⟩, ⟨[0], [0, 1], [(17, some 0), (18, some 1)], false⟩, ⟨[0], [0, 1, 2], [(19, some 2)], false⟩, ⟨[0], [], [(1, none)], false⟩, ⟨[0], [], [(5, none)], false⟩, ⟨[0], [4, 5], [(21, some 4), (22, some 5)], false⟩, ⟨[0], [4, 5, 6], [(23, some 6)], false⟩, ⟨[], [0, 1, 2, 3, 4, 5, 6, 7], [], false⟩] 8 (by kernel_rfl) (by kernel_rfl)
        · refine ⟨?_, ?_, ?_, ?_, ?_, ?_, ?_, ?_, trivial⟩
          · intro tm hr
            simp [AllL, rdV] at hr
            simp [hr, nth_d e9, nth_d e10, ← e11]
            intros; first | exact KD.mk | exact KD.mkN
          · intro tm hr
            simp [AllL, rdV] at hr
            simp [hr, nth_d e9, nth_d e10, ← e11]
            intros; first | exact KD.mk | exact KD.mkN
          · intro tm hr
            simp [AllL, rdV] at hr
            simp [hr, nth_d e9, nth_d e10, ← e11]
            intros; first | exact KD.mk | exact KD.mkN
          · intro tm hr
            simp [AllL, rdV] at hr
            simp [hr, nth_d e9, nth_d e10, ← e11]
            intros; first | exact KD.mk | exact KD.mkN
          · intro tm hr
            simp [AllL, rdV] at hr
            simp [hr, nth_d e9, nth_d e10, ← e11]
            intros; first | exact KD.mk | exact KD.mkN
          · intro tm hr
            simp [AllL, rdV] at hr
            simp [hr, nth_d e9, nth_d e10, ← e11]
            intros; first | exact KD.mk | exact KD.mkN
          · intro tm hr
            simp [AllL, rdV] at hr
            simp [hr, nth_d e9, nth_d e10, ← e11]
            intros; first | exact KD.mk | exact KD.mkN
          · intro tm hr
            simp [AllL, rdV] at hr
            simp [hr, nth_d e9, nth_d e10, ← e11]
            intros; first | exact KD.mk | exact KD.mkN
        · rfl
        · simp [tmD, putD, nth_d e9, nth_d e10, ← e11]; rfl
        · simp [nth_d e9, nth_d e10, ← e11]
          intros; rfl
        cases v11 with
        | true =>
          replace h := iteT rfl h
          refine AW.cond_true (by simp) ?_
          apply AW.step
          · simp
            intros; rfl
          obtain rfl := Option.some.inj h
          refine AW.ret ?_
          try simp only [sp_l, sp_r, Post.seq, Post.block, Nat.reduceEqDiff, reduceIte, Nat.zero_ne_one, Nat.one_ne_zero]
          refine rP_i ?_
          refine Left.plain hnb (by simp [Try.f85, resV, resC, comp]; rfl) rfl rfl ?_
          simp
        | false =>
          replace h := iteF rfl h
          refine AW.cond_false (by simp) ?_
          refine AW.skip ?_
          try simp only [sp_l, sp_r, Post.seq, Post.block, Nat.reduceEqDiff, reduceIte, Nat.zero_ne_one, Nat.one_ne_zero]
          try simp only [sp_l, sp_r, Post.seq, Post.block, Nat.reduceEqDiff, reduceIte, Nat.zero_ne_one, Nat.one_ne_zero]
          replace h := ltE h; obtain ⟨v12, e12, h⟩ := h
          apply AW.last
          · simp [← e12]
            intros; rfl
          obtain rfl := Option.some.inj h
          refine nP_i ?_
          refine Weak.mixN [] hn0 (by decide) ?_ ?_ rfl
          all_goals first | (simp [inv_cons, inv_nil, pickOb]; done) | rfl
      | false =>
        replace h := iteF rfl h
        refine AW.cond_false (by simp) ?_
        refine AW.exit ?_
        try simp only [sp_l, sp_r, Post.seq, Post.block, Nat.reduceEqDiff, reduceIte, Nat.zero_ne_one, Nat.one_ne_zero]
        obtain rfl := Option.some.inj h
        try simp only [sp_l, sp_r]
        refine xP_i ?_
        refine Weak.mixN [] hn0 (by decide) ?_ ?_ rfl
        all_goals first | (simp [inv_cons, inv_nil, pickOb]; done) | rfl
    · rintro e s hp
      rcases y5 with y13 | y14
      · replace h := smL h
        obtain ⟨rfl, hw⟩ := hp
        refine ⟨_, hw, ?_⟩
        try simp only [sp_l, sp_r, Post.seq, Post.block, Nat.reduceEqDiff, reduceIte, Nat.zero_ne_one, Nat.one_ne_zero]
        apply AW.step
        · simp
          intros; rfl
        obtain rfl := Option.some.inj h
        refine AW.ret ?_
        refine Left.plain hnb (by simp [Try.f85, resV, resC, comp]; rfl) rfl rfl ?_
        simp
      · replace h := smR h
        obtain ⟨rfl, hl⟩ := hp
        refine ⟨_, Weak.refl _, ?_⟩
        obtain rfl := Option.some.inj h
        exact hl
theorem en_r13_SameClaims : Enters Try.prog 85 := enters Try.func85 (by kernel_rfl) rfl
def r1_Ints_sh (n : Nat) (a0 : List Int) (a1 : List Int) : Option Bool :=
lt (lenI a0) fun v1 =>
lt (lenI a1) fun v2 =>
lt (neI v1 v2) fun v3 =>
ite' v3 (some false) (bn (iter n (fun (y4 : Int) =>
lt (lenI a0) fun v7 =>
lt (ltI y4 v7) fun v8 =>
ite' v8 (bn (nth a0 y4) fun v9 =>
bn (nth a1 y4) fun v10 =>
lt (neI v9 v10) fun v11 =>
ite' v11 (some (.inr (.inr false))) (lt (addI .i64 y4 1) fun v12 =>
some (.inl v12))) (some (.inr (.inl ())))) 0) fun (y5 : Unit ⊕ Bool) =>
sm y5 (fun y13 => some true) (fun y14 => some y14))
set_option maxRecDepth 8000 in
set_option maxHeartbeats 8000000 in
theorem s_r1_Ints {n : Nat} {a0 : List Int} {a1 : List Int} {r : Bool} (h : r1_Ints_sh n a0 a1 = some r) : Sound Try.prog 86 [.l (.d false 1 (encI a0)), .l (.d false 1 (encI a1))] [] (.l (.s (.bool r))) [] := by
  unfold r1_Ints_sh at h
  refine Sound.of_aw (fn := Try.f86) (c := _) Try.func86 rfl (by simp [Try.f86]) fun cx hG hnb => ?_
  rw [show Try.f86.ntmps = 26 from rfl]
  have hn0 : cx.nb = 0 := hnb
  simp only [st0_mk, initTm, List.map_cons, List.map_nil]
  apply AW.step
  · simp
    intros; rfl
  refine AW.seq ?_
  replace h := ltE h; obtain ⟨v1, e1, h⟩ := h
  replace h := ltE h; obtain ⟨v2, e2, h⟩ := h
  replace h := ltE h; obtain ⟨v3, e3, h⟩ := h
  apply AW.step
  · simp [lenI_cast e1, lenI_cast e2, ← e3]
    intros; rfl
  cases v3 with
  | true =>
    replace h := iteT rfl h
    refine AW.cond_true (by simp) ?_
    apply AW.step
    · simp
      intros; rfl
    obtain rfl := Option.some.inj h
    refine AW.ret ?_
    refine Left.plain hnb (by simp [Try.f86, resV, resC, comp]; rfl) rfl rfl ?_
    simp
  | false =>
    replace h := iteF rfl h
    refine AW.cond_false (by simp) ?_
    refine AW.skip ?_
    try simp only [sp_l, sp_r, Post.seq, Post.block, Nat.reduceEqDiff, reduceIte, Nat.zero_ne_one, Nat.one_ne_zero]
    try simp only [sp_l, sp_r, Post.seq, Post.block, Nat.reduceEqDiff, reduceIte, Nat.zero_ne_one, Nat.one_ne_zero]
    refine AW.seq ?_
    apply AW.step
    · simp
      intros; rfl
    refine AW.block ?_
    replace h := bnE h; obtain ⟨y5, g5, h⟩ := h
    refine AW.iterP g5 (mk := fun gh ls q => (⟨[(0, .l (.d false 1 (encI a0))), (1, .l (.d false 1 (encI a1))), (5, .l (.s (.int .i64 q)))], [], 26, gh, ls⟩ : St)) (N := fun gh ls => (sp (xP 0 (cx := cx) (fun _ => (⟨[], [], 26, gh, ls⟩ : St))) (rP (cx := cx) (P := Try.prog) Try.f86 (fun q => .l (.s (.bool q))) (fun q => [])))) ?_ (noS noX noR) ?_ ?_
    · refine Weak.mixN [] hn0 (by decide) ?_ ?_ rfl
      all_goals first | (simp [inv_cons, inv_nil, pickOb]; done) | rfl
    · clear h; intro y4 y6 h
      refine AW.seq ?_
      replace h := ltE h; obtain ⟨v7, e7, h⟩ := h
      replace h := ltE h; obtain ⟨v8, e8, h⟩ := h
      apply AW.step
      · simp [lenI_cast e7, ← e8]
        intros; rfl
      cases v8 with
      | true =>
        replace h := iteT rfl h
        refine AW.cond_true (by simp) ?_
        refine AW.skip ?_
        try simp only [sp_l, sp_r, Post.seq, Post.block, Nat.reduceEqDiff, reduceIte, Nat.zero_ne_one, Nat.one_ne_zero]
        try simp only [sp_l, sp_r, Post.seq, Post.block, Nat.reduceEqDiff, reduceIte, Nat.zero_ne_one, Nat.one_ne_zero]
        refine AW.seq ?_
        refine AW.block ?_
        replace h := bnE h; obtain ⟨v9, e9, h⟩ := h
        replace h := bnE h; obtain ⟨v10, e10, h⟩ := h
        replace h := ltE h; obtain ⟨v11, e11, h⟩ := h
        apply AW.drawnP (V := [_, _, _, _, _, _, _, _]) mixed [⟨[0], [], [(0, none)], false⟩, ⟨[0], [], [(5, none)], false⟩, ⟨[0], [0, 1], [(17, some 0), (18, some 1)], false⟩, ⟨[0], [0, 1, 2], [(19, some 2)], false⟩, ⟨[0], [], [(1, none)], false⟩, ⟨[0], [], [(5, none)], false⟩, ⟨[0], [4, 5], [(21, some 4), (22, some 5)], false⟩, ⟨[0], [4, 5, 6], [(23, some 6)], false⟩, ⟨[], [0, 1, 2, 3, 4, 5, 6, 7], [], false⟩] 8 (by kernel_rfl) (by kernel_rfl)
        · refine ⟨?_, ?_, ?_, ?_, ?_, ?_, ?_, ?_, trivial⟩
          · intro tm hr
            simp [AllL, rdV] at hr
            simp [hr, nth_d e9, nth_d e10, ← e11]
            intros; first | exact KD.mk | exact KD.mkN
          · intro tm hr
            simp [AllL, rdV] at hr
            simp [hr, nth_d e9, nth_d e10, ← e11]
            intros; first | exact KD.mk | exact KD.mkN
          · intro tm hr
            simp [AllL, rdV] at hr
            simp [hr, nth_d e9, nth_d e10, ← e11]
            intros; first | exact KD.mk | exact KD.mkN
          · intro tm hr
            simp [AllL, rdV] at hr
            simp [hr, nth_d e9, nth_d e10, ← e11]
            intros; first | exact KD.mk | exact KD.mkN
          · intro tm hr
            simp [AllL, rdV] at hr
            simp [hr, nth_d e9, nth_d e10, ← e11]
            intros; first | exact KD.mk | exact KD.mkN
          · intro tm hr
            simp [AllL, rdV] at hr
            simp [hr, nth_d e9, nth_d e10, ← e11]
            intros; first | exact KD.mk | exact KD.mkN
          · intro tm hr
            simp [AllL, rdV] at hr
            simp [hr, nth_d e9, nth_d e10, ← e11]
            intros; first | exact KD.mk | exact KD.mkN
          · intro tm hr
            simp [AllL, rdV] at hr
            simp [hr, nth_d e9, nth_d e10, ← e11]
            intros; first | exact KD.mk | exact KD.mkN
        · rfl
        · simp [tmD, putD, nth_d e9, nth_d e10, ← e11]; rfl
        · simp [nth_d e9, nth_d e10, ← e11]
          intros; rfl
        cases v11 with
        | true =>
          replace h := iteT rfl h
          refine AW.cond_true (by simp) ?_
          apply AW.step
          · simp
            intros; rfl
          obtain rfl := Option.some.inj h
          refine AW.ret ?_
          try simp only [sp_l, sp_r, Post.seq, Post.block, Nat.reduceEqDiff, reduceIte, Nat.zero_ne_one, Nat.one_ne_zero]
          refine rP_i ?_
          refine Left.plain hnb (by simp [Try.f86, resV, resC, comp]; rfl) rfl rfl ?_
          simp
        | false =>
          replace h := iteF rfl h
          refine AW.cond_false (by simp) ?_
          refine AW.skip ?_
          try simp only [sp_l, sp_r, Post.seq, Post.block, Nat.reduceEqDiff, reduceIte, Nat.zero_ne_one, Nat.one_ne_zero]
          try simp only [sp_l, sp_r, Post.seq, Post.block, Nat.reduceEqDiff, reduceIte, Nat.zero_ne_one, Nat.one_ne_zero]
          replace h := ltE h; obtain ⟨v12, e12, h⟩ := h
          apply AW.last
          · simp [← e12]
            intros; rfl
          obtain rfl := Option.some.inj h
          refine nP_i ?_
          refine Weak.mixN [] hn0 (by decide) ?_ ?_ rfl
          all_goals first | (simp [inv_cons, inv_nil, pickOb]; done) | rfl
      | false =>
        replace h := iteF rfl h
        refine AW.cond_false (by simp) ?_
        refine AW.exit ?_
        try simp only [sp_l, sp_r, Post.seq, Post.block, Nat.reduceEqDiff, reduceIte, Nat.zero_ne_one, Nat.one_ne_zero]
        obtain rfl := Option.some.inj h
        try simp only [sp_l, sp_r]
        refine xP_i ?_
        refine Weak.mixN [] hn0 (by decide) ?_ ?_ rfl
        all_goals first | (simp [inv_cons, inv_nil, pickOb]; done) | rfl
    · rintro e s hp
      rcases y5 with y13 | y14
      · replace h := smL h
        obtain ⟨rfl, hw⟩ := hp
        refine ⟨_, hw, ?_⟩
        try simp only [sp_l, sp_r, Post.seq, Post.block, Nat.reduceEqDiff, reduceIte, Nat.zero_ne_one, Nat.one_ne_zero]
        apply AW.step
        · simp
          intros; rfl
        obtain rfl := Option.some.inj h
        refine AW.ret ?_
        refine Left.plain hnb (by simp [Try.f86, resV, resC, comp]; rfl) rfl rfl ?_
        simp
      · replace h := smR h
        obtain ⟨rfl, hl⟩ := hp
        refine ⟨_, Weak.refl _, ?_⟩
        obtain rfl := Option.some.inj h
        exact hl
theorem en_r1_Ints : Enters Try.prog 86 := enters Try.func86 (by kernel_rfl) rfl
def r19_SameMsg_sh (n : Nat) (a0 : Msg) (a1 : Msg) : Option Bool :=
bn (lt (eqI a0.kind a1.kind) fun v2 =>
ite' v2 (lt (eqI a0.frm a1.frm) fun v3 =>
ite' v3 (lt (eqI a0.to a1.to) fun v4 =>
ite' v4 (lt (eqI a0.epoch a1.epoch) fun v5 =>
ite' v5 (lt (eqI a0.node a1.node) fun v6 =>
ite' v6 (lt (eqI a0.slot a1.slot) fun v7 =>
ite' v7 (lt (eqI a0.num a1.num) fun v8 =>
ite' v8 (lt (andB (eqI a0.rid.node a1.rid.node) (andB (eqI a0.rid.epoch a1.rid.epoch) true)) fun v9 =>
ite' v9 (lt (andB (eqI a0.prev.node a1.prev.node) (andB (eqI a0.prev.epoch a1.prev.epoch) true)) fun v10 =>
ite' v10 (lt (eqI a0.off a1.off) fun v11 =>
ite' v11 (bn (r13_SameClaims_sh n a0.claims a1.claims) fun v12 =>
ite' v12 (bn (r1_Ints_sh n a0.nodes a1.nodes) fun v13 =>
ite' v13 (bn (r5_SameEffects_sh n a0.effects a1.effects) fun v14 =>
some (v14)) (some (false))) (some (false))) (some (false))) (some (false))) (some (false))) (some (false))) (some (false))) (some (false))) (some (false))) (some (false))) (some (false))) (some (false))) fun (y1 : Bool) =>
some y1
set_option maxRecDepth 8000 in
set_option maxHeartbeats 8000000 in
theorem s_r19_SameMsg {n : Nat} {a0 : Msg} {a1 : Msg} {r : Bool} (h : r19_SameMsg_sh n a0 a1 = some r) : Sound Try.prog 40 [.g [.s (.int .i64 a0.kind), .s (.int .i64 a0.frm), .s (.int .i64 a0.to), .s (.int .i64 a0.epoch), .d false 4 (encClaim a0.claims), .d false 1 (encI a0.nodes), .s (.int .i64 a0.node), .s (.int .i64 a0.slot), .s (.int .i64 a0.num), .s (.int .i64 a0.rid.node), .s (.int .i64 a0.rid.epoch), .s (.int .i64 a0.prev.node), .s (.int .i64 a0.prev.epoch), .s (.int .i64 a0.off), .d false 7 (encEffect a0.effects)], .g [.s (.int .i64 a1.kind), .s (.int .i64 a1.frm), .s (.int .i64 a1.to), .s (.int .i64 a1.epoch), .d false 4 (encClaim a1.claims), .d false 1 (encI a1.nodes), .s (.int .i64 a1.node), .s (.int .i64 a1.slot), .s (.int .i64 a1.num), .s (.int .i64 a1.rid.node), .s (.int .i64 a1.rid.epoch), .s (.int .i64 a1.prev.node), .s (.int .i64 a1.prev.epoch), .s (.int .i64 a1.off), .d false 7 (encEffect a1.effects)]] [] (.l (.s (.bool r))) [] := by
  unfold r19_SameMsg_sh at h
  refine Sound.of_aw (fn := Try.f40) (c := _) Try.func40 rfl (by simp [Try.f40]) fun cx hG hnb => ?_
  rw [show Try.f40.ntmps = 94 from rfl]
  have hn0 : cx.nb = 0 := hnb
  simp only [st0_mk, initTm, List.map_cons, List.map_nil]
  apply AW.step
  · simp
    intros; rfl
  replace h := bnE h; obtain ⟨y1, g1, h⟩ := h
  refine AW.flow (p := fun gh ls => (nP (cx := cx) (fun q => (⟨[(4, .l (.s (.bool q)))], [], 94, gh, ls⟩ : St))) y1) ?_ ?_
  · replace h := g1; clear g1
    replace h := ltE h; obtain ⟨v2, e2, h⟩ := h
    cases v2 with
    | true =>
      replace h := iteT rfl h
      replace h := ltE h; obtain ⟨v3, e3, h⟩ := h
      cases v3 with
      | true =>
        replace h := iteT rfl h
        replace h := ltE h; obtain ⟨v4, e4, h⟩ := h
        cases v4 with
        | true =>
          replace h := iteT rfl h
          replace h := ltE h; obtain ⟨v5, e5, h⟩ := h
          cases v5 with
          | true =>
            replace h := iteT rfl h
            replace h := ltE h; obtain ⟨v6, e6, h⟩ := h
            cases v6 with
            | true =>
              replace h := iteT rfl h
              replace h := ltE h; obtain ⟨v7, e7, h⟩ := h
              cases v7 with
              | true =>
                replace h := iteT rfl h
                replace h := ltE h; obtain ⟨v8, e8, h⟩ := h
                cases v8 with
                | true =>
                  replace h := iteT rfl h
                  replace h := ltE h; obtain ⟨v9, e9, h⟩ := h
                  cases v9 with
                  | true =>
                    replace h := iteT rfl h
                    replace h := ltE h; obtain ⟨v10, e10, h⟩ := h
                    cases v10 with
                    | true =>
                      replace h := iteT rfl h
                      replace h := ltE h; obtain ⟨v11, e11, h⟩ := h
                      cases v11 with
                      | true =>
                        replace h := iteT rfl h
                        replace h := bnE h; obtain ⟨v12, e12, h⟩ := h
                        cases v12 with
                        | true =>
                          replace h := iteT rfl h
                          replace h := bnE h; obtain ⟨v13, e13, h⟩ := h
                          cases v13 with
                          | true =>
                            replace h := iteT rfl h
                            replace h := bnE h; obtain ⟨v14, e14, h⟩ := h
                            apply AW.last
                            · simp [← e2, ← e3, ← e4, ← e5, ← e6, ← e7, ← e8, ← e9, ← e10, ← e11]
                              intros
                              refine xcall_plain en_r13_SameClaims (s_r13_SameClaims e12) rfl ⟨.same rfl, .same rfl, trivial⟩ ?_
                              try simp [← e2, ← e3, ← e4, ← e5, ← e6, ← e7, ← e8, ← e9, ← e10, ← e11]
                              intros
                              refine xcall_plain en_r1_Ints (s_r1_Ints e13) rfl ⟨.same rfl, .same rfl, trivial⟩ ?_
                              try simp [← e2, ← e3, ← e4, ← e5, ← e6, ← e7, ← e8, ← e9, ← e10, ← e11]
                              intros
                              refine xcall_plain en_r5_SameEffects (s_r5_SameEffects e14) rfl ⟨.same rfl, .same rfl, trivial⟩ ?_
                              try simp [← e2, ← e3, ← e4, ← e5, ← e6, ← e7, ← e8, ← e9, ← e10, ← e11]
                              intros; rfl
                            obtain rfl := Option.some.inj h
                            refine nP_i ?_
                            refine Weak.mixN [] hn0 (by decide) ?_ ?_ rfl
                            all_goals first | (simp [inv_cons, inv_nil, pickOb]; done) | rfl
                          | false =>
                            replace h := iteF rfl h
                            apply AW.last
                            · simp [← e2, ← e3, ← e4, ← e5, ← e6, ← e7, ← e8, ← e9, ← e10, ← e11]
                              intros
                              refine xcall_plain en_r13_SameClaims (s_r13_SameClaims e12) rfl ⟨.same rfl, .same rfl, trivial⟩ ?_
                              try simp [← e2, ← e3, ← e4, ← e5, ← e6, ← e7, ← e8, ← e9, ← e10, ← e11]
                              intros
                              refine xcall_plain en_r1_Ints (s_r1_Ints e13) rfl ⟨.same rfl, .same rfl, trivial⟩ ?_
                              try simp [← e2, ← e3, ← e4, ← e5, ← e6, ← e7, ← e8, ← e9, ← e10, ← e11]
                              intros; rfl
                            obtain rfl := Option.some.inj h
                            refine nP_i ?_
                            refine Weak.mixN [] hn0 (by decide) ?_ ?_ rfl
                            all_goals first | (simp [inv_cons, inv_nil, pickOb]; done) | rfl
                        | false =>
                          replace h := iteF rfl h
                          apply AW.last
                          · simp [← e2, ← e3, ← e4, ← e5, ← e6, ← e7, ← e8, ← e9, ← e10, ← e11]
                            intros
                            refine xcall_plain en_r13_SameClaims (s_r13_SameClaims e12) rfl ⟨.same rfl, .same rfl, trivial⟩ ?_
                            try simp [← e2, ← e3, ← e4, ← e5, ← e6, ← e7, ← e8, ← e9, ← e10, ← e11]
                            intros; rfl
                          obtain rfl := Option.some.inj h
                          refine nP_i ?_
                          refine Weak.mixN [] hn0 (by decide) ?_ ?_ rfl
                          all_goals first | (simp [inv_cons, inv_nil, pickOb]; done) | rfl
                      | false =>
                        replace h := iteF rfl h
                        apply AW.last
                        · simp [← e2, ← e3, ← e4, ← e5, ← e6, ← e7, ← e8, ← e9, ← e10, ← e11]
                          intros; rfl
                        obtain rfl := Option.some.inj h
                        refine nP_i ?_
                        refine Weak.mixN [] hn0 (by decide) ?_ ?_ rfl
                        all_goals first | (simp [inv_cons, inv_nil, pickOb]; done) | rfl
                    | false =>
                      replace h := iteF rfl h
                      apply AW.last
                      · simp [← e2, ← e3, ← e4, ← e5, ← e6, ← e7, ← e8, ← e9, ← e10]
                        intros; rfl
                      obtain rfl := Option.some.inj h
                      refine nP_i ?_
                      refine Weak.mixN [] hn0 (by decide) ?_ ?_ rfl
                      all_goals first | (simp [inv_cons, inv_nil, pickOb]; done) | rfl
                  | false =>
                    replace h := iteF rfl h
                    apply AW.last
                    · simp [← e2, ← e3, ← e4, ← e5, ← e6, ← e7, ← e8, ← e9]
                      intros; rfl
                    obtain rfl := Option.some.inj h
                    refine nP_i ?_
                    refine Weak.mixN [] hn0 (by decide) ?_ ?_ rfl
                    all_goals first | (simp [inv_cons, inv_nil, pickOb]; done) | rfl
                | false =>
                  replace h := iteF rfl h
                  apply AW.last
                  · simp [← e2, ← e3, ← e4, ← e5, ← e6, ← e7, ← e8]
                    intros; rfl
                  obtain rfl := Option.some.inj h
                  refine nP_i ?_
                  refine Weak.mixN [] hn0 (by decide) ?_ ?_ rfl
                  all_goals first | (simp [inv_cons, inv_nil, pickOb]; done) | rfl
              | false =>
                replace h := iteF rfl h
                apply AW.last
                · simp [← e2, ← e3, ← e4, ← e5, ← e6, ← e7]
                  intros; rfl
                obtain rfl := Option.some.inj h
                refine nP_i ?_
                refine Weak.mixN [] hn0 (by decide) ?_ ?_ rfl
                all_goals first | (simp [inv_cons, inv_nil, pickOb]; done) | rfl
            | false =>
              replace h := iteF rfl h
              apply AW.last
              · simp [← e2, ← e3, ← e4, ← e5, ← e6]
                intros; rfl
              obtain rfl := Option.some.inj h
              refine nP_i ?_
              refine Weak.mixN [] hn0 (by decide) ?_ ?_ rfl
              all_goals first | (simp [inv_cons, inv_nil, pickOb]; done) | rfl
          | false =>
            replace h := iteF rfl h
            apply AW.last
            · simp [← e2, ← e3, ← e4, ← e5]
              intros; rfl
            obtain rfl := Option.some.inj h
            refine nP_i ?_
            refine Weak.mixN [] hn0 (by decide) ?_ ?_ rfl
            all_goals first | (simp [inv_cons, inv_nil, pickOb]; done) | rfl
        | false =>
          replace h := iteF rfl h
          apply AW.last
          · simp [← e2, ← e3, ← e4]
            intros; rfl
          obtain rfl := Option.some.inj h
          refine nP_i ?_
          refine Weak.mixN [] hn0 (by decide) ?_ ?_ rfl
          all_goals first | (simp [inv_cons, inv_nil, pickOb]; done) | rfl
      | false =>
        replace h := iteF rfl h
        apply AW.last
        · simp [← e2, ← e3]
          intros; rfl
        obtain rfl := Option.some.inj h
        refine nP_i ?_
        refine Weak.mixN [] hn0 (by decide) ?_ ?_ rfl
        all_goals first | (simp [inv_cons, inv_nil, pickOb]; done) | rfl
    | false =>
      replace h := iteF rfl h
      apply AW.last
      · simp [← e2]
        intros; rfl
      obtain rfl := Option.some.inj h
      refine nP_i ?_
      refine Weak.mixN [] hn0 (by decide) ?_ ?_ rfl
      all_goals first | (simp [inv_cons, inv_nil, pickOb]; done) | rfl
  · rintro e s hp
    obtain ⟨rfl, hw⟩ := hp
    refine ⟨_, hw, ?_⟩
    try simp only [sp_l, sp_r, Post.seq, Post.block, Nat.reduceEqDiff, reduceIte, Nat.zero_ne_one, Nat.one_ne_zero]
    obtain rfl := Option.some.inj h
    refine AW.ret ?_
    refine Left.plain hnb (by simp [Try.f40, resV, resC, comp]; rfl) rfl rfl ?_
    simp
theorem en_r19_SameMsg : Enters Try.prog 40 := enters Try.func40 (by kernel_rfl) rfl
def r13_SameFeed_sh (n : Nat) (a0 : Feed) (a1 : Feed) : Option Bool :=
bn (lt (andB (eqI a0.rid.node a1.rid.node) (andB (eqI a0.rid.epoch a1.rid.epoch) true)) fun v2 =>
ite' v2 (lt (eqI a0.off a1.off) fun v3 =>
ite' v3 (lt (andB (eqI a0.prev.node a1.prev.node) (andB (eqI a0.prev.epoch a1.prev.epoch) true)) fun v4 =>
ite' v4 (lt (eqI a0.upto a1.upto) fun v5 =>
ite' v5 (bn (r5_SameEffects_sh n a0.back a1.back) fun v6 =>
some (v6)) (some (false))) (some (false))) (some (false))) (some (false))) fun (y1 : Bool) =>
some y1
set_option maxRecDepth 8000 in
set_option maxHeartbeats 8000000 in
theorem s_r13_SameFeed {n : Nat} {a0 : Feed} {a1 : Feed} {r : Bool} (h : r13_SameFeed_sh n a0 a1 = some r) : Sound Try.prog 41 [.g [.s (.int .i64 a0.rid.node), .s (.int .i64 a0.rid.epoch), .s (.int .i64 a0.off), .d false 7 (encEffect a0.back), .s (.int .i64 a0.prev.node), .s (.int .i64 a0.prev.epoch), .s (.int .i64 a0.upto)], .g [.s (.int .i64 a1.rid.node), .s (.int .i64 a1.rid.epoch), .s (.int .i64 a1.off), .d false 7 (encEffect a1.back), .s (.int .i64 a1.prev.node), .s (.int .i64 a1.prev.epoch), .s (.int .i64 a1.upto)]] [] (.l (.s (.bool r))) [] := by
  unfold r13_SameFeed_sh at h
  refine Sound.of_aw (fn := Try.f41) (c := _) Try.func41 rfl (by simp [Try.f41]) fun cx hG hnb => ?_
  rw [show Try.f41.ntmps = 38 from rfl]
  have hn0 : cx.nb = 0 := hnb
  simp only [st0_mk, initTm, List.map_cons, List.map_nil]
  apply AW.step
  · simp
    intros; rfl
  replace h := bnE h; obtain ⟨y1, g1, h⟩ := h
  refine AW.flow (p := fun gh ls => (nP (cx := cx) (fun q => (⟨[(4, .l (.s (.bool q)))], [], 38, gh, ls⟩ : St))) y1) ?_ ?_
  · replace h := g1; clear g1
    replace h := ltE h; obtain ⟨v2, e2, h⟩ := h
    cases v2 with
    | true =>
      replace h := iteT rfl h
      replace h := ltE h; obtain ⟨v3, e3, h⟩ := h
      cases v3 with
      | true =>
        replace h := iteT rfl h
        replace h := ltE h; obtain ⟨v4, e4, h⟩ := h
        cases v4 with
        | true =>
          replace h := iteT rfl h
          replace h := ltE h; obtain ⟨v5, e5, h⟩ := h
          cases v5 with
          | true =>
            replace h := iteT rfl h
            replace h := bnE h; obtain ⟨v6, e6, h⟩ := h
            apply AW.last
            · simp [← e2, ← e3, ← e4, ← e5]
              intros
              refine xcall_plain en_r5_SameEffects (s_r5_SameEffects e6) rfl ⟨.same rfl, .same rfl, trivial⟩ ?_
              try simp [← e2, ← e3, ← e4, ← e5]
              intros; rfl
            obtain rfl := Option.some.inj h
            refine nP_i ?_
            refine Weak.mixN [] hn0 (by decide) ?_ ?_ rfl
            all_goals first | (simp [inv_cons, inv_nil, pickOb]; done) | rfl
          | false =>
            replace h := iteF rfl h
            apply AW.last
            · simp [← e2, ← e3, ← e4, ← e5]
              intros; rfl
            obtain rfl := Option.some.inj h
            refine nP_i ?_
            refine Weak.mixN [] hn0 (by decide) ?_ ?_ rfl
            all_goals first | (simp [inv_cons, inv_nil, pickOb]; done) | rfl
        | false =>
          replace h := iteF rfl h
          apply AW.last
          · simp [← e2, ← e3, ← e4]
            intros; rfl
          obtain rfl := Option.some.inj h
          refine nP_i ?_
          refine Weak.mixN [] hn0 (by decide) ?_ ?_ rfl
          all_goals first | (simp [inv_cons, inv_nil, pickOb]; done) | rfl
      | false =>
        replace h := iteF rfl h
        apply AW.last
        · simp [← e2, ← e3]
          intros; rfl
        obtain rfl := Option.some.inj h
        refine nP_i ?_
        refine Weak.mixN [] hn0 (by decide) ?_ ?_ rfl
        all_goals first | (simp [inv_cons, inv_nil, pickOb]; done) | rfl
    | false =>
      replace h := iteF rfl h
      apply AW.last
      · simp [← e2]
        intros; rfl
      obtain rfl := Option.some.inj h
      refine nP_i ?_
      refine Weak.mixN [] hn0 (by decide) ?_ ?_ rfl
      all_goals first | (simp [inv_cons, inv_nil, pickOb]; done) | rfl
  · rintro e s hp
    obtain ⟨rfl, hw⟩ := hp
    refine ⟨_, hw, ?_⟩
    try simp only [sp_l, sp_r, Post.seq, Post.block, Nat.reduceEqDiff, reduceIte, Nat.zero_ne_one, Nat.one_ne_zero]
    obtain rfl := Option.some.inj h
    refine AW.ret ?_
    refine Left.plain hnb (by simp [Try.f41, resV, resC, comp]; rfl) rfl rfl ?_
    simp
theorem en_r13_SameFeed : Enters Try.prog 41 := enters Try.func41 (by kernel_rfl) rfl
def r5_SameSpace_sh (n : Nat) (a0 : List Pair) (a1 : List Pair) : Option Bool :=
lt (lenI a0) fun v1 =>
lt (lenI a1) fun v2 =>
lt (neI v1 v2) fun v3 =>
ite' v3 (some false) (bn (iter n (fun (y4 : Int) =>
lt (lenI a0) fun v7 =>
lt (ltI y4 v7) fun v8 =>
ite' v8 (bn (bn (nth a0 y4) fun v10 =>
bn (nth a1 y4) fun v11 =>
lt (neS v10.key v11.key) fun v12 =>
ite' v12 (some (true)) (bn (r5_SameItem_sh n v10.item v11.item) fun v13 =>
lt (notB v13) fun v14 =>
some (v14))) fun (y9 : Bool) =>
lt (y9) fun v15 =>
ite' v15 (some (.inr (.inr false))) (lt (addI .i64 y4 1) fun v16 =>
some (.inl v16))) (some (.inr (.inl ())))) 0) fun (y5 : Unit ⊕ Bool) =>
sm y5 (fun y17 => some true) (fun y18 => some y18))
set_option maxRecDepth 8000 in
set_option maxHeartbeats 8000000 in
theorem s_r5_SameSpace {n : Nat} {a0 : List Pair} {a1 : List Pair} {r : Bool} (h : r5_SameSpace_sh n a0 a1 = some r) : Sound Try.prog 42 [.l (.d false 6 (encPair a0)), .l (.d false 6 (encPair a1))] [] (.l (.s (.bool r))) [] := by
  unfold r5_SameSpace_sh at h
  refine Sound.of_aw (fn := Try.f42) (c := _) Try.func42 rfl (by simp [Try.f42]) fun cx hG hnb => ?_
  rw [show Try.f42.ntmps = 42 from rfl]
  have hn0 : cx.nb = 0 := hnb
  simp only [st0_mk, initTm, List.map_cons, List.map_nil]
  apply AW.step
  · simp
    intros; rfl
  refine AW.seq ?_
  replace h := ltE h; obtain ⟨v1, e1, h⟩ := h
  replace h := ltE h; obtain ⟨v2, e2, h⟩ := h
  replace h := ltE h; obtain ⟨v3, e3, h⟩ := h
  apply AW.step
  · simp [lenI_cast e1, lenI_cast e2, ← e3]
    intros; rfl
  cases v3 with
  | true =>
    replace h := iteT rfl h
    refine AW.cond_true (by simp) ?_
    apply AW.step
    · simp
      intros; rfl
    obtain rfl := Option.some.inj h
    refine AW.ret ?_
    refine Left.plain hnb (by simp [Try.f42, resV, resC, comp]; rfl) rfl rfl ?_
    simp
  | false =>
    replace h := iteF rfl h
    refine AW.cond_false (by simp) ?_
    refine AW.skip ?_
    try simp only [sp_l, sp_r, Post.seq, Post.block, Nat.reduceEqDiff, reduceIte, Nat.zero_ne_one, Nat.one_ne_zero]
    try simp only [sp_l, sp_r, Post.seq, Post.block, Nat.reduceEqDiff, reduceIte, Nat.zero_ne_one, Nat.one_ne_zero]
    refine AW.seq ?_
    apply AW.step
    · simp
      intros; rfl
    refine AW.block ?_
    replace h := bnE h; obtain ⟨y5, g5, h⟩ := h
    refine AW.iterP g5 (mk := fun gh ls q => (⟨[(0, .l (.d false 6 (encPair a0))), (1, .l (.d false 6 (encPair a1))), (5, .l (.s (.int .i64 q)))], [], 42, gh, ls⟩ : St)) (N := fun gh ls => (sp (xP 0 (cx := cx) (fun _ => (⟨[], [], 42, gh, ls⟩ : St))) (rP (cx := cx) (P := Try.prog) Try.f42 (fun q => .l (.s (.bool q))) (fun q => [])))) ?_ (noS noX noR) ?_ ?_
    · refine Weak.mixN [] hn0 (by decide) ?_ ?_ rfl
      all_goals first | (simp [inv_cons, inv_nil, pickOb]; done) | rfl
    · clear h; intro y4 y6 h
      refine AW.seq ?_
      replace h := ltE h; obtain ⟨v7, e7, h⟩ := h
      replace h := ltE h; obtain ⟨v8, e8, h⟩ := h
      apply AW.step
      · simp [lenI_cast e7, ← e8]
        intros; rfl
      cases v8 with
      | true =>
        replace h := iteT rfl h
        refine AW.cond_true (by simp) ?_
        refine AW.skip ?_
        try simp only [sp_l, sp_r, Post.seq, Post.block, Nat.reduceEqDiff, reduceIte, Nat.zero_ne_one, Nat.one_ne_zero]
        try simp only [sp_l, sp_r, Post.seq, Post.block, Nat.reduceEqDiff, reduceIte, Nat.zero_ne_one, Nat.one_ne_zero]
        refine AW.seq ?_
        refine AW.block ?_
        replace h := bnE h; obtain ⟨y9, g9, h⟩ := h
        refine AW.flow (p := fun gh ls => (nP (cx := cx) (fun q => (⟨[(0, .l (.d false 6 (encPair a0))), (1, .l (.d false 6 (encPair a1))), (5, .l (.s (.int .i64 y4))), (41, .l (.s (.bool q)))], [], 42, gh, ls⟩ : St))) y9) ?_ ?_
        · replace h := g9; clear g9
          replace h := bnE h; obtain ⟨v10, e10, h⟩ := h
          replace h := bnE h; obtain ⟨v11, e11, h⟩ := h
          replace h := ltE h; obtain ⟨v12, e12, h⟩ := h
          cases v12 with
          | true =>
            replace h := iteT rfl h
            apply AW.drawnR (V := [_, _, _, _, _, _, _, _, _, _, _, _, _, _, _, _, _, _, _, _, _, _]) mixed [⟨[0], [], [(0, none)], false⟩, ⟨[0], [], [(5, none)], false⟩, ⟨[0], [0, 1], [(17, some 0), (18, some 1)], false⟩, ⟨[0], [0, 1, 2], [(19, some 2)], false⟩, ⟨[0], [0, 1, 2, 3], [(20, some 3)], false⟩, ⟨[0], [], [(1, none)], false⟩, ⟨[0], [], [(5, none)], false⟩, ⟨[0], [5, 6], [(22, some 5), (23, some 6)], false⟩, ⟨[0], [5, 6, 7], [(24, some 7)], false⟩, ⟨[0], [5, 6, 7, 8], [(25, some 8)], false⟩, ⟨[0], [0, 1, 2, 3, 4, 5, 6, 7, 8, 9], [(21, some 4), (26, some 9)], false⟩, ⟨[0], [0, 1, 2, 3, 4, 5, 6, 7, 8, 9, 10], [(27, some 10)], false⟩, ⟨[0], [0, 1, 2, 3, 4, 5, 6, 7, 8, 9, 10, 11], [(0, none), (28, some 11)], false⟩, ⟨[0], [0, 1, 2, 3, 4, 5, 6, 7, 8, 9, 10, 11], [(5, none), (28, some 11)], false⟩, ⟨[0], [0, 1, 2, 3, 4, 5, 6, 7, 8, 9, 10, 11, 12, 13], [(28, some 11), (29, some 12), (30, some 13)], false⟩, ⟨[0], [0, 1, 2, 3, 4, 5, 6, 7, 8, 9, 10, 11, 12, 13, 14], [(28, some 11), (31, some 14)], false⟩, ⟨[0], [0, 1, 2, 3, 4, 5, 6, 7, 8, 9, 10, 11, 12, 13, 14, 15], [(28, some 11), (32, some 15)], false⟩, ⟨[0], [0, 1, 2, 3, 4, 5, 6, 7, 8, 9, 10, 11], [(1, none), (28, some 11)], false⟩, ⟨[0], [0, 1, 2, 3, 4, 5, 6, 7, 8, 9, 10, 11], [(5, none), (28, some 11)], false⟩, ⟨[0], [0, 1, 2, 3, 4, 5, 6, 7, 8, 9, 10, 11, 17, 18], [(28, some 11), (34, some 17), (35, some 18)], false⟩, ⟨[0], [0, 1, 2, 3, 4, 5, 6, 7, 8, 9, 10, 11, 17, 18, 19], [(28, some 11), (36, some 19)], false⟩, ⟨[0], [0, 1, 2, 3, 4, 5, 6, 7, 8, 9, 10, 11, 17, 18, 19, 20], [(28, some 11), (37, some 20)], false⟩, ⟨[], [0, 1, 2, 3, 4, 5, 6, 7, 8, 9, 10, 11, 12, 13, 14, 15, 16, 17, 18, 19, 20, 21], [], false⟩, ⟨[], [0, 1, 2, 3, 4, 5, 6, 7, 8, 9, 10, 11, 12, 13, 14, 15, 16, 17, 18, 19, 20, 21, 22], [], false⟩, ⟨[], [0, 1, 2, 3, 4, 5, 6, 7, 8, 9, 10, 11, 12, 13, 14, 15, 16, 17, 18, 19, 20, 21, 22, 23], [], false⟩] 22 (by kernel_rfl) (by kernel_rfl)
            · refine ⟨?_, ?_, ?_, ?_, ?_, ?_, ?_, ?_, ?_, ?_, ?_, ?_, ?_, ?_, ?_, ?_, ?_, ?_, ?_, ?_, ?_, ?_, trivial⟩
              · intro tm hr
                simp [AllL, rdV] at hr
                simp [hr, nth_d e10, nth_d e11, ← e12]
                intros; first | exact KD.mk | exact KD.mkN
              · intro tm hr
                simp [AllL, rdV] at hr
                simp [hr, nth_d e10, nth_d e11, ← e12]
                intros; first | exact KD.mk | exact KD.mkN
              · intro tm hr
                simp [AllL, rdV] at hr
                simp [hr, nth_d e10, nth_d e11, ← e12]
                intros; first | exact KD.mk | exact KD.mkN
              · intro tm hr
                simp [AllL, rdV] at hr
                simp [hr, nth_d e10, nth_d e11, ← e12]
                intros; first | exact KD.mk | exact KD.mkN
              · intro tm hr
                simp [AllL, rdV] at hr
                simp [hr, nth_d e10, nth_d e11, ← e12]
                intros; first | exact KD.mk | exact KD.mkN
              · intro tm hr
                simp [AllL, rdV] at hr
                simp [hr, nth_d e10, nth_d e11, ← e12]
                intros; first | exact KD.mk | exact KD.mkN
              · intro tm hr
                simp [AllL, rdV] at hr
                simp [hr, nth_d e10, nth_d e11, ← e12]
                intros; first | exact KD.mk | exact KD.mkN
              · intro tm hr
                simp [AllL, rdV] at hr
                simp [hr, nth_d e10, nth_d e11, ← e12]
                intros; first | exact KD.mk | exact KD.mkN
              · intro tm hr
                simp [AllL, rdV] at hr
                simp [hr, nth_d e10, nth_d e11, ← e12]
                intros; first | exact KD.mk | exact KD.mkN
              · intro tm hr
                simp [AllL, rdV] at hr
                simp [hr, nth_d e10, nth_d e11, ← e12]
                intros; first | exact KD.mk | exact KD.mkN
              · intro tm hr
                simp [AllL, rdV] at hr
                simp [hr, nth_d e10, nth_d e11, ← e12]
                intros; first | exact KD.mk | exact KD.mkN
              · intro tm hr
                simp [AllL, rdV] at hr
                simp [hr, nth_d e10, nth_d e11, ← e12]
                intros; first | exact KD.mk | exact KD.mkN
              · intro tm hr
                simp [AllL, rdV] at hr
                simp [hr, nth_d e10, nth_d e11, ← e12]
                intros; first | exact KD.mk | exact KD.mkN
              · intro tm hr
                simp [AllL, rdV] at hr
                simp [hr, nth_d e10, nth_d e11, ← e12]
                intros; first | exact KD.mk | exact KD.mkN
              · intro tm hr
                simp [AllL, rdV] at hr
                simp [hr, nth_d e10, nth_d e11, ← e12]
                intros; first | exact KD.mk | exact KD.mkN
              · intro tm hr
                simp [AllL, rdV] at hr
                simp [hr, nth_d e10, nth_d e11, ← e12]
                intros; first | exact KD.mk | exact KD.mkN
              · intro tm hr
                simp [AllL, rdV] at hr
                simp [hr, nth_d e10, nth_d e11, ← e12]
                intros; first | exact KD.mk | exact KD.mkN
              · intro tm hr
                simp [AllL, rdV] at hr
                simp [hr, nth_d e10, nth_d e11, ← e12]
                intros; first | exact KD.mk | exact KD.mkN
              · intro tm hr
                simp [AllL, rdV] at hr
                simp [hr, nth_d e10, nth_d e11, ← e12]
                intros; first | exact KD.mk | exact KD.mkN
              · intro tm hr
                simp [AllL, rdV] at hr
                simp [hr, nth_d e10, nth_d e11, ← e12]
                intros; first | exact KD.mk | exact KD.mkN
              · intro tm hr
                simp [AllL, rdV] at hr
                simp [hr, nth_d e10, nth_d e11, ← e12]
                intros; first | exact KD.mk | exact KD.mkN
              · intro tm hr
                simp [AllL, rdV] at hr
                simp [hr, nth_d e10, nth_d e11, ← e12]
                intros; first | exact KD.mk | exact KD.mkN
            · rfl
            · simp [tmD, putD, nth_d e10, nth_d e11, ← e12]; rfl
            · simp [nth_d e10, nth_d e11, ← e12]
              intros; rfl
            obtain rfl := Option.some.inj h
            refine nP_i ?_
            refine Weak.mixN [] hn0 (by decide) ?_ ?_ rfl
            all_goals first | (simp [inv_cons, inv_nil, pickOb]; done) | rfl
          | false =>
            replace h := iteF rfl h
            replace h := bnE h; obtain ⟨v13, e13, h⟩ := h
            replace h := ltE h; obtain ⟨v14, e14, h⟩ := h
            apply AW.drawnR (V := [_, _, _, _, _, _, _, _, _, _, _, _, _, _, _, _, _, _, _, _, _, _]) mixed [⟨[0], [], [(0, none)], false⟩, ⟨[0], [], [(5, none)], false⟩, ⟨[0], [0, 1], [(17, some 0), (18, some 1)], false⟩, ⟨[0], [0, 1, 2], [(19, some 2)], false⟩, ⟨[0], [0, 1, 2, 3], [(20, some 3)], false⟩, ⟨[0], [], [(1, none)], false⟩, ⟨[0], [], [(5, none)], false⟩, ⟨[0], [5, 6], [(22, some 5), (23, some 6)], false⟩, ⟨[0], [5, 6, 7], [(24, some 7)], false⟩, ⟨[0], [5, 6, 7, 8], [(25, some 8)], false⟩, ⟨[0], [0, 1, 2, 3, 4, 5, 6, 7, 8, 9], [(21, some 4), (26, some 9)], false⟩, ⟨[0], [0, 1, 2, 3, 4, 5, 6, 7, 8, 9, 10], [(27, some 10)], false⟩, ⟨[0], [0, 1, 2, 3, 4, 5, 6, 7, 8, 9, 10, 11], [(0, none), (28, some 11)], false⟩, ⟨[0], [0, 1, 2, 3, 4, 5, 6, 7, 8, 9, 10, 11], [(5, none), (28, some 11)], false⟩, ⟨[0], [0, 1, 2, 3, 4, 5, 6, 7, 8, 9, 10, 11, 12, 13], [(28, some 11), (29, some 12), (30, some 13)], false⟩, ⟨[0], [0, 1, 2, 3, 4, 5, 6, 7, 8, 9, 10, 11, 12, 13, 14], [(28, some 11), (31, some 14)], false⟩, ⟨[0], [0, 1, 2, 3, 4, 5, 6, 7, 8, 9, 10, 11, 12, 13, 14, 15], [(28, some 11), (32, some 15)], false⟩, ⟨[0], [0, 1, 2, 3, 4, 5, 6, 7, 8, 9, 10, 11], [(1, none), (28, some 11)], false⟩, ⟨[0], [0, 1, 2, 3, 4, 5, 6, 7, 8, 9, 10, 11], [(5, none), (28, some 11)], false⟩, ⟨[0], [0, 1, 2, 3, 4, 5, 6, 7, 8, 9, 10, 11, 17, 18], [(28, some 11), (34, some 17), (35, some 18)], false⟩, ⟨[0], [0, 1, 2, 3, 4, 5, 6, 7, 8, 9, 10, 11, 17, 18, 19], [(28, some 11), (36, some 19)], false⟩, ⟨[0], [0, 1, 2, 3, 4, 5, 6, 7, 8, 9, 10, 11, 17, 18, 19, 20], [(28, some 11), (37, some 20)], false⟩, ⟨[], [0, 1, 2, 3, 4, 5, 6, 7, 8, 9, 10, 11, 12, 13, 14, 15, 16, 17, 18, 19, 20, 21], [], false⟩, ⟨[], [0, 1, 2, 3, 4, 5, 6, 7, 8, 9, 10, 11, 12, 13, 14, 15, 16, 17, 18, 19, 20, 21, 22], [], false⟩, ⟨[], [0, 1, 2, 3, 4, 5, 6, 7, 8, 9, 10, 11, 12, 13, 14, 15, 16, 17, 18, 19, 20, 21, 22, 23], [], false⟩] 22 (by kernel_rfl) (by kernel_rfl)
            · refine ⟨?_, ?_, ?_, ?_, ?_, ?_, ?_, ?_, ?_, ?_, ?_, ?_, ?_, ?_, ?_, ?_, ?_, ?_, ?_, ?_, ?_, ?_, trivial⟩
              · intro tm hr
                simp [AllL, rdV] at hr
                simp [hr, nth_d e10, nth_d e11, ← e12, ← e14]
                intros; first | exact KD.mk | exact KD.mkN
              · intro tm hr
                simp [AllL, rdV] at hr
                simp [hr, nth_d e10, nth_d e11, ← e12, ← e14]
                intros; first | exact KD.mk | exact KD.mkN
              · intro tm hr
                simp [AllL, rdV] at hr
                simp [hr, nth_d e10, nth_d e11, ← e12, ← e14]
                intros; first | exact KD.mk | exact KD.mkN
              · intro tm hr
                simp [AllL, rdV] at hr
                simp [hr, nth_d e10, nth_d e11, ← e12, ← e14]
                intros; first | exact KD.mk | exact KD.mkN
              · intro tm hr
                simp [AllL, rdV] at hr
                simp [hr, nth_d e10, nth_d e11, ← e12, ← e14]
                intros; first | exact KD.mk | exact KD.mkN
              · intro tm hr
                simp [AllL, rdV] at hr
                simp [hr, nth_d e10, nth_d e11, ← e12, ← e14]
                intros; first | exact KD.mk | exact KD.mkN
              · intro tm hr
                simp [AllL, rdV] at hr
                simp [hr, nth_d e10, nth_d e11, ← e12, ← e14]
                intros; first | exact KD.mk | exact KD.mkN
              · intro tm hr
                simp [AllL, rdV] at hr
                simp [hr, nth_d e10, nth_d e11, ← e12, ← e14]
                intros; first | exact KD.mk | exact KD.mkN
              · intro tm hr
                simp [AllL, rdV] at hr
                simp [hr, nth_d e10, nth_d e11, ← e12, ← e14]
                intros; first | exact KD.mk | exact KD.mkN
              · intro tm hr
                simp [AllL, rdV] at hr
                simp [hr, nth_d e10, nth_d e11, ← e12, ← e14]
                intros; first | exact KD.mk | exact KD.mkN
              · intro tm hr
                simp [AllL, rdV] at hr
                simp [hr, nth_d e10, nth_d e11, ← e12, ← e14]
                intros; first | exact KD.mk | exact KD.mkN
              · intro tm hr
                simp [AllL, rdV] at hr
                simp [hr, nth_d e10, nth_d e11, ← e12, ← e14]
                intros; first | exact KD.mk | exact KD.mkN
              · intro tm hr
                simp [AllL, rdV] at hr
                simp [hr, nth_d e10, nth_d e11, ← e12, ← e14]
                intros; first | exact KD.mk | exact KD.mkN
              · intro tm hr
                simp [AllL, rdV] at hr
                simp [hr, nth_d e10, nth_d e11, ← e12, ← e14]
                intros; first | exact KD.mk | exact KD.mkN
              · intro tm hr
                simp [AllL, rdV] at hr
                simp [hr, nth_d e10, nth_d e11, ← e12, ← e14]
                intros; first | exact KD.mk | exact KD.mkN
              · intro tm hr
                simp [AllL, rdV] at hr
                simp [hr, nth_d e10, nth_d e11, ← e12, ← e14]
                intros; first | exact KD.mk | exact KD.mkN
              · intro tm hr
                simp [AllL, rdV] at hr
                simp [hr, nth_d e10, nth_d e11, ← e12, ← e14]
                intros; first | exact KD.mk | exact KD.mkN
              · intro tm hr
                simp [AllL, rdV] at hr
                simp [hr, nth_d e10, nth_d e11, ← e12, ← e14]
                intros; first | exact KD.mk | exact KD.mkN
              · intro tm hr
                simp [AllL, rdV] at hr
                simp [hr, nth_d e10, nth_d e11, ← e12, ← e14]
                intros; first | exact KD.mk | exact KD.mkN
              · intro tm hr
                simp [AllL, rdV] at hr
                simp [hr, nth_d e10, nth_d e11, ← e12, ← e14]
                intros; first | exact KD.mk | exact KD.mkN
              · intro tm hr
                simp [AllL, rdV] at hr
                simp [hr, nth_d e10, nth_d e11, ← e12, ← e14]
                intros; first | exact KD.mk | exact KD.mkN
              · intro tm hr
                simp [AllL, rdV] at hr
                simp [hr, nth_d e10, nth_d e11, ← e12, ← e14]
                intros; first | exact KD.mk | exact KD.mkN
            · rfl
            · simp [tmD, putD, nth_d e10, nth_d e11, ← e12, ← e14]; rfl
            · simp [nth_d e10, nth_d e11, ← e12, ← e14]
              intros
              refine xcall_plain en_r5_SameItem (s_r5_SameItem e13) rfl ⟨.same rfl, .same rfl, trivial⟩ ?_
              try simp [nth_d e10, nth_d e11, ← e12, ← e14]
              intros; rfl
            obtain rfl := Option.some.inj h
            refine nP_i ?_
            refine Weak.mixN [] hn0 (by decide) ?_ ?_ rfl
            all_goals first | (simp [inv_cons, inv_nil, pickOb]; done) | rfl
        · rintro e s hp
          obtain ⟨rfl, hw⟩ := hp
          refine ⟨_, hw, ?_⟩
          try simp only [sp_l, sp_r, Post.seq, Post.block, Nat.reduceEqDiff, reduceIte, Nat.zero_ne_one, Nat.one_ne_zero]
          replace h := ltE h; obtain ⟨v15, e15, h⟩ := h
          rw [← e15]
          cases v15 with
          | true =>
            replace h := iteT rfl h
            refine AW.cond_true (by simp) ?_
            apply AW.step
            · simp
              intros; rfl
            obtain rfl := Option.some.inj h
            refine AW.ret ?_
            try simp only [sp_l, sp_r, Post.seq, Post.block, Nat.reduceEqDiff, reduceIte, Nat.zero_ne_one, Nat.one_ne_zero]
            refine rP_i ?_
            refine Left.plain hnb (by simp [Try.f42, resV, resC, comp]; rfl) rfl rfl ?_
            simp
          | false =>
            replace h := iteF rfl h
            refine AW.cond_false (by simp) ?_
            refine AW.skip ?_
            try simp only [sp_l, sp_r, Post.seq, Post.block, Nat.reduceEqDiff, reduceIte, Nat.zero_ne_one, Nat.one_ne_zero]
            try simp only [sp_l, sp_r, Post.seq, Post.block, Nat.reduceEqDiff, reduceIte, Nat.zero_ne_one, Nat.one_ne_zero]
            replace h := ltE h; obtain ⟨v16, e16, h⟩ := h
            apply AW.last
            · simp [← e16]
              intros; rfl
            obtain rfl := Option.some.inj h
            refine nP_i ?_
            refine Weak.mixN [] hn0 (by decide) ?_ ?_ rfl
            all_goals first | (simp [inv_cons, inv_nil, pickOb]; done) | rfl
      | false =>
        replace h := iteF rfl h
        refine AW.cond_false (by simp) ?_
        refine AW.exit ?_
        try simp only [sp_l, sp_r, Post.seq, Post.block, Nat.reduceEqDiff, reduceIte, Nat.zero_ne_one, Nat.one_ne_zero]
        obtain rfl := Option.some.inj h
        try simp only [sp_l, sp_r]
        refine xP_i ?_
        refine Weak.mixN [] hn0 (by decide) ?_ ?_ rfl
        all_goals first | (simp [inv_cons, inv_nil, pickOb]; done) | rfl
    · rintro e s hp
      rcases y5 with y17 | y18
      · replace h := smL h
        obtain ⟨rfl, hw⟩ := hp
        refine ⟨_, hw, ?_⟩
        try simp only [sp_l, sp_r, Post.seq, Post.block, Nat.reduceEqDiff, reduceIte, Nat.zero_ne_one, Nat.one_ne_zero]
        apply AW.step
        · simp
          intros; rfl
        obtain rfl := Option.some.inj h
        refine AW.ret ?_
        refine Left.plain hnb (by simp [Try.f42, resV, resC, comp]; rfl) rfl rfl ?_
        simp
      · replace h := smR h
        obtain ⟨rfl, hl⟩ := hp
        refine ⟨_, Weak.refl _, ?_⟩
        obtain rfl := Option.some.inj h
        exact hl
theorem en_r5_SameSpace : Enters Try.prog 42 := enters Try.func42 (by kernel_rfl) rfl
end Go.Proofs.Ytlkhfdccapkcdaa

/- Plain laws: feeds, answers, what is got. -/
namespace Go.Proofs.Ytlkhfdccapkcdaa
open Go Go.RowKit
set_option linter.unusedVariables false
set_option linter.unusedSimpArgs false
theorem ite_some {β : Type} (b : Bool) (x y : β) : ite' b (some x) (some y) = some (bif b then x else y) := by cases b <;> rfl
theorem ite_and (b c : Bool) : ite' b (some c) (some false) = some (b && c) := by cases b <;> rfl
theorem ite_or (b c : Bool) : ite' b (some true) (some c) = some (b || c) := by cases b <;> rfl
theorem eqRid (a b : Rid) : andB (eqI a.node b.node) (andB (eqI a.epoch b.epoch) true) = decide (a = b) := by
  rw [Bool.eq_iff_iff]
  simp only [andB, eqI, Bool.and_true, Bool.and_eq_true, decide_eq_true_eq]
  constructor
  · rintro ⟨h1, h2⟩
    exact Rid.ext h1 h2
  · rintro rfl
    exact ⟨rfl, rfl⟩
def addF (f : Feed) (l : List Effect) : Feed := { f with off := addI .i64 f.off l.length, back := lastN (f.back ++ l) }
theorem f_Add_ok (f : Feed) (l : List Effect) (h : okE f.back) (h2 : okE l) (h3 : f.back.length + l.length ≤ 1000000000) : feed_Add_sh big f l = some (addF f l) := by
  have hl := h2.1
  unfold feed_Add_sh
  simp only [lt_eq, bn_some, ite_t, ite_f, sm_inl, sm_inr, lenI_eq, Option.some.injEq]
  rw [chk_t (by simp [catB]; omega)]
  simp only [lt_eq, bn_some, ite_t, ite_f, sm_inl, sm_inr, lenI_eq, Option.some.injEq, List.flatten_cons, List.flatten_nil, List.append_nil]
  rw [feed_last_ok _ (h.app h2 h3)]
  rfl
theorem r_Add_ok (f : Feed) (l : List Effect) (h3 : f.back.length + l.length ≤ 1000000000) : r13_Add_sh big f l = some (addF f l) := by
  unfold r13_Add_sh
  simp only [lt_eq, bn_some, ite_t, ite_f, sm_inl, sm_inr, lenI_eq, Option.some.injEq]
  rw [chk_room (by omega) (by omega), chk_room (by omega) (by omega), chk_room (by simp; omega) (by simp; omega), subI_64 (by simp; omega) (by simp; omega)]
  have e : maxI 0 (((f.back ++ l).length : Int) - 64) = (((f.back ++ l).length - 64 : Nat) : Int) := by simp only [maxI]; omega
  rw [e, segl_nat (by omega)]
  rfl
def allP (l : List Pair) : List Effect := l.map fun p => ⟨p.key, false, p.item⟩
theorem allP_take (l : List Pair) (i : Nat) (hi : i < l.length) : allP (l.take i) ++ [⟨l[i].key, false, l[i].item⟩] = allP (l.take (i + 1)) := by
  rw [← List.take_append_getElem hi]
  simp only [allP, List.map_append]
  rfl
theorem space_All_ok (l : List Pair) (h : okP l) (hl : l.length ≤ 1000000000) : space_All_sh big l = some (allP l) := by
  unfold space_All_sh
  simp only [lt_eq, bn_some, ite_t, ite_f, sm_inl, sm_inr, lenI_eq, Option.some.injEq]
  refine bn_run (allP l) (fun i => ((i : Int), allP (l.take i))) l.length (by unfold big; omega) rfl (fun i hi => ?_) ?_ ?_
  · simp only [lt_eq, bn_some, ite_t, ite_f, sm_inl, sm_inr, lenI_eq, Option.some.injEq]
    rw [ltI_t (by omega), nth_some hi]
    simp only [lt_eq, bn_some, ite_t, ite_f, sm_inl, sm_inr, lenI_eq, Option.some.injEq]
    rw [item_Copy_ok _ (h _ (List.getElem_mem hi))]
    simp only [lt_eq, bn_some, ite_t, ite_f, sm_inl, sm_inr, lenI_eq, Option.some.injEq]
    rw [chk_room (by simp [allP]; omega) (by simp [allP]; omega), addI_64 (by omega) (by omega), allP_take l i hi]
    rfl
  · simp only [lt_eq, bn_some, ite_t, ite_f, sm_inl, sm_inr, lenI_eq, Option.some.injEq]
    rw [ltI_f (by omega), List.take_length]
    rfl
  · rw [chk_room (by simp [allP]; omega) (by simp [allP]; omega)]
theorem r_All_ok (l : List Pair) (hl : l.length ≤ 1000000000) : r5_All_sh big l = some (allP l) := by
  unfold r5_All_sh
  refine bn_run (allP l) (fun i => ((i : Int), allP (l.take i))) l.length (by unfold big; omega) rfl (fun i hi => ?_) ?_ ?_
  · simp only [lt_eq, bn_some, ite_t, ite_f, sm_inl, sm_inr, lenI_eq, Option.some.injEq]
    rw [ltI_t (by omega), nth_some hi]
    simp only [lt_eq, bn_some, ite_t, ite_f, sm_inl, sm_inr, lenI_eq, Option.some.injEq]
    rw [chk_room (by simp [allP]; omega) (by simp [allP]; omega), addI_64 (by omega) (by omega), allP_take l i hi]
    rfl
  · simp only [lt_eq, bn_some, ite_t, ite_f, sm_inl, sm_inr, lenI_eq, Option.some.injEq]
    rw [ltI_f (by omega), List.take_length]
    rfl
  · rw [chk_room (by simp [allP]; omega) (by simp [allP]; omega)]
def goesF (f : Feed) (rid : Rid) (off : Int) : Bool := (decide (rid = f.rid) || (decide (rid = f.prev) && decide (off ≤ f.upto))) && (decide (off ≤ f.off) && decide (f.off - f.back.length ≤ off))
def ansF (f : Feed) (db : List Pair) (rid : Rid) (off : Int) : Msg :=
  bif goesF f rid off then ⟨5, 0, 0, 0, [], [], 0, 0, 0, f.rid, rid, off, (f.back.drop (off - (f.off - f.back.length)).toNat).take 16⟩ else ⟨6, 0, 0, 0, [], [], 0, 0, 0, f.rid, ⟨0, 0⟩, f.off, allP db⟩
/-- A feed that may be. -/
def okF (f : Feed) : Prop := okE f.back ∧ f.back.length ≤ 64 ∧ (f.back.length : Int) ≤ f.off ∧ f.off ≤ 9223372036854775807
theorem f_goes_ok (f : Feed) (rid : Rid) (off : Int) (h : okF f) : feed_goes_sh big f rid off = some (goesF f rid off) := by
  obtain ⟨-, h2, h3, h4⟩ := h
  unfold feed_goes_sh
  simp only [lt_eq, bn_some, ite_t, ite_f, sm_inl, sm_inr, lenI_eq, Option.some.injEq, eqRid, ite_and, ite_or]
  rw [subI_64 (by omega) (by omega)]
  rfl
theorem okE.take {l : List Effect} (h : okE l) (k : Nat) : okE (l.take k) := ⟨by have := h.1; simp; omega, fun e he => h.2 e (List.mem_of_mem_take he)⟩
theorem f_Answer_ok (f : Feed) (db : List Pair) (rid : Rid) (off : Int) (h : okF f) (hd : okP db) (hdl : db.length ≤ 1000000000) : feed_Answer_sh big f db rid off = some (ansF f db rid off) := by
  obtain ⟨h1, h2, h3, h4⟩ := id h
  unfold feed_Answer_sh ansF
  rw [f_goes_ok f rid off h]
  simp only [lt_eq, bn_some, ite_t, ite_f, sm_inl, sm_inr, lenI_eq, Option.some.injEq]
  cases hg : goesF f rid off
  · simp only [notB_f, lt_eq, bn_some, ite_t, ite_f, sm_inl, sm_inr, lenI_eq, Option.some.injEq]
    rw [space_All_ok _ hd hdl]
    rfl
  · simp only [notB_t, lt_eq, bn_some, ite_t, ite_f, sm_inl, sm_inr, lenI_eq, Option.some.injEq]
    have hb : off ≤ f.off ∧ f.off - f.back.length ≤ off := by
      simp only [goesF, Bool.and_eq_true, decide_eq_true_eq] at hg
      exact hg.2
    have hk : feed_kept_sh big f off = some (f.back.drop (off - (f.off - f.back.length)).toNat) := by
      unfold feed_kept_sh
      simp only [lt_eq, bn_some, ite_t, ite_f, sm_inl, sm_inr, lenI_eq, Option.some.injEq]
      rw [subI_64 (a := f.off) (by omega) (by omega), subI_64 (by omega) (by omega)]
      have e : (f.back.length : Int) - (f.off - off) = (((off - (f.off - f.back.length)).toNat : Nat) : Int) := by omega
      rw [e, segl_nat (by omega)]
      rfl
    rw [hk]
    simp only [lt_eq, bn_some, ite_t, ite_f, sm_inl, sm_inr, lenI_eq, Option.some.injEq]
    have hkE := h1.drop (off - (f.off - f.back.length)).toNat
    have hkl : (f.back.drop (off - (f.off - f.back.length)).toNat).length ≤ 64 := by simp; omega
    generalize f.back.drop (off - (f.off - f.back.length)).toNat = v at hkE hkl ⊢
    have hloop : ∀ {γ : Type} (k : List Effect ⊕ List Effect → Option γ) (r : Option γ), k (.inl (v.take 16)) = r → k (.inr (v.take 16)) = r →
        bn (iter big (fun (y7 : Int × List Effect) => ite' (ltI y7.1 (v.length : Int)) (bn (nth v y7.1) fun v11 => bn (ite' (eqI (y7.2.length : Int) 16) (some (.inr ())) (chk (room (y7.2.length + 1) 104) (some (.inl (y7.2 ++ [v11]))))) fun (y12 : (List Effect) ⊕ Unit) => sm y12 (fun y17 => some (.inl (addI .i64 y7.1 1, y17))) (fun y18 => some (.inr (.inr y7.2)))) (some (.inr (.inl y7.2)))) (0, [])) k = r := by
      intro γ k r hk1 hk2
      have hstep : ∀ i, i < min 16 v.length → (fun (y7 : Int × List Effect) => ite' (ltI y7.1 (v.length : Int)) (bn (nth v y7.1) fun v11 => bn (ite' (eqI (y7.2.length : Int) 16) (some (.inr ())) (chk (room (y7.2.length + 1) 104) (some (.inl (y7.2 ++ [v11]))))) fun (y12 : (List Effect) ⊕ Unit) => sm y12 (fun y17 => some (Sum.inl (β := List Effect ⊕ List Effect) (addI .i64 y7.1 1, y17))) (fun y18 => some (.inr (.inr y7.2)))) (some (.inr (.inl y7.2)))) ((i : Int), v.take i) = some (.inl (((i + 1 : Nat) : Int), v.take (i + 1))) := fun i hi => by
        have hi2 : i < v.length := by omega
        simp only
        rw [ltI_t (by omega), nth_some hi2]
        simp only [lt_eq, bn_some, ite_t, ite_f, sm_inl, sm_inr, lenI_eq, Option.some.injEq]
        have hne : eqI ((v.take i).length : Int) 16 = false := by simp [eqI]; omega
        rw [hne]
        simp only [lt_eq, bn_some, ite_t, ite_f, sm_inl, sm_inr, lenI_eq, Option.some.injEq]
        rw [chk_room (by simp; omega) (by simp; omega), List.take_append_getElem hi2]
        simp only [lt_eq, bn_some, ite_t, ite_f, sm_inl, sm_inr, lenI_eq, Option.some.injEq]
        rw [addI_64 (by omega) (by omega)]
        rfl
      by_cases hv : 16 < v.length
      · refine bn_run (.inr (v.take 16)) (fun i => ((i : Int), v.take i)) 16 (by unfold big; omega) (by simp) (fun i hi => hstep i (by omega)) ?_ hk2
        simp only
        rw [ltI_t (by omega), nth_some hv]
        have he : eqI ((v.take 16).length : Int) 16 = true := by simp [eqI]; omega
        simp only [lt_eq, bn_some, ite_t, ite_f, sm_inl, sm_inr, lenI_eq, Option.some.injEq, he]
      · refine bn_run (.inl (v.take 16)) (fun i => ((i : Int), v.take i)) v.length (by unfold big; omega) (by simp) (fun i hi => hstep i (by omega)) ?_ hk1
        simp only
        rw [ltI_f (by omega), List.take_length, List.take_of_length_le (by omega)]
        rfl
    have e : ∀ x : Option (List Effect), x = some (v.take 16) → (bn x fun y4 => chk (room y4.length 1) (bn (feed_copied_sh big y4) fun v23 => some (⟨5, 0, 0, 0, [], [], 0, 0, 0, f.rid, rid, off, v23⟩ : Msg))) = some ⟨5, 0, 0, 0, [], [], 0, 0, 0, f.rid, rid, off, v.take 16⟩ := by
      rintro x rfl
      simp only [lt_eq, bn_some, ite_t, ite_f, sm_inl, sm_inr, lenI_eq, Option.some.injEq]
      rw [chk_room (by simp; omega) (by simp; omega), copied_ok _ (hkE.take 16)]
      rfl
    refine e _ ?_
    exact hloop _ _ rfl rfl
theorem r_Answer_ok (f : Feed) (db : List Pair) (rid : Rid) (off : Int) (h : okF f) (hdl : db.length ≤ 1000000000) : r13_Answer_sh big f db rid off = some (ansF f db rid off) := by
  obtain ⟨h1, h2, h3, h4⟩ := id h
  unfold r13_Answer_sh ansF
  simp only [lt_eq, bn_some, ite_t, ite_f, sm_inl, sm_inr, lenI_eq, Option.some.injEq, eqRid]
  rw [subI_64 (a := f.off) (by omega) (by omega)]
  have e : ite' (decide (rid = f.rid)) (ite' (geI off (f.off - f.back.length)) (some (leI off f.off)) (some false)) (ite' (decide (rid = f.prev)) (ite' (leI off f.upto) (ite' (geI off (f.off - f.back.length)) (some (leI off f.off)) (some false)) (some false)) (some false)) = some (goesF f rid off) := by
    simp only [ite_and, ite_some, goesF, geI, leI]
    cases decide (rid = f.rid) <;> cases decide (rid = f.prev) <;> cases decide (off ≤ f.upto) <;> cases decide (off ≤ f.off) <;> cases decide (f.off - (f.back.length : Int) ≤ off) <;> rfl
  rw [e]
  simp only [lt_eq, bn_some, ite_t, ite_f, sm_inl, sm_inr, lenI_eq, Option.some.injEq]
  cases hg : goesF f rid off
  · simp only [lt_eq, bn_some, ite_t, ite_f, sm_inl, sm_inr, lenI_eq, Option.some.injEq]
    rw [r_All_ok _ hdl]
    rfl
  · have hb : off ≤ f.off ∧ f.off - f.back.length ≤ off := by
      simp only [goesF, Bool.and_eq_true, decide_eq_true_eq] at hg
      exact hg.2
    simp only [lt_eq, bn_some, ite_t, ite_f, sm_inl, sm_inr, lenI_eq, Option.some.injEq]
    rw [subI_64 (by omega) (by omega)]
    have e : off - (f.off - (f.back.length : Int)) = (((off - (f.off - f.back.length)).toNat : Nat) : Int) := by omega
    rw [e, segl_nat (by omega)]
    simp only [lt_eq, bn_some, ite_t, ite_f, sm_inl, sm_inr, lenI_eq, Option.some.injEq, Int.toNat_natCast]
    have hkl : (f.back.drop (off - (f.off - f.back.length)).toNat).length ≤ 64 := by simp; omega
    generalize f.back.drop (off - (f.off - f.back.length)).toNat = v at hkl ⊢
    have e : minI (v.length : Int) 16 = ((min v.length 16 : Nat) : Int) := by simp only [minI]; omega
    rw [e, segh_nat (by omega)]
    simp only [lt_eq, bn_some, ite_t, ite_f, sm_inl, sm_inr, lenI_eq, Option.some.injEq]
    rw [chk_room (by simp; omega) (by simp; omega), chk_room (by simp; omega) (by simp; omega)]
    have e2 : v.take (min v.length 16) = v.take 16 := by
      by_cases h : v.length ≤ 16
      · rw [Nat.min_eq_left h, List.take_length, List.take_of_length_le h]
      · rw [Nat.min_eq_right (by omega)]
    rw [e2]
    rfl
end Go.Proofs.Ytlkhfdccapkcdaa

/- Plain laws: what is got; feeds made by numbers. -/
namespace Go.Proofs.Ytlkhfdccapkcdaa
open Go Go.RowKit
set_option linter.unusedVariables false
set_option linter.unusedSimpArgs false
def newerF (f : Feed) (m : Msg) : Bool := !decide (m.rid.node = f.rid.node) || (decide (f.rid.epoch < m.rid.epoch) || (decide (m.rid = f.rid) && decide (f.off < m.off)))
def nextF (f : Feed) (m : Msg) : Bool := decide (m.kind = 5) && (decide (m.prev = f.rid) && decide (m.off = f.off))
def gotF (f : Feed) (db : List Pair) (m : Msg) : Feed × List Pair × Bool :=
  bif nextF f m then (addF (bif decide (m.rid = f.rid) then f else { f with rid := m.rid, prev := f.rid, upto := f.off }) m.effects, m.effects.foldl applyP db, true)
  else bif decide (m.kind = 6) && newerF f m then (⟨m.rid, m.off, [], ⟨0, 0⟩, 0⟩, m.effects.foldl applyP [], true) else (f, db, false)
theorem addF_nil (f : Feed) (h : f.back.length ≤ 64) (h2 : -9223372036854775808 ≤ f.off) (h3 : f.off ≤ 9223372036854775807) : addF f [] = f := by
  unfold addF lastN
  rw [addI_64 (by simp; omega) (by simp; omega), List.append_nil, show f.back.length - 64 = 0 by omega, List.drop_zero]
  simp
theorem f_Got_ok (f : Feed) (db : List Pair) (m : Msg) (h : okE f.back) (h2 : f.back.length ≤ 64) (h3 : -9223372036854775808 ≤ f.off) (h4 : f.off ≤ 9223372036854775807) (hs : SrtP db) (hd : okP db) (he : okE m.effects) (hl : db.length + m.effects.length ≤ 100000000) :
    feed_Got_sh big f db m = some (gotF f db m) := by
  unfold feed_Got_sh gotF
  simp only [lt_eq, bn_some, ite_t, ite_f, sm_inl, sm_inr, lenI_eq, Option.some.injEq, eqRid, ite_and, ite_or]
  have e1 : (neI m.rid.node f.rid.node || (gtI m.rid.epoch f.rid.epoch || (decide (m.rid = f.rid) && gtI m.off f.off))) = newerF f m := rfl
  have e2 : (eqI m.kind 5 && (decide (m.prev = f.rid) && eqI m.off f.off)) = nextF f m := rfl
  rw [e1, e2]
  cases hn : nextF f m
  · simp only [lt_eq, bn_some, ite_t, ite_f, sm_inl, sm_inr, lenI_eq, Option.some.injEq, cond_false]
    rw [show eqI m.kind 6 = decide (m.kind = 6) from rfl]
    cases hw : (decide (m.kind = 6) && newerF f m)
    · simp only [lt_eq, bn_some, ite_t, ite_f, sm_inl, sm_inr, lenI_eq, Option.some.injEq, cond_false]
      rw [f_Add_ok f [] h ⟨by simp, by simp⟩ (by simp; omega)]
      simp only [lt_eq, bn_some, ite_t, ite_f, sm_inl, sm_inr, lenI_eq, Option.some.injEq]
      rw [space_Apply_ok db [] hs hd (by simp) (by simp; omega), addF_nil f h2 h3 h4]
      rfl
    · simp only [lt_eq, bn_some, ite_t, ite_f, sm_inl, sm_inr, lenI_eq, Option.some.injEq, cond_true]
      rw [space_Apply_ok [] m.effects .nil (by simp [okP]) he.2 (by simp; omega)]
      rfl
  · simp only [lt_eq, bn_some, ite_t, ite_f, sm_inl, sm_inr, lenI_eq, Option.some.injEq, cond_true]
    cases hr : decide (m.rid = f.rid)
    · simp only [notB_f, lt_eq, bn_some, ite_t, ite_f, sm_inl, sm_inr, lenI_eq, Option.some.injEq, cond_false]
      rw [f_Add_ok ⟨⟨m.rid.node, m.rid.epoch⟩, f.off, f.back, ⟨f.rid.node, f.rid.epoch⟩, f.off⟩ _ h he (by show f.back.length + _ ≤ _; omega)]
      simp only [lt_eq, bn_some, ite_t, ite_f, sm_inl, sm_inr, lenI_eq, Option.some.injEq]
      rw [space_Apply_ok db _ hs hd he.2 hl]
      rfl
    · simp only [notB_t, lt_eq, bn_some, ite_t, ite_f, sm_inl, sm_inr, lenI_eq, Option.some.injEq, cond_true]
      rw [f_Add_ok ⟨⟨f.rid.node, f.rid.epoch⟩, f.off, f.back, ⟨f.prev.node, f.prev.epoch⟩, f.upto⟩ _ h he (by show f.back.length + _ ≤ _; omega)]
      simp only [lt_eq, bn_some, ite_t, ite_f, sm_inl, sm_inr, lenI_eq, Option.some.injEq]
      rw [space_Apply_ok db _ hs hd he.2 hl]
      rfl
theorem r_Got_ok (f : Feed) (db : List Pair) (m : Msg) (h2 : f.back.length ≤ 64) (hs : SrtP db) (hd : okP db) (he : okE m.effects) (hl : db.length + m.effects.length ≤ 100000000) :
    r13_Got_sh big f db m = some ⟨(gotF f db m).1, (gotF f db m).2.1, (gotF f db m).2.2⟩ := by
  unfold r13_Got_sh gotF
  simp only [lt_eq, bn_some, ite_t, ite_f, sm_inl, sm_inr, lenI_eq, Option.some.injEq, eqRid, ite_and, ite_or]
  have e1 : (neI m.rid.node f.rid.node || (gtI m.rid.epoch f.rid.epoch || (decide (m.rid = f.rid) && gtI m.off f.off))) = newerF f m := rfl
  have e2 : (eqI m.kind 5 && (decide (m.prev = f.rid) && eqI m.off f.off)) = nextF f m := rfl
  rw [e2]
  try rw [e1]
  cases hn : nextF f m
  · simp only [lt_eq, bn_some, ite_t, ite_f, sm_inl, sm_inr, lenI_eq, Option.some.injEq, cond_false]
    rw [show eqI m.kind 6 = decide (m.kind = 6) from rfl]
    cases hw : (decide (m.kind = 6) && newerF f m)
    · simp only [lt_eq, bn_some, ite_t, ite_f, sm_inl, sm_inr, lenI_eq, Option.some.injEq, cond_false]
    · simp only [lt_eq, bn_some, ite_t, ite_f, sm_inl, sm_inr, lenI_eq, Option.some.injEq, cond_true]
      rw [r_Apply_ok [] m.effects .nil (by simp [okP]) he.2 (by simp; omega)]
      rfl
  · simp only [lt_eq, bn_some, ite_t, ite_f, sm_inl, sm_inr, lenI_eq, Option.some.injEq, cond_true]
    rw [r_Apply_ok db _ hs hd he.2 hl]
    simp only [lt_eq, bn_some, ite_t, ite_f, sm_inl, sm_inr, lenI_eq, Option.some.injEq]
    rw [r_Add_ok _ _ (by omega)]
    simp only [lt_eq, bn_some, ite_t, ite_f, sm_inl, sm_inr, lenI_eq, Option.some.injEq]
    cases hr : decide (m.rid = f.rid)
    · simp only [notB_f, lt_eq, bn_some, ite_t, ite_f, sm_inl, sm_inr, lenI_eq, Option.some.injEq, cond_false]
      rfl
    · simp only [notB_t, lt_eq, bn_some, ite_t, ite_f, sm_inl, sm_inr, lenI_eq, Option.some.injEq, cond_true]
/-! ### What is alike -/
theorem r_SameSpace_refl (l : List Pair) (h : okP l) (hl : l.length ≤ 1000000000) : r5_SameSpace_sh big l l = some true := by
  unfold r5_SameSpace_sh
  simp only [lt_eq, bn_some, ite_t, ite_f, sm_inl, sm_inr, lenI_eq, Option.some.injEq, neI_self]
  refine bn_run (.inl ()) (fun i => (i : Int)) l.length (by unfold big; omega) rfl (fun i hi => ?_) ?_ rfl
  · rw [ltI_t (by omega)]
    simp only [lt_eq, bn_some, ite_t, ite_f, sm_inl, sm_inr, lenI_eq, Option.some.injEq, nth_some hi, neS_self, r_SameItem_refl _ (h _ (List.getElem_mem hi)), notB_t]
    rw [addI_64 (by omega) (by omega)]
    rfl
  · rw [ltI_f (by omega)]; rfl
theorem r_SameFeed_refl (f : Feed) (h : okE f.back) : r13_SameFeed_sh big f f = some true := by
  unfold r13_SameFeed_sh
  simp only [lt_eq, bn_some, ite_t, ite_f, sm_inl, sm_inr, lenI_eq, Option.some.injEq, eqI_self, andB_tt, r_SameEffects_refl _ h]
theorem r_Claims_refl (l : List Claim) (hl : l.length ≤ 1000000000) : r13_SameClaims_sh big l l = some true := by
  unfold r13_SameClaims_sh
  simp only [lt_eq, bn_some, ite_t, ite_f, sm_inl, sm_inr, lenI_eq, Option.some.injEq, neI_self]
  refine bn_run (.inl ()) (fun i => (i : Int)) l.length (by unfold big; omega) rfl (fun i hi => ?_) ?_ rfl
  · rw [ltI_t (by omega)]
    simp only [lt_eq, bn_some, ite_t, ite_f, sm_inl, sm_inr, lenI_eq, Option.some.injEq, nth_some hi, eqI_self, andB_tt, notB_t]
    rw [addI_64 (by omega) (by omega)]
    rfl
  · rw [ltI_f (by omega)]; rfl
theorem r_Ints_refl (l : List Int) (hl : l.length ≤ 1000000000) : r1_Ints_sh big l l = some true := by
  unfold r1_Ints_sh
  simp only [lt_eq, bn_some, ite_t, ite_f, sm_inl, sm_inr, lenI_eq, Option.some.injEq, neI_self]
  refine bn_run (.inl ()) (fun i => (i : Int)) l.length (by unfold big; omega) rfl (fun i hi => ?_) ?_ rfl
  · rw [ltI_t (by omega)]
    simp only [lt_eq, bn_some, ite_t, ite_f, sm_inl, sm_inr, lenI_eq, Option.some.injEq, nth_some hi, neI_self]
    rw [addI_64 (by omega) (by omega)]
    rfl
  · rw [ltI_f (by omega)]; rfl
theorem r_SameMsg_refl (m : Msg) (h : okE m.effects) (hc : m.claims.length ≤ 1000000000) (hn : m.nodes.length ≤ 1000000000) : r19_SameMsg_sh big m m = some true := by
  unfold r19_SameMsg_sh
  simp only [lt_eq, bn_some, ite_t, ite_f, sm_inl, sm_inr, lenI_eq, Option.some.injEq, eqI_self, andB_tt, r_Claims_refl _ hc, r_Ints_refl _ hn, r_SameEffects_refl _ h]
end Go.Proofs.Ytlkhfdccapkcdaa

/- Plain law: feeds made by numbers. -/
namespace Go.Proofs.Ytlkhfdccapkcdaa
open Go Go.RowKit
set_option linter.unusedVariables false
set_option linter.unusedSimpArgs false
theorem ansF_ok (f : Feed) (db : List Pair) (rid : Rid) (off : Int) (h : okE f.back) (hd : okP db) (hl : db.length ≤ 1000000) : okE (ansF f db rid off).effects ∧ (ansF f db rid off).effects.length ≤ 16 + db.length ∧ (ansF f db rid off).claims = [] ∧ (ansF f db rid off).nodes = [] := by
  unfold ansF
  cases goesF f rid off
  · refine ⟨⟨by simp [allP]; omega, fun e he => ?_⟩, by simp [allP], rfl, rfl⟩
    simp only [cond_false, allP, List.mem_map] at he
    obtain ⟨p, hp, rfl⟩ := he
    exact hd p hp
  · exact ⟨(h.drop _).take 16, by simp; omega, rfl, rfl⟩
theorem gotF_ok (f : Feed) (db : List Pair) (m : Msg) (h : okE f.back) (h2 : f.back.length ≤ 1000000) (hs : SrtP db) (hd : okP db) (he : okE m.effects) (hm : m.effects.length ≤ 1000000) :
    okE (gotF f db m).1.back ∧ SrtP (gotF f db m).2.1 ∧ okP (gotF f db m).2.1 ∧ (gotF f db m).2.1.length ≤ db.length + m.effects.length := by
  unfold gotF
  cases nextF f m
  · simp only [cond_false]
    cases (decide (m.kind = 6) && newerF f m)
    · exact ⟨h, hs, hd, by simp only [cond_false]; omega⟩
    · obtain ⟨g1, g2, g3⟩ := foldA_inv m.effects [] .nil (by simp [okP]) he.2
      exact ⟨⟨by simp, by simp⟩, g1, g2, by simp only [cond_true, List.length_nil] at g3 ⊢; omega⟩
  · obtain ⟨g1, g2, g3⟩ := foldA_inv m.effects db hs hd he.2
    refine ⟨?_, g1, g2, g3⟩
    simp only [cond_true, addF]
    cases decide (m.rid = f.rid)
    · exact (h.app he (by omega)).lastN
    · exact (h.app he (by omega)).lastN
end Go.Proofs.Ytlkhfdccapkcdaa

/- Walks, printed: r5_bare, r5_MayItem, r5_MayEffect, r5_MayEffects, r13_MayFeed, r5_MaySpace -/
namespace Go.Proofs.Ytlkhfdccapkcdaa
open Go Go.RowKit
set_option linter.unusedVariables false
set_option linter.unusedSimpArgs false
def r5_bare_sh (n : Nat) (a0 : Item) : Option Bool :=
lt (eqI a0.kind 1) fun v1 =>
ite' v1 (bn (lt (lenI a0.f) fun v3 =>
lt (eqI v3 0) fun v4 =>
ite' v4 (lt (lenI a0.l) fun v5 =>
lt (eqI v5 0) fun v6 =>
some (v6)) (some (false))) fun (y2 : Bool) =>
some y2) (lt (eqI a0.kind 2) fun v7 =>
ite' v7 (bn (lt (eqS a0.s ⟨#[]⟩) fun v9 =>
ite' v9 (lt (lenI a0.l) fun v10 =>
lt (eqI v10 0) fun v11 =>
ite' v11 (lt (lenI a0.f) fun v12 =>
lt (gtI v12 0) fun v13 =>
some (v13)) (some (false))) (some (false))) fun (y8 : Bool) =>
some y8) (bn (lt (eqI a0.kind 3) fun v15 =>
ite' v15 (some (true)) (lt (eqI a0.kind 4) fun v16 =>
some (v16))) fun (y14 : Bool) =>
lt (y14) fun v17 =>
ite' v17 (bn (lt (eqS a0.s ⟨#[]⟩) fun v19 =>
ite' v19 (lt (lenI a0.f) fun v20 =>
lt (eqI v20 0) fun v21 =>
ite' v21 (lt (lenI a0.l) fun v22 =>
lt (gtI v22 0) fun v23 =>
some (v23)) (some (false))) (some (false))) fun (y18 : Bool) =>
some y18) (some false)))
set_option maxRecDepth 8000 in
set_option maxHeartbeats 8000000 in
theorem s_r5_bare {n : Nat} {a0 : Item} {r : Bool} (h : r5_bare_sh n a0 = some r) : Sound Try.prog 117 [.g [.s (.int .i64 a0.kind), .s (.string a0.s), .d false 2 (encField a0.f), .d false 1 (encS a0.l), .s (.int .i64 a0.exp)]] [] (.l (.s (.bool r))) [] := by
  unfold r5_bare_sh at h
  refine Sound.of_aw (fn := Try.f117) (c := _) Try.func117 rfl (by simp [Try.f117]) fun cx hG hnb => ?_
  rw [show Try.f117.ntmps = 52 from rfl]
  have hn0 : cx.nb = 0 := hnb
  simp only [st0_mk, initTm, List.map_cons, List.map_nil]
  apply AW.step
  · simp
    intros; rfl
  refine AW.seq ?_
  apply AW.step
  · simp
    intros; rfl
  refine AW.block ?_
  replace h := ltE h; obtain ⟨v1, e1, h⟩ := h
  apply AW.step
  · simp [← e1]
    intros; rfl
  cases v1 with
  | true =>
    replace h := iteT rfl h
    refine AW.cond_true (by simp) ?_
    replace h := bnE h; obtain ⟨y2, g2, h⟩ := h
    refine AW.flow (p := fun gh ls => (nP (cx := cx) (fun q => (⟨[(2, .l (.s (.bool q)))], [], 52, gh, ls⟩ : St))) y2) ?_ ?_
    · replace h := g2; clear g2
      replace h := ltE h; obtain ⟨v3, e3, h⟩ := h
      replace h := ltE h; obtain ⟨v4, e4, h⟩ := h
      cases v4 with
      | true =>
        replace h := iteT rfl h
        replace h := ltE h; obtain ⟨v5, e5, h⟩ := h
        replace h := ltE h; obtain ⟨v6, e6, h⟩ := h
        apply AW.last
        · simp [lenI_cast e3, ← e4, lenI_cast e5, ← e6]
          intros; rfl
        obtain rfl := Option.some.inj h
        refine nP_i ?_
        refine Weak.mixN [] hn0 (by decide) ?_ ?_ rfl
        all_goals first | (simp [inv_cons, inv_nil, pickOb]; done) | rfl
      | false =>
        replace h := iteF rfl h
        apply AW.last
        · simp [lenI_cast e3, ← e4]
          intros; rfl
        obtain rfl := Option.some.inj h
        refine nP_i ?_
        refine Weak.mixN [] hn0 (by decide) ?_ ?_ rfl
        all_goals first | (simp [inv_cons, inv_nil, pickOb]; done) | rfl
    · rintro e s hp
      obtain ⟨rfl, hw⟩ := hp
      refine ⟨_, hw, ?_⟩
      try simp only [sp_l, sp_r, Post.seq, Post.block, Nat.reduceEqDiff, reduceIte, Nat.zero_ne_one, Nat.one_ne_zero]
      obtain rfl := Option.some.inj h
      refine AW.ret ?_
      refine Left.plain hnb (by simp [Try.f117, resV, resC, comp]; rfl) rfl rfl ?_
      simp
  | false =>
    replace h := iteF rfl h
    refine AW.cond_false (by simp) ?_
    replace h := ltE h; obtain ⟨v7, e7, h⟩ := h
    apply AW.step
    · simp [← e7]
      intros; rfl
    cases v7 with
    | true =>
      replace h := iteT rfl h
      refine AW.cond_true (by simp) ?_
      replace h := bnE h; obtain ⟨y8, g8, h⟩ := h
      refine AW.flow (p := fun gh ls => (nP (cx := cx) (fun q => (⟨[(2, .l (.s (.bool q)))], [], 52, gh, ls⟩ : St))) y8) ?_ ?_
      · replace h := g8; clear g8
        replace h := ltE h; obtain ⟨v9, e9, h⟩ := h
        cases v9 with
        | true =>
          replace h := iteT rfl h
          replace h := ltE h; obtain ⟨v10, e10, h⟩ := h
          replace h := ltE h; obtain ⟨v11, e11, h⟩ := h
          cases v11 with
          | true =>
            replace h := iteT rfl h
            replace h := ltE h; obtain ⟨v12, e12, h⟩ := h
            replace h := ltE h; obtain ⟨v13, e13, h⟩ := h
            apply AW.last
            · simp [← e9, lenI_cast e10, ← e11, lenI_cast e12, ← e13]
              intros; rfl
            obtain rfl := Option.some.inj h
            refine nP_i ?_
            refine Weak.mixN [] hn0 (by decide) ?_ ?_ rfl
            all_goals first | (simp [inv_cons, inv_nil, pickOb]; done) | rfl
          | false =>
            replace h := iteF rfl h
            apply AW.last
            · simp [← e9, lenI_cast e10, ← e11]
              intros; rfl
            obtain rfl := Option.some.inj h
            refine nP_i ?_
            refine Weak.mixN [] hn0 (by decide) ?_ ?_ rfl
            all_goals first | (simp [inv_cons, inv_nil, pickOb]; done) | rfl
        | false =>
          replace h := iteF rfl h
          apply AW.last
          · simp [← e9]
            intros; rfl
          obtain rfl := Option.some.inj h
          refine nP_i ?_
          refine Weak.mixN [] hn0 (by decide) ?_ ?_ rfl
          all_goals first | (simp [inv_cons, inv_nil, pickOb]; done) | rfl
      · rintro e s hp
        obtain ⟨rfl, hw⟩ := hp
        refine ⟨_, hw, ?_⟩
        try simp only [sp_l, sp_r, Post.seq, Post.block, Nat.reduceEqDiff, reduceIte, Nat.zero_ne_one, Nat.one_ne_zero]
        obtain rfl := Option.some.inj h
        refine AW.ret ?_
        refine Left.plain hnb (by simp [Try.f117, resV, resC, comp]; rfl) rfl rfl ?_
        simp
    | false =>
      replace h := iteF rfl h
      refine AW.cond_false (by simp) ?_
      replace h := bnE h; obtain ⟨y14, g14, h⟩ := h
      refine AW.flow (p := fun gh ls => (nP (cx := cx) (fun q => (⟨[(1, .l (.p 0 0)), (34, .l (.s (.bool q)))], [some ⟨34, 5, false, none, [.s (.int .i64 a0.kind), .s (.string a0.s), .d false 2 (encField a0.f), .d false 1 (encS a0.l), .s (.int .i64 a0.exp)]⟩], 52, gh, ls⟩ : St))) y14) ?_ ?_
      · replace h := g14; clear g14
        replace h := ltE h; obtain ⟨v15, e15, h⟩ := h
        apply AW.step
        · simp [← e15]
          intros; rfl
        cases v15 with
        | true =>
          replace h := iteT rfl h
          refine AW.cond_true (by simp) ?_
          refine AW.skip ?_
          try simp only [sp_l, sp_r, Post.seq, Post.block, Nat.reduceEqDiff, reduceIte, Nat.zero_ne_one, Nat.one_ne_zero]
          obtain rfl := Option.some.inj h
          refine nP_i ?_
          refine Weak.mixN [some 0] hn0 (by decide) ?_ ?_ rfl
          all_goals first | (simp [inv_cons, inv_nil, pickOb]; done) | rfl
        | false =>
          replace h := iteF rfl h
          refine AW.cond_false (by simp) ?_
          replace h := ltE h; obtain ⟨v16, e16, h⟩ := h
          apply AW.last
          · simp [← e16]
            intros; rfl
          obtain rfl := Option.some.inj h
          refine nP_i ?_
          refine Weak.mixN [some 0] hn0 (by decide) ?_ ?_ rfl
          all_goals first | (simp [inv_cons, inv_nil, pickOb]; done) | rfl
      · rintro e s hp
        obtain ⟨rfl, hw⟩ := hp
        refine ⟨_, hw, ?_⟩
        try simp only [sp_l, sp_r, Post.seq, Post.block, Nat.reduceEqDiff, reduceIte, Nat.zero_ne_one, Nat.one_ne_zero]
        replace h := ltE h; obtain ⟨v17, e17, h⟩ := h
        rw [← e17]
        cases v17 with
        | true =>
          replace h := iteT rfl h
          refine AW.cond_true (by simp) ?_
          replace h := bnE h; obtain ⟨y18, g18, h⟩ := h
          refine AW.flow (p := fun gh ls => (nP (cx := cx) (fun q => (⟨[(2, .l (.s (.bool q)))], [], 52, gh, ls⟩ : St))) y18) ?_ ?_
          · replace h := g18; clear g18
            replace h := ltE h; obtain ⟨v19, e19, h⟩ := h
            cases v19 with
            | true =>
              replace h := iteT rfl h
              replace h := ltE h; obtain ⟨v20, e20, h⟩ := h
              replace h := ltE h; obtain ⟨v21, e21, h⟩ := h
              cases v21 with
              | true =>
                replace h := iteT rfl h
                replace h := ltE h; obtain ⟨v22, e22, h⟩ := h
                replace h := ltE h; obtain ⟨v23, e23, h⟩ := h
                apply AW.last
                · simp [← e19, lenI_cast e20, ← e21, lenI_cast e22, ← e23]
                  intros; rfl
                obtain rfl := Option.some.inj h
                refine nP_i ?_
                refine Weak.mixN [] hn0 (by decide) ?_ ?_ rfl
                all_goals first | (simp [inv_cons, inv_nil, pickOb]; done) | rfl
              | false =>
                replace h := iteF rfl h
                apply AW.last
                · simp [← e19, lenI_cast e20, ← e21]
                  intros; rfl
                obtain rfl := Option.some.inj h
                refine nP_i ?_
                refine Weak.mixN [] hn0 (by decide) ?_ ?_ rfl
                all_goals first | (simp [inv_cons, inv_nil, pickOb]; done) | rfl
            | false =>
              replace h := iteF rfl h
              apply AW.last
              · simp [← e19]
                intros; rfl
              obtain rfl := Option.some.inj h
              refine nP_i ?_
              refine Weak.mixN [] hn0 (by decide) ?_ ?_ rfl
              all_goals first | (simp [inv_cons, inv_nil, pickOb]; done) | rfl
          · rintro e s hp
            obtain ⟨rfl, hw⟩ := hp
            refine ⟨_, hw, ?_⟩
            try simp only [sp_l, sp_r, Post.seq, Post.block, Nat.reduceEqDiff, reduceIte, Nat.zero_ne_one, Nat.one_ne_zero]
            obtain rfl := Option.some.inj h
            refine AW.ret ?_
            refine Left.plain hnb (by simp [Try.f117, resV, resC, comp]; rfl) rfl rfl ?_
            simp
        | false =>
          replace h := iteF rfl h
          refine AW.cond_false (by simp) ?_
          refine AW.skip ?_
          try simp only [sp_l, sp_r, Post.seq, Post.block, Nat.reduceEqDiff, reduceIte, Nat.zero_ne_one, Nat.one_ne_zero]
          try simp only [sp_l, sp_r, Post.seq, Post.block, Nat.reduceEqDiff, reduceIte, Nat.zero_ne_one, Nat.one_ne_zero]
          apply AW.step
          · simp
            intros; rfl
          obtain rfl := Option.some.inj h
          refine AW.ret ?_
          refine Left.plain hnb (by simp [Try.f117, resV, resC, comp]; rfl) rfl rfl ?_
          simp
theorem en_r5_bare : Enters Try.prog 117 := enters Try.func117 (by kernel_rfl) rfl
def r5_MayItem_sh (n : Nat) (a0 : Item) : Option Bool :=
bn (bn (r5_bare_sh n a0) fun v2 =>
lt (notB v2) fun v3 =>
ite' v3 (some (true)) (lt (lenS a0.s) fun v4 =>
lt (gtI v4 300) fun v5 =>
ite' v5 (some (true)) (lt (lenI a0.f) fun v6 =>
lt (gtI v6 40) fun v7 =>
ite' v7 (some (true)) (lt (lenI a0.l) fun v8 =>
lt (gtI v8 40) fun v9 =>
ite' v9 (some (true)) (lt (ltI a0.exp 0) fun v10 =>
ite' v10 (some (true)) (lt (gtI a0.exp 9007199254740992) fun v11 =>
some (v11))))))) fun (y1 : Bool) =>
lt (y1) fun v12 =>
ite' v12 (some false) (bn (iter n (fun (y13 : Int) =>
lt (lenI a0.f) fun v16 =>
lt (ltI y13 v16) fun v17 =>
ite' v17 (bn (bn (nth a0.f y13) fun v19 =>
lt (lenS v19.name) fun v20 =>
lt (gtI v20 300) fun v21 =>
ite' v21 (some (true)) (lt (lenS v19.val) fun v22 =>
lt (gtI v22 300) fun v23 =>
ite' v23 (some (true)) (lt (gtI y13 0) fun v24 =>
ite' v24 (lt (subI .i64 y13 1) fun v25 =>
bn (nth a0.f v25) fun v26 =>
lt (geS v26.name v19.name) fun v27 =>
some (v27)) (some (false))))) fun (y18 : Bool) =>
lt (y18) fun v28 =>
ite' v28 (some (.inr (.inr false))) (lt (addI .i64 y13 1) fun v29 =>
some (.inl v29))) (some (.inr (.inl ())))) 0) fun (y14 : Unit ⊕ Bool) =>
sm y14 (fun y30 => bn (iter n (fun (y32 : Int) =>
lt (lenI a0.l) fun v35 =>
lt (ltI y32 v35) fun v36 =>
ite' v36 (bn (bn (nth a0.l y32) fun v38 =>
lt (lenS v38) fun v39 =>
lt (gtI v39 300) fun v40 =>
ite' v40 (some (true)) (lt (eqI a0.kind 4) fun v41 =>
ite' v41 (lt (gtI y32 0) fun v42 =>
ite' v42 (lt (subI .i64 y32 1) fun v43 =>
bn (nth a0.l v43) fun v44 =>
lt (geS v44 v38) fun v45 =>
some (v45)) (some (false))) (some (false)))) fun (y37 : Bool) =>
lt (y37) fun v46 =>
ite' v46 (some (.inr (.inr false))) (lt (addI .i64 y32 1) fun v47 =>
some (.inl v47))) (some (.inr (.inl ())))) 0) fun (y33 : Unit ⊕ Bool) =>
sm y33 (fun y48 => some true) (fun y49 => some y49)) (fun y31 => some y31))
set_option maxRecDepth 8000 in
set_option maxHeartbeats 8000000 in
theorem s_r5_MayItem {n : Nat} {a0 : Item} {r : Bool} (h : r5_MayItem_sh n a0 = some r) : Sound Try.prog 88 [.g [.s (.int .i64 a0.kind), .s (.string a0.s), .d false 2 (encField a0.f), .d false 1 (encS a0.l), .s (.int .i64 a0.exp)]] [] (.l (.s (.bool r))) [] := by
  unfold r5_MayItem_sh at h
  refine Sound.of_aw (fn := Try.f88) (c := _) Try.func88 rfl (by simp [Try.f88]) fun cx hG hnb => ?_
  rw [show Try.f88.ntmps = 118 from rfl]
  have hn0 : cx.nb = 0 := hnb
  simp only [st0_mk, initTm, List.map_cons, List.map_nil]
  apply AW.step
  · simp
    intros; rfl
  refine AW.seq ?_
  replace h := bnE h; obtain ⟨y1, g1, h⟩ := h
  refine AW.flow (p := fun gh ls => (nP (cx := cx) (fun q => (⟨[(1, .l (.p 0 0)), (35, .l (.s (.bool q)))], [some ⟨34, 5, false, none, [.s (.int .i64 a0.kind), .s (.string a0.s), .d false 2 (encField a0.f), .d false 1 (encS a0.l), .s (.int .i64 a0.exp)]⟩], 118, gh, ls⟩ : St))) y1) ?_ ?_
  · replace h := g1; clear g1
    replace h := bnE h; obtain ⟨v2, e2, h⟩ := h
    replace h := ltE h; obtain ⟨v3, e3, h⟩ := h
    cases v3 with
    | true =>
      replace h := iteT rfl h
      apply AW.last
      · simp [← e3]
        intros
        refine xcall_plain en_r5_bare (s_r5_bare e2) rfl ⟨.same rfl, trivial⟩ ?_
        try simp [← e3]
        intros; rfl
      obtain rfl := Option.some.inj h
      refine nP_i ?_
      refine Weak.mixN [some 0] hn0 (by decide) ?_ ?_ rfl
      all_goals first | (simp [inv_cons, inv_nil, pickOb]; done) | rfl
    | false =>
      replace h := iteF rfl h
      replace h := ltE h; obtain ⟨v4, e4, h⟩ := h
      replace h := ltE h; obtain ⟨v5, e5, h⟩ := h
      cases v5 with
      | true =>
        replace h := iteT rfl h
        apply AW.last
        · simp [← e3, ← e4, ← e5]
          intros
          refine xcall_plain en_r5_bare (s_r5_bare e2) rfl ⟨.same rfl, trivial⟩ ?_
          try simp [← e3, ← e4, ← e5]
          intros; rfl
        obtain rfl := Option.some.inj h
        refine nP_i ?_
        refine Weak.mixN [some 0] hn0 (by decide) ?_ ?_ rfl
        all_goals first | (simp [inv_cons, inv_nil, pickOb]; done) | rfl
      | false =>
        replace h := iteF rfl h
        replace h := ltE h; obtain ⟨v6, e6, h⟩ := h
        replace h := ltE h; obtain ⟨v7, e7, h⟩ := h
        cases v7 with
        | true =>
          replace h := iteT rfl h
          apply AW.last
          · simp [← e3, ← e4, ← e5, lenI_cast e6, ← e7]
            intros
            refine xcall_plain en_r5_bare (s_r5_bare e2) rfl ⟨.same rfl, trivial⟩ ?_
            try simp [← e3, ← e4, ← e5, lenI_cast e6, ← e7]
            intros; rfl
          obtain rfl := Option.some.inj h
          refine nP_i ?_
          refine Weak.mixN [some 0] hn0 (by decide) ?_ ?_ rfl
          all_goals first | (simp [inv_cons, inv_nil, pickOb]; done) | rfl
        | false =>
          replace h := iteF rfl h
          replace h := ltE h; obtain ⟨v8, e8, h⟩ := h
          replace h := ltE h; obtain ⟨v9, e9, h⟩ := h
          cases v9 with
          | true =>
            replace h := iteT rfl h
            apply AW.last
            · simp [← e3, ← e4, ← e5, lenI_cast e6, ← e7, lenI_cast e8, ← e9]
              intros
              refine xcall_plain en_r5_bare (s_r5_bare e2) rfl ⟨.same rfl, trivial⟩ ?_
              try simp [← e3, ← e4, ← e5, lenI_cast e6, ← e7, lenI_cast e8, ← e9]
              intros; rfl
            obtain rfl := Option.some.inj h
            refine nP_i ?_
            refine Weak.mixN [some 0] hn0 (by decide) ?_ ?_ rfl
            all_goals first | (simp [inv_cons, inv_nil, pickOb]; done) | rfl
          | false =>
            replace h := iteF rfl h
            replace h := ltE h; obtain ⟨v10, e10, h⟩ := h
            cases v10 with
            | true =>
              replace h := iteT rfl h
              apply AW.last
              · simp [← e3, ← e4, ← e5, lenI_cast e6, ← e7, lenI_cast e8, ← e9, ← e10]
                intros
                refine xcall_plain en_r5_bare (s_r5_bare e2) rfl ⟨.same rfl, trivial⟩ ?_
                try simp [← e3, ← e4, ← e5, lenI_cast e6, ← e7, lenI_cast e8, ← e9, ← e10]
                intros; rfl
              obtain rfl := Option.some.inj h
              refine nP_i ?_
              refine Weak.mixN [some 0] hn0 (by decide) ?_ ?_ rfl
              all_goals first | (simp [inv_cons, inv_nil, pickOb]; done) | rfl
            | false =>
              replace h := iteF rfl h
              replace h := ltE h; obtain ⟨v11, e11, h⟩ := h
              apply AW.last
              · simp [← e3, ← e4, ← e5, lenI_cast e6, ← e7, lenI_cast e8, ← e9, ← e10, ← e11]
                intros
                refine xcall_plain en_r5_bare (s_r5_bare e2) rfl ⟨.same rfl, trivial⟩ ?_
                try simp [← e3, ← e4, ← e5, lenI_cast e6, ← e7, lenI_cast e8, ← e9, ← e10, ← e11]
                intros; rfl
              obtain rfl := Option.some.inj h
              refine nP_i ?_
              refine Weak.mixN [some 0] hn0 (by decide) ?_ ?_ rfl
              all_goals first | (simp [inv_cons, inv_nil, pickOb]; done) | rfl
  · rintro e s hp
    obtain ⟨rfl, hw⟩ := hp
    refine ⟨_, hw, ?_⟩
    try simp only [sp_l, sp_r, Post.seq, Post.block, Nat.reduceEqDiff, reduceIte, Nat.zero_ne_one, Nat.one_ne_zero]
    replace h := ltE h; obtain ⟨v12, e12, h⟩ := h
    rw [← e12]
    cases v12 with
    | true =>
      replace h := iteT rfl h
      refine AW.cond_true (by simp) ?_
      apply AW.step
      · simp
        intros; rfl
      obtain rfl := Option.some.inj h
      refine AW.ret ?_
      refine Left.plain hnb (by simp [Try.f88, resV, resC, comp]; rfl) rfl rfl ?_
      simp
    | false =>
      replace h := iteF rfl h
      refine AW.cond_false (by simp) ?_
      refine AW.skip ?_
      try simp only [sp_l, sp_r, Post.seq, Post.block, Nat.reduceEqDiff, reduceIte, Nat.zero_ne_one, Nat.one_ne_zero]
      try simp only [sp_l, sp_r, Post.seq, Post.block, Nat.reduceEqDiff, reduceIte, Nat.zero_ne_one, Nat.one_ne_zero]
      refine AW.seq ?_
      apply AW.step
      · simp
        intros; rfl
      refine AW.block ?_
      replace h := bnE h; obtain ⟨y14, g14, h⟩ := h
      refine AW.iterP g14 (mk := fun gh ls q => (⟨[(1, .l (.p 0 0)), (3, .l (.s (.int .i64 q)))], [some ⟨34, 5, false, none, [.s (.int .i64 a0.kind), .s (.string a0.s), .d false 2 (encField a0.f), .d false 1 (encS a0.l), .s (.int .i64 a0.exp)]⟩], 118, gh, ls⟩ : St)) (N := fun gh ls => (sp (xP 0 (cx := cx) (fun _ => (⟨[(1, .l (.p 0 0))], [some ⟨34, 5, false, none, [.s (.int .i64 a0.kind), .s (.string a0.s), .d false 2 (encField a0.f), .d false 1 (encS a0.l), .s (.int .i64 a0.exp)]⟩], 118, gh, ls⟩ : St))) (rP (cx := cx) (P := Try.prog) Try.f88 (fun q => .l (.s (.bool q))) (fun q => [])))) ?_ (noS noX noR) ?_ ?_
      · refine Weak.mixN [some 0] hn0 (by decide) ?_ ?_ rfl
        all_goals first | (simp [inv_cons, inv_nil, pickOb]; done) | rfl
      · clear h; intro y13 y15 h
        refine AW.seq ?_
        replace h := ltE h; obtain ⟨v16, e16, h⟩ := h
        replace h := ltE h; obtain ⟨v17, e17, h⟩ := h
        apply AW.step
        · simp [lenI_cast e16, ← e17]
          intros; rfl
        cases v17 with
        | true =>
          replace h := iteT rfl h
          refine AW.cond_true (by simp) ?_
          refine AW.skip ?_
          try simp only [sp_l, sp_r, Post.seq, Post.block, Nat.reduceEqDiff, reduceIte, Nat.zero_ne_one, Nat.one_ne_zero]
          try simp only [sp_l, sp_r, Post.seq, Post.block, Nat.reduceEqDiff, reduceIte, Nat.zero_ne_one, Nat.one_ne_zero]
          refine AW.seq ?_
          refine AW.block ?_
          replace h := bnE h; obtain ⟨y18, g18, h⟩ := h
          refine AW.flow (p := fun gh ls => (nP (cx := cx) (fun q => (⟨[(1, .l (.p 0 0)), (3, .l (.s (.int .i64 y13))), (80, .l (.s (.bool q)))], [some ⟨34, 5, false, none, [.s (.int .i64 a0.kind), .s (.string a0.s), .d false 2 (encField a0.f), .d false 1 (encS a0.l), .s (.int .i64 a0.exp)]⟩], 118, gh, ls⟩ : St))) y18) ?_ ?_
          · replace h := g18; clear g18
            replace h := bnE h; obtain ⟨v19, e19, h⟩ := h
            replace h := ltE h; obtain ⟨v20, e20, h⟩ := h
            replace h := ltE h; obtain ⟨v21, e21, h⟩ := h
            cases v21 with
            | true =>
              replace h := iteT rfl h
              apply AW.drawnR (V := [_, _, _, _, _, _, _, _, _, _, _, _, _, _, _, _, _, _, _, _, _, _, _, _, _, _, _, _, _, _, _, _, _, _, _]) mixed [⟨[0], [], [(1, none)], false⟩, ⟨[0], [0], [(43, some 0)], false⟩, ⟨[0], [], [(3, none)], false⟩, ⟨[0], [0, 1, 2], [(44, some 1), (45, some 2)], false⟩, ⟨[0], [0, 1, 2, 3], [(46, some 3)], false⟩, ⟨[0], [0, 1, 2, 3, 4], [(47, some 4)], false⟩, ⟨[0], [0, 1, 2, 3, 4, 5], [(48, some 5)], false⟩, ⟨[0], [0, 1, 2, 3, 4, 5, 6], [(49, some 6)], false⟩, ⟨[0], [0, 1, 2, 3, 4, 5, 6, 7], [(50, some 7)], false⟩, ⟨[0], [0, 1, 2, 3, 4, 5, 6, 7, 8], [(1, none), (51, some 8)], false⟩, ⟨[0], [0, 1, 2, 3, 4, 5, 6, 7, 8, 9], [(51, some 8), (52, some 9)], false⟩, ⟨[0], [0, 1, 2, 3, 4, 5, 6, 7, 8], [(3, none), (51, some 8)], false⟩, ⟨[0], [0, 1, 2, 3, 4, 5, 6, 7, 8, 9, 10, 11], [(51, some 8), (53, some 10), (54, some 11)], false⟩, ⟨[0], [0, 1, 2, 3, 4, 5, 6, 7, 8, 9, 10, 11, 12], [(51, some 8), (55, some 12)], false⟩, ⟨[0], [0, 1, 2, 3, 4, 5, 6, 7, 8, 9, 10, 11, 12, 13], [(51, some 8), (56, some 13)], false⟩, ⟨[0], [0, 1, 2, 3, 4, 5, 6, 7, 8, 9, 10, 11, 12, 13, 14], [(51, some 8), (57, some 14)], false⟩, ⟨[0], [0, 1, 2, 3, 4, 5, 6, 7, 8, 9, 10, 11, 12, 13, 14, 15], [(51, some 8), (58, some 15)], false⟩, ⟨[0], [0, 1, 2, 3, 4, 5, 6, 7, 8, 9, 10, 11, 12, 13, 14, 15, 16], [(51, some 8), (59, some 16)], false⟩, ⟨[0], [0, 1, 2, 3, 4, 5, 6, 7, 8, 9, 10, 11, 12, 13, 14, 15, 16, 17], [(60, some 17)], false⟩, ⟨[0], [0, 1, 2, 3, 4, 5, 6, 7, 8, 9, 10, 11, 12, 13, 14, 15, 16, 17, 18], [(3, none), (61, some 18)], false⟩, ⟨[0], [0, 1, 2, 3, 4, 5, 6, 7, 8, 9, 10, 11, 12, 13, 14, 15, 16, 17, 18, 19], [(61, some 18), (62, some 19)], false⟩, ⟨[0], [0, 1, 2, 3, 4, 5, 6, 7, 8, 9, 10, 11, 12, 13, 14, 15, 16, 17, 18, 19, 20], [(61, some 18), (63, some 20)], false⟩, ⟨[0], [0, 1, 2, 3, 4, 5, 6, 7, 8, 9, 10, 11, 12, 13, 14, 15, 16, 17, 18, 19, 20, 21], [(1, none), (64, some 21)], false⟩, ⟨[0], [0, 1, 2, 3, 4, 5, 6, 7, 8, 9, 10, 11, 12, 13, 14, 15, 16, 17, 18, 19, 20, 21, 22], [(64, some 21), (65, some 22)], false⟩, ⟨[0], [0, 1, 2, 3, 4, 5, 6, 7, 8, 9, 10, 11, 12, 13, 14, 15, 16, 17, 18, 19, 20, 21], [(3, none), (64, some 21)], false⟩, ⟨[0], [0, 1, 2, 3, 4, 5, 6, 7, 8, 9, 10, 11, 12, 13, 14, 15, 16, 17, 18, 19, 20, 21, 24], [(64, some 21), (67, some 24)], false⟩, ⟨[0], [0, 1, 2, 3, 4, 5, 6, 7, 8, 9, 10, 11, 12, 13, 14, 15, 16, 17, 18, 19, 20, 21, 22, 23, 24, 25], [(64, some 21), (66, some 23), (68, some 25)], false⟩, ⟨[0], [0, 1, 2, 3, 4, 5, 6, 7, 8, 9, 10, 11, 12, 13, 14, 15, 16, 17, 18, 19, 20, 21, 22, 23, 24, 25, 26], [(64, some 21), (69, some 26)], false⟩, ⟨[0], [0, 1, 2, 3, 4, 5, 6, 7, 8, 9, 10, 11, 12, 13, 14, 15, 16, 17, 18, 19, 20, 21, 22, 23, 24, 25, 26, 27], [(64, some 21), (70, some 27)], false⟩, ⟨[0], [0, 1, 2, 3, 4, 5, 6, 7, 8, 9, 10, 11, 12, 13, 14, 15, 16, 17, 18, 19, 20, 21], [(1, none), (64, some 21)], false⟩, ⟨[0], [0, 1, 2, 3, 4, 5, 6, 7, 8, 9, 10, 11, 12, 13, 14, 15, 16, 17, 18, 19, 20, 21, 29], [(64, some 21), (72, some 29)], false⟩, ⟨[0], [0, 1, 2, 3, 4, 5, 6, 7, 8, 9, 10, 11, 12, 13, 14, 15, 16, 17, 18, 19, 20, 21], [(3, none), (64, some 21)], false⟩, ⟨[0], [0, 1, 2, 3, 4, 5, 6, 7, 8, 9, 10, 11, 12, 13, 14, 15, 16, 17, 18, 19, 20, 21, 29, 30, 31], [(64, some 21), (73, some 30), (74, some 31)], false⟩, ⟨[0], [0, 1, 2, 3, 4, 5, 6, 7, 8, 9, 10, 11, 12, 13, 14, 15, 16, 17, 18, 19, 20, 21, 29, 30, 31, 32], [(64, some 21), (75, some 32)], false⟩, ⟨[0], [0, 1, 2, 3, 4, 5, 6, 7, 8, 9, 10, 11, 12, 13, 14, 15, 16, 17, 18, 19, 20, 21, 29, 30, 31, 32, 33], [(64, some 21), (76, some 33)], false⟩, ⟨[], [0, 1, 2, 3, 4, 5, 6, 7, 8, 9, 10, 11, 12, 13, 14, 15, 16, 17, 18, 19, 20, 21, 22, 23, 24, 25, 26, 27, 28, 29, 30, 31, 32, 33, 34], [], false⟩, ⟨[], [0, 1, 2, 3, 4, 5, 6, 7, 8, 9, 10, 11, 12, 13, 14, 15, 16, 17, 18, 19, 20, 21, 22, 23, 24, 25, 26, 27, 28, 29, 30, 31, 32, 33, 34, 35], [], false⟩, ⟨[], [0, 1, 2, 3, 4, 5, 6, 7, 8, 9, 10, 11, 12, 13, 14, 15, 16, 17, 18, 19, 20, 21, 22, 23, 24, 25, 26, 27, 28, 29, 30, 31, 32, 33, 34, 35, 36], [], false⟩] 35 (by kernel_rfl) (by kernel_rfl)
              · refine ⟨?_, ?_, ?_, ?_, ?_, ?_, ?_, ?_, ?_, ?_, ?_, ?_, ?_, ?_, ?_, ?_, ?_, ?_, ?_, ?_, ?_, ?_, ?_, ?_, ?_, ?_, ?_, ?_, ?_, ?_, ?_, ?_, ?_, ?_, ?_, trivial⟩
                · intro tm hr
                  simp [AllL, rdV] at hr
                  simp [hr, nth_d e19, ← e20, ← e21]
                  intros; first | exact KD.mk | exact KD.mkN
                · intro tm hr
                  simp [AllL, rdV] at hr
                  simp [hr, nth_d e19, ← e20, ← e21]
                  intros; first | exact KD.mk | exact KD.mkN
                · intro tm hr
                  simp [AllL, rdV] at hr
                  simp [hr, nth_d e19, ← e20, ← e21]
                  intros; first | exact KD.mk | exact KD.mkN
                · intro tm hr
                  simp [AllL, rdV] at hr
                  simp [hr, nth_d e19, ← e20, ← e21]
                  intros; first | exact KD.mk | exact KD.mkN
                · intro tm hr
                  simp [AllL, rdV] at hr
                  simp [hr, nth_d e19, ← e20, ← e21]
                  intros; first | exact KD.mk | exact KD.mkN
                · intro tm hr
                  simp [AllL, rdV] at hr
                  simp [hr, nth_d e19, ← e20, ← e21]
                  intros; first | exact KD.mk | exact KD.mkN
                · intro tm hr
                  simp [AllL, rdV] at hr
                  simp [hr, nth_d e19, ← e20, ← e21]
                  intros; first | exact KD.mk | exact KD.mkN
                · intro tm hr
                  simp [AllL, rdV] at hr
                  simp [hr, nth_d e19, ← e20, ← e21]
                  intros; first | exact KD.mk | exact KD.mkN
                · intro tm hr
                  simp [AllL, rdV] at hr
                  simp [hr, nth_d e19, ← e20, ← e21]
                  intros; first | exact KD.mk | exact KD.mkN
                · intro tm hr
                  simp [AllL, rdV] at hr
                  simp [hr, nth_d e19, ← e20, ← e21]
                  intros; first | exact KD.mk | exact KD.mkN
                · intro tm hr
                  simp [AllL, rdV] at hr
                  simp [hr, nth_d e19, ← e20, ← e21]
                  intros; first | exact KD.mk | exact KD.mkN
                · intro tm hr
                  simp [AllL, rdV] at hr
                  simp [hr, nth_d e19, ← e20, ← e21]
                  intros; first | exact KD.mk | exact KD.mkN
                · intro tm hr
                  simp [AllL, rdV] at hr
                  simp [hr, nth_d e19, ← e20, ← e21]
                  intros; first | exact KD.mk | exact KD.mkN
                · intro tm hr
                  simp [AllL, rdV] at hr
                  simp [hr, nth_d e19, ← e20, ← e21]
                  intros; first | exact KD.mk | exact KD.mkN
                · intro tm hr
                  simp [AllL, rdV] at hr
                  simp [hr, nth_d e19, ← e20, ← e21]
                  intros; first | exact KD.mk | exact KD.mkN
                · intro tm hr
                  simp [AllL, rdV] at hr
                  simp [hr, nth_d e19, ← e20, ← e21]
                  intros; first | exact KD.mk | exact KD.mkN
                · intro tm hr
                  simp [AllL, rdV] at hr
                  simp [hr, nth_d e19, ← e20, ← e21]
                  intros; first | exact KD.mk | exact KD.mkN
                · intro tm hr
                  simp [AllL, rdV] at hr
                  simp [hr, nth_d e19, ← e20, ← e21]
                  intros; first | exact KD.mk | exact KD.mkN
                · intro tm hr
                  simp [AllL, rdV] at hr
                  simp [hr, nth_d e19, ← e20, ← e21]
                  intros; first | exact KD.mk | exact KD.mkN
                · intro tm hr
                  simp [AllL, rdV] at hr
                  simp [hr, nth_d e19, ← e20, ← e21]
                  intros; first | exact KD.mk | exact KD.mkN
                · intro tm hr
                  simp [AllL, rdV] at hr
                  simp [hr, nth_d e19, ← e20, ← e21]
                  intros; first | exact KD.mk | exact KD.mkN
                · intro tm hr
                  simp [AllL, rdV] at hr
                  simp [hr, nth_d e19, ← e20, ← e21]
                  intros; first | exact KD.mk | exact KD.mkN
                · intro tm hr
                  simp [AllL, rdV] at hr
                  simp [hr, nth_d e19, ← e20, ← e21]
                  intros; first | exact KD.mk | exact KD.mkN
                · intro tm hr
                  simp [AllL, rdV] at hr
                  simp [hr, nth_d e19, ← e20, ← e21]
                  intros; first | exact KD.mk | exact KD.mkN
                · intro tm hr
                  simp [AllL, rdV] at hr
                  simp [hr, nth_d e19, ← e20, ← e21]
                  intros; first | exact KD.mk | exact KD.mkN
                · intro tm hr
                  simp [AllL, rdV] at hr
                  simp [hr, nth_d e19, ← e20, ← e21]
                  intros; first | exact KD.mk | exact KD.mkN
                · intro tm hr
                  simp [AllL, rdV] at hr
                  simp [hr, nth_d e19, ← e20, ← e21]
                  intros; first | exact KD.mk | exact KD.mkN
                · intro tm hr
                  simp [AllL, rdV] at hr
                  simp [hr, nth_d e19, ← e20, ← e21]
                  intros; first | exact KD.mk | exact KD.mkN
                · intro tm hr
                  simp [AllL, rdV] at hr
                  simp [hr, nth_d e19, ← e20, ← e21]
                  intros; first | exact KD.mk | exact KD.mkN
                · intro tm hr
                  simp [AllL, rdV] at hr
                  simp [hr, nth_d e19, ← e20, ← e21]
                  intros; first | exact KD.mk | exact KD.mkN
                · intro tm hr
                  simp [AllL, rdV] at hr
                  simp [hr, nth_d e19, ← e20, ← e21]
                  intros; first | exact KD.mk | exact KD.mkN
                · intro tm hr
                  simp [AllL, rdV] at hr
                  simp [hr, nth_d e19, ← e20, ← e21]
                  intros; first | exact KD.mk | exact KD.mkN
                · intro tm hr
                  simp [AllL, rdV] at hr
                  simp [hr, nth_d e19, ← e20, ← e21]
                  intros; first | exact KD.mk | exact KD.mkN
                · intro tm hr
                  simp [AllL, rdV] at hr
                  simp [hr, nth_d e19, ← e20, ← e21]
                  intros; first | exact KD.mk | exact KD.mkN
                · intro tm hr
                  simp [AllL, rdV] at hr
                  simp [hr, nth_d e19, ← e20, ← e21]
                  intros; first | exact KD.mk | exact KD.mkN
              · rfl
              · simp [tmD, putD, nth_d e19, ← e20, ← e21]; rfl
              · simp [nth_d e19, ← e20, ← e21]
                intros; rfl
              obtain rfl := Option.some.inj h
              refine nP_i ?_
              refine Weak.mixN [some 0] hn0 (by decide) ?_ ?_ rfl
              all_goals first | (simp [inv_cons, inv_nil, pickOb]; done) | rfl
            | false =>
              replace h := iteF rfl h
              replace h := ltE h; obtain ⟨v22, e22, h⟩ := h
              replace h := ltE h; obtain ⟨v23, e23, h⟩ := h
              cases v23 with
              | true =>
                replace h := iteT rfl h
                apply AW.drawnR (V := [_, _, _, _, _, _, _, _, _, _, _, _, _, _, _, _, _, _, _, _, _, _, _, _, _, _, _, _, _, _, _, _, _, _, _]) mixed [⟨[0], [], [(1, none)], false⟩, ⟨[0], [0], [(43, some 0)], false⟩, ⟨[0], [], [(3, none)], false⟩, ⟨[0], [0, 1, 2], [(44, some 1), (45, some 2)], false⟩, ⟨[0], [0, 1, 2, 3], [(46, some 3)], false⟩, ⟨[0], [0, 1, 2, 3, 4], [(47, some 4)], false⟩, ⟨[0], [0, 1, 2, 3, 4, 5], [(48, some 5)], false⟩, ⟨[0], [0, 1, 2, 3, 4, 5, 6], [(49, some 6)], false⟩, ⟨[0], [0, 1, 2, 3, 4, 5, 6, 7], [(50, some 7)], false⟩, ⟨[0], [0, 1, 2, 3, 4, 5, 6, 7, 8], [(1, none), (51, some 8)], false⟩, ⟨[0], [0, 1, 2, 3, 4, 5, 6, 7, 8, 9], [(51, some 8), (52, some 9)], false⟩, ⟨[0], [0, 1, 2, 3, 4, 5, 6, 7, 8], [(3, none), (51, some 8)], false⟩, ⟨[0], [0, 1, 2, 3, 4, 5, 6, 7, 8, 9, 10, 11], [(51, some 8), (53, some 10), (54, some 11)], false⟩, ⟨[0], [0, 1, 2, 3, 4, 5, 6, 7, 8, 9, 10, 11, 12], [(51, some 8), (55, some 12)], false⟩, ⟨[0], [0, 1, 2, 3, 4, 5, 6, 7, 8, 9, 10, 11, 12, 13], [(51, some 8), (56, some 13)], false⟩, ⟨[0], [0, 1, 2, 3, 4, 5, 6, 7, 8, 9, 10, 11, 12, 13, 14], [(51, some 8), (57, some 14)], false⟩, ⟨[0], [0, 1, 2, 3, 4, 5, 6, 7, 8, 9, 10, 11, 12, 13, 14, 15], [(51, some 8), (58, some 15)], false⟩, ⟨[0], [0, 1, 2, 3, 4, 5, 6, 7, 8, 9, 10, 11, 12, 13, 14, 15, 16], [(51, some 8), (59, some 16)], false⟩, ⟨[0], [0, 1, 2, 3, 4, 5, 6, 7, 8, 9, 10, 11, 12, 13, 14, 15, 16, 17], [(60, some 17)], false⟩, ⟨[0], [0, 1, 2, 3, 4, 5, 6, 7, 8, 9, 10, 11, 12, 13, 14, 15, 16, 17, 18], [(3, none), (61, some 18)], false⟩, ⟨[0], [0, 1, 2, 3, 4, 5, 6, 7, 8, 9, 10, 11, 12, 13, 14, 15, 16, 17, 18, 19], [(61, some 18), (62, some 19)], false⟩, ⟨[0], [0, 1, 2, 3, 4, 5, 6, 7, 8, 9, 10, 11, 12, 13, 14, 15, 16, 17, 18, 19, 20], [(61, some 18), (63, some 20)], false⟩, ⟨[0], [0, 1, 2, 3, 4, 5, 6, 7, 8, 9, 10, 11, 12, 13, 14, 15, 16, 17, 18, 19, 20, 21], [(1, none), (64, some 21)], false⟩, ⟨[0], [0, 1, 2, 3, 4, 5, 6, 7, 8, 9, 10, 11, 12, 13, 14, 15, 16, 17, 18, 19, 20, 21, 22], [(64, some 21), (65, some 22)], false⟩, ⟨[0], [0, 1, 2, 3, 4, 5, 6, 7, 8, 9, 10, 11, 12, 13, 14, 15, 16, 17, 18, 19, 20, 21], [(3, none), (64, some 21)], false⟩, ⟨[0], [0, 1, 2, 3, 4, 5, 6, 7, 8, 9, 10, 11, 12, 13, 14, 15, 16, 17, 18, 19, 20, 21, 24], [(64, some 21), (67, some 24)], false⟩, ⟨[0], [0, 1, 2, 3, 4, 5, 6, 7, 8, 9, 10, 11, 12, 13, 14, 15, 16, 17, 18, 19, 20, 21, 22, 23, 24, 25], [(64, some 21), (66, some 23), (68, some 25)], false⟩, ⟨[0], [0, 1, 2, 3, 4, 5, 6, 7, 8, 9, 10, 11, 12, 13, 14, 15, 16, 17, 18, 19, 20, 21, 22, 23, 24, 25, 26], [(64, some 21), (69, some 26)], false⟩, ⟨[0], [0, 1, 2, 3, 4, 5, 6, 7, 8, 9, 10, 11, 12, 13, 14, 15, 16, 17, 18, 19, 20, 21, 22, 23, 24, 25, 26, 27], [(64, some 21), (70, some 27)], false⟩, ⟨[0], [0, 1, 2, 3, 4, 5, 6, 7, 8, 9, 10, 11, 12, 13, 14, 15, 16, 17, 18, 19, 20, 21], [(1, none), (64, some 21)], false⟩, ⟨[0], [0, 1, 2, 3, 4, 5, 6, 7, 8, 9, 10, 11, 12, 13, 14, 15, 16, 17, 18, 19, 20, 21, 29], [(64, some 21), (72, some 29)], false⟩, ⟨[0], [0, 1, 2, 3, 4, 5, 6, 7, 8, 9, 10, 11, 12, 13, 14, 15, 16, 17, 18, 19, 20, 21], [(3, none), (64, some 21)], false⟩, ⟨[0], [0, 1, 2, 3, 4, 5, 6, 7, 8, 9, 10, 11, 12, 13, 14, 15, 16, 17, 18, 19, 20, 21, 29, 30, 31], [(64, some 21), (73, some 30), (74, some 31)], false⟩, ⟨[0], [0, 1, 2, 3, 4, 5, 6, 7, 8, 9, 10, 11, 12, 13, 14, 15, 16, 17, 18, 19, 20, 21, 29, 30, 31, 32], [(64, some 21), (75, some 32)], false⟩, ⟨[0], [0, 1, 2, 3, 4, 5, 6, 7, 8, 9, 10, 11, 12, 13, 14, 15, 16, 17, 18, 19, 20, 21, 29, 30, 31, 32, 33], [(64, some 21), (76, some 33)], false⟩, ⟨[], [0, 1, 2, 3, 4, 5, 6, 7, 8, 9, 10, 11, 12, 13, 14, 15, 16, 17, 18, 19, 20, 21, 22, 23, 24, 25, 26, 27, 28, 29, 30, 31, 32, 33, 34], [], false⟩, ⟨[], [0, 1, 2, 3, 4, 5, 6, 7, 8, 9, 10, 11, 12, 13, 14, 15, 16, 17, 18, 19, 20, 21, 22, 23, 24, 25, 26, 27, 28, 29, 30, 31, 32, 33, 34, 35], [], false⟩, ⟨[], [0, 1, 2, 3, 4, 5, 6, 7, 8, 9, 10, 11, 12, 13, 14, 15, 16, 17, 18, 19, 20, 21, 22, 23, 24, 25, 26, 27, 28, 29, 30, 31, 32, 33, 34, 35, 36], [], false⟩] 35 (by kernel_rfl) (by kernel_rfl)
                · refine ⟨?_, ?_, ?_, ?_, ?_, ?_, ?_, ?_, ?_, ?_, ?_, ?_, ?_, ?_, ?_, ?_, ?_, ?_, ?_, ?_, ?_, ?_, ?_, ?_, ?_, ?_, ?_, ?_, ?_, ?_, ?_, ?_, ?_, ?_, ?_, trivial⟩
                  · intro tm hr
                    simp [AllL, rdV] at hr
                    simp [hr, nth_d e19, ← e20, ← e21, ← e22, ← e23]
                    intros; first | exact KD.mk | exact KD.mkN
                  · intro tm hr
                    simp [AllL, rdV] at hr
                    simp [hr, nth_d e19, ← e20, ← e21, ← e22, ← e23]
                    intros; first | exact KD.mk | exact KD.mkN
                  · intro tm hr
                    simp [AllL, rdV] at hr
                    simp [hr, nth_d e19, ← e20, ← e21, ← e22, ← e23]
                    intros; first | exact KD.mk | exact KD.mkN
                  · intro tm hr
                    simp [AllL, rdV] at hr
                    simp [hr, nth_d e19, ← e20, ← e21, ← e22, ← e23]
                    intros; first | exact KD.mk | exact KD.mkN
                  · intro tm hr
                    simp [AllL, rdV] at hr
                    simp [hr, nth_d e19, ← e20, ← e21, ← e22, ← e23]
                    intros; first | exact KD.mk | exact KD.mkN
                  · intro tm hr
                    simp [AllL, rdV] at hr
                    simp [hr, nth_d e19, ← e20, ← e21, ← e22, ← e23]
                    intros; first | exact KD.mk | exact KD.mkN
                  · intro tm hr
                    simp [AllL, rdV] at hr
                    simp [hr, nth_d e19, ← e20, ← e21, ← e22, ← e23]
                    intros; first | exact KD.mk | exact KD.mkN
                  · intro tm hr
                    simp [AllL, rdV] at hr
                    simp [hr, nth_d e19, ← e20, ← e21, ← e22, ← e23]
                    intros; first | exact KD.mk | exact KD.mkN
                  · intro tm hr
                    simp [AllL, rdV] at hr
                    simp [hr, nth_d e19, ← e20, ← e21, ← e22, ← e23]
                    intros; first | exact KD.mk | exact KD.mkN
                  · intro tm hr
                    simp [AllL, rdV] at hr
                    simp [hr, nth_d e19, ← e20, ← e21, ← e22, ← e23]
                    intros; first | exact KD.mk | exact KD.mkN
                  · intro tm hr
                    simp [AllL, rdV] at hr
                    simp [hr, nth_d e19, ← e20, ← e21, ← e22, ← e23]
                    intros; first | exact KD.mk | exact KD.mkN
                  · intro tm hr
                    simp [AllL, rdV] at hr
                    simp [hr, nth_d e19, ← e20, ← e21, ← e22, ← e23]
                    intros; first | exact KD.mk | exact KD.mkN
                  · intro tm hr
                    simp [AllL, rdV] at hr
                    simp [hr, nth_d e19, ← e20, ← e21, ← e22, ← e23]
                    intros; first | exact KD.mk | exact KD.mkN
                  · intro tm hr
                    simp [AllL, rdV] at hr
                    simp [hr, nth_d e19, ← e20, ← e21, ← e22, ← e23]
                    intros; first | exact KD.mk | exact KD.mkN
                  · intro tm hr
                    simp [AllL, rdV] at hr
                    simp [hr, nth_d e19, ← e20, ← e21, ← e22, ← e23]
                    intros; first | exact KD.mk | exact KD.mkN
                  · intro tm hr
                    simp [AllL, rdV] at hr
                    simp [hr, nth_d e19, ← e20, ← e21, ← e22, ← e23]
                    intros; first | exact KD.mk | exact KD.mkN
                  · intro tm hr
                    simp [AllL, rdV] at hr
                    simp [hr, nth_d e19, ← e20, ← e21, ← e22, ← e23]
                    intros; first | exact KD.mk | exact KD.mkN
                  · intro tm hr
                    simp [AllL, rdV] at hr
                    simp [hr, nth_d e19, ← e20, ← e21, ← e22, ← e23]
                    intros; first | exact KD.mk | exact KD.mkN
                  · intro tm hr
                    simp [AllL, rdV] at hr
                    simp [hr, nth_d e19, ← e20, ← e21, ← e22, ← e23]
                    intros; first | exact KD.mk | exact KD.mkN
                  · intro tm hr
                    simp [AllL, rdV] at hr
                    simp [hr, nth_d e19, ← e20, ← e21, ← e22, ← e23]
                    intros; first | exact KD.mk | exact KD.mkN
                  · intro tm hr
                    simp [AllL, rdV] at hr
                    simp [hr, nth_d e19, ← e20, ← e21, ← e22, ← e23]
                    intros; first | exact KD.mk | exact KD.mkN
                  · intro tm hr
                    simp [AllL, rdV] at hr
                    simp [hr, nth_d e19, ← e20, ← e21, ← e22, ← e23]
                    intros; first | exact KD.mk | exact KD.mkN
                  · intro tm hr
                    simp [AllL, rdV] at hr
                    simp [hr, nth_d e19, ← e20, ← e21, ← e22, ← e23]
                    intros; first | exact KD.mk | exact KD.mkN
                  · intro tm hr
                    simp [AllL, rdV] at hr
                    simp [hr, nth_d e19, ← e20, ← e21, ← e22, ← e23]
                    intros; first | exact KD.mk | exact KD.mkN
                  · intro tm hr
                    simp [AllL, rdV] at hr
                    simp [hr, nth_d e19, ← e20, ← e21, ← e22, ← e23]
                    intros; first | exact KD.mk | exact KD.mkN
                  · intro tm hr
                    simp [AllL, rdV] at hr
                    simp [hr, nth_d e19, ← e20, ← e21, ← e22, ← e23]
                    intros; first | exact KD.mk | exact KD.mkN
                  · intro tm hr
                    simp [AllL, rdV] at hr
                    simp [hr, nth_d e19, ← e20, ← e21, ← e22, ← e23]
                    intros; first | exact KD.mk | exact KD.mkN
                  · intro tm hr
                    simp [AllL, rdV] at hr
                    simp [hr, nth_d e19, ← e20, ← e21, ← e22, ← e23]
                    intros; first | exact KD.mk | exact KD.mkN
                  · intro tm hr
                    simp [AllL, rdV] at hr
                    simp [hr, nth_d e19, ← e20, ← e21, ← e22, ← e23]
                    intros; first | exact KD.mk | exact KD.mkN
                  · intro tm hr
                    simp [AllL, rdV] at hr
                    simp [hr, nth_d e19, ← e20, ← e21, ← e22, ← e23]
                    intros; first | exact KD.mk | exact KD.mkN
                  · intro tm hr
                    simp [AllL, rdV] at hr
                    simp [hr, nth_d e19, ← e20, ← e21, ← e22, ← e23]
                    intros; first | exact KD.mk | exact KD.mkN
                  · intro tm hr
                    simp [AllL, rdV] at hr
                    simp [hr, nth_d e19, ← e20, ← e21, ← e22, ← e23]
                    intros; first | exact KD.mk | exact KD.mkN
                  · intro tm hr
                    simp [AllL, rdV] at hr
                    simp [hr, nth_d e19, ← e20, ← e21, ← e22, ← e23]
                    intros; first | exact KD.mk | exact KD.mkN
                  · intro tm hr
                    simp [AllL, rdV] at hr
                    simp [hr, nth_d e19, ← e20, ← e21, ← e22, ← e23]
                    intros; first | exact KD.mk | exact KD.mkN
                  · intro tm hr
                    simp [AllL, rdV] at hr
                    simp [hr, nth_d e19, ← e20, ← e21, ← e22, ← e23]
                    intros; first | exact KD.mk | exact KD.mkN
                · rfl
                · simp [tmD, putD, nth_d e19, ← e20, ← e21, ← e22, ← e23]; rfl
                · simp [nth_d e19, ← e20, ← e21, ← e22, ← e23]
                  intros; rfl
                obtain rfl := Option.some.inj h
                refine nP_i ?_
                refine Weak.mixN [some 0] hn0 (by decide) ?_ ?_ rfl
                all_goals first | (simp [inv_cons, inv_nil, pickOb]; done) | rfl
              | false =>
                replace h := iteF rfl h
                replace h := ltE h; obtain ⟨v24, e24, h⟩ := h
                cases v24 with
                | true =>
                  replace h := iteT rfl h
                  replace h := ltE h; obtain ⟨v25, e25, h⟩ := h
                  replace h := bnE h; obtain ⟨v26, e26, h⟩ := h
                  replace h := ltE h; obtain ⟨v27, e27, h⟩ := h
                  apply AW.drawnR (V := [_, _, _, _, _, _, _, _, _, _, _, _, _, _, _, _, _, _, _, _, _, _, _, _, _, _, _, _, _, _, _, _, _, _, _]) mixed [⟨[0], [], [(1, none)], false⟩, ⟨[0], [0], [(43, some 0)], false⟩, ⟨[0], [], [(3, none)], false⟩, ⟨[0], [0, 1, 2], [(44, some 1), (45, some 2)], false⟩, ⟨[0], [0, 1, 2, 3], [(46, some 3)], false⟩, ⟨[0], [0, 1, 2, 3, 4], [(47, some 4)], false⟩, ⟨[0], [0, 1, 2, 3, 4, 5], [(48, some 5)], false⟩, ⟨[0], [0, 1, 2, 3, 4, 5, 6], [(49, some 6)], false⟩, ⟨[0], [0, 1, 2, 3, 4, 5, 6, 7], [(50, some 7)], false⟩, ⟨[0], [0, 1, 2, 3, 4, 5, 6, 7, 8], [(1, none), (51, some 8)], false⟩, ⟨[0], [0, 1, 2, 3, 4, 5, 6, 7, 8, 9], [(51, some 8), (52, some 9)], false⟩, ⟨[0], [0, 1, 2, 3, 4, 5, 6, 7, 8], [(3, none), (51, some 8)], false⟩, ⟨[0], [0, 1, 2, 3, 4, 5, 6, 7, 8, 9, 10, 11], [(51, some 8), (53, some 10), (54, some 11)], false⟩, ⟨[0], [0, 1, 2, 3, 4, 5, 6, 7, 8, 9, 10, 11, 12], [(51, some 8), (55, some 12)], false⟩, ⟨[0], [0, 1, 2, 3, 4, 5, 6, 7, 8, 9, 10, 11, 12, 13], [(51, some 8), (56, some 13)], false⟩, ⟨[0], [0, 1, 2, 3, 4, 5, 6, 7, 8, 9, 10, 11, 12, 13, 14], [(51, some 8), (57, some 14)], false⟩, ⟨[0], [0, 1, 2, 3, 4, 5, 6, 7, 8, 9, 10, 11, 12, 13, 14, 15], [(51, some 8), (58, some 15)], false⟩, ⟨[0], [0, 1, 2, 3, 4, 5, 6, 7, 8, 9, 10, 11, 12, 13, 14, 15, 16], [(51, some 8), (59, some 16)], false⟩, ⟨[0], [0, 1, 2, 3, 4, 5, 6, 7, 8, 9, 10, 11, 12, 13, 14, 15, 16, 17], [(60, some 17)], false⟩, ⟨[0], [0, 1, 2, 3, 4, 5, 6, 7, 8, 9, 10, 11, 12, 13, 14, 15, 16, 17, 18], [(3, none), (61, some 18)], false⟩, ⟨[0], [0, 1, 2, 3, 4, 5, 6, 7, 8, 9, 10, 11, 12, 13, 14, 15, 16, 17, 18, 19], [(61, some 18), (62, some 19)], false⟩, ⟨[0], [0, 1, 2, 3, 4, 5, 6, 7, 8, 9, 10, 11, 12, 13, 14, 15, 16, 17, 18, 19, 20], [(61, some 18), (63, some 20)], false⟩, ⟨[0], [0, 1, 2, 3, 4, 5, 6, 7, 8, 9, 10, 11, 12, 13, 14, 15, 16, 17, 18, 19, 20, 21], [(1, none), (64, some 21)], false⟩, ⟨[0], [0, 1, 2, 3, 4, 5, 6, 7, 8, 9, 10, 11, 12, 13, 14, 15, 16, 17, 18, 19, 20, 21, 22], [(64, some 21), (65, some 22)], false⟩, ⟨[0], [0, 1, 2, 3, 4, 5, 6, 7, 8, 9, 10, 11, 12, 13, 14, 15, 16, 17, 18, 19, 20, 21], [(3, none), (64, some 21)], false⟩, ⟨[0], [0, 1, 2, 3, 4, 5, 6, 7, 8, 9, 10, 11, 12, 13, 14, 15, 16, 17, 18, 19, 20, 21, 24], [(64, some 21), (67, some 24)], false⟩, ⟨[0], [0, 1, 2, 3, 4, 5, 6, 7, 8, 9, 10, 11, 12, 13, 14, 15, 16, 17, 18, 19, 20, 21, 22, 23, 24, 25], [(64, some 21), (66, some 23), (68, some 25)], false⟩, ⟨[0], [0, 1, 2, 3, 4, 5, 6, 7, 8, 9, 10, 11, 12, 13, 14, 15, 16, 17, 18, 19, 20, 21, 22, 23, 24, 25, 26], [(64, some 21), (69, some 26)], false⟩, ⟨[0], [0, 1, 2, 3, 4, 5, 6, 7, 8, 9, 10, 11, 12, 13, 14, 15, 16, 17, 18, 19, 20, 21, 22, 23, 24, 25, 26, 27], [(64, some 21), (70, some 27)], false⟩, ⟨[0], [0, 1, 2, 3, 4, 5, 6, 7, 8, 9, 10, 11, 12, 13, 14, 15, 16, 17, 18, 19, 20, 21], [(1, none), (64, some 21)], false⟩, ⟨[0], [0, 1, 2, 3, 4, 5, 6, 7, 8, 9, 10, 11, 12, 13, 14, 15, 16, 17, 18, 19, 20, 21, 29], [(64, some 21), (72, some 29)], false⟩, ⟨[0], [0, 1, 2, 3, 4, 5, 6, 7, 8, 9, 10, 11, 12, 13, 14, 15, 16, 17, 18, 19, 20, 21], [(3, none), (64, some 21)], false⟩, ⟨[0], [0, 1, 2, 3, 4, 5, 6, 7, 8, 9, 10, 11, 12, 13, 14, 15, 16, 17, 18, 19, 20, 21, 29, 30, 31], [(64, some 21), (73, some 30), (74, some 31)], false⟩, ⟨[0], [0, 1, 2, 3, 4, 5, 6, 7, 8, 9, 10, 11, 12, 13, 14, 15, 16, 17, 18, 19, 20, 21, 29, 30, 31, 32], [(64, some 21), (75, some 32)], false⟩, ⟨[0], [0, 1, 2, 3, 4, 5, 6, 7, 8, 9, 10, 11, 12, 13, 14, 15, 16, 17, 18, 19, 20, 21, 29, 30, 31, 32, 33], [(64, some 21), (76, some 33)], false⟩, ⟨[], [0, 1, 2, 3, 4, 5, 6, 7, 8, 9, 10, 11, 12, 13, 14, 15, 16, 17, 18, 19, 20, 21, 22, 23, 24, 25, 26, 27, 28, 29, 30, 31, 32, 33, 34], [], false⟩, ⟨[], [0, 1, 2, 3, 4, 5, 6, 7, 8, 9, 10, 11, 12, 13, 14, 15, 16, 17, 18, 19, 20, 21, 22, 23, 24, 25, 26, 27, 28, 29, 30, 31, 32, 33, 34, 35], [], false⟩, ⟨[], [0, 1, 2, 3, 4, 5, 6, 7, 8, 9, 10, 11, 12, 13, 14, 15, 16, 17, 18, 19, 20, 21, 22, 23, 24, 25, 26, 27, 28, 29, 30, 31, 32, 33, 34, 35, 36], [], false⟩] 35 (by kernel_rfl) (by kernel_rfl)
                  · refine ⟨?_, ?_, ?_, ?_, ?_, ?_, ?_, ?_, ?_, ?_, ?_, ?_, ?_, ?_, ?_, ?_, ?_, ?_, ?_, ?_, ?_, ?_, ?_, ?_, ?_, ?_, ?_, ?_, ?_, ?_, ?_, ?_, ?_, ?_, ?_, trivial⟩
                    · intro tm hr
                      simp [AllL, rdV] at hr
                      simp [hr, nth_d e19, ← e20, ← e21, ← e22, ← e23, ← e24, ← e25, nth_d e26, ← e27]
                      intros; first | exact KD.mk | exact KD.mkN
                    · intro tm hr
                      simp [AllL, rdV] at hr
                      simp [hr, nth_d e19, ← e20, ← e21, ← e22, ← e23, ← e24, ← e25, nth_d e26, ← e27]
                      intros; first | exact KD.mk | exact KD.mkN
                    · intro tm hr
                      simp [AllL, rdV] at hr
                      simp [hr, nth_d e19, ← e20, ← e21, ← e22, ← e23, ← e24, ← e25, nth_d e26, ← e27]
                      intros; first | exact KD.mk | exact KD.mkN
                    · intro tm hr
                      simp [AllL, rdV] at hr
                      simp [hr, nth_d e19, ← e20, ← e21, ← e22, ← e23, ← e24, ← e25, nth_d e26, ← e27]
                      intros; first | exact KD.mk | exact KD.mkN
                    · intro tm hr
                      simp [AllL, rdV] at hr
                      simp [hr, nth_d e19, ← e20, ← e21, ← e22, ← e23, ← e24, ← e25, nth_d e26, ← e27]
                      intros; first | exact KD.mk | exact KD.mkN
                    · intro tm hr
                      simp [AllL, rdV] at hr
                      simp [hr, nth_d e19, ← e20, ← e21, ← e22, ← e23, ← e24, ← e25, nth_d e26, ← e27]
                      intros; first | exact KD.mk | exact KD.mkN
                    · intro tm hr
                      simp [AllL, rdV] at hr
                      simp [hr, nth_d e19, ← e20, ← e21, ← e22, ← e23, ← e24, ← e25, nth_d e26, ← e27]
                      intros; first | exact KD.mk | exact KD.mkN
                    · intro tm hr
                      simp [AllL, rdV] at hr
                      simp [hr, nth_d e19, ← e20, ← e21, ← e22, ← e23, ← e24, ← e25, nth_d e26, ← e27]
                      intros; first | exact KD.mk | exact KD.mkN
                    · intro tm hr
                      simp [AllL, rdV] at hr
                      simp [hr, nth_d e19, ← e20, ← e21, ← e22, ← e23, ← e24, ← e25, nth_d e26, ← e27]
                      intros; first | exact KD.mk | exact KD.mkN
                    · intro tm hr
                      simp [AllL, rdV] at hr
                      simp [hr, nth_d e19, ← e20, ← e21, ← e22, ← e23, ← e24, ← e25, nth_d e26, ← e27]
                      intros; first | exact KD.mk | exact KD.mkN
                    · intro tm hr
                      simp [AllL, rdV] at hr
                      simp [hr, nth_d e19, ← e20, ← e21, ← e22, ← e23, ← e24, ← e25, nth_d e26, ← e27]
                      intros; first | exact KD.mk | exact KD.mkN
                    · intro tm hr
                      simp [AllL, rdV] at hr
                      simp [hr, nth_d e19, ← e20, ← e21, ← e22, ← e23, ← e24, ← e25, nth_d e26, ← e27]
                      intros; first | exact KD.mk | exact KD.mkN
                    · intro tm hr
                      simp [AllL, rdV] at hr
                      simp [hr, nth_d e19, ← e20, ← e21, ← e22, ← e23, ← e24, ← e25, nth_d e26, ← e27]
                      intros; first | exact KD.mk | exact KD.mkN
                    · intro tm hr
                      simp [AllL, rdV] at hr
                      simp [hr, nth_d e19, ← e20, ← e21, ← e22, ← e23, ← e24, ← e25, nth_d e26, ← e27]
                      intros; first | exact KD.mk | exact KD.mkN
                    · intro tm hr
                      simp [AllL, rdV] at hr
                      simp [hr, nth_d e19, ← e20, ← e21, ← e22, ← e23, ← e24, ← e25, nth_d e26, ← e27]
                      intros; first | exact KD.mk | exact KD.mkN
                    · intro tm hr
                      simp [AllL, rdV] at hr
                      simp [hr, nth_d e19, ← e20, ← e21, ← e22, ← e23, ← e24, ← e25, nth_d e26, ← e27]
                      intros; first | exact KD.mk | exact KD.mkN
                    · intro tm hr
                      simp [AllL, rdV] at hr
                      simp [hr, nth_d e19, ← e20, ← e21, ← e22, ← e23, ← e24, ← e25, nth_d e26, ← e27]
                      intros; first | exact KD.mk | exact KD.mkN
                    · intro tm hr
                      simp [AllL, rdV] at hr
                      simp [hr, nth_d e19, ← e20, ← e21, ← e22, ← e23, ← e24, ← e25, nth_d e26, ← e27]
                      intros; first | exact KD.mk | exact KD.mkN
                    · intro tm hr
                      simp [AllL, rdV] at hr
                      simp [hr, nth_d e19, ← e20, ← e21, ← e22, ← e23, ← e24, ← e25, nth_d e26, ← e27]
                      intros; first | exact KD.mk | exact KD.mkN
                    · intro tm hr
                      simp [AllL, rdV] at hr
                      simp [hr, nth_d e19, ← e20, ← e21, ← e22, ← e23, ← e24, ← e25, nth_d e26, ← e27]
                      intros; first | exact KD.mk | exact KD.mkN
                    · intro tm hr
                      simp [AllL, rdV] at hr
                      simp [hr, nth_d e19, ← e20, ← e21, ← e22, ← e23, ← e24, ← e25, nth_d e26, ← e27]
                      intros; first | exact KD.mk | exact KD.mkN
                    · intro tm hr
                      simp [AllL, rdV] at hr
                      simp [hr, nth_d e19, ← e20, ← e21, ← e22, ← e23, ← e24, ← e25, nth_d e26, ← e27]
                      intros; first | exact KD.mk | exact KD.mkN
                    · intro tm hr
                      simp [AllL, rdV] at hr
                      simp [hr, nth_d e19, ← e20, ← e21, ← e22, ← e23, ← e24, ← e25, nth_d e26, ← e27]
                      intros; first | exact KD.mk | exact KD.mkN
                    · intro tm hr
                      simp [AllL, rdV] at hr
                      simp [hr, nth_d e19, ← e20, ← e21, ← e22, ← e23, ← e24, ← e25, nth_d e26, ← e27]
                      intros; first | exact KD.mk | exact KD.mkN
                    · intro tm hr
                      simp [AllL, rdV] at hr
                      simp [hr, nth_d e19, ← e20, ← e21, ← e22, ← e23, ← e24, ← e25, nth_d e26, ← e27]
                      intros; first | exact KD.mk | exact KD.mkN
                    · intro tm hr
                      simp [AllL, rdV] at hr
                      simp [hr, nth_d e19, ← e20, ← e21, ← e22, ← e23, ← e24, ← e25, nth_d e26, ← e27]
                      intros; first | exact KD.mk | exact KD.mkN
                    · intro tm hr
                      simp [AllL, rdV] at hr
                      simp [hr, nth_d e19, ← e20, ← e21, ← e22, ← e23, ← e24, ← e25, nth_d e26, ← e27]
                      intros; first | exact KD.mk | exact KD.mkN
                    · intro tm hr
                      simp [AllL, rdV] at hr
                      simp [hr, nth_d e19, ← e20, ← e21, ← e22, ← e23, ← e24, ← e25, nth_d e26, ← e27]
                      intros; first | exact KD.mk | exact KD.mkN
                    · intro tm hr
                      simp [AllL, rdV] at hr
                      simp [hr, nth_d e19, ← e20, ← e21, ← e22, ← e23, ← e24, ← e25, nth_d e26, ← e27]
                      intros; first | exact KD.mk | exact KD.mkN
                    · intro tm hr
                      simp [AllL, rdV] at hr
                      simp [hr, nth_d e19, ← e20, ← e21, ← e22, ← e23, ← e24, ← e25, nth_d e26, ← e27]
                      intros; first | exact KD.mk | exact KD.mkN
                    · intro tm hr
                      simp [AllL, rdV] at hr
                      simp [hr, nth_d e19, ← e20, ← e21, ← e22, ← e23, ← e24, ← e25, nth_d e26, ← e27]
                      intros; first | exact KD.mk | exact KD.mkN
                    · intro tm hr
                      simp [AllL, rdV] at hr
                      simp [hr, nth_d e19, ← e20, ← e21, ← e22, ← e23, ← e24, ← e25, nth_d e26, ← e27]
                      intros; first | exact KD.mk | exact KD.mkN
                    · intro tm hr
                      simp [AllL, rdV] at hr
                      simp [hr, nth_d e19, ← e20, ← e21, ← e22, ← e23, ← e24, ← e25, nth_d e26, ← e27]
                      intros; first | exact KD.mk | exact KD.mkN
                    · intro tm hr
                      simp [AllL, rdV] at hr
                      simp [hr, nth_d e19, ← e20, ← e21, ← e22, ← e23, ← e24, ← e25, nth_d e26, ← e27]
                      intros; first | exact KD.mk | exact KD.mkN
                    · intro tm hr
                      simp [AllL, rdV] at hr
                      simp [hr, nth_d e19, ← e20, ← e21, ← e22, ← e23, ← e24, ← e25, nth_d e26, ← e27]
                      intros; first | exact KD.mk | exact KD.mkN
                  · rfl
                  · simp [tmD, putD, nth_d e19, ← e20, ← e21, ← e22, ← e23, ← e24, ← e25, nth_d e26, ← e27]; rfl
                  · simp [nth_d e19, ← e20, ← e21, ← e22, ← e23, ← e24, ← e25, nth_d e26, ← e27]
                    intros; rfl
                  obtain rfl := Option.some.inj h
                  refine nP_i ?_
                  refine Weak.mixN [some 0] hn0 (by decide) ?_ ?_ rfl
                  all_goals first | (simp [inv_cons, inv_nil, pickOb]; done) | rfl
                | false =>
                  replace h := iteF rfl h
                  apply AW.drawnR (V := [_, _, _, _, _, _, _, _, _, _, _, _, _, _, _, _, _, _, _, _, _, _, _, _, _, _, _, _, _, _, _, _, _, _, _]) mixed [⟨[0], [], [(1, none)], false⟩, ⟨[0], [0], [(43, some 0)], false⟩, ⟨[0], [], [(3, none)], false⟩, ⟨[0], [0, 1, 2], [(44, some 1), (45, some 2)], false⟩, ⟨[0], [0, 1, 2, 3], [(46, some 3)], false⟩, ⟨[0], [0, 1, 2, 3, 4], [(47, some 4)], false⟩, ⟨[0], [0, 1, 2, 3, 4, 5], [(48, some 5)], false⟩, ⟨[0], [0, 1, 2, 3, 4, 5, 6], [(49, some 6)], false⟩, ⟨[0], [0, 1, 2, 3, 4, 5, 6, 7], [(50, some 7)], false⟩, ⟨[0], [0, 1, 2, 3, 4, 5, 6, 7, 8], [(1, none), (51, some 8)], false⟩, ⟨[0], [0, 1, 2, 3, 4, 5, 6, 7, 8, 9], [(51, some 8), (52, some 9)], false⟩, ⟨[0], [0, 1, 2, 3, 4, 5, 6, 7, 8], [(3, none), (51, some 8)], false⟩, ⟨[0], [0, 1, 2, 3, 4, 5, 6, 7, 8, 9, 10, 11], [(51, some 8), (53, some 10), (54, some 11)], false⟩, ⟨[0], [0, 1, 2, 3, 4, 5, 6, 7, 8, 9, 10, 11, 12], [(51, some 8), (55, some 12)], false⟩, ⟨[0], [0, 1, 2, 3, 4, 5, 6, 7, 8, 9, 10, 11, 12, 13], [(51, some 8), (56, some 13)], false⟩, ⟨[0], [0, 1, 2, 3, 4, 5, 6, 7, 8, 9, 10, 11, 12, 13, 14], [(51, some 8), (57, some 14)], false⟩, ⟨[0], [0, 1, 2, 3, 4, 5, 6, 7, 8, 9, 10, 11, 12, 13, 14, 15], [(51, some 8), (58, some 15)], false⟩, ⟨[0], [0, 1, 2, 3, 4, 5, 6, 7, 8, 9, 10, 11, 12, 13, 14, 15, 16], [(51, some 8), (59, some 16)], false⟩, ⟨[0], [0, 1, 2, 3, 4, 5, 6, 7, 8, 9, 10, 11, 12, 13, 14, 15, 16, 17], [(60, some 17)], false⟩, ⟨[0], [0, 1, 2, 3, 4, 5, 6, 7, 8, 9, 10, 11, 12, 13, 14, 15, 16, 17, 18], [(3, none), (61, some 18)], false⟩, ⟨[0], [0, 1, 2, 3, 4, 5, 6, 7, 8, 9, 10, 11, 12, 13, 14, 15, 16, 17, 18, 19], [(61, some 18), (62, some 19)], false⟩, ⟨[0], [0, 1, 2, 3, 4, 5, 6, 7, 8, 9, 10, 11, 12, 13, 14, 15, 16, 17, 18, 19, 20], [(61, some 18), (63, some 20)], false⟩, ⟨[0], [0, 1, 2, 3, 4, 5, 6, 7, 8, 9, 10, 11, 12, 13, 14, 15, 16, 17, 18, 19, 20, 21], [(1, none), (64, some 21)], false⟩, ⟨[0], [0, 1, 2, 3, 4, 5, 6, 7, 8, 9, 10, 11, 12, 13, 14, 15, 16, 17, 18, 19, 20, 21, 22], [(64, some 21), (65, some 22)], false⟩, ⟨[0], [0, 1, 2, 3, 4, 5, 6, 7, 8, 9, 10, 11, 12, 13, 14, 15, 16, 17, 18, 19, 20, 21], [(3, none), (64, some 21)], false⟩, ⟨[0], [0, 1, 2, 3, 4, 5, 6, 7, 8, 9, 10, 11, 12, 13, 14, 15, 16, 17, 18, 19, 20, 21, 24], [(64, some 21), (67, some 24)], false⟩, ⟨[0], [0, 1, 2, 3, 4, 5, 6, 7, 8, 9, 10, 11, 12, 13, 14, 15, 16, 17, 18, 19, 20, 21, 22, 23, 24, 25], [(64, some 21), (66, some 23), (68, some 25)], false⟩, ⟨[0], [0, 1, 2, 3, 4, 5, 6, 7, 8, 9, 10, 11, 12, 13, 14, 15, 16, 17, 18, 19, 20, 21, 22, 23, 24, 25, 26], [(64, some 21), (69, some 26)], false⟩, ⟨[0], [0, 1, 2, 3, 4, 5, 6, 7, 8, 9, 10, 11, 12, 13, 14, 15, 16, 17, 18, 19, 20, 21, 22, 23, 24, 25, 26, 27], [(64, some 21), (70, some 27)], false⟩, ⟨[0], [0, 1, 2, 3, 4, 5, 6, 7, 8, 9, 10, 11, 12, 13, 14, 15, 16, 17, 18, 19, 20, 21], [(1, none), (64, some 21)], false⟩, ⟨[0], [0, 1, 2, 3, 4, 5, 6, 7, 8, 9, 10, 11, 12, 13, 14, 15, 16, 17, 18, 19, 20, 21, 29], [(64, some 21), (72, some 29)], false⟩, ⟨[0], [0, 1, 2, 3, 4, 5, 6, 7, 8, 9, 10, 11, 12, 13, 14, 15, 16, 17, 18, 19, 20, 21], [(3, none), (64, some 21)], false⟩, ⟨[0], [0, 1, 2, 3, 4, 5, 6, 7, 8, 9, 10, 11, 12, 13, 14, 15, 16, 17, 18, 19, 20, 21, 29, 30, 31], [(64, some 21), (73, some 30), (74, some 31)], false⟩, ⟨[0], [0, 1, 2, 3, 4, 5, 6, 7, 8, 9, 10, 11, 12, 13, 14, 15, 16, 17, 18, 19, 20, 21, 29, 30, 31, 32], [(64, some 21), (75, some 32)], false⟩, ⟨[0], [0, 1, 2, 3, 4, 5, 6, 7, 8, 9, 10, 11, 12, 13, 14, 15, 16, 17, 18, 19, 20, 21, 29, 30, 31, 32, 33], [(64, some 21), (76, some 33)], false⟩, ⟨[], [0, 1, 2, 3, 4, 5, 6, 7, 8, 9, 10, 11, 12, 13, 14, 15, 16, 17, 18, 19, 20, 21, 22, 23, 24, 25, 26, 27, 28, 29, 30, 31, 32, 33, 34], [], false⟩, ⟨[], [0, 1, 2, 3, 4, 5, 6, 7, 8, 9, 10, 11, 12, 13, 14, 15, 16, 17, 18, 19, 20, 21, 22, 23, 24, 25, 26, 27, 28, 29, 30, 31, 32, 33, 34, 35], [], false⟩, ⟨[], [0, 1, 2, 3, 4, 5, 6, 7, 8, 9, 10, 11, 12, 13, 14, 15, 16, 17, 18, 19, 20, 21, 22, 23, 24, 25, 26, 27, 28, 29, 30, 31, 32, 33, 34, 35, 36], [], false⟩] 35 (by kernel_rfl) (by kernel_rfl)
                  · refine ⟨?_, ?_, ?_, ?_, ?_, ?_, ?_, ?_, ?_, ?_, ?_, ?_, ?_, ?_, ?_, ?_, ?_, ?_, ?_, ?_, ?_, ?_, ?_, ?_, ?_, ?_, ?_, ?_, ?_, ?_, ?_, ?_, ?_, ?_, ?_, trivial⟩
                    · intro tm hr
                      simp [AllL, rdV] at hr
                      simp [hr, nth_d e19, ← e20, ← e21, ← e22, ← e23, ← e24]
                      intros; first | exact KD.mk | exact KD.mkN
                    · intro tm hr
                      simp [AllL, rdV] at hr
                      simp [hr, nth_d e19, ← e20, ← e21, ← e22, ← e23, ← e24]
                      intros; first | exact KD.mk | exact KD.mkN
                    · intro tm hr
                      simp [AllL, rdV] at hr
                      simp [hr, nth_d e19, ← e20, ← e21, ← e22, ← e23, ← e24]
                      intros; first | exact KD.mk | exact KD.mkN
                    · intro tm hr
                      simp [AllL, rdV] at hr
                      simp [hr, nth_d e19, ← e20, ← e21, ← e22, ← e23, ← e24]
                      intros; first | exact KD.mk | exact KD.mkN
                    · intro tm hr
                      simp [AllL, rdV] at hr
                      simp [hr, nth_d e19, ← e20, ← e21, ← e22, ← e23, ← e24]
                      intros; first | exact KD.mk | exact KD.mkN
                    · intro tm hr
                      simp [AllL, rdV] at hr
                      simp [hr, nth_d e19, ← e20, ← e21, ← e22, ← e23, ← e24]
                      intros; first | exact KD.mk | exact KD.mkN
                    · intro tm hr
                      simp [AllL, rdV] at hr
                      simp [hr, nth_d e19, ← e20, ← e21, ← e22, ← e23, ← e24]
                      intros; first | exact KD.mk | exact KD.mkN
                    · intro tm hr
                      simp [AllL, rdV] at hr
                      simp [hr, nth_d e19, ← e20, ← e21, ← e22, ← e23, ← e24]
                      intros; first | exact KD.mk | exact KD.mkN
                    · intro tm hr
                      simp [AllL, rdV] at hr
                      simp [hr, nth_d e19, ← e20, ← e21, ← e22, ← e23, ← e24]
                      intros; first | exact KD.mk | exact KD.mkN
                    · intro tm hr
                      simp [AllL, rdV] at hr
                      simp [hr, nth_d e19, ← e20, ← e21, ← e22, ← e23, ← e24]
                      intros; first | exact KD.mk | exact KD.mkN
                    · intro tm hr
                      simp [AllL, rdV] at hr
                      simp [hr, nth_d e19, ← e20, ← e21, ← e22, ← e23, ← e24]
                      intros; first | exact KD.mk | exact KD.mkN
                    · intro tm hr
                      simp [AllL, rdV] at hr
                      simp [hr, nth_d e19, ← e20, ← e21, ← e22, ← e23, ← e24]
                      intros; first | exact KD.mk | exact KD.mkN
                    · intro tm hr
                      simp [AllL, rdV] at hr
                      simp [hr, nth_d e19, ← e20, ← e21, ← e22, ← e23, ← e24]
                      intros; first | exact KD.mk | exact KD.mkN
                    · intro tm hr
                      simp [AllL, rdV] at hr
                      simp [hr, nth_d e19, ← e20, ← e21, ← e22, ← e23, ← e24]
                      intros; first | exact KD.mk | exact KD.mkN
                    · intro tm hr
                      simp [AllL, rdV] at hr
                      simp [hr, nth_d e19, ← e20, ← e21, ← e22, ← e23, ← e24]
                      intros; first | exact KD.mk | exact KD.mkN
                    · intro tm hr
                      simp [AllL, rdV] at hr
                      simp [hr, nth_d e19, ← e20, ← e21, ← e22, ← e23, ← e24]
                      intros; first | exact KD.mk | exact KD.mkN
                    · intro tm hr
                      simp [AllL, rdV] at hr
                      simp [hr, nth_d e19, ← e20, ← e21, ← e22, ← e23, ← e24]
                      intros; first | exact KD.mk | exact KD.mkN
                    · intro tm hr
                      simp [AllL, rdV] at hr
                      simp [hr, nth_d e19, ← e20, ← e21, ← e22, ← e23, ← e24]
                      intros; first | exact KD.mk | exact KD.mkN
                    · intro tm hr
                      simp [AllL, rdV] at hr
                      simp [hr, nth_d e19, ← e20, ← e21, ← e22, ← e23, ← e24]
                      intros; first | exact KD.mk | exact KD.mkN
                    · intro tm hr
                      simp [AllL, rdV] at hr
                      simp [hr, nth_d e19, ← e20, ← e21, ← e22, ← e23, ← e24]
                      intros; first | exact KD.mk | exact KD.mkN
                    · intro tm hr
                      simp [AllL, rdV] at hr
                      simp [hr, nth_d e19, ← e20, ← e21, ← e22, ← e23, ← e24]
                      intros; first | exact KD.mk | exact KD.mkN
                    · intro tm hr
                      simp [AllL, rdV] at hr
                      simp [hr, nth_d e19, ← e20, ← e21, ← e22, ← e23, ← e24]
                      intros; first | exact KD.mk | exact KD.mkN
                    · intro tm hr
                      simp [AllL, rdV] at hr
                      simp [hr, nth_d e19, ← e20, ← e21, ← e22, ← e23, ← e24]
                      intros; first | exact KD.mk | exact KD.mkN
                    · intro tm hr
                      simp [AllL, rdV] at hr
                      simp [hr, nth_d e19, ← e20, ← e21, ← e22, ← e23, ← e24]
                      intros; first | exact KD.mk | exact KD.mkN
                    · intro tm hr
                      simp [AllL, rdV] at hr
                      simp [hr, nth_d e19, ← e20, ← e21, ← e22, ← e23, ← e24]
                      intros; first | exact KD.mk | exact KD.mkN
                    · intro tm hr
                      simp [AllL, rdV] at hr
                      simp [hr, nth_d e19, ← e20, ← e21, ← e22, ← e23, ← e24]
                      intros; first | exact KD.mk | exact KD.mkN
                    · intro tm hr
                      simp [AllL, rdV] at hr
                      simp [hr, nth_d e19, ← e20, ← e21, ← e22, ← e23, ← e24]
                      intros; first | exact KD.mk | exact KD.mkN
                    · intro tm hr
                      simp [AllL, rdV] at hr
                      simp [hr, nth_d e19, ← e20, ← e21, ← e22, ← e23, ← e24]
                      intros; first | exact KD.mk | exact KD.mkN
                    · intro tm hr
                      simp [AllL, rdV] at hr
                      simp [hr, nth_d e19, ← e20, ← e21, ← e22, ← e23, ← e24]
                      intros; first | exact KD.mk | exact KD.mkN
                    · intro tm hr
                      simp [AllL, rdV] at hr
                      simp [hr, nth_d e19, ← e20, ← e21, ← e22, ← e23, ← e24]
                      intros; first | exact KD.mk | exact KD.mkN
                    · intro tm hr
                      simp [AllL, rdV] at hr
                      simp [hr, nth_d e19, ← e20, ← e21, ← e22, ← e23, ← e24]
                      intros; first | exact KD.mk | exact KD.mkN
                    · intro tm hr
                      simp [AllL, rdV] at hr
                      simp [hr, nth_d e19, ← e20, ← e21, ← e22, ← e23, ← e24]
                      intros; first | exact KD.mk | exact KD.mkN
                    · intro tm hr
                      simp [AllL, rdV] at hr
                      simp [hr, nth_d e19, ← e20, ← e21, ← e22, ← e23, ← e24]
                      intros; first | exact KD.mk | exact KD.mkN
                    · intro tm hr
                      simp [AllL, rdV] at hr
                      simp [hr, nth_d e19, ← e20, ← e21, ← e22, ← e23, ← e24]
                      intros; first | exact KD.mk | exact KD.mkN
                    · intro tm hr
                      simp [AllL, rdV] at hr
                      simp [hr, nth_d e19, ← e20, ← e21, ← e22, ← e23, ← e24]
                      intros; first | exact KD.mk | exact KD.mkN
                  · rfl
                  · simp [tmD, putD, nth_d e19, ← e20, ← e21, ← e22, ← e23, ← e24]; rfl
                  · simp [nth_d e19, ← e20, ← e21, ← e22, ← e23, ← e24]
                    intros; rfl
                  obtain rfl := Option.some.inj h
                  refine nP_i ?_
                  refine Weak.mixN [some 0] hn0 (by decide) ?_ ?_ rfl
                  all_goals first | (simp [inv_cons, inv_nil, pickOb]; done) | rfl
          · rintro e s hp
            obtain ⟨rfl, hw⟩ := hp
            refine ⟨_, hw, ?_⟩
            try simp only [sp_l, sp_r, Post.seq, Post.block, Nat.reduceEqDiff, reduceIte, Nat.zero_ne_one, Nat.one_ne_zero]
            replace h := ltE h; obtain ⟨v28, e28, h⟩ := h
            rw [← e28]
            cases v28 with
            | true =>
              replace h := iteT rfl h
              refine AW.cond_true (by simp) ?_
              apply AW.step
              · simp
                intros; rfl
              obtain rfl := Option.some.inj h
              refine AW.ret ?_
              try simp only [sp_l, sp_r, Post.seq, Post.block, Nat.reduceEqDiff, reduceIte, Nat.zero_ne_one, Nat.one_ne_zero]
              refine rP_i ?_
              refine Left.plain hnb (by simp [Try.f88, resV, resC, comp]; rfl) rfl rfl ?_
              simp
            | false =>
              replace h := iteF rfl h
              refine AW.cond_false (by simp) ?_
              refine AW.skip ?_
              try simp only [sp_l, sp_r, Post.seq, Post.block, Nat.reduceEqDiff, reduceIte, Nat.zero_ne_one, Nat.one_ne_zero]
              try simp only [sp_l, sp_r, Post.seq, Post.block, Nat.reduceEqDiff, reduceIte, Nat.zero_ne_one, Nat.one_ne_zero]
              replace h := ltE h; obtain ⟨v29, e29, h⟩ := h
              apply AW.last
              · simp [← e29]
                intros; rfl
              obtain rfl := Option.some.inj h
              refine nP_i ?_
              refine Weak.mixN [some 0] hn0 (by decide) ?_ ?_ rfl
              all_goals first | (simp [inv_cons, inv_nil, pickOb]; done) | rfl
        | false =>
          replace h := iteF rfl h
          refine AW.cond_false (by simp) ?_
          refine AW.exit ?_
          try simp only [sp_l, sp_r, Post.seq, Post.block, Nat.reduceEqDiff, reduceIte, Nat.zero_ne_one, Nat.one_ne_zero]
          obtain rfl := Option.some.inj h
          try simp only [sp_l, sp_r]
          refine xP_i ?_
          refine Weak.mixN [some 0] hn0 (by decide) ?_ ?_ rfl
          all_goals first | (simp [inv_cons, inv_nil, pickOb]; done) | rfl
      · rintro e s hp
        rcases y14 with y30 | y31
        · replace h := smL h
          obtain ⟨rfl, hw⟩ := hp
          refine ⟨_, hw, ?_⟩
          try simp only [sp_l, sp_r, Post.seq, Post.block, Nat.reduceEqDiff, reduceIte, Nat.zero_ne_one, Nat.one_ne_zero]
          refine AW.seq ?_
          apply AW.step
          · simp
            intros; rfl
          refine AW.block ?_
          replace h := bnE h; obtain ⟨y33, g33, h⟩ := h
          refine AW.iterP g33 (mk := fun gh ls q => (⟨[(1, .l (.p 0 0)), (4, .l (.s (.int .i64 q)))], [some ⟨34, 5, false, none, [.s (.int .i64 a0.kind), .s (.string a0.s), .d false 2 (encField a0.f), .d false 1 (encS a0.l), .s (.int .i64 a0.exp)]⟩], 118, gh, ls⟩ : St)) (N := fun gh ls => (sp (xP 2 (cx := cx) (fun _ => (⟨[], [], 118, gh, ls⟩ : St))) (rP (cx := cx) (P := Try.prog) Try.f88 (fun q => .l (.s (.bool q))) (fun q => [])))) ?_ (noS noX noR) ?_ ?_
          · refine Weak.mixN [some 0] hn0 (by decide) ?_ ?_ rfl
            all_goals first | (simp [inv_cons, inv_nil, pickOb]; done) | rfl
          · clear h; intro y32 y34 h
            refine AW.seq ?_
            replace h := ltE h; obtain ⟨v35, e35, h⟩ := h
            replace h := ltE h; obtain ⟨v36, e36, h⟩ := h
            apply AW.step
            · simp [lenI_cast e35, ← e36]
              intros; rfl
            cases v36 with
            | true =>
              replace h := iteT rfl h
              refine AW.cond_true (by simp) ?_
              refine AW.skip ?_
              try simp only [sp_l, sp_r, Post.seq, Post.block, Nat.reduceEqDiff, reduceIte, Nat.zero_ne_one, Nat.one_ne_zero]
              try simp only [sp_l, sp_r, Post.seq, Post.block, Nat.reduceEqDiff, reduceIte, Nat.zero_ne_one, Nat.one_ne_zero]
              refine AW.seq ?_
              refine AW.block ?_
              replace h := bnE h; obtain ⟨y37, g37, h⟩ := h
              refine AW.flow (p := fun gh ls => (nP (cx := cx) (fun q => (⟨[(1, .l (.p 0 0)), (4, .l (.s (.int .i64 y32))), (117, .l (.s (.bool q)))], [some ⟨34, 5, false, none, [.s (.int .i64 a0.kind), .s (.string a0.s), .d false 2 (encField a0.f), .d false 1 (encS a0.l), .s (.int .i64 a0.exp)]⟩], 118, gh, ls⟩ : St))) y37) ?_ ?_
              · replace h := g37; clear g37
                replace h := bnE h; obtain ⟨v38, e38, h⟩ := h
                replace h := ltE h; obtain ⟨v39, e39, h⟩ := h
                replace h := ltE h; obtain ⟨v40, e40, h⟩ := h
                cases v40 with
                | true =>
                  replace h := iteT rfl h
                  apply AW.drawnR (V := [_, _, _, _, _, _, _, _, _, _, _, _, _, _, _, _, _, _, _, _, _, _, _, _, _, _, _]) mixed [⟨[0], [], [(1, none)], false⟩, ⟨[0], [0], [(88, some 0)], false⟩, ⟨[0], [], [(4, none)], false⟩, ⟨[0], [0, 1, 2], [(89, some 1), (90, some 2)], false⟩, ⟨[0], [0, 1, 2, 3], [(91, some 3)], false⟩, ⟨[0], [0, 1, 2, 3, 4], [(92, some 4)], false⟩, ⟨[0], [0, 1, 2, 3, 4, 5], [(93, some 5)], false⟩, ⟨[0], [0, 1, 2, 3, 4, 5, 6], [(94, some 6)], false⟩, ⟨[0], [0, 1, 2, 3, 4, 5, 6, 7], [(1, none), (95, some 7)], false⟩, ⟨[0], [0, 1, 2, 3, 4, 5, 6, 7, 8], [(95, some 7), (96, some 8)], false⟩, ⟨[0], [0, 1, 2, 3, 4, 5, 6, 7, 8, 9], [(95, some 7), (97, some 9)], false⟩, ⟨[0], [0, 1, 2, 3, 4, 5, 6, 7, 8, 9, 10], [(95, some 7), (98, some 10)], false⟩, ⟨[0], [0, 1, 2, 3, 4, 5, 6, 7, 8, 9, 10, 11], [(4, none), (99, some 11)], false⟩, ⟨[0], [0, 1, 2, 3, 4, 5, 6, 7, 8, 9, 10, 11, 12], [(99, some 11), (100, some 12)], false⟩, ⟨[0], [0, 1, 2, 3, 4, 5, 6, 7, 8, 9, 10, 11, 12, 13], [(95, some 7), (99, some 11), (101, some 13)], false⟩, ⟨[0], [0, 1, 2, 3, 4, 5, 6, 7, 8, 9, 10, 11, 12, 13, 14], [(95, some 7), (102, some 14)], false⟩, ⟨[0], [0, 1, 2, 3, 4, 5, 6, 7, 8, 9, 10, 11, 12, 13, 14, 15], [(1, none), (103, some 15)], false⟩, ⟨[0], [0, 1, 2, 3, 4, 5, 6, 7, 8, 9, 10, 11, 12, 13, 14, 15, 16], [(103, some 15), (104, some 16)], false⟩, ⟨[0], [0, 1, 2, 3, 4, 5, 6, 7, 8, 9, 10, 11, 12, 13, 14, 15], [(4, none), (103, some 15)], false⟩, ⟨[0], [0, 1, 2, 3, 4, 5, 6, 7, 8, 9, 10, 11, 12, 13, 14, 15, 18], [(103, some 15), (106, some 18)], false⟩, ⟨[0], [0, 1, 2, 3, 4, 5, 6, 7, 8, 9, 10, 11, 12, 13, 14, 15, 16, 17, 18, 19], [(103, some 15), (105, some 17), (107, some 19)], false⟩, ⟨[0], [0, 1, 2, 3, 4, 5, 6, 7, 8, 9, 10, 11, 12, 13, 14, 15, 16, 17, 18, 19, 20], [(103, some 15), (108, some 20)], false⟩, ⟨[0], [0, 1, 2, 3, 4, 5, 6, 7, 8, 9, 10, 11, 12, 13, 14, 15], [(1, none), (103, some 15)], false⟩, ⟨[0], [0, 1, 2, 3, 4, 5, 6, 7, 8, 9, 10, 11, 12, 13, 14, 15, 22], [(103, some 15), (110, some 22)], false⟩, ⟨[0], [0, 1, 2, 3, 4, 5, 6, 7, 8, 9, 10, 11, 12, 13, 14, 15], [(4, none), (103, some 15)], false⟩, ⟨[0], [0, 1, 2, 3, 4, 5, 6, 7, 8, 9, 10, 11, 12, 13, 14, 15, 22, 23, 24], [(103, some 15), (111, some 23), (112, some 24)], false⟩, ⟨[0], [0, 1, 2, 3, 4, 5, 6, 7, 8, 9, 10, 11, 12, 13, 14, 15, 22, 23, 24, 25], [(103, some 15), (113, some 25)], false⟩, ⟨[], [0, 1, 2, 3, 4, 5, 6, 7, 8, 9, 10, 11, 12, 13, 14, 15, 16, 17, 18, 19, 20, 21, 22, 23, 24, 25, 26], [], false⟩, ⟨[], [0, 1, 2, 3, 4, 5, 6, 7, 8, 9, 10, 11, 12, 13, 14, 15, 16, 17, 18, 19, 20, 21, 22, 23, 24, 25, 26, 27], [], false⟩, ⟨[], [0, 1, 2, 3, 4, 5, 6, 7, 8, 9, 10, 11, 12, 13, 14, 15, 16, 17, 18, 19, 20, 21, 22, 23, 24, 25, 26, 27, 28], [], false⟩] 27 (by kernel_rfl) (by kernel_rfl)
                  · refine ⟨?_, ?_, ?_, ?_, ?_, ?_, ?_, ?_, ?_, ?_, ?_, ?_, ?_, ?_, ?_, ?_, ?_, ?_, ?_, ?_, ?_, ?_, ?_, ?_, ?_, ?_, ?_, trivial⟩
                    · intro tm hr
                      simp [AllL, rdV] at hr
                      simp [hr, nth_d e38, ← e39, ← e40]
                      intros; first | exact KD.mk | exact KD.mkN
                    · intro tm hr
                      simp [AllL, rdV] at hr
                      simp [hr, nth_d e38, ← e39, ← e40]
                      intros; first | exact KD.mk | exact KD.mkN
                    · intro tm hr
                      simp [AllL, rdV] at hr
                      simp [hr, nth_d e38, ← e39, ← e40]
                      intros; first | exact KD.mk | exact KD.mkN
                    · intro tm hr
                      simp [AllL, rdV] at hr
                      simp [hr, nth_d e38, ← e39, ← e40]
                      intros; first | exact KD.mk | exact KD.mkN
                    · intro tm hr
                      simp [AllL, rdV] at hr
                      simp [hr, nth_d e38, ← e39, ← e40]
                      intros; first | exact KD.mk | exact KD.mkN
                    · intro tm hr
                      simp [AllL, rdV] at hr
                      simp [hr, nth_d e38, ← e39, ← e40]
                      intros; first | exact KD.mk | exact KD.mkN
                    · intro tm hr
                      simp [AllL, rdV] at hr
                      simp [hr, nth_d e38, ← e39, ← e40]
                      intros; first | exact KD.mk | exact KD.mkN
                    · intro tm hr
                      simp [AllL, rdV] at hr
                      simp [hr, nth_d e38, ← e39, ← e40]
                      intros; first | exact KD.mk | exact KD.mkN
                    · intro tm hr
                      simp [AllL, rdV] at hr
                      simp [hr, nth_d e38, ← e39, ← e40]
                      intros; first | exact KD.mk | exact KD.mkN
                    · intro tm hr
                      simp [AllL, rdV] at hr
                      simp [hr, nth_d e38, ← e39, ← e40]
                      intros; first | exact KD.mk | exact KD.mkN
                    · intro tm hr
                      simp [AllL, rdV] at hr
                      simp [hr, nth_d e38, ← e39, ← e40]
                      intros; first | exact KD.mk | exact KD.mkN
                    · intro tm hr
                      simp [AllL, rdV] at hr
                      simp [hr, nth_d e38, ← e39, ← e40]
                      intros; first | exact KD.mk | exact KD.mkN
                    · intro tm hr
                      simp [AllL, rdV] at hr
                      simp [hr, nth_d e38, ← e39, ← e40]
                      intros; first | exact KD.mk | exact KD.mkN
                    · intro tm hr
                      simp [AllL, rdV] at hr
                      simp [hr, nth_d e38, ← e39, ← e40]
                      intros; first | exact KD.mk | exact KD.mkN
                    · intro tm hr
                      simp [AllL, rdV] at hr
                      simp [hr, nth_d e38, ← e39, ← e40]
                      intros; first | exact KD.mk | exact KD.mkN
                    · intro tm hr
                      simp [AllL, rdV] at hr
                      simp [hr, nth_d e38, ← e39, ← e40]
                      intros; first | exact KD.mk | exact KD.mkN
                    · intro tm hr
                      simp [AllL, rdV] at hr
                      simp [hr, nth_d e38, ← e39, ← e40]
                      intros; first | exact KD.mk | exact KD.mkN
                    · intro tm hr
                      simp [AllL, rdV] at hr
                      simp [hr, nth_d e38, ← e39, ← e40]
                      intros; first | exact KD.mk | exact KD.mkN
                    · intro tm hr
                      simp [AllL, rdV] at hr
                      simp [hr, nth_d e38, ← e39, ← e40]
                      intros; first | exact KD.mk | exact KD.mkN
                    · intro tm hr
                      simp [AllL, rdV] at hr
                      simp [hr, nth_d e38, ← e39, ← e40]
                      intros; first | exact KD.mk | exact KD.mkN
                    · intro tm hr
                      simp [AllL, rdV] at hr
                      simp [hr, nth_d e38, ← e39, ← e40]
                      intros; first | exact KD.mk | exact KD.mkN
                    · intro tm hr
                      simp [AllL, rdV] at hr
                      simp [hr, nth_d e38, ← e39, ← e40]
                      intros; first | exact KD.mk | exact KD.mkN
                    · intro tm hr
                      simp [AllL, rdV] at hr
                      simp [hr, nth_d e38, ← e39, ← e40]
                      intros; first | exact KD.mk | exact KD.mkN
                    · intro tm hr
                      simp [AllL, rdV] at hr
                      simp [hr, nth_d e38, ← e39, ← e40]
                      intros; first | exact KD.mk | exact KD.mkN
                    · intro tm hr
                      simp [AllL, rdV] at hr
                      simp [hr, nth_d e38, ← e39, ← e40]
                      intros; first | exact KD.mk | exact KD.mkN
                    · intro tm hr
                      simp [AllL, rdV] at hr
                      simp [hr, nth_d e38, ← e39, ← e40]
                      intros; first | exact KD.mk | exact KD.mkN
                    · intro tm hr
                      simp [AllL, rdV] at hr
                      simp [hr, nth_d e38, ← e39, ← e40]
                      intros; first | exact KD.mk | exact KD.mkN
                  · rfl
                  · simp [tmD, putD, nth_d e38, ← e39, ← e40]; rfl
                  · simp [nth_d e38, ← e39, ← e40]
                    intros; rfl
                  obtain rfl := Option.some.inj h
                  refine nP_i ?_
                  refine Weak.mixN [some 0] hn0 (by decide) ?_ ?_ rfl
                  all_goals first | (simp [inv_cons, inv_nil, pickOb]; done) | rfl
                | false =>
                  replace h := iteF rfl h
                  replace h := ltE h; obtain ⟨v41, e41, h⟩ := h
                  cases v41 with
                  | true =>
                    replace h := iteT rfl h
                    replace h := ltE h; obtain ⟨v42, e42, h⟩ := h
                    cases v42 with
                    | true =>
                      replace h := iteT rfl h
                      replace h := ltE h; obtain ⟨v43, e43, h⟩ := h
                      replace h := bnE h; obtain ⟨v44, e44, h⟩ := h
                      replace h := ltE h; obtain ⟨v45, e45, h⟩ := h
                      apply AW.drawnR (V := [_, _, _, _, _, _, _, _, _, _, _, _, _, _, _, _, _, _, _, _, _, _, _, _, _, _, _]) mixed [⟨[0], [], [(1, none)], false⟩, ⟨[0], [0], [(88, some 0)], false⟩, ⟨[0], [], [(4, none)], false⟩, ⟨[0], [0, 1, 2], [(89, some 1), (90, some 2)], false⟩, ⟨[0], [0, 1, 2, 3], [(91, some 3)], false⟩, ⟨[0], [0, 1, 2, 3, 4], [(92, some 4)], false⟩, ⟨[0], [0, 1, 2, 3, 4, 5], [(93, some 5)], false⟩, ⟨[0], [0, 1, 2, 3, 4, 5, 6], [(94, some 6)], false⟩, ⟨[0], [0, 1, 2, 3, 4, 5, 6, 7], [(1, none), (95, some 7)], false⟩, ⟨[0], [0, 1, 2, 3, 4, 5, 6, 7, 8], [(95, some 7), (96, some 8)], false⟩, ⟨[0], [0, 1, 2, 3, 4, 5, 6, 7, 8, 9], [(95, some 7), (97, some 9)], false⟩, ⟨[0], [0, 1, 2, 3, 4, 5, 6, 7, 8, 9, 10], [(95, some 7), (98, some 10)], false⟩, ⟨[0], [0, 1, 2, 3, 4, 5, 6, 7, 8, 9, 10, 11], [(4, none), (99, some 11)], false⟩, ⟨[0], [0, 1, 2, 3, 4, 5, 6, 7, 8, 9, 10, 11, 12], [(99, some 11), (100, some 12)], false⟩, ⟨[0], [0, 1, 2, 3, 4, 5, 6, 7, 8, 9, 10, 11, 12, 13], [(95, some 7), (99, some 11), (101, some 13)], false⟩, ⟨[0], [0, 1, 2, 3, 4, 5, 6, 7, 8, 9, 10, 11, 12, 13, 14], [(95, some 7), (102, some 14)], false⟩, ⟨[0], [0, 1, 2, 3, 4, 5, 6, 7, 8, 9, 10, 11, 12, 13, 14, 15], [(1, none), (103, some 15)], false⟩, ⟨[0], [0, 1, 2, 3, 4, 5, 6, 7, 8, 9, 10, 11, 12, 13, 14, 15, 16], [(103, some 15), (104, some 16)], false⟩, ⟨[0], [0, 1, 2, 3, 4, 5, 6, 7, 8, 9, 10, 11, 12, 13, 14, 15], [(4, none), (103, some 15)], false⟩, ⟨[0], [0, 1, 2, 3, 4, 5, 6, 7, 8, 9, 10, 11, 12, 13, 14, 15, 18], [(103, some 15), (106, some 18)], false⟩, ⟨[0], [0, 1, 2, 3, 4, 5, 6, 7, 8, 9, 10, 11, 12, 13, 14, 15, 16, 17, 18, 19], [(103, some 15), (105, some 17), (107, some 19)], false⟩, ⟨[0], [0, 1, 2, 3, 4, 5, 6, 7, 8, 9, 10, 11, 12, 13, 14, 15, 16, 17, 18, 19, 20], [(103, some 15), (108, some 20)], false⟩, ⟨[0], [0, 1, 2, 3, 4, 5, 6, 7, 8, 9, 10, 11, 12, 13, 14, 15], [(1, none), (103, some 15)], false⟩, ⟨[0], [0, 1, 2, 3, 4, 5, 6, 7, 8, 9, 10, 11, 12, 13, 14, 15, 22], [(103, some 15), (110, some 22)], false⟩, ⟨[0], [0, 1, 2, 3, 4, 5, 6, 7, 8, 9, 10, 11, 12, 13, 14, 15], [(4, none), (103, some 15)], false⟩, ⟨[0], [0, 1, 2, 3, 4, 5, 6, 7, 8, 9, 10, 11, 12, 13, 14, 15, 22, 23, 24], [(103, some 15), (111, some 23), (112, some 24)], false⟩, ⟨[0], [0, 1, 2, 3, 4, 5, 6, 7, 8, 9, 10, 11, 12, 13, 14, 15, 22, 23, 24, 25], [(103, some 15), (113, some 25)], false⟩, ⟨[], [0, 1, 2, 3, 4, 5, 6, 7, 8, 9, 10, 11, 12, 13, 14, 15, 16, 17, 18, 19, 20, 21, 22, 23, 24, 25, 26], [], false⟩, ⟨[], [0, 1, 2, 3, 4, 5, 6, 7, 8, 9, 10, 11, 12, 13, 14, 15, 16, 17, 18, 19, 20, 21, 22, 23, 24, 25, 26, 27], [], false⟩, ⟨[], [0, 1, 2, 3, 4, 5, 6, 7, 8, 9, 10, 11, 12, 13, 14, 15, 16, 17, 18, 19, 20, 21, 22, 23, 24, 25, 26, 27, 28], [], false⟩] 27 (by kernel_rfl) (by kernel_rfl)
                      · refine ⟨?_, ?_, ?_, ?_, ?_, ?_, ?_, ?_, ?_, ?_, ?_, ?_, ?_, ?_, ?_, ?_, ?_, ?_, ?_, ?_, ?_, ?_, ?_, ?_, ?_, ?_, ?_, trivial⟩
                        · intro tm hr
                          simp [AllL, rdV] at hr
                          simp [hr, nth_d e38, ← e39, ← e40, ← e41, ← e42, ← e43, nth_d e44, ← e45]
                          intros; first | exact KD.mk | exact KD.mkN
                        · intro tm hr
                          simp [AllL, rdV] at hr
                          simp [hr, nth_d e38, ← e39, ← e40, ← e41, ← e42, ← e43, nth_d e44, ← e45]
                          intros; first | exact KD.mk | exact KD.mkN
                        · intro tm hr
                          simp [AllL, rdV] at hr
                          simp [hr, nth_d e38, ← e39, ← e40, ← e41, ← e42, ← e43, nth_d e44, ← e45]
                          intros; first | exact KD.mk | exact KD.mkN
                        · intro tm hr
                          simp [AllL, rdV] at hr
                          simp [hr, nth_d e38, ← e39, ← e40, ← e41, ← e42, ← e43, nth_d e44, ← e45]
                          intros; first | exact KD.mk | exact KD.mkN
                        · intro tm hr
                          simp [AllL, rdV] at hr
                          simp [hr, nth_d e38, ← e39, ← e40, ← e41, ← e42, ← e43, nth_d e44, ← e45]
                          intros; first | exact KD.mk | exact KD.mkN
                        · intro tm hr
                          simp [AllL, rdV] at hr
                          simp [hr, nth_d e38, ← e39, ← e40, ← e41, ← e42, ← e43, nth_d e44, ← e45]
                          intros; first | exact KD.mk | exact KD.mkN
                        · intro tm hr
                          simp [AllL, rdV] at hr
                          simp [hr, nth_d e38, ← e39, ← e40, ← e41, ← e42, ← e43, nth_d e44, ← e45]
                          intros; first | exact KD.mk | exact KD.mkN
                        · intro tm hr
                          simp [AllL, rdV] at hr
                          simp [hr, nth_d e38, ← e39, ← e40, ← e41, ← e42, ← e43, nth_d e44, ← e45]
                          intros; first | exact KD.mk | exact KD.mkN
                        · intro tm hr
                          simp [AllL, rdV] at hr
                          simp [hr, nth_d e38, ← e39, ← e40, ← e41, ← e42, ← e43, nth_d e44, ← e45]
                          intros; first | exact KD.mk | exact KD.mkN
                        · intro tm hr
                          simp [AllL, rdV] at hr
                          simp [hr, nth_d e38, ← e39, ← e40, ← e41, ← e42, ← e43, nth_d e44, ← e45]
                          intros; first | exact KD.mk | exact KD.mkN
                        · intro tm hr
                          simp [AllL, rdV] at hr
                          simp [hr, nth_d e38, ← e39, ← e40, ← e41, ← e42, ← e43, nth_d e44, ← e45]
                          intros; first | exact KD.mk | exact KD.mkN
                        · intro tm hr
                          simp [AllL, rdV] at hr
                          simp [hr, nth_d e38, ← e39, ← e40, ← e41, ← e42, ← e43, nth_d e44, ← e45]
                          intros; first | exact KD.mk | exact KD.mkN
                        · intro tm hr
                          simp [AllL, rdV] at hr
                          simp [hr, nth_d e38, ← e39, ← e40, ← e41, ← e42, ← e43, nth_d e44, ← e45]
                          intros; first | exact KD.mk | exact KD.mkN
                        · intro tm hr
                          simp [AllL, rdV] at hr
                          simp [hr, nth_d e38, ← e39, ← e40, ← e41, ← e42, ← e43, nth_d e44, ← e45]
                          intros; first | exact KD.mk | exact KD.mkN
                        · intro tm hr
                          simp [AllL, rdV] at hr
                          simp [hr, nth_d e38, ← e39, ← e40, ← e41, ← e42, ← e43, nth_d e44, ← e45]
                          intros; first | exact KD.mk | exact KD.mkN
                        · intro tm hr
                          simp [AllL, rdV] at hr
                          simp [hr, nth_d e38, ← e39, ← e40, ← e41, ← e42, ← e43, nth_d e44, ← e45]
                          intros; first | exact KD.mk | exact KD.mkN
                        · intro tm hr
                          simp [AllL, rdV] at hr
                          simp [hr, nth_d e38, ← e39, ← e40, ← e41, ← e42, ← e43, nth_d e44, ← e45]
                          intros; first | exact KD.mk | exact KD.mkN
                        · intro tm hr
                          simp [AllL, rdV] at hr
                          simp [hr, nth_d e38, ← e39, ← e40, ← e41, ← e42, ← e43, nth_d e44, ← e45]
                          intros; first | exact KD.mk | exact KD.mkN
                        · intro tm hr
                          simp [AllL, rdV] at hr
                          simp [hr, nth_d e38, ← e39, ← e40, ← e41, ← e42, ← e43, nth_d e44, ← e45]
                          intros; first | exact KD.mk | exact KD.mkN
                        · intro tm hr
                          simp [AllL, rdV] at hr
                          simp [hr, nth_d e38, ← e39, ← e40, ← e41, ← e42, ← e43, nth_d e44, ← e45]
                          intros; first | exact KD.mk | exact KD.mkN
                        · intro tm hr
                          simp [AllL, rdV] at hr
                          simp [hr, nth_d e38, ← e39, ← e40, ← e41, ← e42, ← e43, nth_d e44, ← e45]
                          intros; first | exact KD.mk | exact KD.mkN
                        · intro tm hr
                          simp [AllL, rdV] at hr
                          simp [hr, nth_d e38, ← e39, ← e40, ← e41, ← e42, ← e43, nth_d e44, ← e45]
                          intros; first | exact KD.mk | exact KD.mkN
                        · intro tm hr
                          simp [AllL, rdV] at hr
                          simp [hr, nth_d e38, ← e39, ← e40, ← e41, ← e42, ← e43, nth_d e44, ← e45]
                          intros; first | exact KD.mk | exact KD.mkN
                        · intro tm hr
                          simp [AllL, rdV] at hr
                          simp [hr, nth_d e38, ← e39, ← e40, ← e41, ← e42, ← e43, nth_d e44, ← e45]
                          intros; first | exact KD.mk | exact KD.mkN
                        · intro tm hr
                          simp [AllL, rdV] at hr
                          simp [hr, nth_d e38, ← e39, ← e40, ← e41, ← e42, ← e43, nth_d e44, ← e45]
                          intros; first | exact KD.mk | exact KD.mkN
                        · intro tm hr
                          simp [AllL, rdV] at hr
                          simp [hr, nth_d e38, ← e39, ← e40, ← e41, ← e42, ← e43, nth_d e44, ← e45]
                          intros; first | exact KD.mk | exact KD.mkN
                        · intro tm hr
                          simp [AllL, rdV] at hr
                          simp [hr, nth_d e38, ← e39, ← e40, ← e41, ← e42, ← e43, nth_d e44, ← e45]
                          intros; first | exact KD.mk | exact KD.mkN
                      · rfl
                      · simp [tmD, putD, nth_d e38, ← e39, ← e40, ← e41, ← e42, ← e43, nth_d e44, ← e45]; rfl
                      · simp [nth_d e38, ← e39, ← e40, ← e41, ← e42, ← e43, nth_d e44, ← e45]
                        intros; rfl
                      obtain rfl := Option.some.inj h
                      refine nP_i ?_
                      refine Weak.mixN [some 0] hn0 (by decide) ?_ ?_ rfl
                      all_goals first | (simp [inv_cons, inv_nil, pickOb]; done) | rfl
                    | false =>
                      replace h := iteF rfl h
                      apply AW.drawnR (V := [_, _, _, _, _, _, _, _, _, _, _, _, _, _, _, _, _, _, _, _, _, _, _, _, _, _, _]) mixed [⟨[0], [], [(1, none)], false⟩, ⟨[0], [0], [(88, some 0)], false⟩, ⟨[0], [], [(4, none)], false⟩, ⟨[0], [0, 1, 2], [(89, some 1), (90, some 2)], false⟩, ⟨[0], [0, 1, 2, 3], [(91, some 3)], false⟩, ⟨[0], [0, 1, 2, 3, 4], [(92, some 4)], false⟩, ⟨[0], [0, 1, 2, 3, 4, 5], [(93, some 5)], false⟩, ⟨[0], [0, 1, 2, 3, 4, 5, 6], [(94, some 6)], false⟩, ⟨[0], [0, 1, 2, 3, 4, 5, 6, 7], [(1, none), (95, some 7)], false⟩, ⟨[0], [0, 1, 2, 3, 4, 5, 6, 7, 8], [(95, some 7), (96, some 8)], false⟩, ⟨[0], [0, 1, 2, 3, 4, 5, 6, 7, 8, 9], [(95, some 7), (97, some 9)], false⟩, ⟨[0], [0, 1, 2, 3, 4, 5, 6, 7, 8, 9, 10], [(95, some 7), (98, some 10)], false⟩, ⟨[0], [0, 1, 2, 3, 4, 5, 6, 7, 8, 9, 10, 11], [(4, none), (99, some 11)], false⟩, ⟨[0], [0, 1, 2, 3, 4, 5, 6, 7, 8, 9, 10, 11, 12], [(99, some 11), (100, some 12)], false⟩, ⟨[0], [0, 1, 2, 3, 4, 5, 6, 7, 8, 9, 10, 11, 12, 13], [(95, some 7), (99, some 11), (101, some 13)], false⟩, ⟨[0], [0, 1, 2, 3, 4, 5, 6, 7, 8, 9, 10, 11, 12, 13, 14], [(95, some 7), (102, some 14)], false⟩, ⟨[0], [0, 1, 2, 3, 4, 5, 6, 7, 8, 9, 10, 11, 12, 13, 14, 15], [(1, none), (103, some 15)], false⟩, ⟨[0], [0, 1, 2, 3, 4, 5, 6, 7, 8, 9, 10, 11, 12, 13, 14, 15, 16], [(103, some 15), (104, some 16)], false⟩, ⟨[0], [0, 1, 2, 3, 4, 5, 6, 7, 8, 9, 10, 11, 12, 13, 14, 15], [(4, none), (103, some 15)], false⟩, ⟨[0], [0, 1, 2, 3, 4, 5, 6, 7, 8, 9, 10, 11, 12, 13, 14, 15, 18], [(103, some 15), (106, some 18)], false⟩, ⟨[0], [0, 1, 2, 3, 4, 5, 6, 7, 8, 9, 10, 11, 12, 13, 14, 15, 16, 17, 18, 19], [(103, some 15), (105, some 17), (107, some 19)], false⟩, ⟨[0], [0, 1, 2, 3, 4, 5, 6, 7, 8, 9, 10, 11, 12, 13, 14, 15, 16, 17, 18, 19, 20], [(103, some 15), (108, some 20)], false⟩, ⟨[0], [0, 1, 2, 3, 4, 5, 6, 7, 8, 9, 10, 11, 12, 13, 14, 15], [(1, none), (103, some 15)], false⟩, ⟨[0], [0, 1, 2, 3, 4, 5, 6, 7, 8, 9, 10, 11, 12, 13, 14, 15, 22], [(103, some 15), (110, some 22)], false⟩, ⟨[0], [0, 1, 2, 3, 4, 5, 6, 7, 8, 9, 10, 11, 12, 13, 14, 15], [(4, none), (103, some 15)], false⟩, ⟨[0], [0, 1, 2, 3, 4, 5, 6, 7, 8, 9, 10, 11, 12, 13, 14, 15, 22, 23, 24], [(103, some 15), (111, some 23), (112, some 24)], false⟩, ⟨[0], [0, 1, 2, 3, 4, 5, 6, 7, 8, 9, 10, 11, 12, 13, 14, 15, 22, 23, 24, 25], [(103, some 15), (113, some 25)], false⟩, ⟨[], [0, 1, 2, 3, 4, 5, 6, 7, 8, 9, 10, 11, 12, 13, 14, 15, 16, 17, 18, 19, 20, 21, 22, 23, 24, 25, 26], [], false⟩, ⟨[], [0, 1, 2, 3, 4, 5, 6, 7, 8, 9, 10, 11, 12, 13, 14, 15, 16, 17, 18, 19, 20, 21, 22, 23, 24, 25, 26, 27], [], false⟩, ⟨[], [0, 1, 2, 3, 4, 5, 6, 7, 8, 9, 10, 11, 12, 13, 14, 15, 16, 17, 18, 19, 20, 21, 22, 23, 24, 25, 26, 27, 28], [], false⟩] 27 (by kernel_rfl) (by kernel_rfl)
                      · refine ⟨?_, ?_, ?_, ?_, ?_, ?_, ?_, ?_, ?_, ?_, ?_, ?_, ?_, ?_, ?_, ?_, ?_, ?_, ?_, ?_, ?_, ?_, ?_, ?_, ?_, ?_, ?_, trivial⟩
                        · intro tm hr
                          simp [AllL, rdV] at hr
                          simp [hr, nth_d e38, ← e39, ← e40, ← e41, ← e42]
                          intros; first | exact KD.mk | exact KD.mkN
                        · intro tm hr
                          simp [AllL, rdV] at hr
                          simp [hr, nth_d e38, ← e39, ← e40, ← e41, ← e42]
                          intros; first | exact KD.mk | exact KD.mkN
                        · intro tm hr
                          simp [AllL, rdV] at hr
                          simp [hr, nth_d e38, ← e39, ← e40, ← e41, ← e42]
                          intros; first | exact KD.mk | exact KD.mkN
                        · intro tm hr
                          simp [AllL, rdV] at hr
                          simp [hr, nth_d e38, ← e39, ← e40, ← e41, ← e42]
                          intros; first | exact KD.mk | exact KD.mkN
                        · intro tm hr
                          simp [AllL, rdV] at hr
                          simp [hr, nth_d e38, ← e39, ← e40, ← e41, ← e42]
                          intros; first | exact KD.mk | exact KD.mkN
                        · intro tm hr
                          simp [AllL, rdV] at hr
                          simp [hr, nth_d e38, ← e39, ← e40, ← e41, ← e42]
                          intros; first | exact KD.mk | exact KD.mkN
                        · intro tm hr
                          simp [AllL, rdV] at hr
                          simp [hr, nth_d e38, ← e39, ← e40, ← e41, ← e42]
                          intros; first | exact KD.mk | exact KD.mkN
                        · intro tm hr
                          simp [AllL, rdV] at hr
                          simp [hr, nth_d e38, ← e39, ← e40, ← e41, ← e42]
                          intros; first | exact KD.mk | exact KD.mkN
                        · intro tm hr
                          simp [AllL, rdV] at hr
                          simp [hr, nth_d e38, ← e39, ← e40, ← e41, ← e42]
                          intros; first | exact KD.mk | exact KD.mkN
                        · intro tm hr
                          simp [AllL, rdV] at hr
                          simp [hr, nth_d e38, ← e39, ← e40, ← e41, ← e42]
                          intros; first | exact KD.mk | exact KD.mkN
                        · intro tm hr
                          simp [AllL, rdV] at hr
                          simp [hr, nth_d e38, ← e39, ← e40, ← e41, ← e42]
                          intros; first | exact KD.mk | exact KD.mkN
                        · intro tm hr
                          simp [AllL, rdV] at hr
                          simp [hr, nth_d e38, ← e39, ← e40, ← e41, ← e42]
                          intros; first | exact KD.mk | exact KD.mkN
                        · intro tm hr
                          simp [AllL, rdV] at hr
                          simp [hr, nth_d e38, ← e39, ← e40, ← e41, ← e42]
                          intros; first | exact KD.mk | exact KD.mkN
                        · intro tm hr
                          simp [AllL, rdV] at hr
                          simp [hr, nth_d e38, ← e39, ← e40, ← e41, ← e42]
                          intros; first | exact KD.mk | exact KD.mkN
                        · intro tm hr
                          simp [AllL, rdV] at hr
                          simp [hr, nth_d e38, ← e39, ← e40, ← e41, ← e42]
                          intros; first | exact KD.mk | exact KD.mkN
                        · intro tm hr
                          simp [AllL, rdV] at hr
                          simp [hr, nth_d e38, ← e39, ← e40, ← e41, ← e42]
                          intros; first | exact KD.mk | exact KD.mkN
                        · intro tm hr
                          simp [AllL, rdV] at hr
                          simp [hr, nth_d e38, ← e39, ← e40, ← e41, ← e42]
                          intros; first | exact KD.mk | exact KD.mkN
                        · intro tm hr
                          simp [AllL, rdV] at hr
                          simp [hr, nth_d e38, ← e39, ← e40, ← e41, ← e42]
                          intros; first | exact KD.mk | exact KD.mkN
                        · intro tm hr
                          simp [AllL, rdV] at hr
                          simp [hr, nth_d e38, ← e39, ← e40, ← e41, ← e42]
                          intros; first | exact KD.mk | exact KD.mkN
                        · intro tm hr
                          simp [AllL, rdV] at hr
                          simp [hr, nth_d e38, ← e39, ← e40, ← e41, ← e42]
                          intros; first | exact KD.mk | exact KD.mkN
                        · intro tm hr
                          simp [AllL, rdV] at hr
                          simp [hr, nth_d e38, ← e39, ← e40, ← e41, ← e42]
                          intros; first | exact KD.mk | exact KD.mkN
                        · intro tm hr
                          simp [AllL, rdV] at hr
                          simp [hr, nth_d e38, ← e39, ← e40, ← e41, ← e42]
                          intros; first | exact KD.mk | exact KD.mkN
                        · intro tm hr
                          simp [AllL, rdV] at hr
                          simp [hr, nth_d e38, ← e39, ← e40, ← e41, ← e42]
                          intros; first | exact KD.mk | exact KD.mkN
                        · intro tm hr
                          simp [AllL, rdV] at hr
                          simp [hr, nth_d e38, ← e39, ← e40, ← e41, ← e42]
                          intros; first | exact KD.mk | exact KD.mkN
                        · intro tm hr
                          simp [AllL, rdV] at hr
                          simp [hr, nth_d e38, ← e39, ← e40, ← e41, ← e42]
                          intros; first | exact KD.mk | exact KD.mkN
                        · intro tm hr
                          simp [AllL, rdV] at hr
                          simp [hr, nth_d e38, ← e39, ← e40, ← e41, ← e42]
                          intros; first | exact KD.mk | exact KD.mkN
                        · intro tm hr
                          simp [AllL, rdV] at hr
                          simp [hr, nth_d e38, ← e39, ← e40, ← e41, ← e42]
                          intros; first | exact KD.mk | exact KD.mkN
                      · rfl
                      · simp [tmD, putD, nth_d e38, ← e39, ← e40, ← e41, ← e42]; rfl
                      · simp [nth_d e38, ← e39, ← e40, ← e41, ← e42]
                        intros; rfl
                      obtain rfl := Option.some.inj h
                      refine nP_i ?_
                      refine Weak.mixN [some 0] hn0 (by decide) ?_ ?_ rfl
                      all_goals first | (simp [inv_cons, inv_nil, pickOb]; done) | rfl
                  | false =>
                    replace h := iteF rfl h
                    apply AW.drawnR (V := [_, _, _, _, _, _, _, _, _, _, _, _, _, _, _, _, _, _, _, _, _, _, _, _, _, _, _]) mixed [⟨[0], [], [(1, none)], false⟩, ⟨[0], [0], [(88, some 0)], false⟩, ⟨[0], [], [(4, none)], false⟩, ⟨[0], [0, 1, 2], [(89, some 1), (90, some 2)], false⟩, ⟨[0], [0, 1, 2, 3], [(91, some 3)], false⟩, ⟨[0], [0, 1, 2, 3, 4], [(92, some 4)], false⟩, ⟨[0], [0, 1, 2, 3, 4, 5], [(93, some 5)], false⟩, ⟨[0], [0, 1, 2, 3, 4, 5, 6], [(94, some 6)], false⟩, ⟨[0], [0, 1, 2, 3, 4, 5, 6, 7], [(1, none), (95, some 7)], false⟩, ⟨[0], [0, 1, 2, 3, 4, 5, 6, 7, 8], [(95, some 7), (96, some 8)], false⟩, ⟨[0], [0, 1, 2, 3, 4, 5, 6, 7, 8, 9], [(95, some 7), (97, some 9)], false⟩, ⟨[0], [0, 1, 2, 3, 4, 5, 6, 7, 8, 9, 10], [(95, some 7), (98, some 10)], false⟩, ⟨[0], [0, 1, 2, 3, 4, 5, 6, 7, 8, 9, 10, 11], [(4, none), (99, some 11)], false⟩, ⟨[0], [0, 1, 2, 3, 4, 5, 6, 7, 8, 9, 10, 11, 12], [(99, some 11), (100, some 12)], false⟩, ⟨[0], [0, 1, 2, 3, 4, 5, 6, 7, 8, 9, 10, 11, 12, 13], [(95, some 7), (99, some 11), (101, some 13)], false⟩, ⟨[0], [0, 1, 2, 3, 4, 5, 6, 7, 8, 9, 10, 11, 12, 13, 14], [(95, some 7), (102, some 14)], false⟩, ⟨[0], [0, 1, 2, 3, 4, 5, 6, 7, 8, 9, 10, 11, 12, 13, 14, 15], [(1, none), (103, some 15)], false⟩, ⟨[0], [0, 1, 2, 3, 4, 5, 6, 7, 8, 9, 10, 11, 12, 13, 14, 15, 16], [(103, some 15), (104, some 16)], false⟩, ⟨[0], [0, 1, 2, 3, 4, 5, 6, 7, 8, 9, 10, 11, 12, 13, 14, 15], [(4, none), (103, some 15)], false⟩, ⟨[0], [0, 1, 2, 3, 4, 5, 6, 7, 8, 9, 10, 11, 12, 13, 14, 15, 18], [(103, some 15), (106, some 18)], false⟩, ⟨[0], [0, 1, 2, 3, 4, 5, 6, 7, 8, 9, 10, 11, 12, 13, 14, 15, 16, 17, 18, 19], [(103, some 15), (105, some 17), (107, some 19)], false⟩, ⟨[0], [0, 1, 2, 3, 4, 5, 6, 7, 8, 9, 10, 11, 12, 13, 14, 15, 16, 17, 18, 19, 20], [(103, some 15), (108, some 20)], false⟩, ⟨[0], [0, 1, 2, 3, 4, 5, 6, 7, 8, 9, 10, 11, 12, 13, 14, 15], [(1, none), (103, some 15)], false⟩, ⟨[0], [0, 1, 2, 3, 4, 5, 6, 7, 8, 9, 10, 11, 12, 13, 14, 15, 22], [(103, some 15), (110, some 22)], false⟩, ⟨[0], [0, 1, 2, 3, 4, 5, 6, 7, 8, 9, 10, 11, 12, 13, 14, 15], [(4, none), (103, some 15)], false⟩, ⟨[0], [0, 1, 2, 3, 4, 5, 6, 7, 8, 9, 10, 11, 12, 13, 14, 15, 22, 23, 24], [(103, some 15), (111, some 23), (112, some 24)], false⟩, ⟨[0], [0, 1, 2, 3, 4, 5, 6, 7, 8, 9, 10, 11, 12, 13, 14, 15, 22, 23, 24, 25], [(103, some 15), (113, some 25)], false⟩, ⟨[], [0, 1, 2, 3, 4, 5, 6, 7, 8, 9, 10, 11, 12, 13, 14, 15, 16, 17, 18, 19, 20, 21, 22, 23, 24, 25, 26], [], false⟩, ⟨[], [0, 1, 2, 3, 4, 5, 6, 7, 8, 9, 10, 11, 12, 13, 14, 15, 16, 17, 18, 19, 20, 21, 22, 23, 24, 25, 26, 27], [], false⟩, ⟨[], [0, 1, 2, 3, 4, 5, 6, 7, 8, 9, 10, 11, 12, 13, 14, 15, 16, 17, 18, 19, 20, 21, 22, 23, 24, 25, 26, 27, 28], [], false⟩] 27 (by kernel_rfl) (by kernel_rfl)
                    · refine ⟨?_, ?_, ?_, ?_, ?_, ?_, ?_, ?_, ?_, ?_, ?_, ?_, ?_, ?_, ?_, ?_, ?_, ?_, ?_, ?_, ?_, ?_, ?_, ?_, ?_, ?_, ?_, trivial⟩
                      · intro tm hr
                        simp [AllL, rdV] at hr
                        simp [hr, nth_d e38, ← e39, ← e40, ← e41]
                        intros; first | exact KD.mk | exact KD.mkN
                      · intro tm hr
                        simp [AllL, rdV] at hr
                        simp [hr, nth_d e38, ← e39, ← e40, ← e41]
                        intros; first | exact KD.mk | exact KD.mkN
                      · intro tm hr
                        simp [AllL, rdV] at hr
                        simp [hr, nth_d e38, ← e39, ← e40, ← e41]
                        intros; first | exact KD.mk | exact KD.mkN
                      · intro tm hr
                        simp [AllL, rdV] at hr
                        simp [hr, nth_d e38, ← e39, ← e40, ← e41]
                        intros; first | exact KD.mk | exact KD.mkN
                      · intro tm hr
                        simp [AllL, rdV] at hr
                        simp [hr, nth_d e38, ← e39, ← e40, ← e41]
                        intros; first | exact KD.mk | exact KD.mkN
                      · intro tm hr
                        simp [AllL, rdV] at hr
                        simp [hr, nth_d e38, ← e39, ← e40, ← e41]
                        intros; first | exact KD.mk | exact KD.mkN
                      · intro tm hr
                        simp [AllL, rdV] at hr
                        simp [hr, nth_d e38, ← e39, ← e40, ← e41]
                        intros; first | exact KD.mk | exact KD.mkN
                      · intro tm hr
                        simp [AllL, rdV] at hr
                        simp [hr, nth_d e38, ← e39, ← e40, ← e41]
                        intros; first | exact KD.mk | exact KD.mkN
                      · intro tm hr
                        simp [AllL, rdV] at hr
                        simp [hr, nth_d e38, ← e39, ← e40, ← e41]
                        intros; first | exact KD.mk | exact KD.mkN
                      · intro tm hr
                        simp [AllL, rdV] at hr
                        simp [hr, nth_d e38, ← e39, ← e40, ← e41]
                        intros; first | exact KD.mk | exact KD.mkN
                      · intro tm hr
                        simp [AllL, rdV] at hr
                        simp [hr, nth_d e38, ← e39, ← e40, ← e41]
                        intros; first | exact KD.mk | exact KD.mkN
                      · intro tm hr
                        simp [AllL, rdV] at hr
                        simp [hr, nth_d e38, ← e39, ← e40, ← e41]
                        intros; first | exact KD.mk | exact KD.mkN
                      · intro tm hr
                        simp [AllL, rdV] at hr
                        simp [hr, nth_d e38, ← e39, ← e40, ← e41]
                        intros; first | exact KD.mk | exact KD.mkN
                      · intro tm hr
                        simp [AllL, rdV] at hr
                        simp [hr, nth_d e38, ← e39, ← e40, ← e41]
                        intros; first | exact KD.mk | exact KD.mkN
                      · intro tm hr
                        simp [AllL, rdV] at hr
                        simp [hr, nth_d e38, ← e39, ← e40, ← e41]
                        intros; first | exact KD.mk | exact KD.mkN
                      · intro tm hr
                        simp [AllL, rdV] at hr
                        simp [hr, nth_d e38, ← e39, ← e40, ← e41]
                        intros; first | exact KD.mk | exact KD.mkN
                      · intro tm hr
                        simp [AllL, rdV] at hr
                        simp [hr, nth_d e38, ← e39, ← e40, ← e41]
                        intros; first | exact KD.mk | exact KD.mkN
                      · intro tm hr
                        simp [AllL, rdV] at hr
                        simp [hr, nth_d e38, ← e39, ← e40, ← e41]
                        intros; first | exact KD.mk | exact KD.mkN
                      · intro tm hr
                        simp [AllL, rdV] at hr
                        simp [hr, nth_d e38, ← e39, ← e40, ← e41]
                        intros; first | exact KD.mk | exact KD.mkN
                      · intro tm hr
                        simp [AllL, rdV] at hr
                        simp [hr, nth_d e38, ← e39, ← e40, ← e41]
                        intros; first | exact KD.mk | exact KD.mkN
                      · intro tm hr
                        simp [AllL, rdV] at hr
                        simp [hr, nth_d e38, ← e39, ← e40, ← e41]
                        intros; first | exact KD.mk | exact KD.mkN
                      · intro tm hr
                        simp [AllL, rdV] at hr
                        simp [hr, nth_d e38, ← e39, ← e40, ← e41]
                        intros; first | exact KD.mk | exact KD.mkN
                      · intro tm hr
                        simp [AllL, rdV] at hr
                        simp [hr, nth_d e38, ← e39, ← e40, ← e41]
                        intros; first | exact KD.mk | exact KD.mkN
                      · intro tm hr
                        simp [AllL, rdV] at hr
                        simp [hr, nth_d e38, ← e39, ← e40, ← e41]
                        intros; first | exact KD.mk | exact KD.mkN
                      · intro tm hr
                        simp [AllL, rdV] at hr
                        simp [hr, nth_d e38, ← e39, ← e40, ← e41]
                        intros; first | exact KD.mk | exact KD.mkN
                      · intro tm hr
                        simp [AllL, rdV] at hr
                        simp [hr, nth_d e38, ← e39, ← e40, ← e41]
                        intros; first | exact KD.mk | exact KD.mkN
                      · intro tm hr
                        simp [AllL, rdV] at hr
                        simp [hr, nth_d e38, ← e39, ← e40, ← e41]
                        intros; first | exact KD.mk | exact KD.mkN
                    · rfl
                    · simp [tmD, putD, nth_d e38, ← e39, ← e40, ← e41]; rfl
                    · simp [nth_d e38, ← e39, ← e40, ← e41]
                      intros; rfl
                    obtain rfl := Option.some.inj h
                    refine nP_i ?_
                    refine Weak.mixN [some 0] hn0 (by decide) ?_ ?_ rfl
                    all_goals first | (simp [inv_cons, inv_nil, pickOb]; done) | rfl
              · rintro e s hp
                obtain ⟨rfl, hw⟩ := hp
                refine ⟨_, hw, ?_⟩
                try simp only [sp_l, sp_r, Post.seq, Post.block, Nat.reduceEqDiff, reduceIte, Nat.zero_ne_one, Nat.one_ne_zero]
                replace h := ltE h; obtain ⟨v46, e46, h⟩ := h
                rw [← e46]
                cases v46 with
                | true =>
                  replace h := iteT rfl h
                  refine AW.cond_true (by simp) ?_
                  apply AW.step
                  · simp
                    intros; rfl
                  obtain rfl := Option.some.inj h
                  refine AW.ret ?_
                  try simp only [sp_l, sp_r, Post.seq, Post.block, Nat.reduceEqDiff, reduceIte, Nat.zero_ne_one, Nat.one_ne_zero]
                  refine rP_i ?_
                  refine Left.plain hnb (by simp [Try.f88, resV, resC, comp]; rfl) rfl rfl ?_
                  simp
                | false =>
                  replace h := iteF rfl h
                  refine AW.cond_false (by simp) ?_
                  refine AW.skip ?_
                  try simp only [sp_l, sp_r, Post.seq, Post.block, Nat.reduceEqDiff, reduceIte, Nat.zero_ne_one, Nat.one_ne_zero]
                  try simp only [sp_l, sp_r, Post.seq, Post.block, Nat.reduceEqDiff, reduceIte, Nat.zero_ne_one, Nat.one_ne_zero]
                  replace h := ltE h; obtain ⟨v47, e47, h⟩ := h
                  apply AW.last
                  · simp [← e47]
                    intros; rfl
                  obtain rfl := Option.some.inj h
                  refine nP_i ?_
                  refine Weak.mixN [some 0] hn0 (by decide) ?_ ?_ rfl
                  all_goals first | (simp [inv_cons, inv_nil, pickOb]; done) | rfl
            | false =>
              replace h := iteF rfl h
              refine AW.cond_false (by simp) ?_
              refine AW.exit ?_
              try simp only [sp_l, sp_r, Post.seq, Post.block, Nat.reduceEqDiff, reduceIte, Nat.zero_ne_one, Nat.one_ne_zero]
              obtain rfl := Option.some.inj h
              try simp only [sp_l, sp_r]
              refine xP_i ?_
              refine Weak.mixN [] hn0 (by decide) ?_ ?_ rfl
              all_goals first | (simp [inv_cons, inv_nil, pickOb]; done) | rfl
          · rintro e s hp
            rcases y33 with y48 | y49
            · replace h := smL h
              obtain ⟨rfl, hw⟩ := hp
              refine ⟨_, hw, ?_⟩
              try simp only [sp_l, sp_r, Post.seq, Post.block, Nat.reduceEqDiff, reduceIte, Nat.zero_ne_one, Nat.one_ne_zero]
              apply AW.step
              · simp
                intros; rfl
              obtain rfl := Option.some.inj h
              refine AW.ret ?_
              refine Left.plain hnb (by simp [Try.f88, resV, resC, comp]; rfl) rfl rfl ?_
              simp
            · replace h := smR h
              obtain ⟨rfl, hl⟩ := hp
              refine ⟨_, Weak.refl _, ?_⟩
              obtain rfl := Option.some.inj h
              exact hl
        · replace h := smR h
          obtain ⟨rfl, hl⟩ := hp
          refine ⟨_, Weak.refl _, ?_⟩
          obtain rfl := Option.some.inj h
          exact hl
theorem en_r5_MayItem : Enters Try.prog 88 := enters Try.func88 (by kernel_rfl) rfl
def r5_MayEffect_sh (n : Nat) (a0 : Effect) : Option Bool :=
bn (lt (lenS a0.key) fun v2 =>
lt (leI v2 40) fun v3 =>
ite' v3 (lt (a0.gone) fun v4 =>
ite' v4 (some (true)) (bn (r5_MayItem_sh n a0.item) fun v5 =>
some (v5))) (some (false))) fun (y1 : Bool) =>
some y1
set_option maxRecDepth 8000 in
set_option maxHeartbeats 8000000 in
theorem s_r5_MayEffect {n : Nat} {a0 : Effect} {r : Bool} (h : r5_MayEffect_sh n a0 = some r) : Sound Try.prog 89 [.g [.s (.string a0.key), .s (.bool a0.gone), .s (.int .i64 a0.item.kind), .s (.string a0.item.s), .d false 2 (encField a0.item.f), .d false 1 (encS a0.item.l), .s (.int .i64 a0.item.exp)]] [] (.l (.s (.bool r))) [] := by
  unfold r5_MayEffect_sh at h
  refine Sound.of_aw (fn := Try.f89) (c := _) Try.func89 rfl (by simp [Try.f89]) fun cx hG hnb => ?_
  rw [show Try.f89.ntmps = 16 from rfl]
  have hn0 : cx.nb = 0 := hnb
  simp only [st0_mk, initTm, List.map_cons, List.map_nil]
  apply AW.step
  · simp
    intros; rfl
  replace h := bnE h; obtain ⟨y1, g1, h⟩ := h
  refine AW.flow (p := fun gh ls => (nP (cx := cx) (fun q => (⟨[(2, .l (.s (.bool q)))], [], 16, gh, ls⟩ : St))) y1) ?_ ?_
  · replace h := g1; clear g1
    replace h := ltE h; obtain ⟨v2, e2, h⟩ := h
    replace h := ltE h; obtain ⟨v3, e3, h⟩ := h
    cases v3 with
    | true =>
      replace h := iteT rfl h
      replace h := ltE h; obtain ⟨v4, e4, h⟩ := h
      cases v4 with
      | true =>
        replace h := iteT rfl h
        apply AW.last
        · simp [← e2, ← e3, ← e4]
          intros; rfl
        obtain rfl := Option.some.inj h
        refine nP_i ?_
        refine Weak.mixN [] hn0 (by decide) ?_ ?_ rfl
        all_goals first | (simp [inv_cons, inv_nil, pickOb]; done) | rfl
      | false =>
        replace h := iteF rfl h
        replace h := bnE h; obtain ⟨v5, e5, h⟩ := h
        apply AW.last
        · simp [← e2, ← e3, ← e4]
          intros
          refine xcall_plain en_r5_MayItem (s_r5_MayItem e5) rfl ⟨.same rfl, trivial⟩ ?_
          try simp [← e2, ← e3, ← e4]
          intros; rfl
        obtain rfl := Option.some.inj h
        refine nP_i ?_
        refine Weak.mixN [] hn0 (by decide) ?_ ?_ rfl
        all_goals first | (simp [inv_cons, inv_nil, pickOb]; done) | rfl
    | false =>
      replace h := iteF rfl h
      apply AW.last
      · simp [← e2, ← e3]
        intros; rfl
      obtain rfl := Option.some.inj h
      refine nP_i ?_
      refine Weak.mixN [] hn0 (by decide) ?_ ?_ rfl
      all_goals first | (simp [inv_cons, inv_nil, pickOb]; done) | rfl
  · rintro e s hp
    obtain ⟨rfl, hw⟩ := hp
    refine ⟨_, hw, ?_⟩
    try simp only [sp_l, sp_r, Post.seq, Post.block, Nat.reduceEqDiff, reduceIte, Nat.zero_ne_one, Nat.one_ne_zero]
    obtain rfl := Option.some.inj h
    refine AW.ret ?_
    refine Left.plain hnb (by simp [Try.f89, resV, resC, comp]; rfl) rfl rfl ?_
    simp
theorem en_r5_MayEffect : Enters Try.prog 89 := enters Try.func89 (by kernel_rfl) rfl
def r5_MayEffects_sh (n : Nat) (a0 : List Effect) : Option Bool :=
bn (iter n (fun (y1 : Int) =>
lt (lenI a0) fun v4 =>
lt (ltI y1 v4) fun v5 =>
ite' v5 (bn (nth a0 y1) fun v6 =>
bn (r5_MayEffect_sh n v6) fun v7 =>
lt (notB v7) fun v8 =>
ite' v8 (some (.inr (.inr false))) (lt (addI .i64 y1 1) fun v9 =>
some (.inl v9))) (some (.inr (.inl ())))) 0) fun (y2 : Unit ⊕ Bool) =>
sm y2 (fun y10 => some true) (fun y11 => some y11)
set_option maxRecDepth 8000 in
set_option maxHeartbeats 8000000 in
theorem s_r5_MayEffects {n : Nat} {a0 : List Effect} {r : Bool} (h : r5_MayEffects_sh n a0 = some r) : Sound Try.prog 48 [.l (.d false 7 (encEffect a0))] [] (.l (.s (.bool r))) [] := by
  unfold r5_MayEffects_sh at h
  refine Sound.of_aw (fn := Try.f48) (c := _) Try.func48 rfl (by simp [Try.f48]) fun cx hG hnb => ?_
  rw [show Try.f48.ntmps = 16 from rfl]
  have hn0 : cx.nb = 0 := hnb
  simp only [st0_mk, initTm, List.map_cons, List.map_nil]
  apply AW.step
  · simp
    intros; rfl
  refine AW.seq ?_
  apply AW.step
  · simp
    intros; rfl
  refine AW.block ?_
  replace h := bnE h; obtain ⟨y2, g2, h⟩ := h
  refine AW.iterP g2 (mk := fun gh ls q => (⟨[(0, .l (.d false 7 (encEffect a0))), (3, .l (.s (.int .i64 q)))], [], 16, gh, ls⟩ : St)) (N := fun gh ls => (sp (xP 0 (cx := cx) (fun _ => (⟨[], [], 16, gh, ls⟩ : St))) (rP (cx := cx) (P := Try.prog) Try.f48 (fun q => .l (.s (.bool q))) (fun q => [])))) ?_ (noS noX noR) ?_ ?_
  · refine Weak.mixN [] hn0 (by decide) ?_ ?_ rfl
    all_goals first | (simp [inv_cons, inv_nil, pickOb]; done) | rfl
  · clear h; intro y1 y3 h
    refine AW.seq ?_
    replace h := ltE h; obtain ⟨v4, e4, h⟩ := h
    replace h := ltE h; obtain ⟨v5, e5, h⟩ := h
    apply AW.step
    · simp [lenI_cast e4, ← e5]
      intros; rfl
    cases v5 with
    | true =>
      replace h := iteT rfl h
      refine AW.cond_true (by simp) ?_
      refine AW.skip ?_
      try simp only [sp_l, sp_r, Post.seq, Post.block, Nat.reduceEqDiff, reduceIte, Nat.zero_ne_one, Nat.one_ne_zero]
      try simp only [sp_l, sp_r, Post.seq, Post.block, Nat.reduceEqDiff, reduceIte, Nat.zero_ne_one, Nat.one_ne_zero]
      refine AW.seq ?_
      refine AW.block ?_
      replace h := bnE h; obtain ⟨v6, e6, h⟩ := h
      replace h := bnE h; obtain ⟨v7, e7, h⟩ := h
      replace h := ltE h; obtain ⟨v8, e8, h⟩ := h
      apply AW.step
      · simp [nth_d e6, ← e8]
        intros
        refine xcall_plain en_r5_MayEffect (s_r5_MayEffect e7) rfl ⟨.same rfl, trivial⟩ ?_
        try simp [nth_d e6, ← e8]
        intros; rfl
      cases v8 with
      | true =>
        replace h := iteT rfl h
        refine AW.cond_true (by simp) ?_
        apply AW.step
        · simp
          intros; rfl
        obtain rfl := Option.some.inj h
        refine AW.ret ?_
        try simp only [sp_l, sp_r, Post.seq, Post.block, Nat.reduceEqDiff, reduceIte, Nat.zero_ne_one, Nat.one_ne_zero]
        refine rP_i ?_
        refine Left.plain hnb (by simp [Try.f48, resV, resC, comp]; rfl) rfl rfl ?_
        simp
      | false =>
        replace h := iteF rfl h
        refine AW.cond_false (by simp) ?_
        refine AW.skip ?_
        try simp only [sp_l, sp_r, Post.seq, Post.block, Nat.reduceEqDiff, reduceIte, Nat.zero_ne_one, Nat.one_ne_zero]
        try simp only [sp_l, sp_r, Post.seq, Post.block, Nat.reduceEqDiff, reduceIte, Nat.zero_ne_one, Nat.one_ne_zero]
        replace h := ltE h; obtain ⟨v9, e9, h⟩ := h
        apply AW.last
        · simp [← e9]
          intros; rfl
        obtain rfl := Option.some.inj h
        refine nP_i ?_
        refine Weak.mixN [] hn0 (by decide) ?_ ?_ rfl
        all_goals first | (simp [inv_cons, inv_nil, pickOb]; done) | rfl
    | false =>
      replace h := iteF rfl h
      refine AW.cond_false (by simp) ?_
      refine AW.exit ?_
      try simp only [sp_l, sp_r, Post.seq, Post.block, Nat.reduceEqDiff, reduceIte, Nat.zero_ne_one, Nat.one_ne_zero]
      obtain rfl := Option.some.inj h
      try simp only [sp_l, sp_r]
      refine xP_i ?_
      refine Weak.mixN [] hn0 (by decide) ?_ ?_ rfl
      all_goals first | (simp [inv_cons, inv_nil, pickOb]; done) | rfl
  · rintro e s hp
    rcases y2 with y10 | y11
    · replace h := smL h
      obtain ⟨rfl, hw⟩ := hp
      refine ⟨_, hw, ?_⟩
      try simp only [sp_l, sp_r, Post.seq, Post.block, Nat.reduceEqDiff, reduceIte, Nat.zero_ne_one, Nat.one_ne_zero]
      apply AW.step
      · simp
        intros; rfl
      obtain rfl := Option.some.inj h
      refine AW.ret ?_
      refine Left.plain hnb (by simp [Try.f48, resV, resC, comp]; rfl) rfl rfl ?_
      simp
    · replace h := smR h
      obtain ⟨rfl, hl⟩ := hp
      refine ⟨_, Weak.refl _, ?_⟩
      obtain rfl := Option.some.inj h
      exact hl
theorem en_r5_MayEffects : Enters Try.prog 48 := enters Try.func48 (by kernel_rfl) rfl
def r13_MayFeed_sh (n : Nat) (a0 : Feed) : Option Bool :=
bn (lt (lenI a0.back) fun v2 =>
lt (leI v2 64) fun v3 =>
ite' v3 (lt (leI v2 a0.off) fun v4 =>
ite' v4 (lt (leI a0.off 9007199254740992) fun v5 =>
ite' v5 (lt (geI a0.upto 0) fun v6 =>
ite' v6 (lt (leI a0.upto a0.off) fun v7 =>
ite' v7 (bn (r5_MayEffects_sh n a0.back) fun v8 =>
some (v8)) (some (false))) (some (false))) (some (false))) (some (false))) (some (false))) fun (y1 : Bool) =>
some y1
set_option maxRecDepth 8000 in
set_option maxHeartbeats 8000000 in
theorem s_r13_MayFeed {n : Nat} {a0 : Feed} {r : Bool} (h : r13_MayFeed_sh n a0 = some r) : Sound Try.prog 46 [.g [.s (.int .i64 a0.rid.node), .s (.int .i64 a0.rid.epoch), .s (.int .i64 a0.off), .d false 7 (encEffect a0.back), .s (.int .i64 a0.prev.node), .s (.int .i64 a0.prev.epoch), .s (.int .i64 a0.upto)]] [] (.l (.s (.bool r))) [] := by
  unfold r13_MayFeed_sh at h
  refine Sound.of_aw (fn := Try.f46) (c := _) Try.func46 rfl (by simp [Try.f46]) fun cx hG hnb => ?_
  rw [show Try.f46.ntmps = 37 from rfl]
  have hn0 : cx.nb = 0 := hnb
  simp only [st0_mk, initTm, List.map_cons, List.map_nil]
  apply AW.step
  · simp
    intros; rfl
  replace h := bnE h; obtain ⟨y1, g1, h⟩ := h
  refine AW.flow (p := fun gh ls => (nP (cx := cx) (fun q => (⟨[(2, .l (.s (.bool q)))], [], 37, gh, ls⟩ : St))) y1) ?_ ?_
  · replace h := g1; clear g1
    replace h := ltE h; obtain ⟨v2, e2, h⟩ := h
    replace h := ltE h; obtain ⟨v3, e3, h⟩ := h
    cases v3 with
    | true =>
      replace h := iteT rfl h
      replace h := ltE h; obtain ⟨v4, e4, h⟩ := h
      cases v4 with
      | true =>
        replace h := iteT rfl h
        replace h := ltE h; obtain ⟨v5, e5, h⟩ := h
        cases v5 with
        | true =>
          replace h := iteT rfl h
          replace h := ltE h; obtain ⟨v6, e6, h⟩ := h
          cases v6 with
          | true =>
            replace h := iteT rfl h
            replace h := ltE h; obtain ⟨v7, e7, h⟩ := h
            cases v7 with
            | true =>
              replace h := iteT rfl h
              replace h := bnE h; obtain ⟨v8, e8, h⟩ := h
              apply AW.last
              · simp [lenI_cast e2, ← e3, ← e4, ← e5, ← e6, ← e7]
                intros
                refine xcall_plain en_r5_MayEffects (s_r5_MayEffects e8) rfl ⟨.same rfl, trivial⟩ ?_
                try simp [lenI_cast e2, ← e3, ← e4, ← e5, ← e6, ← e7]
                intros; rfl
              obtain rfl := Option.some.inj h
              refine nP_i ?_
              refine Weak.mixN [] hn0 (by decide) ?_ ?_ rfl
              all_goals first | (simp [inv_cons, inv_nil, pickOb]; done) | rfl
            | false =>
              replace h := iteF rfl h
              apply AW.last
              · simp [lenI_cast e2, ← e3, ← e4, ← e5, ← e6, ← e7]
                intros; rfl
              obtain rfl := Option.some.inj h
              refine nP_i ?_
              refine Weak.mixN [] hn0 (by decide) ?_ ?_ rfl
              all_goals first | (simp [inv_cons, inv_nil, pickOb]; done) | rfl
          | false =>
            replace h := iteF rfl h
            apply AW.last
            · simp [lenI_cast e2, ← e3, ← e4, ← e5, ← e6]
              intros; rfl
            obtain rfl := Option.some.inj h
            refine nP_i ?_
            refine Weak.mixN [] hn0 (by decide) ?_ ?_ rfl
            all_goals first | (simp [inv_cons, inv_nil, pickOb]; done) | rfl
        | false =>
          replace h := iteF rfl h
          apply AW.last
          · simp [lenI_cast e2, ← e3, ← e4, ← e5]
            intros; rfl
          obtain rfl := Option.some.inj h
          refine nP_i ?_
          refine Weak.mixN [] hn0 (by decide) ?_ ?_ rfl
          all_goals first | (simp [inv_cons, inv_nil, pickOb]; done) | rfl
      | false =>
        replace h := iteF rfl h
        apply AW.last
        · simp [lenI_cast e2, ← e3, ← e4]
          intros; rfl
        obtain rfl := Option.some.inj h
        refine nP_i ?_
        refine Weak.mixN [] hn0 (by decide) ?_ ?_ rfl
        all_goals first | (simp [inv_cons, inv_nil, pickOb]; done) | rfl
    | false =>
      replace h := iteF rfl h
      apply AW.last
      · simp [lenI_cast e2, ← e3]
        intros; rfl
      obtain rfl := Option.some.inj h
      refine nP_i ?_
      refine Weak.mixN [] hn0 (by decide) ?_ ?_ rfl
      all_goals first | (simp [inv_cons, inv_nil, pickOb]; done) | rfl
  · rintro e s hp
    obtain ⟨rfl, hw⟩ := hp
    refine ⟨_, hw, ?_⟩
    try simp only [sp_l, sp_r, Post.seq, Post.block, Nat.reduceEqDiff, reduceIte, Nat.zero_ne_one, Nat.one_ne_zero]
    obtain rfl := Option.some.inj h
    refine AW.ret ?_
    refine Left.plain hnb (by simp [Try.f46, resV, resC, comp]; rfl) rfl rfl ?_
    simp
theorem en_r13_MayFeed : Enters Try.prog 46 := enters Try.func46 (by kernel_rfl) rfl
def r5_MaySpace_sh (n : Nat) (a0 : List Pair) : Option Bool :=
bn (iter n (fun (y1 : Int) =>
lt (lenI a0) fun v4 =>
lt (ltI y1 v4) fun v5 =>
ite' v5 (bn (bn (nth a0 y1) fun v7 =>
lt (lenS v7.key) fun v8 =>
lt (gtI v8 40) fun v9 =>
ite' v9 (some (true)) (bn (r5_MayItem_sh n v7.item) fun v10 =>
lt (notB v10) fun v11 =>
ite' v11 (some (true)) (lt (gtI y1 0) fun v12 =>
ite' v12 (lt (subI .i64 y1 1) fun v13 =>
bn (nth a0 v13) fun v14 =>
lt (geS v14.key v7.key) fun v15 =>
some (v15)) (some (false))))) fun (y6 : Bool) =>
lt (y6) fun v16 =>
ite' v16 (some (.inr (.inr false))) (lt (addI .i64 y1 1) fun v17 =>
some (.inl v17))) (some (.inr (.inl ())))) 0) fun (y2 : Unit ⊕ Bool) =>
sm y2 (fun y18 => some true) (fun y19 => some y19)
set_option maxRecDepth 8000 in
set_option maxHeartbeats 8000000 in
theorem s_r5_MaySpace {n : Nat} {a0 : List Pair} {r : Bool} (h : r5_MaySpace_sh n a0 = some r) : Sound Try.prog 47 [.l (.d false 6 (encPair a0))] [] (.l (.s (.bool r))) [] := by
  unfold r5_MaySpace_sh at h
  refine Sound.of_aw (fn := Try.f47) (c := _) Try.func47 rfl (by simp [Try.f47]) fun cx hG hnb => ?_
  rw [show Try.f47.ntmps = 44 from rfl]
  have hn0 : cx.nb = 0 := hnb
  simp only [st0_mk, initTm, List.map_cons, List.map_nil]
  apply AW.step
  · simp
    intros; rfl
  refine AW.seq ?_
  apply AW.step
  · simp
    intros; rfl
  refine AW.block ?_
  replace h := bnE h; obtain ⟨y2, g2, h⟩ := h
  refine AW.iterP g2 (mk := fun gh ls q => (⟨[(0, .l (.d false 6 (encPair a0))), (3, .l (.s (.int .i64 q)))], [], 44, gh, ls⟩ : St)) (N := fun gh ls => (sp (xP 0 (cx := cx) (fun _ => (⟨[], [], 44, gh, ls⟩ : St))) (rP (cx := cx) (P := Try.prog) Try.f47 (fun q => .l (.s (.bool q))) (fun q => [])))) ?_ (noS noX noR) ?_ ?_
  · refine Weak.mixN [] hn0 (by decide) ?_ ?_ rfl
    all_goals first | (simp [inv_cons, inv_nil, pickOb]; done) | rfl
  · clear h; intro y1 y3 h
    refine AW.seq ?_
    replace h := ltE h; obtain ⟨v4, e4, h⟩ := h
    replace h := ltE h; obtain ⟨v5, e5, h⟩ := h
    apply AW.step
    · simp [lenI_cast e4, ← e5]
      intros; rfl
    cases v5 with
    | true =>
      replace h := iteT rfl h
      refine AW.cond_true (by simp) ?_
      refine AW.skip ?_
      try simp only [sp_l, sp_r, Post.seq, Post.block, Nat.reduceEqDiff, reduceIte, Nat.zero_ne_one, Nat.one_ne_zero]
      try simp only [sp_l, sp_r, Post.seq, Post.block, Nat.reduceEqDiff, reduceIte, Nat.zero_ne_one, Nat.one_ne_zero]
      refine AW.seq ?_
      refine AW.block ?_
      replace h := bnE h; obtain ⟨y6, g6, h⟩ := h
      refine AW.flow (p := fun gh ls => (nP (cx := cx) (fun q => (⟨[(0, .l (.d false 6 (encPair a0))), (3, .l (.s (.int .i64 y1))), (43, .l (.s (.bool q)))], [], 44, gh, ls⟩ : St))) y6) ?_ ?_
      · replace h := g6; clear g6
        replace h := bnE h; obtain ⟨v7, e7, h⟩ := h
        replace h := ltE h; obtain ⟨v8, e8, h⟩ := h
        replace h := ltE h; obtain ⟨v9, e9, h⟩ := h
        cases v9 with
        | true =>
          replace h := iteT rfl h
          apply AW.drawnR (V := [_, _, _, _, _, _, _, _, _, _, _, _, _, _, _, _, _, _, _, _, _, _, _, _, _, _, _, _, _, _, _]) mixed [⟨[0], [], [(0, none)], false⟩, ⟨[0], [], [(3, none)], false⟩, ⟨[0], [0, 1], [(10, some 0), (11, some 1)], false⟩, ⟨[0], [0, 1, 2], [(12, some 2)], false⟩, ⟨[0], [0, 1, 2, 3], [(13, some 3)], false⟩, ⟨[0], [0, 1, 2, 3, 4], [(14, some 4)], false⟩, ⟨[0], [0, 1, 2, 3, 4, 5], [(15, some 5)], false⟩, ⟨[0], [0, 1, 2, 3, 4, 5, 6], [(16, some 6)], false⟩, ⟨[0], [0, 1, 2, 3, 4, 5, 6, 7], [(0, none), (17, some 7)], false⟩, ⟨[0], [0, 1, 2, 3, 4, 5, 6, 7], [(3, none), (17, some 7)], false⟩, ⟨[0], [0, 1, 2, 3, 4, 5, 6, 7, 8, 9], [(17, some 7), (18, some 8), (19, some 9)], false⟩, ⟨[0], [0, 1, 2, 3, 4, 5, 6, 7, 8, 9, 10], [(17, some 7), (20, some 10)], false⟩, ⟨[0], [0, 1, 2, 3, 4, 5, 6, 7, 8, 9, 10, 11], [(17, some 7), (21, some 11)], false⟩, ⟨[0], [0, 1, 2, 3, 4, 5, 6, 7, 8, 9, 10, 11, 12], [(17, some 7), (22, some 12)], false⟩, ⟨[0], [0, 1, 2, 3, 4, 5, 6, 7, 8, 9, 10, 11, 12, 13], [(17, some 7), (23, some 13)], false⟩, ⟨[0], [0, 1, 2, 3, 4, 5, 6, 7, 8, 9, 10, 11, 12, 13, 14], [(17, some 7), (24, some 14)], false⟩, ⟨[0], [0, 1, 2, 3, 4, 5, 6, 7, 8, 9, 10, 11, 12, 13, 14, 15], [(25, some 15)], false⟩, ⟨[0], [0, 1, 2, 3, 4, 5, 6, 7, 8, 9, 10, 11, 12, 13, 14, 15, 16], [(3, none), (26, some 16)], false⟩, ⟨[0], [0, 1, 2, 3, 4, 5, 6, 7, 8, 9, 10, 11, 12, 13, 14, 15, 16, 17], [(26, some 16), (27, some 17)], false⟩, ⟨[0], [0, 1, 2, 3, 4, 5, 6, 7, 8, 9, 10, 11, 12, 13, 14, 15, 16, 17, 18], [(26, some 16), (28, some 18)], false⟩, ⟨[0], [0, 1, 2, 3, 4, 5, 6, 7, 8, 9, 10, 11, 12, 13, 14, 15, 16, 17, 18, 19], [(0, none), (29, some 19)], false⟩, ⟨[0], [0, 1, 2, 3, 4, 5, 6, 7, 8, 9, 10, 11, 12, 13, 14, 15, 16, 17, 18, 19], [(3, none), (29, some 19)], false⟩, ⟨[0], [0, 1, 2, 3, 4, 5, 6, 7, 8, 9, 10, 11, 12, 13, 14, 15, 16, 17, 18, 19, 21], [(29, some 19), (31, some 21)], false⟩, ⟨[0], [0, 1, 2, 3, 4, 5, 6, 7, 8, 9, 10, 11, 12, 13, 14, 15, 16, 17, 18, 19, 20, 21, 22], [(29, some 19), (30, some 20), (32, some 22)], false⟩, ⟨[0], [0, 1, 2, 3, 4, 5, 6, 7, 8, 9, 10, 11, 12, 13, 14, 15, 16, 17, 18, 19, 20, 21, 22, 23], [(29, some 19), (33, some 23)], false⟩, ⟨[0], [0, 1, 2, 3, 4, 5, 6, 7, 8, 9, 10, 11, 12, 13, 14, 15, 16, 17, 18, 19, 20, 21, 22, 23, 24], [(29, some 19), (34, some 24)], false⟩, ⟨[0], [0, 1, 2, 3, 4, 5, 6, 7, 8, 9, 10, 11, 12, 13, 14, 15, 16, 17, 18, 19], [(0, none), (29, some 19)], false⟩, ⟨[0], [0, 1, 2, 3, 4, 5, 6, 7, 8, 9, 10, 11, 12, 13, 14, 15, 16, 17, 18, 19], [(3, none), (29, some 19)], false⟩, ⟨[0], [0, 1, 2, 3, 4, 5, 6, 7, 8, 9, 10, 11, 12, 13, 14, 15, 16, 17, 18, 19, 26, 27], [(29, some 19), (36, some 26), (37, some 27)], false⟩, ⟨[0], [0, 1, 2, 3, 4, 5, 6, 7, 8, 9, 10, 11, 12, 13, 14, 15, 16, 17, 18, 19, 26, 27, 28], [(29, some 19), (38, some 28)], false⟩, ⟨[0], [0, 1, 2, 3, 4, 5, 6, 7, 8, 9, 10, 11, 12, 13, 14, 15, 16, 17, 18, 19, 26, 27, 28, 29], [(29, some 19), (39, some 29)], false⟩, ⟨[], [0, 1, 2, 3, 4, 5, 6, 7, 8, 9, 10, 11, 12, 13, 14, 15, 16, 17, 18, 19, 20, 21, 22, 23, 24, 25, 26, 27, 28, 29, 30], [], false⟩, ⟨[], [0, 1, 2, 3, 4, 5, 6, 7, 8, 9, 10, 11, 12, 13, 14, 15, 16, 17, 18, 19, 20, 21, 22, 23, 24, 25, 26, 27, 28, 29, 30, 31], [], false⟩, ⟨[], [0, 1, 2, 3, 4, 5, 6, 7, 8, 9, 10, 11, 12, 13, 14, 15, 16, 17, 18, 19, 20, 21, 22, 23, 24, 25, 26, 27, 28, 29, 30, 31, 32], [], false⟩] 31 (by kernel_rfl) (by kernel_rfl)
          · refine ⟨?_, ?_, ?_, ?_, ?_, ?_, ?_, ?_, ?_, ?_, ?_, ?_, ?_, ?_, ?_, ?_, ?_, ?_, ?_, ?_, ?_, ?_, ?_, ?_, ?_, ?_, ?_, ?_, ?_, ?_, ?_, trivial⟩
            · intro tm hr
              simp [AllL, rdV] at hr
              simp [hr, nth_d e7, ← e8, ← e9]
              intros; first | exact KD.mk | exact KD.mkN
            · intro tm hr
              simp [AllL, rdV] at hr
              simp [hr, nth_d e7, ← e8, ← e9]
              intros; first | exact KD.mk | exact KD.mkN
            · intro tm hr
              simp [AllL, rdV] at hr
              simp [hr, nth_d e7, ← e8, ← e9]
              intros; first | exact KD.mk | exact KD.mkN
            · intro tm hr
              simp [AllL, rdV] at hr
              simp [hr, nth_d e7, ← e8, ← e9]
              intros; first | exact KD.mk | exact KD.mkN
            · intro tm hr
              simp [AllL, rdV] at hr
              simp [hr, nth_d e7, ← e8, ← e9]
              intros; first | exact KD.mk | exact KD.mkN
            · intro tm hr
              simp [AllL, rdV] at hr
              simp [hr, nth_d e7, ← e8, ← e9]
              intros; first | exact KD.mk | exact KD.mkN
            · intro tm hr
              simp [AllL, rdV] at hr
              simp [hr, nth_d e7, ← e8, ← e9]
              intros; first | exact KD.mk | exact KD.mkN
            · intro tm hr
              simp [AllL, rdV] at hr
              simp [hr, nth_d e7, ← e8, ← e9]
              intros; first | exact KD.mk | exact KD.mkN
            · intro tm hr
              simp [AllL, rdV] at hr
              simp [hr, nth_d e7, ← e8, ← e9]
              intros; first | exact KD.mk | exact KD.mkN
            · intro tm hr
              simp [AllL, rdV] at hr
              simp [hr, nth_d e7, ← e8, ← e9]
              intros; first | exact KD.mk | exact KD.mkN
            · intro tm hr
              simp [AllL, rdV] at hr
              simp [hr, nth_d e7, ← e8, ← e9]
              intros; first | exact KD.mk | exact KD.mkN
            · intro tm hr
              simp [AllL, rdV] at hr
              simp [hr, nth_d e7, ← e8, ← e9]
              intros; first | exact KD.mk | exact KD.mkN
            · intro tm hr
              simp [AllL, rdV] at hr
              simp [hr, nth_d e7, ← e8, ← e9]
              intros; first | exact KD.mk | exact KD.mkN
            · intro tm hr
              simp [AllL, rdV] at hr
              simp [hr, nth_d e7, ← e8, ← e9]
              intros; first | exact KD.mk | exact KD.mkN
            · intro tm hr
              simp [AllL, rdV] at hr
              simp [hr, nth_d e7, ← e8, ← e9]
              intros; first | exact KD.mk | exact KD.mkN
            · intro tm hr
              simp [AllL, rdV] at hr
              simp [hr, nth_d e7, ← e8, ← e9]
              intros; first | exact KD.mk | exact KD.mkN
            · intro tm hr
              simp [AllL, rdV] at hr
              simp [hr, nth_d e7, ← e8, ← e9]
              intros; first | exact KD.mk | exact KD.mkN
            · intro tm hr
              simp [AllL, rdV] at hr
              simp [hr, nth_d e7, ← e8, ← e9]
              intros; first | exact KD.mk | exact KD.mkN
            · intro tm hr
              simp [AllL, rdV] at hr
              simp [hr, nth_d e7, ← e8, ← e9]
              intros; first | exact KD.mk | exact KD.mkN
            · intro tm hr
              simp [AllL, rdV] at hr
              simp [hr, nth_d e7, ← e8, ← e9]
              intros; first | exact KD.mk | exact KD.mkN
            · intro tm hr
              simp [AllL, rdV] at hr
              simp [hr, nth_d e7, ← e8, ← e9]
              intros; first | exact KD.mk | exact KD.mkN
            · intro tm hr
              simp [AllL, rdV] at hr
              simp [hr, nth_d e7, ← e8, ← e9]
              intros; first | exact KD.mk | exact KD.mkN
            · intro tm hr
              simp [AllL, rdV] at hr
              simp [hr, nth_d e7, ← e8, ← e9]
              intros; first | exact KD.mk | exact KD.mkN
            · intro tm hr
              simp [AllL, rdV] at hr
              simp [hr, nth_d e7, ← e8, ← e9]
              intros; first | exact KD.mk | exact KD.mkN
            · intro tm hr
              simp [AllL, rdV] at hr
              simp [hr, nth_d e7, ← e8, ← e9]
              intros; first | exact KD.mk | exact KD.mkN
            · intro tm hr
              simp [AllL, rdV] at hr
              simp [hr, nth_d e7, ← e8, ← e9]
              intros; first | exact KD.mk | exact KD.mkN
            · intro tm hr
              simp [AllL, rdV] at hr
              simp [hr, nth_d e7, ← e8, ← e9]
              intros; first | exact KD.mk | exact KD.mkN
            · intro tm hr
              simp [AllL, rdV] at hr
              simp [hr, nth_d e7, ← e8, ← e9]
              intros; first | exact KD.mk | exact KD.mkN
            · intro tm hr
              simp [AllL, rdV] at hr
              simp [hr, nth_d e7, ← e8, ← e9]
              intros; first | exact KD.mk | exact KD.mkN
            · intro tm hr
              simp [AllL, rdV] at hr
              simp [hr, nth_d e7, ← e8, ← e9]
              intros; first | exact KD.mk | exact KD.mkN
            · intro tm hr
              simp [AllL, rdV] at hr
              simp [hr, nth_d e7, ← e8, ← e9]
              intros; first | exact KD.mk | exact KD.mkN
          · rfl
          · simp [tmD, putD, nth_d e7, ← e8, ← e9]; rfl
          · simp [nth_d e7, ← e8, ← e9]
            intros; rfl
          obtain rfl := Option.some.inj h
          refine nP_i ?_
          refine Weak.mixN [] hn0 (by decide) ?_ ?_ rfl
          all_goals first | (simp [inv_cons, inv_nil, pickOb]; done) | rfl
        | false =>
          replace h := iteF rfl h
          replace h := bnE h; obtain ⟨v10, e10, h⟩ := h
          replace h := ltE h; obtain ⟨v11, e11, h⟩ := h
          cases v11 with
          | true =>
            replace h := iteT rfl h
            apply AW.drawnR (V := [_, _, _, _, _, _, _, _, _, _, _, _, _, _, _, _, _, _, _, _, _, _, _, _, _, _, _, _, _, _, _]) mixed [⟨[0], [], [(0, none)], false⟩, ⟨[0], [], [(3, none)], false⟩, ⟨[0], [0, 1], [(10, some 0), (11, some 1)], false⟩, ⟨[0], [0, 1, 2], [(12, some 2)], false⟩, ⟨[0], [0, 1, 2, 3], [(13, some 3)], false⟩, ⟨[0], [0, 1, 2, 3, 4], [(14, some 4)], false⟩, ⟨[0], [0, 1, 2, 3, 4, 5], [(15, some 5)], false⟩, ⟨[0], [0, 1, 2, 3, 4, 5, 6], [(16, some 6)], false⟩, ⟨[0], [0, 1, 2, 3, 4, 5, 6, 7], [(0, none), (17, some 7)], false⟩, ⟨[0], [0, 1, 2, 3, 4, 5, 6, 7], [(3, none), (17, some 7)], false⟩, ⟨[0], [0, 1, 2, 3, 4, 5, 6, 7, 8, 9], [(17, some 7), (18, some 8), (19, some 9)], false⟩, ⟨[0], [0, 1, 2, 3, 4, 5, 6, 7, 8, 9, 10], [(17, some 7), (20, some 10)], false⟩, ⟨[0], [0, 1, 2, 3, 4, 5, 6, 7, 8, 9, 10, 11], [(17, some 7), (21, some 11)], false⟩, ⟨[0], [0, 1, 2, 3, 4, 5, 6, 7, 8, 9, 10, 11, 12], [(17, some 7), (22, some 12)], false⟩, ⟨[0], [0, 1, 2, 3, 4, 5, 6, 7, 8, 9, 10, 11, 12, 13], [(17, some 7), (23, some 13)], false⟩, ⟨[0], [0, 1, 2, 3, 4, 5, 6, 7, 8, 9, 10, 11, 12, 13, 14], [(17, some 7), (24, some 14)], false⟩, ⟨[0], [0, 1, 2, 3, 4, 5, 6, 7, 8, 9, 10, 11, 12, 13, 14, 15], [(25, some 15)], false⟩, ⟨[0], [0, 1, 2, 3, 4, 5, 6, 7, 8, 9, 10, 11, 12, 13, 14, 15, 16], [(3, none), (26, some 16)], false⟩, ⟨[0], [0, 1, 2, 3, 4, 5, 6, 7, 8, 9, 10, 11, 12, 13, 14, 15, 16, 17], [(26, some 16), (27, some 17)], false⟩, ⟨[0], [0, 1, 2, 3, 4, 5, 6, 7, 8, 9, 10, 11, 12, 13, 14, 15, 16, 17, 18], [(26, some 16), (28, some 18)], false⟩, ⟨[0], [0, 1, 2, 3, 4, 5, 6, 7, 8, 9, 10, 11, 12, 13, 14, 15, 16, 17, 18, 19], [(0, none), (29, some 19)], false⟩, ⟨[0], [0, 1, 2, 3, 4, 5, 6, 7, 8, 9, 10, 11, 12, 13, 14, 15, 16, 17, 18, 19], [(3, none), (29, some 19)], false⟩, ⟨[0], [0, 1, 2, 3, 4, 5, 6, 7, 8, 9, 10, 11, 12, 13, 14, 15, 16, 17, 18, 19, 21], [(29, some 19), (31, some 21)], false⟩, ⟨[0], [0, 1, 2, 3, 4, 5, 6, 7, 8, 9, 10, 11, 12, 13, 14, 15, 16, 17, 18, 19, 20, 21, 22], [(29, some 19), (30, some 20), (32, some 22)], false⟩, ⟨[0], [0, 1, 2, 3, 4, 5, 6, 7, 8, 9, 10, 11, 12, 13, 14, 15, 16, 17, 18, 19, 20, 21, 22, 23], [(29, some 19), (33, some 23)], false⟩, ⟨[0], [0, 1, 2, 3, 4, 5, 6, 7, 8, 9, 10, 11, 12, 13, 14, 15, 16, 17, 18, 19, 20, 21, 22, 23, 24], [(29, some 19), (34, some 24)], false⟩, ⟨[0], [0, 1, 2, 3, 4, 5, 6, 7, 8, 9, 10, 11, 12, 13, 14, 15, 16, 17, 18, 19], [(0, none), (29, some 19)], false⟩, ⟨[0], [0, 1, 2, 3, 4, 5, 6, 7, 8, 9, 10, 11, 12, 13, 14, 15, 16, 17, 18, 19], [(3, none), (29, some 19)], false⟩, ⟨[0], [0, 1, 2, 3, 4, 5, 6, 7, 8, 9, 10, 11, 12, 13, 14, 15, 16, 17, 18, 19, 26, 27], [(29, some 19), (36, some 26), (37, some 27)], false⟩, ⟨[0], [0, 1, 2, 3, 4, 5, 6, 7, 8, 9, 10, 11, 12, 13, 14, 15, 16, 17, 18, 19, 26, 27, 28], [(29, some 19), (38, some 28)], false⟩, ⟨[0], [0, 1, 2, 3, 4, 5, 6, 7, 8, 9, 10, 11, 12, 13, 14, 15, 16, 17, 18, 19, 26, 27, 28, 29], [(29, some 19), (39, some 29)], false⟩, ⟨[], [0, 1, 2, 3, 4, 5, 6, 7, 8, 9, 10, 11, 12, 13, 14, 15, 16, 17, 18, 19, 20, 21, 22, 23, 24, 25, 26, 27, 28, 29, 30], [], false⟩, ⟨[], [0, 1, 2, 3, 4, 5, 6, 7, 8, 9, 10, 11, 12, 13, 14, 15, 16, 17, 18, 19, 20, 21, 22, 23, 24, 25, 26, 27, 28, 29, 30, 31], [], false⟩, ⟨[], [0, 1, 2, 3, 4, 5, 6, 7, 8, 9, 10, 11, 12, 13, 14, 15, 16, 17, 18, 19, 20, 21, 22, 23, 24, 25, 26, 27, 28, 29, 30, 31, 32], [], false⟩] 31 (by kernel_rfl) (by kernel_rfl)
            · refine ⟨?_, ?_, ?_, ?_, ?_, ?_, ?_, ?_, ?_, ?_, ?_, ?_, ?_, ?_, ?_, ?_, ?_, ?_, ?_, ?_, ?_, ?_, ?_, ?_, ?_, ?_, ?_, ?_, ?_, ?_, ?_, trivial⟩
              · intro tm hr
                simp [AllL, rdV] at hr
                simp [hr, nth_d e7, ← e8, ← e9, ← e11]
                intros; first | exact KD.mk | exact KD.mkN
              · intro tm hr
                simp [AllL, rdV] at hr
                simp [hr, nth_d e7, ← e8, ← e9, ← e11]
                intros; first | exact KD.mk | exact KD.mkN
              · intro tm hr
                simp [AllL, rdV] at hr
                simp [hr, nth_d e7, ← e8, ← e9, ← e11]
                intros; first | exact KD.mk | exact KD.mkN
              · intro tm hr
                simp [AllL, rdV] at hr
                simp [hr, nth_d e7, ← e8, ← e9, ← e11]
                intros; first | exact KD.mk | exact KD.mkN
              · intro tm hr
                simp [AllL, rdV] at hr
                simp [hr, nth_d e7, ← e8, ← e9, ← e11]
                intros; first | exact KD.mk | exact KD.mkN
              · intro tm hr
                simp [AllL, rdV] at hr
                simp [hr, nth_d e7, ← e8, ← e9, ← e11]
                intros; first | exact KD.mk | exact KD.mkN
              · intro tm hr
                simp [AllL, rdV] at hr
                simp [hr, nth_d e7, ← e8, ← e9, ← e11]
                intros; first | exact KD.mk | exact KD.mkN
              · intro tm hr
                simp [AllL, rdV] at hr
                simp [hr, nth_d e7, ← e8, ← e9, ← e11]
                intros; first | exact KD.mk | exact KD.mkN
              · intro tm hr
                simp [AllL, rdV] at hr
                simp [hr, nth_d e7, ← e8, ← e9, ← e11]
                intros; first | exact KD.mk | exact KD.mkN
              · intro tm hr
                simp [AllL, rdV] at hr
                simp [hr, nth_d e7, ← e8, ← e9, ← e11]
                intros; first | exact KD.mk | exact KD.mkN
              · intro tm hr
                simp [AllL, rdV] at hr
                simp [hr, nth_d e7, ← e8, ← e9, ← e11]
                intros; first | exact KD.mk | exact KD.mkN
              · intro tm hr
                simp [AllL, rdV] at hr
                simp [hr, nth_d e7, ← e8, ← e9, ← e11]
                intros; first | exact KD.mk | exact KD.mkN
              · intro tm hr
                simp [AllL, rdV] at hr
                simp [hr, nth_d e7, ← e8, ← e9, ← e11]
                intros; first | exact KD.mk | exact KD.mkN
              · intro tm hr
                simp [AllL, rdV] at hr
                simp [hr, nth_d e7, ← e8, ← e9, ← e11]
                intros
                refine xcall_plain en_r5_MayItem (s_r5_MayItem e10) rfl ⟨.same rfl, trivial⟩ ?_
                try simp [nth_d e7, ← e8, ← e9, ← e11]
                intros; first | exact KD.mk | exact KD.mkN
              · intro tm hr
                simp [AllL, rdV] at hr
                simp [hr, nth_d e7, ← e8, ← e9, ← e11]
                intros; first | exact KD.mk | exact KD.mkN
              · intro tm hr
                simp [AllL, rdV] at hr
                simp [hr, nth_d e7, ← e8, ← e9, ← e11]
                intros; first | exact KD.mk | exact KD.mkN
              · intro tm hr
                simp [AllL, rdV] at hr
                simp [hr, nth_d e7, ← e8, ← e9, ← e11]
                intros; first | exact KD.mk | exact KD.mkN
              · intro tm hr
                simp [AllL, rdV] at hr
                simp [hr, nth_d e7, ← e8, ← e9, ← e11]
                intros; first | exact KD.mk | exact KD.mkN
              · intro tm hr
                simp [AllL, rdV] at hr
                simp [hr, nth_d e7, ← e8, ← e9, ← e11]
                intros; first | exact KD.mk | exact KD.mkN
              · intro tm hr
                simp [AllL, rdV] at hr
                simp [hr, nth_d e7, ← e8, ← e9, ← e11]
                intros; first | exact KD.mk | exact KD.mkN
              · intro tm hr
                simp [AllL, rdV] at hr
                simp [hr, nth_d e7, ← e8, ← e9, ← e11]
                intros; first | exact KD.mk | exact KD.mkN
              · intro tm hr
                simp [AllL, rdV] at hr
                simp [hr, nth_d e7, ← e8, ← e9, ← e11]
                intros; first | exact KD.mk | exact KD.mkN
              · intro tm hr
                simp [AllL, rdV] at hr
                simp [hr, nth_d e7, ← e8, ← e9, ← e11]
                intros; first | exact KD.mk | exact KD.mkN
              · intro tm hr
                simp [AllL, rdV] at hr
                simp [hr, nth_d e7, ← e8, ← e9, ← e11]
                intros; first | exact KD.mk | exact KD.mkN
              · intro tm hr
                simp [AllL, rdV] at hr
                simp [hr, nth_d e7, ← e8, ← e9, ← e11]
                intros; first | exact KD.mk | exact KD.mkN
              · intro tm hr
                simp [AllL, rdV] at hr
                simp [hr, nth_d e7, ← e8, ← e9, ← e11]
                intros; first | exact KD.mk | exact KD.mkN
              · intro tm hr
                simp [AllL, rdV] at hr
                simp [hr, nth_d e7, ← e8, ← e9, ← e11]
                intros; first | exact KD.mk | exact KD.mkN
              · intro tm hr
                simp [AllL, rdV] at hr
                simp [hr, nth_d e7, ← e8, ← e9, ← e11]
                intros; first | exact KD.mk | exact KD.mkN
              · intro tm hr
                simp [AllL, rdV] at hr
                simp [hr, nth_d e7, ← e8, ← e9, ← e11]
                intros; first | exact KD.mk | exact KD.mkN
              · intro tm hr
                simp [AllL, rdV] at hr
                simp [hr, nth_d e7, ← e8, ← e9, ← e11]
                intros; first | exact KD.mk | exact KD.mkN
              · intro tm hr
                simp [AllL, rdV] at hr
                simp [hr, nth_d e7, ← e8, ← e9, ← e11]
                intros; first | exact KD.mk | exact KD.mkN
            · rfl
            · simp [tmD, putD, nth_d e7, ← e8, ← e9, ← e11]; rfl
            · simp [nth_d e7, ← e8, ← e9, ← e11]
              intros; rfl
            obtain rfl := Option.some.inj h
            refine nP_i ?_
            refine Weak.mixN [] hn0 (by decide) ?_ ?_ rfl
            all_goals first | (simp [inv_cons, inv_nil, pickOb]; done) | rfl
          | false =>
            replace h := iteF rfl h
            replace h := ltE h; obtain ⟨v12, e12, h⟩ := h
            cases v12 with
            | true =>
              replace h := iteT rfl h
              replace h := ltE h; obtain ⟨v13, e13, h⟩ := h
              replace h := bnE h; obtain ⟨v14, e14, h⟩ := h
              replace h := ltE h; obtain ⟨v15, e15, h⟩ := h
              apply AW.drawnR (V := [_, _, _, _, _, _, _, _, _, _, _, _, _, _, _, _, _, _, _, _, _, _, _, _, _, _, _, _, _, _, _]) mixed [⟨[0], [], [(0, none)], false⟩, ⟨[0], [], [(3, none)], false⟩, ⟨[0], [0, 1], [(10, some 0), (11, some 1)], false⟩, ⟨[0], [0, 1, 2], [(12, some 2)], false⟩, ⟨[0], [0, 1, 2, 3], [(13, some 3)], false⟩, ⟨[0], [0, 1, 2, 3, 4], [(14, some 4)], false⟩, ⟨[0], [0, 1, 2, 3, 4, 5], [(15, some 5)], false⟩, ⟨[0], [0, 1, 2, 3, 4, 5, 6], [(16, some 6)], false⟩, ⟨[0], [0, 1, 2, 3, 4, 5, 6, 7], [(0, none), (17, some 7)], false⟩, ⟨[0], [0, 1, 2, 3, 4, 5, 6, 7], [(3, none), (17, some 7)], false⟩, ⟨[0], [0, 1, 2, 3, 4, 5, 6, 7, 8, 9], [(17, some 7), (18, some 8), (19, some 9)], false⟩, ⟨[0], [0, 1, 2, 3, 4, 5, 6, 7, 8, 9, 10], [(17, some 7), (20, some 10)], false⟩, ⟨[0], [0, 1, 2, 3, 4, 5, 6, 7, 8, 9, 10, 11], [(17, some 7), (21, some 11)], false⟩, ⟨[0], [0, 1, 2, 3, 4, 5, 6, 7, 8, 9, 10, 11, 12], [(17, some 7), (22, some 12)], false⟩, ⟨[0], [0, 1, 2, 3, 4, 5, 6, 7, 8, 9, 10, 11, 12, 13], [(17, some 7), (23, some 13)], false⟩, ⟨[0], [0, 1, 2, 3, 4, 5, 6, 7, 8, 9, 10, 11, 12, 13, 14], [(17, some 7), (24, some 14)], false⟩, ⟨[0], [0, 1, 2, 3, 4, 5, 6, 7, 8, 9, 10, 11, 12, 13, 14, 15], [(25, some 15)], false⟩, ⟨[0], [0, 1, 2, 3, 4, 5, 6, 7, 8, 9, 10, 11, 12, 13, 14, 15, 16], [(3, none), (26, some 16)], false⟩, ⟨[0], [0, 1, 2, 3, 4, 5, 6, 7, 8, 9, 10, 11, 12, 13, 14, 15, 16, 17], [(26, some 16), (27, some 17)], false⟩, ⟨[0], [0, 1, 2, 3, 4, 5, 6, 7, 8, 9, 10, 11, 12, 13, 14, 15, 16, 17, 18], [(26, some 16), (28, some 18)], false⟩, ⟨[0], [0, 1, 2, 3, 4, 5, 6, 7, 8, 9, 10, 11, 12, 13, 14, 15, 16, 17, 18, 19], [(0, none), (29, some 19)], false⟩, ⟨[0], [0, 1, 2, 3, 4, 5, 6, 7, 8, 9, 10, 11, 12, 13, 14, 15, 16, 17, 18, 19], [(3, none), (29, some 19)], false⟩, ⟨[0], [0, 1, 2, 3, 4, 5, 6, 7, 8, 9, 10, 11, 12, 13, 14, 15, 16, 17, 18, 19, 21], [(29, some 19), (31, some 21)], false⟩, ⟨[0], [0, 1, 2, 3, 4, 5, 6, 7, 8, 9, 10, 11, 12, 13, 14, 15, 16, 17, 18, 19, 20, 21, 22], [(29, some 19), (30, some 20), (32, some 22)], false⟩, ⟨[0], [0, 1, 2, 3, 4, 5, 6, 7, 8, 9, 10, 11, 12, 13, 14, 15, 16, 17, 18, 19, 20, 21, 22, 23], [(29, some 19), (33, some 23)], false⟩, ⟨[0], [0, 1, 2, 3, 4, 5, 6, 7, 8, 9, 10, 11, 12, 13, 14, 15, 16, 17, 18, 19, 20, 21, 22, 23, 24], [(29, some 19), (34, some 24)], false⟩, ⟨[0], [0, 1, 2, 3, 4, 5, 6, 7, 8, 9, 10, 11, 12, 13, 14, 15, 16, 17, 18, 19], [(0, none), (29, some 19)], false⟩, ⟨[0], [0, 1, 2, 3, 4, 5, 6, 7, 8, 9, 10, 11, 12, 13, 14, 15, 16, 17, 18, 19], [(3, none), (29, some 19)], false⟩, ⟨[0], [0, 1, 2, 3, 4, 5, 6, 7, 8, 9, 10, 11, 12, 13, 14, 15, 16, 17, 18, 19, 26, 27], [(29, some 19), (36, some 26), (37, some 27)], false⟩, ⟨[0], [0, 1, 2, 3, 4, 5, 6, 7, 8, 9, 10, 11, 12, 13, 14, 15, 16, 17, 18, 19, 26, 27, 28], [(29, some 19), (38, some 28)], false⟩, ⟨[0], [0, 1, 2, 3, 4, 5, 6, 7, 8, 9, 10, 11, 12, 13, 14, 15, 16, 17, 18, 19, 26, 27, 28, 29], [(29, some 19), (39, some 29)], false⟩, ⟨[], [0, 1, 2, 3, 4, 5, 6, 7, 8, 9, 10, 11, 12, 13, 14, 15, 16, 17, 18, 19, 20, 21, 22, 23, 24, 25, 26, 27, 28, 29, 30], [], false⟩, ⟨[], [0, 1, 2, 3, 4, 5, 6, 7, 8, 9, 10, 11, 12, 13, 14, 15, 16, 17, 18, 19, 20, 21, 22, 23, 24, 25, 26, 27, 28, 29, 30, 31], [], false⟩, ⟨[], [0, 1, 2, 3, 4, 5, 6, 7, 8, 9, 10, 11, 12, 13, 14, 15, 16, 17, 18, 19, 20, 21, 22, 23, 24, 25, 26, 27, 28, 29, 30, 31, 32], [], false⟩] 31 (by kernel_rfl) (by kernel_rfl)
              · refine ⟨?_, ?_, ?_, ?_, ?_, ?_, ?_, ?_, ?_, ?_, ?_, ?_, ?_, ?_, ?_, ?_, ?_, ?_, ?_, ?_, ?_, ?_, ?_, ?_, ?_, ?_, ?_, ?_, ?_, ?_, ?_, trivial⟩
                · intro tm hr
                  simp [AllL, rdV] at hr
                  simp [hr, nth_d e7, ← e8, ← e9, ← e11, ← e12, ← e13, nth_d e14, ← e15]
                  intros; first | exact KD.mk | exact KD.mkN
                · intro tm hr
                  simp [AllL, rdV] at hr
                  simp [hr, nth_d e7, ← e8, ← e9, ← e11, ← e12, ← e13, nth_d e14, ← e15]
                  intros; first | exact KD.mk | exact KD.mkN
                · intro tm hr
                  simp [AllL, rdV] at hr
                  simp [hr, nth_d e7, ← e8, ← e9, ← e11, ← e12, ← e13, nth_d e14, ← e15]
                  intros; first | exact KD.mk | exact KD.mkN
                · intro tm hr
                  simp [AllL, rdV] at hr
                  simp [hr, nth_d e7, ← e8, ← e9, ← e11, ← e12, ← e13, nth_d e14, ← e15]
                  intros; first | exact KD.mk | exact KD.mkN
                · intro tm hr
                  simp [AllL, rdV] at hr
                  simp [hr, nth_d e7, ← e8, ← e9, ← e11, ← e12, ← e13, nth_d e14, ← e15]
                  intros; first | exact KD.mk | exact KD.mkN
                · intro tm hr
                  simp [AllL, rdV] at hr
                  simp [hr, nth_d e7, ← e8, ← e9, ← e11, ← e12, ← e13, nth_d e14, ← e15]
                  intros; first | exact KD.mk | exact KD.mkN
                · intro tm hr
                  simp [AllL, rdV] at hr
                  simp [hr, nth_d e7, ← e8, ← e9, ← e11, ← e12, ← e13, nth_d e14, ← e15]
                  intros; first | exact KD.mk | exact KD.mkN
                · intro tm hr
                  simp [AllL, rdV] at hr
                  simp [hr, nth_d e7, ← e8, ← e9, ← e11, ← e12, ← e13, nth_d e14, ← e15]
                  intros; first | exact KD.mk | exact KD.mkN
                · intro tm hr
                  simp [AllL, rdV] at hr
                  simp [hr, nth_d e7, ← e8, ← e9, ← e11, ← e12, ← e13, nth_d e14, ← e15]
                  intros; first | exact KD.mk | exact KD.mkN
                · intro tm hr
                  simp [AllL, rdV] at hr
                  simp [hr, nth_d e7, ← e8, ← e9, ← e11, ← e12, ← e13, nth_d e14, ← e15]
                  intros; first | exact KD.mk | exact KD.mkN
                · intro tm hr
                  simp [AllL, rdV] at hr
                  simp [hr, nth_d e7, ← e8, ← e9, ← e11, ← e12, ← e13, nth_d e14, ← e15]
                  intros; first | exact KD.mk | exact KD.mkN
                · intro tm hr
                  simp [AllL, rdV] at hr
                  simp [hr, nth_d e7, ← e8, ← e9, ← e11, ← e12, ← e13, nth_d e14, ← e15]
                  intros; first | exact KD.mk | exact KD.mkN
                · intro tm hr
                  simp [AllL, rdV] at hr
                  simp [hr, nth_d e7, ← e8, ← e9, ← e11, ← e12, ← e13, nth_d e14, ← e15]
                  intros; first | exact KD.mk | exact KD.mkN
                · intro tm hr
                  simp [AllL, rdV] at hr
                  simp [hr, nth_d e7, ← e8, ← e9, ← e11, ← e12, ← e13, nth_d e14, ← e15]
                  intros
                  refine xcall_plain en_r5_MayItem (s_r5_MayItem e10) rfl ⟨.same rfl, trivial⟩ ?_
                  try simp [nth_d e7, ← e8, ← e9, ← e11, ← e12, ← e13, nth_d e14, ← e15]
                  intros; first | exact KD.mk | exact KD.mkN
                · intro tm hr
                  simp [AllL, rdV] at hr
                  simp [hr, nth_d e7, ← e8, ← e9, ← e11, ← e12, ← e13, nth_d e14, ← e15]
                  intros; first | exact KD.mk | exact KD.mkN
                · intro tm hr
                  simp [AllL, rdV] at hr
                  simp [hr, nth_d e7, ← e8, ← e9, ← e11, ← e12, ← e13, nth_d e14, ← e15]
                  intros; first | exact KD.mk | exact KD.mkN
                · intro tm hr
                  simp [AllL, rdV] at hr
                  simp [hr, nth_d e7, ← e8, ← e9, ← e11, ← e12, ← e13, nth_d e14, ← e15]
                  intros; first | exact KD.mk | exact KD.mkN
                · intro tm hr
                  simp [AllL, rdV] at hr
                  simp [hr, nth_d e7, ← e8, ← e9, ← e11, ← e12, ← e13, nth_d e14, ← e15]
                  intros; first | exact KD.mk | exact KD.mkN
                · intro tm hr
                  simp [AllL, rdV] at hr
                  simp [hr, nth_d e7, ← e8, ← e9, ← e11, ← e12, ← e13, nth_d e14, ← e15]
                  intros; first | exact KD.mk | exact KD.mkN
                · intro tm hr
                  simp [AllL, rdV] at hr
                  simp [hr, nth_d e7, ← e8, ← e9, ← e11, ← e12, ← e13, nth_d e14, ← e15]
                  intros; first | exact KD.mk | exact KD.mkN
                · intro tm hr
                  simp [AllL, rdV] at hr
                  simp [hr, nth_d e7, ← e8, ← e9, ← e11, ← e12, ← e13, nth_d e14, ← e15]
                  intros; first | exact KD.mk | exact KD.mkN
                · intro tm hr
                  simp [AllL, rdV] at hr
                  simp [hr, nth_d e7, ← e8, ← e9, ← e11, ← e12, ← e13, nth_d e14, ← e15]
                  intros; first | exact KD.mk | exact KD.mkN
                · intro tm hr
                  simp [AllL, rdV] at hr
                  simp [hr, nth_d e7, ← e8, ← e9, ← e11, ← e12, ← e13, nth_d e14, ← e15]
                  intros; first | exact KD.mk | exact KD.mkN
                · intro tm hr
                  simp [AllL, rdV] at hr
                  simp [hr, nth_d e7, ← e8, ← e9, ← e11, ← e12, ← e13, nth_d e14, ← e15]
                  intros; first | exact KD.mk | exact KD.mkN
                · intro tm hr
                  simp [AllL, rdV] at hr
                  simp [hr, nth_d e7, ← e8, ← e9, ← e11, ← e12, ← e13, nth_d e14, ← e15]
                  intros; first | exact KD.mk | exact KD.mkN
                · intro tm hr
                  simp [AllL, rdV] at hr
                  simp [hr, nth_d e7, ← e8, ← e9, ← e11, ← e12, ← e13, nth_d e14, ← e15]
                  intros; first | exact KD.mk | exact KD.mkN
                · intro tm hr
                  simp [AllL, rdV] at hr
                  simp [hr, nth_d e7, ← e8, ← e9, ← e11, ← e12, ← e13, nth_d e14, ← e15]
                  intros; first | exact KD.mk | exact KD.mkN
                · intro tm hr
                  simp [AllL, rdV] at hr
                  simp [hr, nth_d e7, ← e8, ← e9, ← e11, ← e12, ← e13, nth_d e14, ← e15]
                  intros; first | exact KD.mk | exact KD.mkN
                · intro tm hr
                  simp [AllL, rdV] at hr
                  simp [hr, nth_d e7, ← e8, ← e9, ← e11, ← e12, ← e13, nth_d e14, ← e15]
                  intros; first | exact KD.mk | exact KD.mkN
                · intro tm hr
                  simp [AllL, rdV] at hr
                  simp [hr, nth_d e7, ← e8, ← e9, ← e11, ← e12, ← e13, nth_d e14, ← e15]
                  intros; first | exact KD.mk | exact KD.mkN
                · intro tm hr
                  simp [AllL, rdV] at hr
                  simp [hr, nth_d e7, ← e8, ← e9, ← e11, ← e12, ← e13, nth_d e14, ← e15]
                  intros; first | exact KD.mk | exact KD.mkN
              · rfl
              · simp [tmD, putD, nth_d e7, ← e8, ← e9, ← e11, ← e12, ← e13, nth_d e14, ← e15]; rfl
              · simp [nth_d e7, ← e8, ← e9, ← e11, ← e12, ← e13, nth_d e14, ← e15]
                intros; rfl
              obtain rfl := Option.some.inj h
              refine nP_i ?_
              refine Weak.mixN [] hn0 (by decide) ?_ ?_ rfl
              all_goals first | (simp [inv_cons, inv_nil, pickOb]; done) | rfl
            | false =>
              replace h := iteF rfl h
              apply AW.drawnR (V := [_, _, _, _, _, _, _, _, _, _, _, _, _, _, _, _, _, _, _, _, _, _, _, _, _, _, _, _, _, _, _]) mixed [⟨[0], [], [(0, none)], false⟩, ⟨[0], [], [(3, none)], false⟩, ⟨[0], [0, 1], [(10, some 0), (11, some 1)], false⟩, ⟨[0], [0, 1, 2], [(12, some 2)], false⟩, ⟨[0], [0, 1, 2, 3], [(13, some 3)], false⟩, ⟨[0], [0, 1, 2, 3, 4], [(14, some 4)], false⟩, ⟨[0], [0, 1, 2, 3, 4, 5], [(15, some 5)], false⟩, ⟨[0], [0, 1, 2, 3, 4, 5, 6], [(16, some 6)], false⟩, ⟨[0], [0, 1, 2, 3, 4, 5, 6, 7], [(0, none), (17, some 7)], false⟩, ⟨[0], [0, 1, 2, 3, 4, 5, 6, 7], [(3, none), (17, some 7)], false⟩, ⟨[0], [0, 1, 2, 3, 4, 5, 6, 7, 8, 9], [(17, some 7), (18, some 8), (19, some 9)], false⟩, ⟨[0], [0, 1, 2, 3, 4, 5, 6, 7, 8, 9, 10], [(17, some 7), (20, some 10)], false⟩, ⟨[0], [0, 1, 2, 3, 4, 5, 6, 7, 8, 9, 10, 11], [(17, some 7), (21, some 11)], false⟩, ⟨[0], [0, 1, 2, 3, 4, 5, 6, 7, 8, 9, 10, 11, 12], [(17, some 7), (22, some 12)], false⟩, ⟨[0], [0, 1, 2, 3, 4, 5, 6, 7, 8, 9, 10, 11, 12, 13], [(17, some 7), (23, some 13)], false⟩, ⟨[0], [0, 1, 2, 3, 4, 5, 6, 7, 8, 9, 10, 11, 12, 13, 14], [(17, some 7), (24, some 14)], false⟩, ⟨[0], [0, 1, 2, 3, 4, 5, 6, 7, 8, 9, 10, 11, 12, 13, 14, 15], [(25, some 15)], false⟩, ⟨[0], [0, 1, 2, 3, 4, 5, 6, 7, 8, 9, 10, 11, 12, 13, 14, 15, 16], [(3, none), (26, some 16)], false⟩, ⟨[0], [0, 1, 2, 3, 4, 5, 6, 7, 8, 9, 10, 11, 12, 13, 14, 15, 16, 17], [(26, some 16), (27, some 17)], false⟩, ⟨[0], [0, 1, 2, 3, 4, 5, 6, 7, 8, 9, 10, 11, 12, 13, 14, 15, 16, 17, 18], [(26, some 16), (28, some 18)], false⟩, ⟨[0], [0, 1, 2, 3, 4, 5, 6, 7, 8, 9, 10, 11, 12, 13, 14, 15, 16, 17, 18, 19], [(0, none), (29, some 19)], false⟩, ⟨[0], [0, 1, 2, 3, 4, 5, 6, 7, 8, 9, 10, 11, 12, 13, 14, 15, 16, 17, 18, 19], [(3, none), (29, some 19)], false⟩, ⟨[0], [0, 1, 2, 3, 4, 5, 6, 7, 8, 9, 10, 11, 12, 13, 14, 15, 16, 17, 18, 19, 21], [(29, some 19), (31, some 21)], false⟩, ⟨[0], [0, 1, 2, 3, 4, 5, 6, 7, 8, 9, 10, 11, 12, 13, 14, 15, 16, 17, 18, 19, 20, 21, 22], [(29, some 19), (30, some 20), (32, some 22)], false⟩, ⟨[0], [0, 1, 2, 3, 4, 5, 6, 7, 8, 9, 10, 11, 12, 13, 14, 15, 16, 17, 18, 19, 20, 21, 22, 23], [(29, some 19), (33, some 23)], false⟩, ⟨[0], [0, 1, 2, 3, 4, 5, 6, 7, 8, 9, 10, 11, 12, 13, 14, 15, 16, 17, 18, 19, 20, 21, 22, 23, 24], [(29, some 19), (34, some 24)], false⟩, ⟨[0], [0, 1, 2, 3, 4, 5, 6, 7, 8, 9, 10, 11, 12, 13, 14, 15, 16, 17, 18, 19], [(0, none), (29, some 19)], false⟩, ⟨[0], [0, 1, 2, 3, 4, 5, 6, 7, 8, 9, 10, 11, 12, 13, 14, 15, 16, 17, 18, 19], [(3, none), (29, some 19)], false⟩, ⟨[0], [0, 1, 2, 3, 4, 5, 6, 7, 8, 9, 10, 11, 12, 13, 14, 15, 16, 17, 18, 19, 26, 27], [(29, some 19), (36, some 26), (37, some 27)], false⟩, ⟨[0], [0, 1, 2, 3, 4, 5, 6, 7, 8, 9, 10, 11, 12, 13, 14, 15, 16, 17, 18, 19, 26, 27, 28], [(29, some 19), (38, some 28)], false⟩, ⟨[0], [0, 1, 2, 3, 4, 5, 6, 7, 8, 9, 10, 11, 12, 13, 14, 15, 16, 17, 18, 19, 26, 27, 28, 29], [(29, some 19), (39, some 29)], false⟩, ⟨[], [0, 1, 2, 3, 4, 5, 6, 7, 8, 9, 10, 11, 12, 13, 14, 15, 16, 17, 18, 19, 20, 21, 22, 23, 24, 25, 26, 27, 28, 29, 30], [], false⟩, ⟨[], [0, 1, 2, 3, 4, 5, 6, 7, 8, 9, 10, 11, 12, 13, 14, 15, 16, 17, 18, 19, 20, 21, 22, 23, 24, 25, 26, 27, 28, 29, 30, 31], [], false⟩, ⟨[], [0, 1, 2, 3, 4, 5, 6, 7, 8, 9, 10, 11, 12, 13, 14, 15, 16, 17, 18, 19, 20, 21, 22, 23, 24, 25, 26, 27, 28, 29, 30, 31, 32], [], false⟩] 31 (by kernel_rfl) (by kernel_rfl)
              · refine ⟨?_, ?_, ?_, ?_, ?_, ?_, ?_, ?_, ?_, ?_, ?_, ?_, ?_, ?_, ?_, ?_, ?_, ?_, ?_, ?_, ?_, ?_, ?_, ?_, ?_, ?_, ?_, ?_, ?_, ?_, ?_, trivial⟩
                · intro tm hr
                  simp [AllL, rdV] at hr
                  simp [hr, nth_d e7, ← e8, ← e9, ← e11, ← e12]
                  intros; first | exact KD.mk | exact KD.mkN
                · intro tm hr
                  simp [AllL, rdV] at hr
                  simp [hr, nth_d e7, ← e8, ← e9, ← e11, ← e12]
                  intros; first | exact KD.mk | exact KD.mkN
                · intro tm hr
                  simp [AllL, rdV] at hr
                  simp [hr, nth_d e7, ← e8, ← e9, ← e11, ← e12]
                  intros; first | exact KD.mk | exact KD.mkN
                · intro tm hr
                  simp [AllL, rdV] at hr
                  simp [hr, nth_d e7, ← e8, ← e9, ← e11, ← e12]
                  intros; first | exact KD.mk | exact KD.mkN
                · intro tm hr
                  simp [AllL, rdV] at hr
                  simp [hr, nth_d e7, ← e8, ← e9, ← e11, ← e12]
                  intros; first | exact KD.mk | exact KD.mkN
                · intro tm hr
                  simp [AllL, rdV] at hr
                  simp [hr, nth_d e7, ← e8, ← e9, ← e11, ← e12]
                  intros; first | exact KD.mk | exact KD.mkN
                · intro tm hr
                  simp [AllL, rdV] at hr
                  simp [hr, nth_d e7, ← e8, ← e9, ← e11, ← e12]
                  intros; first | exact KD.mk | exact KD.mkN
                · intro tm hr
                  simp [AllL, rdV] at hr
                  simp [hr, nth_d e7, ← e8, ← e9, ← e11, ← e12]
                  intros; first | exact KD.mk | exact KD.mkN
                · intro tm hr
                  simp [AllL, rdV] at hr
                  simp [hr, nth_d e7, ← e8, ← e9, ← e11, ← e12]
                  intros; first | exact KD.mk | exact KD.mkN
                · intro tm hr
                  simp [AllL, rdV] at hr
                  simp [hr, nth_d e7, ← e8, ← e9, ← e11, ← e12]
                  intros; first | exact KD.mk | exact KD.mkN
                · intro tm hr
                  simp [AllL, rdV] at hr
                  simp [hr, nth_d e7, ← e8, ← e9, ← e11, ← e12]
                  intros; first | exact KD.mk | exact KD.mkN
                · intro tm hr
                  simp [AllL, rdV] at hr
                  simp [hr, nth_d e7, ← e8, ← e9, ← e11, ← e12]
                  intros; first | exact KD.mk | exact KD.mkN
                · intro tm hr
                  simp [AllL, rdV] at hr
                  simp [hr, nth_d e7, ← e8, ← e9, ← e11, ← e12]
                  intros; first | exact KD.mk | exact KD.mkN
                · intro tm hr
                  simp [AllL, rdV] at hr
                  simp [hr, nth_d e7, ← e8, ← e9, ← e11, ← e12]
                  intros
                  refine xcall_plain en_r5_MayItem (s_r5_MayItem e10) rfl ⟨.same rfl, trivial⟩ ?_
                  try simp [nth_d e7, ← e8, ← e9, ← e11, ← e12]
                  intros; first | exact KD.mk | exact KD.mkN
                · intro tm hr
                  simp [AllL, rdV] at hr
                  simp [hr, nth_d e7, ← e8, ← e9, ← e11, ← e12]
                  intros; first | exact KD.mk | exact KD.mkN
                · intro tm hr
                  simp [AllL, rdV] at hr
                  simp [hr, nth_d e7, ← e8, ← e9, ← e11, ← e12]
                  intros; first | exact KD.mk | exact KD.mkN
                · intro tm hr
                  simp [AllL, rdV] at hr
                  simp [hr, nth_d e7, ← e8, ← e9, ← e11, ← e12]
                  intros; first | exact KD.mk | exact KD.mkN
                · intro tm hr
                  simp [AllL, rdV] at hr
                  simp [hr, nth_d e7, ← e8, ← e9, ← e11, ← e12]
                  intros; first | exact KD.mk | exact KD.mkN
                · intro tm hr
                  simp [AllL, rdV] at hr
                  simp [hr, nth_d e7, ← e8, ← e9, ← e11, ← e12]
                  intros; first | exact KD.mk | exact KD.mkN
                · intro tm hr
                  simp [AllL, rdV] at hr
                  simp [hr, nth_d e7, ← e8, ← e9, ← e11, ← e12]
                  intros; first | exact KD.mk | exact KD.mkN
                · intro tm hr
                  simp [AllL, rdV] at hr
                  simp [hr, nth_d e7, ← e8, ← e9, ← e11, ← e12]
                  intros; first | exact KD.mk | exact KD.mkN
                · intro tm hr
                  simp [AllL, rdV] at hr
                  simp [hr, nth_d e7, ← e8, ← e9, ← e11, ← e12]
                  intros; first | exact KD.mk | exact KD.mkN
                · intro tm hr
                  simp [AllL, rdV] at hr
                  simp [hr, nth_d e7, ← e8, ← e9, ← e11, ← e12]
                  intros; first | exact KD.mk | exact KD.mkN
                · intro tm hr
                  simp [AllL, rdV] at hr
                  simp [hr, nth_d e7, ← e8, ← e9, ← e11, ← e12]
                  intros; first | exact KD.mk | exact KD.mkN
                · intro tm hr
                  simp [AllL, rdV] at hr
                  simp [hr, nth_d e7, ← e8, ← e9, ← e11, ← e12]
                  intros; first | exact KD.mk | exact KD.mkN
                · intro tm hr
                  simp [AllL, rdV] at hr
                  simp [hr, nth_d e7, ← e8, ← e9, ← e11, ← e12]
                  intros; first | exact KD.mk | exact KD.mkN
                · intro tm hr
                  simp [AllL, rdV] at hr
                  simp [hr, nth_d e7, ← e8, ← e9, ← e11, ← e12]
                  intros; first | exact KD.mk | exact KD.mkN
                · intro tm hr
                  simp [AllL, rdV] at hr
                  simp [hr, nth_d e7, ← e8, ← e9, ← e11, ← e12]
                  intros; first | exact KD.mk | exact KD.mkN
                · intro tm hr
                  simp [AllL, rdV] at hr
                  simp [hr, nth_d e7, ← e8, ← e9, ← e11, ← e12]
                  intros; first | exact KD.mk | exact KD.mkN
                · intro tm hr
                  simp [AllL, rdV] at hr
                  simp [hr, nth_d e7, ← e8, ← e9, ← e11, ← e12]
                  intros; first | exact KD.mk | exact KD.mkN
                · intro tm hr
                  simp [AllL, rdV] at hr
                  simp [hr, nth_d e7, ← e8, ← e9, ← e11, ← e12]
                  intros; first | exact KD.mk | exact KD.mkN
              · rfl
              · simp [tmD, putD, nth_d e7, ← e8, ← e9, ← e11, ← e12]; rfl
              · simp [nth_d e7, ← e8, ← e9, ← e11, ← e12]
                intros; rfl
              obtain rfl := Option.some.inj h
              refine nP_i ?_
              refine Weak.mixN [] hn0 (by decide) ?_ ?_ rfl
              all_goals first | (simp [inv_cons, inv_nil, pickOb]; done) | rfl
      · rintro e s hp
        obtain ⟨rfl, hw⟩ := hp
        refine ⟨_, hw, ?_⟩
        try simp only [sp_l, sp_r, Post.seq, Post.block, Nat.reduceEqDiff, reduceIte, Nat.zero_ne_one, Nat.one_ne_zero]
        replace h := ltE h; obtain ⟨v16, e16, h⟩ := h
        rw [← e16]
        cases v16 with
        | true =>
          replace h := iteT rfl h
          refine AW.cond_true (by simp) ?_
          apply AW.step
          · simp
            intros; rfl
          obtain rfl := Option.some.inj h
          refine AW.ret ?_
          try simp only [sp_l, sp_r, Post.seq, Post.block, Nat.reduceEqDiff, reduceIte, Nat.zero_ne_one, Nat.one_ne_zero]
          refine rP_i ?_
          refine Left.plain hnb (by simp [Try.f47, resV, resC, comp]; rfl) rfl rfl ?_
          simp
        | false =>
          replace h := iteF rfl h
          refine AW.cond_false (by simp) ?_
          refine AW.skip ?_
          try simp only [sp_l, sp_r, Post.seq, Post.block, Nat.reduceEqDiff, reduceIte, Nat.zero_ne_one, Nat.one_ne_zero]
          try simp only [sp_l, sp_r, Post.seq, Post.block, Nat.reduceEqDiff, reduceIte, Nat.zero_ne_one, Nat.one_ne_zero]
          replace h := ltE h; obtain ⟨v17, e17, h⟩ := h
          apply AW.last
          · simp [← e17]
            intros; rfl
          obtain rfl := Option.some.inj h
          refine nP_i ?_
          refine Weak.mixN [] hn0 (by decide) ?_ ?_ rfl
          all_goals first | (simp [inv_cons, inv_nil, pickOb]; done) | rfl
    | false =>
      replace h := iteF rfl h
      refine AW.cond_false (by simp) ?_
      refine AW.exit ?_
      try simp only [sp_l, sp_r, Post.seq, Post.block, Nat.reduceEqDiff, reduceIte, Nat.zero_ne_one, Nat.one_ne_zero]
      obtain rfl := Option.some.inj h
      try simp only [sp_l, sp_r]
      refine xP_i ?_
      refine Weak.mixN [] hn0 (by decide) ?_ ?_ rfl
      all_goals first | (simp [inv_cons, inv_nil, pickOb]; done) | rfl
  · rintro e s hp
    rcases y2 with y18 | y19
    · replace h := smL h
      obtain ⟨rfl, hw⟩ := hp
      refine ⟨_, hw, ?_⟩
      try simp only [sp_l, sp_r, Post.seq, Post.block, Nat.reduceEqDiff, reduceIte, Nat.zero_ne_one, Nat.one_ne_zero]
      apply AW.step
      · simp
        intros; rfl
      obtain rfl := Option.some.inj h
      refine AW.ret ?_
      refine Left.plain hnb (by simp [Try.f47, resV, resC, comp]; rfl) rfl rfl ?_
      simp
    · replace h := smR h
      obtain ⟨rfl, hl⟩ := hp
      refine ⟨_, Weak.refl _, ?_⟩
      obtain rfl := Option.some.inj h
      exact hl
theorem en_r5_MaySpace : Enters Try.prog 47 := enters Try.func47 (by kernel_rfl) rfl
end Go.Proofs.Ytlkhfdccapkcdaa

