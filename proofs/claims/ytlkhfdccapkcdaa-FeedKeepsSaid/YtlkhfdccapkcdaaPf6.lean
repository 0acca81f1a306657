/- Part 6 of the proof. -/
import Derived.Test.YtlkhfdccapkcdaaPf5
import Derived.Test.YtlkhfdccapkcdaaRows
import Derived.ProofKit
/- Walks, printed: l15_awake, r1_Digits, l11_Key, r5_HSet, r5_SHas, r5_SAdd, r5_SHas_tf, r5_SAdd_tf, l5_Make, l11_Effects, r5_SameFields, r1_Texts, r5_SameItem, r5_SameE -/
namespace Go.Proofs.Ytlkhfdccapkcdaa
open Go Go.RowKit
set_option linter.unusedVariables false
set_option linter.unusedSimpArgs false
def l15_awake_sh (n : Nat)  : Option Bool :=
bn (feed_Answer_sh n (⟨(⟨0, 0⟩ : Rid), 0, [], (⟨0, 0⟩ : Rid), 0⟩ : Feed) [] (⟨0, 0⟩ : Rid) 0) fun v1 =>
bn (feed_Add_sh n (⟨(⟨0, 0⟩ : Rid), 0, [], (⟨0, 0⟩ : Rid), 0⟩ : Feed) [(⟨⟨#[97]⟩, true, (⟨0, ⟨#[]⟩, [], [], 0⟩ : Item)⟩ : Effect)]) fun v2 =>
bn (lt (eqI v1.kind 5) fun v4 =>
ite' v4 (lt (lenI v1.effects) fun v5 =>
lt (eqI v5 0) fun v6 =>
ite' v6 (lt (eqI v2.off 1) fun v7 =>
ite' v7 (lt (lenI v2.back) fun v8 =>
lt (eqI v8 1) fun v9 =>
some (v9)) (some (false))) (some (false))) (some (false))) fun (y3 : Bool) =>
some y3
set_option maxRecDepth 8000 in
set_option maxHeartbeats 8000000 in
theorem s_l15_awake {n : Nat}  {r : Bool} (h : l15_awake_sh n  = some r) : Sound Try.prog 15 [] [] (.l (.s (.bool r))) [] := by
  unfold l15_awake_sh at h
  refine Sound.of_aw (fn := Try.f15) (c := _) Try.func15 rfl (by simp [Try.f15]) fun cx hG hnb => ?_
  rw [show Try.f15.ntmps = 30 from rfl]
  have hn0 : cx.nb = 0 := hnb
  simp only [st0_mk, initTm, List.map_cons, List.map_nil]
  apply AW.step
  · simp
    intros; rfl
  replace h := bnE h; obtain ⟨v1, e1, h⟩ := h
  apply AW.step
  · simp
    intros
    refine xcall_plain en_feed_Answer (s_feed_Answer e1) rfl ⟨.g ⟨.s _, .s _, .s _, .nil _ _, .s _, .s _, .s _, trivial⟩, .nil _ _, .same rfl, .same rfl, trivial⟩ ?_
    try simp
    intros; rfl
  replace h := bnE h; obtain ⟨v2, e2, h⟩ := h
  apply AW.step
  · simp
    intros
    refine xrow_data (es := encEffect [(⟨⟨#[97]⟩, true, (⟨0, ⟨#[]⟩, [], [], 0⟩ : Item)⟩ : Effect)]) (by simp [encEffect, lvs, All2]) (encEffect_sz _) (by omega) (by simp) ?_
    try simp
    intros
    refine xcall_plain en_feed_Add (s_feed_Add e2) rfl ⟨.g ⟨.s _, .s _, .s _, .nil _ _, .s _, .s _, .s _, trivial⟩, .same rfl, trivial⟩ ?_
    try simp
    intros; rfl
  replace h := bnE h; obtain ⟨y3, g3, h⟩ := h
  refine AW.flow (p := fun gh ls => (nP (cx := cx) (fun q => (⟨[(0, .l (.s (.bool q)))], [], 30, gh, ls⟩ : St))) y3) ?_ ?_
  · replace h := g3; clear g3
    replace h := ltE h; obtain ⟨v4, e4, h⟩ := h
    cases v4 with
    | true =>
      replace h := iteT rfl h
      replace h := ltE h; obtain ⟨v5, e5, h⟩ := h
      replace h := ltE h; obtain ⟨v6, e6, h⟩ := h
      cases v6 with
      | true =>
        replace h := iteT rfl h
        replace h := ltE h; obtain ⟨v7, e7, h⟩ := h
        cases v7 with
        | true =>
          replace h := iteT rfl h
          replace h := ltE h; obtain ⟨v8, e8, h⟩ := h
          replace h := ltE h; obtain ⟨v9, e9, h⟩ := h
          apply AW.last
          · simp [← e4, lenI_cast e5, ← e6, ← e7, lenI_cast e8, ← e9]
            intros; rfl
          obtain rfl := Option.some.inj h
          refine nP_i ?_
          refine Weak.mixN [] hn0 (by decide) ?_ ?_ rfl
          all_goals first | (simp [inv_cons, inv_nil, pickOb]; done) | rfl
        | false =>
          replace h := iteF rfl h
          apply AW.last
          · simp [← e4, lenI_cast e5, ← e6, ← e7]
            intros; rfl
          obtain rfl := Option.some.inj h
          refine nP_i ?_
          refine Weak.mixN [] hn0 (by decide) ?_ ?_ rfl
          all_goals first | (simp [inv_cons, inv_nil, pickOb]; done) | rfl
      | false =>
        replace h := iteF rfl h
        apply AW.last
        · simp [← e4, lenI_cast e5, ← e6]
          intros; rfl
        obtain rfl := Option.some.inj h
        refine nP_i ?_
        refine Weak.mixN [] hn0 (by decide) ?_ ?_ rfl
        all_goals first | (simp [inv_cons, inv_nil, pickOb]; done) | rfl
    | false =>
      replace h := iteF rfl h
      apply AW.last
      · simp [← e4]
        intros; rfl
      obtain rfl := Option.some.inj h
      refine nP_i ?_
      refine Weak.mixN [] hn0 (by decide) ?_ ?_ rfl
      all_goals first | (simp [inv_cons, inv_nil, pickOb]; done) | rfl
  · rintro e s hp
    obtain ⟨rfl, hw⟩ := hp
    refine ⟨_, hw, ?_⟩
    try simp only [sp_l, sp_r, Post.seq, Post.block, Nat.reduceEqDiff, reduceIte, Nat.zero_ne_one, Nat.one_ne_zero]
    obtain rfl := Option.some.inj h
    refine AW.ret ?_
    refine Left.plain hnb (by simp [Try.f15, resV, resC, comp]; rfl) rfl rfl ?_
    simp
theorem en_l15_awake : Enters Try.prog 15 := enters Try.func15 (by kernel_rfl) rfl
def r1_Digits_sh (n : Nat) (a0 : Int) : Option ByteArray :=
lt (cvI .u64 a0) fun v1 =>
bn (lt (ltI a0 0) fun v3 =>
ite' v3 (lt (negI .u64 v1) fun v4 =>
some (v4)) (some (v1))) fun (y2 : Int) =>
bn (iter n (fun (y5 : Int × ByteArray) =>
lt (geI y5.1 10) fun v8 =>
ite' v8 (bn (remI .u64 y5.1 10) fun v9 =>
lt (addI .u64 48 v9) fun v10 =>
lt (cvI .u8 v10) fun v11 =>
lt (strL [v11]) fun v12 =>
bn (catS v12 y5.2) fun v14 =>
bn (quoI .u64 y5.1 10) fun v15 =>
some (.inl (v15, v14))) (some (.inr (y5.1, y5.2)))) (y2, ⟨#[]⟩)) fun (y6 : Int × ByteArray) =>
lt (addI .u64 48 y6.1) fun v16 =>
lt (cvI .u8 v16) fun v17 =>
lt (strL [v17]) fun v18 =>
bn (catS v18 y6.2) fun v20 =>
lt (ltI a0 0) fun v21 =>
ite' v21 (bn (catS ⟨#[45]⟩ v20) fun v22 =>
some v22) (some v20)
set_option maxRecDepth 8000 in
set_option maxHeartbeats 8000000 in
theorem s_r1_Digits {n : Nat} {a0 : Int} {r : ByteArray} (h : r1_Digits_sh n a0 = some r) : Sound Try.prog 25 [.l (.s (.int .i64 a0))] [] (.l (.s (.string r))) [] := by
  unfold r1_Digits_sh at h
  refine Sound.of_aw (fn := Try.f25) (c := _) Try.func25 rfl (by simp [Try.f25]) fun cx hG hnb => ?_
  rw [show Try.f25.ntmps = 35 from rfl]
  have hn0 : cx.nb = 0 := hnb
  simp only [st0_mk, initTm, List.map_cons, List.map_nil]
  apply AW.step
  · simp
    intros; rfl
  replace h := ltE h; obtain ⟨v1, e1, h⟩ := h
  apply AW.step
  · simp [← e1]
    intros; rfl
  replace h := bnE h; obtain ⟨y2, g2, h⟩ := h
  refine AW.flow (p := fun gh ls => (nP (cx := cx) (fun q => (⟨[(0, .l (.s (.int .i64 a0))), (3, .l (.s (.int .u64 q))), (4, .l (.s (.string ⟨#[]⟩)))], [], 35, gh, ls⟩ : St))) y2) ?_ ?_
  · replace h := g2; clear g2
    replace h := ltE h; obtain ⟨v3, e3, h⟩ := h
    apply AW.step
    · simp [← e3]
      intros; rfl
    cases v3 with
    | true =>
      replace h := iteT rfl h
      refine AW.cond_true (by simp) ?_
      replace h := ltE h; obtain ⟨v4, e4, h⟩ := h
      apply AW.last
      · simp [← e4]
        intros; rfl
      obtain rfl := Option.some.inj h
      refine nP_i ?_
      refine Weak.mixN [] hn0 (by decide) ?_ ?_ rfl
      all_goals first | (simp [inv_cons, inv_nil, pickOb]; done) | rfl
    | false =>
      replace h := iteF rfl h
      refine AW.cond_false (by simp) ?_
      refine AW.skip ?_
      try simp only [sp_l, sp_r, Post.seq, Post.block, Nat.reduceEqDiff, reduceIte, Nat.zero_ne_one, Nat.one_ne_zero]
      obtain rfl := Option.some.inj h
      refine nP_i ?_
      refine Weak.mixN [] hn0 (by decide) ?_ ?_ rfl
      all_goals first | (simp [inv_cons, inv_nil, pickOb]; done) | rfl
  · rintro e s hp
    obtain ⟨rfl, hw⟩ := hp
    refine ⟨_, hw, ?_⟩
    try simp only [sp_l, sp_r, Post.seq, Post.block, Nat.reduceEqDiff, reduceIte, Nat.zero_ne_one, Nat.one_ne_zero]
    refine AW.seq ?_
    refine AW.block ?_
    replace h := bnE h; obtain ⟨y6, g6, h⟩ := h
    refine AW.iterP g6 (mk := fun gh ls q => (⟨[(0, .l (.s (.int .i64 a0))), (3, .l (.s (.int .u64 q.1))), (4, .l (.s (.string q.2)))], [], 35, gh, ls⟩ : St)) (N := fun gh ls => (xP 0 (cx := cx) (fun q => (⟨[(0, .l (.s (.int .i64 a0))), (3, .l (.s (.int .u64 q.1))), (4, .l (.s (.string q.2)))], [], 35, gh, ls⟩ : St)))) ?_ noX ?_ ?_
    · refine Weak.mixN [] hn0 (by decide) ?_ ?_ rfl
      all_goals first | (simp [inv_cons, inv_nil, pickOb]; done) | rfl
    · clear h; intro y5 y7 h
      refine AW.seq ?_
      replace h := ltE h; obtain ⟨v8, e8, h⟩ := h
      apply AW.step
      · simp [← e8]
        intros; rfl
      cases v8 with
      | true =>
        replace h := iteT rfl h
        refine AW.cond_true (by simp) ?_
        refine AW.skip ?_
        try simp only [sp_l, sp_r, Post.seq, Post.block, Nat.reduceEqDiff, reduceIte, Nat.zero_ne_one, Nat.one_ne_zero]
        try simp only [sp_l, sp_r, Post.seq, Post.block, Nat.reduceEqDiff, reduceIte, Nat.zero_ne_one, Nat.one_ne_zero]
        refine AW.block ?_
        replace h := bnE h; obtain ⟨v9, e9, h⟩ := h
        replace h := ltE h; obtain ⟨v10, e10, h⟩ := h
        replace h := ltE h; obtain ⟨v11, e11, h⟩ := h
        replace h := ltE h; obtain ⟨v12, e12, h⟩ := h
        have f13 : (⟨#[UInt8.ofNat (v11).toNat]⟩ : ByteArray) = v12 := e12.symm
        replace h := bnE h; obtain ⟨v14, e14, h⟩ := h
        apply AW.step
        · simp [e9, ← e10, ← e11, f13, e14]
          intros
          refine xrow_own ?_
          try simp [e9, ← e10, ← e11, f13, e14]
          intros; rfl
        replace h := bnE h; obtain ⟨v15, e15, h⟩ := h
        apply AW.last
        · simp [e15]
          intros; rfl
        obtain rfl := Option.some.inj h
        refine nP_i ?_
        refine Weak.mixN [] hn0 (by decide) ?_ ?_ rfl
        all_goals first | (simp [inv_cons, inv_nil, pickOb, lvs_encU1]; done) | rfl
      | false =>
        replace h := iteF rfl h
        refine AW.cond_false (by simp) ?_
        refine AW.exit ?_
        try simp only [sp_l, sp_r, Post.seq, Post.block, Nat.reduceEqDiff, reduceIte, Nat.zero_ne_one, Nat.one_ne_zero]
        obtain rfl := Option.some.inj h
        refine xP_i ?_
        refine Weak.mixN [] hn0 (by decide) ?_ ?_ rfl
        all_goals first | (simp [inv_cons, inv_nil, pickOb]; done) | rfl
    · rintro e s hp
      obtain ⟨rfl, hw⟩ := hp
      refine ⟨_, hw, ?_⟩
      try simp only [sp_l, sp_r, Post.seq, Post.block, Nat.reduceEqDiff, reduceIte, Nat.zero_ne_one, Nat.one_ne_zero]
      replace h := ltE h; obtain ⟨v16, e16, h⟩ := h
      replace h := ltE h; obtain ⟨v17, e17, h⟩ := h
      replace h := ltE h; obtain ⟨v18, e18, h⟩ := h
      have f19 : (⟨#[UInt8.ofNat (v17).toNat]⟩ : ByteArray) = v18 := e18.symm
      replace h := bnE h; obtain ⟨v20, e20, h⟩ := h
      apply AW.step
      · simp [← e16, ← e17, f19, e20]
        intros
        refine xrow_own ?_
        try simp [← e16, ← e17, f19, e20]
        intros; rfl
      refine AW.seq ?_
      replace h := ltE h; obtain ⟨v21, e21, h⟩ := h
      apply AW.step
      · simp [← e21]
        intros; rfl
      cases v21 with
      | true =>
        replace h := iteT rfl h
        refine AW.cond_true (by simp) ?_
        replace h := bnE h; obtain ⟨v22, e22, h⟩ := h
        apply AW.step
        · simp [e22]
          intros; rfl
        obtain rfl := Option.some.inj h
        refine AW.ret ?_
        refine Left.plain hnb (by simp [Try.f25, resV, resC, comp]; rfl) rfl rfl ?_
        simp
      | false =>
        replace h := iteF rfl h
        refine AW.cond_false (by simp) ?_
        refine AW.skip ?_
        try simp only [sp_l, sp_r, Post.seq, Post.block, Nat.reduceEqDiff, reduceIte, Nat.zero_ne_one, Nat.one_ne_zero]
        try simp only [sp_l, sp_r, Post.seq, Post.block, Nat.reduceEqDiff, reduceIte, Nat.zero_ne_one, Nat.one_ne_zero]
        apply AW.step
        · simp
          intros; rfl
        obtain rfl := Option.some.inj h
        refine AW.ret ?_
        refine Left.plain hnb (by simp [Try.f25, resV, resC, comp]; rfl) rfl rfl ?_
        simp
theorem en_r1_Digits : Enters Try.prog 25 := enters Try.func25 (by kernel_rfl) rfl
def l11_Key_sh (n : Nat) (a0 : Int) : Option ByteArray :=
bn (remI .u8 a0 4) fun v1 =>
lt (addI .u8 97 v1) fun v2 =>
lt (strL [v2]) fun v3 =>
bn (catS ⟨#[123]⟩ v3) fun v5 =>
bn (catS v5 ⟨#[125]⟩) fun v6 =>
lt (cvI .i64 a0) fun v7 =>
bn (quoI .i64 v7 4) fun v8 =>
bn (remI .i64 v8 5) fun v9 =>
bn (r1_Digits_sh n v9) fun v10 =>
bn (catS v6 v10) fun v11 =>
some v11
set_option maxRecDepth 8000 in
set_option maxHeartbeats 8000000 in
theorem s_l11_Key {n : Nat} {a0 : Int} {r : ByteArray} (h : l11_Key_sh n a0 = some r) : Sound Try.prog 53 [.l (.s (.int .u8 a0))] [] (.l (.s (.string r))) [] := by
  unfold l11_Key_sh at h
  refine Sound.of_aw (fn := Try.f53) (c := _) Try.func53 rfl (by simp [Try.f53]) fun cx hG hnb => ?_
  rw [show Try.f53.ntmps = 16 from rfl]
  have hn0 : cx.nb = 0 := hnb
  simp only [st0_mk, initTm, List.map_cons, List.map_nil]
  apply AW.step
  · simp
    intros; rfl
  replace h := bnE h; obtain ⟨v1, e1, h⟩ := h
  replace h := ltE h; obtain ⟨v2, e2, h⟩ := h
  replace h := ltE h; obtain ⟨v3, e3, h⟩ := h
  have f4 : (⟨#[UInt8.ofNat (v2).toNat]⟩ : ByteArray) = v3 := e3.symm
  replace h := bnE h; obtain ⟨v5, e5, h⟩ := h
  replace h := bnE h; obtain ⟨v6, e6, h⟩ := h
  replace h := ltE h; obtain ⟨v7, e7, h⟩ := h
  replace h := bnE h; obtain ⟨v8, e8, h⟩ := h
  replace h := bnE h; obtain ⟨v9, e9, h⟩ := h
  replace h := bnE h; obtain ⟨v10, e10, h⟩ := h
  replace h := bnE h; obtain ⟨v11, e11, h⟩ := h
  apply AW.drawnE (V := [_, _, _, _, _, _, _, _, _, _, _, _]) (M := [[], [some ⟨5, 1, true, none, [.s (.int .u8 v2)]⟩]]) mixed [⟨[0], [], [(0, none)], false⟩, ⟨[0], [0], [(3, some 0)], false⟩, ⟨[0], [0, 1], [(4, some 1)], false⟩, ⟨[0], [0, 1, 2], [(5, some 2)], true⟩, ⟨[1], [0, 1, 2, 3], [(6, some 3)], false⟩, ⟨[1], [0, 1, 2, 3, 4], [(7, some 4)], false⟩, ⟨[1], [0, 1, 2, 3, 4, 5], [(8, some 5)], false⟩, ⟨[0, 1], [], [(0, none)], false⟩, ⟨[0, 1], [7], [(10, some 7)], false⟩, ⟨[0, 1], [7, 8], [(11, some 8)], false⟩, ⟨[0, 1], [7, 8, 9], [(12, some 9)], false⟩, ⟨[0, 1], [7, 8, 9, 10], [(13, some 10)], false⟩, ⟨[], [0, 1, 2, 3, 4, 5, 6, 7, 8, 9, 10, 11], [], false⟩, ⟨[], [0, 1, 2, 3, 4, 5, 6, 7, 8, 9, 10, 11, 12], [], false⟩] 12 1 (by kernel_rfl) (by kernel_rfl)
  · rfl
  · refine ⟨?_, ?_, ?_, ?_, ?_, ?_, ?_, ⟨?_, ?_⟩, ⟨?_, ?_⟩, ⟨?_, ?_⟩, ⟨?_, ?_⟩, ⟨?_, ?_⟩, trivial⟩
    · intro tm hr
      simp [AllL, rdV] at hr
      simp [hr, e1, ← e2, f4, e5, e6, ← e7, e8, e9, e11]
      intros; first | exact KD.mk | exact KD.mkN
    · intro tm hr
      simp [AllL, rdV] at hr
      simp [hr, e1, ← e2, f4, e5, e6, ← e7, e8, e9, e11]
      intros; first | exact KD.mk | exact KD.mkN
    · intro tm hr
      simp [AllL, rdV] at hr
      simp [hr, e1, ← e2, f4, e5, e6, ← e7, e8, e9, e11]
      intros; first | exact KD.mk | exact KD.mkN
    · intro tm hr
      simp [AllL, rdV] at hr
      simp [hr, e1, ← e2, f4, e5, e6, ← e7, e8, e9, e11]
      intros
      refine xrow_own ?_
      try simp [e1, ← e2, f4, e5, e6, ← e7, e8, e9, e11]
      intros; first | exact KD.mk | exact KD.mkN
    · intro tm hr
      simp [AllL, rdV] at hr
      simp [hr, e1, ← e2, f4, e5, e6, ← e7, e8, e9, e11]
      intros; first | exact KD.mk | exact KD.mkN
    · intro tm hr
      simp [AllL, rdV] at hr
      simp [hr, e1, ← e2, f4, e5, e6, ← e7, e8, e9, e11]
      intros; first | exact KD.mk | exact KD.mkN
    · intro tm hr
      simp [AllL, rdV] at hr
      simp [hr, e1, ← e2, f4, e5, e6, ← e7, e8, e9, e11]
      intros; first | exact KD.mk | exact KD.mkN
    · intro tm hr
      simp [AllL, rdV] at hr
      simp [hr, e1, ← e2, f4, e5, e6, ← e7, e8, e9, e11]
      intros; first | exact KD.mk | exact KD.mkN
    · intro tm hr
      simp [AllL, rdV] at hr
      simp [hr, e1, ← e2, f4, e5, e6, ← e7, e8, e9, e11]
      intros; first | exact KD.mk | exact KD.mkN
    · intro tm hr
      simp [AllL, rdV] at hr
      simp [hr, e1, ← e2, f4, e5, e6, ← e7, e8, e9, e11]
      intros; first | exact KD.mk | exact KD.mkN
    · intro tm hr
      simp [AllL, rdV] at hr
      simp [hr, e1, ← e2, f4, e5, e6, ← e7, e8, e9, e11]
      intros; first | exact KD.mk | exact KD.mkN
    · intro tm hr
      simp [AllL, rdV] at hr
      simp [hr, e1, ← e2, f4, e5, e6, ← e7, e8, e9, e11]
      intros; first | exact KD.mk | exact KD.mkN
    · intro tm hr
      simp [AllL, rdV] at hr
      simp [hr, e1, ← e2, f4, e5, e6, ← e7, e8, e9, e11]
      intros; first | exact KD.mk | exact KD.mkN
    · intro tm hr
      simp [AllL, rdV] at hr
      simp [hr, e1, ← e2, f4, e5, e6, ← e7, e8, e9, e11]
      intros; first | exact KD.mk | exact KD.mkN
    · intro tm hr
      simp [AllL, rdV] at hr
      simp [hr, e1, ← e2, f4, e5, e6, ← e7, e8, e9, e11]
      intros; first | exact KD.mk | exact KD.mkN
    · intro tm hr
      simp [AllL, rdV] at hr
      simp [hr, e1, ← e2, f4, e5, e6, ← e7, e8, e9, e11]
      intros
      refine xcall_plain en_r1_Digits (s_r1_Digits e10) rfl ⟨.same rfl, trivial⟩ ?_
      try simp [e1, ← e2, f4, e5, e6, ← e7, e8, e9, e11]
      intros; first | exact KD.mk | exact KD.mkN
    · intro tm hr
      simp [AllL, rdV] at hr
      simp [hr, e1, ← e2, f4, e5, e6, ← e7, e8, e9, e11]
      intros
      refine xcall_plain en_r1_Digits (s_r1_Digits e10) rfl ⟨.same rfl, trivial⟩ ?_
      try simp [e1, ← e2, f4, e5, e6, ← e7, e8, e9, e11]
      intros; first | exact KD.mk | exact KD.mkN
  · rfl
  · simp [tmD, putD, e1, ← e2, f4, e5, e6, ← e7, e8, e9, e11]; rfl
  · simp [e1, ← e2, f4, e5, e6, ← e7, e8, e9, e11]
    intros; rfl
  obtain rfl := Option.some.inj h
  refine AW.ret ?_
  refine Left.plain hnb (by simp [Try.f53, resV, resC, comp]; rfl) rfl rfl ?_
  simp
theorem en_l11_Key : Enters Try.prog 53 := enters Try.func53 (by kernel_rfl) rfl
def r5_HSet_sh (n : Nat) (a0 : List Field) (a1 : ByteArray) (a2 : ByteArray) : Option (List Field) :=
bn (iter n (fun (y1 : Bool × Int × List Field) =>
lt (lenI a0) fun v4 =>
lt (ltI y1.2.1 v4) fun v5 =>
ite' v5 (bn (bn (bn (lt (notB y1.1) fun v9 =>
ite' v9 (bn (nth a0 y1.2.1) fun v10 =>
lt (geS v10.name a1) fun v11 =>
some (v11)) (some (false))) fun (y8 : Bool) =>
lt (y8) fun v12 =>
ite' v12 (chk (room (y1.2.2.length + 1) 32) <|
lt (y1.2.2 ++ [(⟨a1, a2⟩ : Field)]) fun v14 =>
some ((true, v14))) (some ((y1.1, y1.2.2)))) fun (y7 : Bool × List Field) =>
bn (nth a0 y1.2.1) fun v15 =>
lt (neS v15.name a1) fun v16 =>
ite' v16 (chk (room (y7.2.length + 1) 32) <|
lt (y7.2 ++ [v15]) fun v18 =>
some ((y7.1, v18))) (some ((y7.1, y7.2)))) fun (y6 : Bool × List Field) =>
lt (addI .i64 y1.2.1 1) fun v19 =>
some (.inl (y6.1, v19, y6.2))) (some (.inr (y1.1, y1.2.2)))) (false, 0, [])) fun (y2 : Bool × List Field) =>
bn (lt (notB y2.1) fun v21 =>
ite' v21 (chk (room (y2.2.length + 1) 32) <|
lt (y2.2 ++ [(⟨a1, a2⟩ : Field)]) fun v23 =>
some (v23)) (some (y2.2))) fun (y20 : List Field) =>
chk (room y20.length 1) <|
some y20
set_option maxRecDepth 8000 in
set_option maxHeartbeats 8000000 in
theorem s_r5_HSet {n : Nat} {a0 : List Field} {a1 : ByteArray} {a2 : ByteArray} {r : List Field} (h : r5_HSet_sh n a0 a1 a2 = some r) : Sound Try.prog 29 [.l (.d false 2 (encField a0)), .l (.s (.string a1)), .l (.s (.string a2))] [] (.l (.d false 2 (encField r))) [] := by
  unfold r5_HSet_sh at h
  refine Sound.of_aw (fn := Try.f29) (c := _) Try.func29 rfl (by simp [Try.f29]) fun cx hG hnb => ?_
  rw [show Try.f29.ntmps = 56 from rfl]
  have hn0 : cx.nb = 0 := hnb
  simp only [st0_mk, initTm, List.map_cons, List.map_nil]
  apply AW.step
  · simp
    intros; rfl
  apply AW.step
  · simp
    intros; rfl
  apply AW.step
  · simp
    intros; rfl
  refine AW.seq ?_
  apply AW.step
  · simp
    intros; rfl
  refine AW.block ?_
  replace h := bnE h; obtain ⟨y2, g2, h⟩ := h
  refine AW.iterP g2 (mk := fun gh ls q => (⟨[(0, .l (.d false 2 (encField a0))), (1, .l (.s (.string a1))), (2, .l (.s (.string a2))), (7, .l (.r 0 2 0 q.2.2.length)), (8, .l (.s (.bool q.1))), (9, .l (.s (.int .i64 q.2.1)))], [some ⟨105, 2, true, none, lvs (encField q.2.2)⟩], 56, gh, ls⟩ : St)) (N := fun gh ls => (xP 0 (cx := cx) (fun q => (⟨[(1, .l (.s (.string a1))), (2, .l (.s (.string a2))), (7, .l (.r 0 2 0 q.2.length)), (8, .l (.s (.bool q.1)))], [some ⟨105, 2, true, none, lvs (encField q.2)⟩], 56, gh, ls⟩ : St)))) ?_ noX ?_ ?_
  · refine W.nilRow 7 105 2 0 (by simp) rfl rfl ?_
    refine Weak.mixN [some 0] hn0 (by decide) ?_ ?_ rfl
    all_goals first | (simp [inv_cons, inv_nil, pickOb]; done) | rfl
  · clear h; intro y1 y3 h
    refine AW.seq ?_
    replace h := ltE h; obtain ⟨v4, e4, h⟩ := h
    replace h := ltE h; obtain ⟨v5, e5, h⟩ := h
    apply AW.step
    · simp [lenI_cast e4, ← e5]
      intros; rfl
    cases v5 with
    | true =>
      replace h := iteT rfl h
      refine AW.cond_true (by simp) ?_
      refine AW.skip ?_
      try simp only [sp_l, sp_r, Post.seq, Post.block, Nat.reduceEqDiff, reduceIte, Nat.zero_ne_one, Nat.one_ne_zero]
      try simp only [sp_l, sp_r, Post.seq, Post.block, Nat.reduceEqDiff, reduceIte, Nat.zero_ne_one, Nat.one_ne_zero]
      replace h := bnE h; obtain ⟨y6, g6, h⟩ := h
      refine AW.flow (p := fun gh ls => (nP (cx := cx) (fun q => (⟨[(0, .l (.d false 2 (encField a0))), (1, .l (.s (.string a1))), (2, .l (.s (.string a2))), (7, .l (.r 0 2 0 q.2.length)), (8, .l (.s (.bool q.1))), (9, .l (.s (.int .i64 y1.2.1)))], [some ⟨105, 2, true, none, lvs (encField q.2)⟩], 56, gh, ls⟩ : St))) y6) ?_ ?_
      · replace h := g6; clear g6
        refine AW.block ?_
        replace h := bnE h; obtain ⟨y7, g7, h⟩ := h
        refine AW.flow (p := fun gh ls => (nP (cx := cx) (fun q => (⟨[(0, .l (.d false 2 (encField a0))), (1, .l (.s (.string a1))), (2, .l (.s (.string a2))), (7, .l (.r 0 2 0 q.2.length)), (8, .l (.s (.bool q.1))), (9, .l (.s (.int .i64 y1.2.1)))], [some ⟨105, 2, true, none, lvs (encField q.2)⟩], 56, gh, ls⟩ : St))) y7) ?_ ?_
        · replace h := g7; clear g7
          replace h := bnE h; obtain ⟨y8, g8, h⟩ := h
          refine AW.flow (p := fun gh ls => (nP (cx := cx) (fun q => (⟨[(0, .l (.d false 2 (encField a0))), (1, .l (.s (.string a1))), (2, .l (.s (.string a2))), (7, .l (.r 0 2 0 y1.2.2.length)), (8, .l (.s (.bool y1.1))), (9, .l (.s (.int .i64 y1.2.1))), (26, .l (.s (.bool q)))], [some ⟨105, 2, true, none, lvs (encField y1.2.2)⟩], 56, gh, ls⟩ : St))) y8) ?_ ?_
          · replace h := g8; clear g8
            replace h := ltE h; obtain ⟨v9, e9, h⟩ := h
            cases v9 with
            | true =>
              replace h := iteT rfl h
              replace h := bnE h; obtain ⟨v10, e10, h⟩ := h
              replace h := ltE h; obtain ⟨v11, e11, h⟩ := h
              apply AW.last
              · simp [← e9, nth_d e10, ← e11]
                intros; rfl
              obtain rfl := Option.some.inj h
              refine nP_i ?_
              refine Weak.mixN [some 0] hn0 (by decide) ?_ ?_ rfl
              all_goals first | (simp [inv_cons, inv_nil, pickOb]; done) | rfl
            | false =>
              replace h := iteF rfl h
              apply AW.last
              · simp [← e9]
                intros; rfl
              obtain rfl := Option.some.inj h
              refine nP_i ?_
              refine Weak.mixN [some 0] hn0 (by decide) ?_ ?_ rfl
              all_goals first | (simp [inv_cons, inv_nil, pickOb]; done) | rfl
          · rintro e s hp
            obtain ⟨rfl, hw⟩ := hp
            refine ⟨_, hw, ?_⟩
            try simp only [sp_l, sp_r, Post.seq, Post.block, Nat.reduceEqDiff, reduceIte, Nat.zero_ne_one, Nat.one_ne_zero]
            replace h := ltE h; obtain ⟨v12, e12, h⟩ := h
            rw [← e12]
            cases v12 with
            | true =>
              replace h := iteT rfl h
              refine AW.cond_true (by simp) ?_
              replace h := chkE h; obtain ⟨e13, h⟩ := h
              replace h := ltE h; obtain ⟨v14, e14, h⟩ := h
              apply AW.step
              · simp [← encField_append, ← e14, app_len1 e14]
                intros
                refine xrow_own ?_
                try simp [← encField_append, ← e14, app_len1 e14]
                intros
                refine xapp_pushN (acc := encField y1.2.2) (ys := encField [(⟨a1, a2⟩ : Field)]) (cap := none) (k := 1) tb_el31 tb_ti105 (by simp) (by simp [encField, lvs]) (encField_sz _) (by simp) (by simp) (by simpa using (room_d e13).1) ?_
                try simp [← encField_append, ← e14, app_len1 e14]
                intros; rfl
              apply AW.last
              · simp
                intros; rfl
              obtain rfl := Option.some.inj h
              refine nP_i ?_
              refine Weak.mixN [some 2] hn0 (by decide) ?_ ?_ rfl
              all_goals first | (simp [inv_cons, inv_nil, pickOb, lvs_encField1]; done) | rfl
            | false =>
              replace h := iteF rfl h
              refine AW.cond_false (by simp) ?_
              refine AW.skip ?_
              try simp only [sp_l, sp_r, Post.seq, Post.block, Nat.reduceEqDiff, reduceIte, Nat.zero_ne_one, Nat.one_ne_zero]
              obtain rfl := Option.some.inj h
              refine nP_i ?_
              refine Weak.mixN [some 0] hn0 (by decide) ?_ ?_ rfl
              all_goals first | (simp [inv_cons, inv_nil, pickOb]; done) | rfl
        · rintro e s hp
          obtain ⟨rfl, hw⟩ := hp
          refine ⟨_, hw, ?_⟩
          try simp only [sp_l, sp_r, Post.seq, Post.block, Nat.reduceEqDiff, reduceIte, Nat.zero_ne_one, Nat.one_ne_zero]
          replace h := bnE h; obtain ⟨v15, e15, h⟩ := h
          replace h := ltE h; obtain ⟨v16, e16, h⟩ := h
          apply AW.step
          · simp [nth_d e15, ← e16]
            intros; rfl
          cases v16 with
          | true =>
            replace h := iteT rfl h
            refine AW.cond_true (by simp) ?_
            replace h := chkE h; obtain ⟨e17, h⟩ := h
            replace h := ltE h; obtain ⟨v18, e18, h⟩ := h
            apply AW.last
            · simp [nth_d e15, ← encField_append, ← e18, app_len1 e18]
              intros
              refine xrow_own ?_
              try simp [nth_d e15, ← encField_append, ← e18, app_len1 e18]
              intros
              refine xapp_pushN (acc := encField y7.2) (ys := encField [v15]) (cap := none) (k := 1) tb_el31 tb_ti105 (by simp) (by simp [encField, lvs]) (encField_sz _) (by simp) (by simp) (by simpa using (room_d e17).1) ?_
              try simp [nth_d e15, ← encField_append, ← e18, app_len1 e18]
              intros; rfl
            obtain rfl := Option.some.inj h
            refine nP_i ?_
            refine Weak.mixN [some 2] hn0 (by decide) ?_ ?_ rfl
            all_goals first | (simp [inv_cons, inv_nil, pickOb, lvs_encField1]; done) | rfl
          | false =>
            replace h := iteF rfl h
            refine AW.cond_false (by simp) ?_
            refine AW.skip ?_
            try simp only [sp_l, sp_r, Post.seq, Post.block, Nat.reduceEqDiff, reduceIte, Nat.zero_ne_one, Nat.one_ne_zero]
            obtain rfl := Option.some.inj h
            refine nP_i ?_
            refine Weak.mixN [some 0] hn0 (by decide) ?_ ?_ rfl
            all_goals first | (simp [inv_cons, inv_nil, pickOb]; done) | rfl
      · rintro e s hp
        obtain ⟨rfl, hw⟩ := hp
        refine ⟨_, hw, ?_⟩
        try simp only [sp_l, sp_r, Post.seq, Post.block, Nat.reduceEqDiff, reduceIte, Nat.zero_ne_one, Nat.one_ne_zero]
        replace h := ltE h; obtain ⟨v19, e19, h⟩ := h
        apply AW.last
        · simp [← e19]
          intros; rfl
        obtain rfl := Option.some.inj h
        refine nP_i ?_
        refine Weak.mixN [some 0] hn0 (by decide) ?_ ?_ rfl
        all_goals first | (simp [inv_cons, inv_nil, pickOb]; done) | rfl
    | false =>
      replace h := iteF rfl h
      refine AW.cond_false (by simp) ?_
      refine AW.exit ?_
      try simp only [sp_l, sp_r, Post.seq, Post.block, Nat.reduceEqDiff, reduceIte, Nat.zero_ne_one, Nat.one_ne_zero]
      obtain rfl := Option.some.inj h
      refine xP_i ?_
      refine Weak.mixN [some 0] hn0 (by decide) ?_ ?_ rfl
      all_goals first | (simp [inv_cons, inv_nil, pickOb]; done) | rfl
  · rintro e s hp
    obtain ⟨rfl, hw⟩ := hp
    refine ⟨_, hw, ?_⟩
    try simp only [sp_l, sp_r, Post.seq, Post.block, Nat.reduceEqDiff, reduceIte, Nat.zero_ne_one, Nat.one_ne_zero]
    replace h := bnE h; obtain ⟨y20, g20, h⟩ := h
    refine AW.flow (p := fun gh ls => (nP (cx := cx) (fun q => (⟨[(7, .l (.r 0 2 0 q.length))], [some ⟨105, 2, true, none, lvs (encField q)⟩], 56, gh, ls⟩ : St))) y20) ?_ ?_
    · replace h := g20; clear g20
      replace h := ltE h; obtain ⟨v21, e21, h⟩ := h
      apply AW.step
      · simp [← e21]
        intros; rfl
      cases v21 with
      | true =>
        replace h := iteT rfl h
        refine AW.cond_true (by simp) ?_
        replace h := chkE h; obtain ⟨e22, h⟩ := h
        replace h := ltE h; obtain ⟨v23, e23, h⟩ := h
        apply AW.last
        · simp [← encField_append, ← e23, app_len1 e23]
          intros
          refine xrow_own ?_
          try simp [← encField_append, ← e23, app_len1 e23]
          intros
          refine xapp_pushN (acc := encField y2.2) (ys := encField [(⟨a1, a2⟩ : Field)]) (cap := none) (k := 1) tb_el31 tb_ti105 (by simp) (by simp [encField, lvs]) (encField_sz _) (by simp) (by simp) (by simpa using (room_d e22).1) ?_
          try simp [← encField_append, ← e23, app_len1 e23]
          intros; rfl
        obtain rfl := Option.some.inj h
        refine nP_i ?_
        refine Weak.mixN [some 2] hn0 (by decide) ?_ ?_ rfl
        all_goals first | (simp [inv_cons, inv_nil, pickOb, lvs_encField1]; done) | rfl
      | false =>
        replace h := iteF rfl h
        refine AW.cond_false (by simp) ?_
        refine AW.skip ?_
        try simp only [sp_l, sp_r, Post.seq, Post.block, Nat.reduceEqDiff, reduceIte, Nat.zero_ne_one, Nat.one_ne_zero]
        obtain rfl := Option.some.inj h
        refine nP_i ?_
        refine Weak.mixN [some 0] hn0 (by decide) ?_ ?_ rfl
        all_goals first | (simp [inv_cons, inv_nil, pickOb]; done) | rfl
    · rintro e s hp
      obtain ⟨rfl, hw⟩ := hp
      refine ⟨_, hw, ?_⟩
      try simp only [sp_l, sp_r, Post.seq, Post.block, Nat.reduceEqDiff, reduceIte, Nat.zero_ne_one, Nat.one_ne_zero]
      apply AW.step
      · simp
        intros; rfl
      replace h := chkE h; obtain ⟨e24, h⟩ := h
      refine AW.frzRow 0 (ty := 105) (cap := none) (sz := 2) (es := encField y20) (by simp) (by omega) (encField_sz _) (by first | exact (room_d e24).2 | simpa using (room_d e24).2 | simp) (by simp [Tm.frz, AV.frz, LV.frz]; rfl) (by simp [Ob.frz, LV.frz]; rfl) rfl ?_
      obtain rfl := Option.some.inj h
      refine AW.ret ?_
      refine Left.plain hnb (by simp [Try.f29, resV, resC, comp]; rfl) rfl rfl ?_
      simp
theorem en_r5_HSet : Enters Try.prog 29 := enters Try.func29 (by kernel_rfl) rfl
def r5_SHas_sh (n : Nat) (a0 : List ByteArray) (a1 : ByteArray) : Option Bool :=
bn (iter n (fun (y1 : Int) =>
lt (lenI a0) fun v4 =>
lt (ltI y1 v4) fun v5 =>
ite' v5 (bn (nth a0 y1) fun v6 =>
lt (eqS v6 a1) fun v7 =>
ite' v7 (some (.inr (.inr true))) (lt (addI .i64 y1 1) fun v8 =>
some (.inl v8))) (some (.inr (.inl ())))) 0) fun (y2 : Unit ⊕ Bool) =>
sm y2 (fun y9 => some false) (fun y10 => some y10)
set_option maxRecDepth 8000 in
set_option maxHeartbeats 8000000 in
theorem s_r5_SHas {n : Nat} {a0 : List ByteArray} {a1 : ByteArray} {r : Bool} (h : r5_SHas_sh n a0 a1 = some r) : Sound Try.prog 59 [.l (.d false 1 (encS a0)), .l (.s (.string a1))] [] (.l (.s (.bool r))) [] := by
  unfold r5_SHas_sh at h
  refine Sound.of_aw (fn := Try.f59) (c := _) Try.func59 rfl (by simp [Try.f59]) fun cx hG hnb => ?_
  rw [show Try.f59.ntmps = 18 from rfl]
  have hn0 : cx.nb = 0 := hnb
  simp only [st0_mk, initTm, List.map_cons, List.map_nil]
  apply AW.step
  · simp
    intros; rfl
  refine AW.seq ?_
  apply AW.step
  · simp
    intros; rfl
  refine AW.block ?_
  replace h := bnE h; obtain ⟨y2, g2, h⟩ := h
  refine AW.iterP g2 (mk := fun gh ls q => (⟨[(0, .l (.d false 1 (encS a0))), (1, .l (.s (.string a1))), (5, .l (.s (.int .i64 q)))], [], 18, gh, ls⟩ : St)) (N := fun gh ls => (sp (xP 0 (cx := cx) (fun _ => (⟨[], [], 18, gh, ls⟩ : St))) (rP (cx := cx) (P := Try.prog) Try.f59 (fun q => .l (.s (.bool q))) (fun q => [])))) ?_ (noS noX noR) ?_ ?_
  · refine Weak.mixN [] hn0 (by decide) ?_ ?_ rfl
    all_goals first | (simp [inv_cons, inv_nil, pickOb]; done) | rfl
  · clear h; intro y1 y3 h
    refine AW.seq ?_
    replace h := ltE h; obtain ⟨v4, e4, h⟩ := h
    replace h := ltE h; obtain ⟨v5, e5, h⟩ := h
    apply AW.step
    · simp [lenI_cast e4, ← e5]
      intros; rfl
    cases v5 with
    | true =>
      replace h := iteT rfl h
      refine AW.cond_true (by simp) ?_
      refine AW.skip ?_
      try simp only [sp_l, sp_r, Post.seq, Post.block, Nat.reduceEqDiff, reduceIte, Nat.zero_ne_one, Nat.one_ne_zero]
      try simp only [sp_l, sp_r, Post.seq, Post.block, Nat.reduceEqDiff, reduceIte, Nat.zero_ne_one, Nat.one_ne_zero]
      refine AW.seq ?_
      refine AW.block ?_
      replace h := bnE h; obtain ⟨v6, e6, h⟩ := h
      replace h := ltE h; obtain ⟨v7, e7, h⟩ := h
      apply AW.step
      · simp [nth_d e6, ← e7]
        intros; rfl
      cases v7 with
      | true =>
        replace h := iteT rfl h
        refine AW.cond_true (by simp) ?_
        apply AW.step
        · simp
          intros; rfl
        obtain rfl := Option.some.inj h
        refine AW.ret ?_
        try simp only [sp_l, sp_r, Post.seq, Post.block, Nat.reduceEqDiff, reduceIte, Nat.zero_ne_one, Nat.one_ne_zero]
        refine rP_i ?_
        refine Left.plain hnb (by simp [Try.f59, resV, resC, comp]; rfl) rfl rfl ?_
        simp
      | false =>
        replace h := iteF rfl h
        refine AW.cond_false (by simp) ?_
        refine AW.skip ?_
        try simp only [sp_l, sp_r, Post.seq, Post.block, Nat.reduceEqDiff, reduceIte, Nat.zero_ne_one, Nat.one_ne_zero]
        try simp only [sp_l, sp_r, Post.seq, Post.block, Nat.reduceEqDiff, reduceIte, Nat.zero_ne_one, Nat.one_ne_zero]
        replace h := ltE h; obtain ⟨v8, e8, h⟩ := h
        apply AW.last
        · simp [← e8]
          intros; rfl
        obtain rfl := Option.some.inj h
        refine nP_i ?_
        refine Weak.mixN [] hn0 (by decide) ?_ ?_ rfl
        all_goals first | (simp [inv_cons, inv_nil, pickOb]; done) | rfl
    | false =>
      replace h := iteF rfl h
      refine AW.cond_false (by simp) ?_
      refine AW.exit ?_
      try simp only [sp_l, sp_r, Post.seq, Post.block, Nat.reduceEqDiff, reduceIte, Nat.zero_ne_one, Nat.one_ne_zero]
      obtain rfl := Option.some.inj h
      try simp only [sp_l, sp_r]
      refine xP_i ?_
      refine Weak.mixN [] hn0 (by decide) ?_ ?_ rfl
      all_goals first | (simp [inv_cons, inv_nil, pickOb]; done) | rfl
  · rintro e s hp
    rcases y2 with y9 | y10
    · replace h := smL h
      obtain ⟨rfl, hw⟩ := hp
      refine ⟨_, hw, ?_⟩
      try simp only [sp_l, sp_r, Post.seq, Post.block, Nat.reduceEqDiff, reduceIte, Nat.zero_ne_one, Nat.one_ne_zero]
      apply AW.step
      · simp
        intros; rfl
      obtain rfl := Option.some.inj h
      refine AW.ret ?_
      refine Left.plain hnb (by simp [Try.f59, resV, resC, comp]; rfl) rfl rfl ?_
      simp
    · replace h := smR h
      obtain ⟨rfl, hl⟩ := hp
      refine ⟨_, Weak.refl _, ?_⟩
      obtain rfl := Option.some.inj h
      exact hl
theorem en_r5_SHas : Enters Try.prog 59 := enters Try.func59 (by kernel_rfl) rfl
def r5_SAdd_sh (n : Nat) (a0 : List ByteArray) (a1 : ByteArray) : Option (List ByteArray) :=
bn (r5_SHas_sh n a0 a1) fun v1 =>
ite' v1 (chk (room a0.length 16) <|
some a0) (bn (iter n (fun (y3 : Int) =>
bn (lt (lenI a0) fun v7 =>
lt (ltI y3 v7) fun v8 =>
ite' v8 (bn (nth a0 y3) fun v9 =>
lt (ltS v9 a1) fun v10 =>
some (v10)) (some (false))) fun (y6 : Bool) =>
lt (y6) fun v11 =>
ite' v11 (lt (addI .i64 y3 1) fun v12 =>
some (.inl v12)) (some (.inr y3))) 0) fun (y4 : Int) =>
bn (segh a0 y4) fun v13 =>
chk (room v13.length 16) <|
chk (room (v13.length + 1) 16) <|
lt (v13 ++ [a1]) fun v17 =>
bn (segl a0 y4) fun v18 =>
chk (room (v17.length + v18.length) 16) <|
lt (v17 ++ v18) fun v21 =>
some v21)
set_option maxRecDepth 8000 in
set_option maxHeartbeats 8000000 in
theorem s_r5_SAdd {n : Nat} {a0 : List ByteArray} {a1 : ByteArray} {r : List ByteArray} (h : r5_SAdd_sh n a0 a1 = some r) : Sound Try.prog 104 [.l (.d false 1 (encS a0)), .l (.s (.string a1))] [] (.l (.r 0 1 0 r.length)) [some ⟨9, 1, true, none, lvs (encS r)⟩] := by
  unfold r5_SAdd_sh at h
  refine Sound.of_aw (fn := Try.f104) (c := _) Try.func104 rfl (by simp [Try.f104]) fun cx hG hnb => ?_
  rw [show Try.f104.ntmps = 41 from rfl]
  have hn0 : cx.nb = 0 := hnb
  simp only [st0_mk, initTm, List.map_cons, List.map_nil]
  apply AW.step
  · simp
    intros; rfl
  refine AW.seq ?_
  replace h := bnE h; obtain ⟨v1, e1, h⟩ := h
  apply AW.step
  · simp
    intros
    refine xcall_plain en_r5_SHas (s_r5_SHas e1) rfl ⟨.same rfl, .same rfl, trivial⟩ ?_
    try simp
    intros; rfl
  cases v1 with
  | true =>
    replace h := iteT rfl h
    refine AW.cond_true (by simp) ?_
    replace h := chkE h; obtain ⟨e2, h⟩ := h
    apply AW.step
    · simp
      intros
      refine xrow_own ?_
      try simp
      intros
      refine xapp_pushN (acc := []) (ys := encS a0) (cap := none) (k := a0.length) tb_el32 tb_ti9 (by simp) (by rw [src_d]; simp) (by simp) (by simp) (by simp) (by simpa using (room_d e2).1) ?_
      try simp
      intros; rfl
    obtain rfl := Option.some.inj h
    refine AW.ret ?_
    refine Left.of (av := _) (by simp [Try.f104, resV, resC, comp]; rfl) ?_
    exact LeftV.mix 0 [some 1] hn0 rfl (by decide) rfl (by simp [pickOb, inv_cons, inv_nil]) (by simp [inv_cons, inv_nil])
  | false =>
    replace h := iteF rfl h
    refine AW.cond_false (by simp) ?_
    refine AW.skip ?_
    try simp only [sp_l, sp_r, Post.seq, Post.block, Nat.reduceEqDiff, reduceIte, Nat.zero_ne_one, Nat.one_ne_zero]
    try simp only [sp_l, sp_r, Post.seq, Post.block, Nat.reduceEqDiff, reduceIte, Nat.zero_ne_one, Nat.one_ne_zero]
    apply AW.step
    · simp
      intros; rfl
    refine AW.seq ?_
    refine AW.block ?_
    replace h := bnE h; obtain ⟨y4, g4, h⟩ := h
    refine AW.iterP g4 (mk := fun gh ls q => (⟨[(0, .l (.d false 1 (encS a0))), (1, .l (.s (.string a1))), (5, .l (.s (.int .i64 q)))], [], 41, gh, ls⟩ : St)) (N := fun gh ls => (xP 0 (cx := cx) (fun q => (⟨[(0, .l (.d false 1 (encS a0))), (1, .l (.s (.string a1))), (5, .l (.s (.int .i64 q)))], [], 41, gh, ls⟩ : St)))) ?_ noX ?_ ?_
    · refine Weak.mixN [] hn0 (by decide) ?_ ?_ rfl
      all_goals first | (simp [inv_cons, inv_nil, pickOb]; done) | rfl
    · clear h; intro y3 y5 h
      refine AW.seq ?_
      replace h := bnE h; obtain ⟨y6, g6, h⟩ := h
      refine AW.flow (p := fun gh ls => (nP (cx := cx) (fun q => (⟨[(0, .l (.d false 1 (encS a0))), (1, .l (.s (.string a1))), (5, .l (.s (.int .i64 y3))), (24, .l (.s (.bool q)))], [], 41, gh, ls⟩ : St))) y6) ?_ ?_
      · replace h := g6; clear g6
        replace h := ltE h; obtain ⟨v7, e7, h⟩ := h
        replace h := ltE h; obtain ⟨v8, e8, h⟩ := h
        cases v8 with
        | true =>
          replace h := iteT rfl h
          replace h := bnE h; obtain ⟨v9, e9, h⟩ := h
          replace h := ltE h; obtain ⟨v10, e10, h⟩ := h
          apply AW.last
          · simp [lenI_cast e7, ← e8, nth_d e9, ← e10]
            intros; rfl
          obtain rfl := Option.some.inj h
          refine nP_i ?_
          refine Weak.mixN [] hn0 (by decide) ?_ ?_ rfl
          all_goals first | (simp [inv_cons, inv_nil, pickOb]; done) | rfl
        | false =>
          replace h := iteF rfl h
          apply AW.last
          · simp [lenI_cast e7, ← e8]
            intros; rfl
          obtain rfl := Option.some.inj h
          refine nP_i ?_
          refine Weak.mixN [] hn0 (by decide) ?_ ?_ rfl
          all_goals first | (simp [inv_cons, inv_nil, pickOb]; done) | rfl
      · rintro e s hp
        obtain ⟨rfl, hw⟩ := hp
        refine ⟨_, hw, ?_⟩
        try simp only [sp_l, sp_r, Post.seq, Post.block, Nat.reduceEqDiff, reduceIte, Nat.zero_ne_one, Nat.one_ne_zero]
        replace h := ltE h; obtain ⟨v11, e11, h⟩ := h
        rw [← e11]
        cases v11 with
        | true =>
          replace h := iteT rfl h
          refine AW.cond_true (by simp) ?_
          refine AW.skip ?_
          try simp only [sp_l, sp_r, Post.seq, Post.block, Nat.reduceEqDiff, reduceIte, Nat.zero_ne_one, Nat.one_ne_zero]
          try simp only [sp_l, sp_r, Post.seq, Post.block, Nat.reduceEqDiff, reduceIte, Nat.zero_ne_one, Nat.one_ne_zero]
          refine AW.block ?_
          replace h := ltE h; obtain ⟨v12, e12, h⟩ := h
          apply AW.last
          · simp [← e12]
            intros; rfl
          obtain rfl := Option.some.inj h
          refine nP_i ?_
          refine Weak.mixN [] hn0 (by decide) ?_ ?_ rfl
          all_goals first | (simp [inv_cons, inv_nil, pickOb]; done) | rfl
        | false =>
          replace h := iteF rfl h
          refine AW.cond_false (by simp) ?_
          refine AW.exit ?_
          try simp only [sp_l, sp_r, Post.seq, Post.block, Nat.reduceEqDiff, reduceIte, Nat.zero_ne_one, Nat.one_ne_zero]
          obtain rfl := Option.some.inj h
          refine xP_i ?_
          refine Weak.mixN [] hn0 (by decide) ?_ ?_ rfl
          all_goals first | (simp [inv_cons, inv_nil, pickOb]; done) | rfl
    · rintro e s hp
      obtain ⟨rfl, hw⟩ := hp
      refine ⟨_, hw, ?_⟩
      try simp only [sp_l, sp_r, Post.seq, Post.block, Nat.reduceEqDiff, reduceIte, Nat.zero_ne_one, Nat.one_ne_zero]
      replace h := bnE h; obtain ⟨v13, e13, h⟩ := h
      have f14 := encS_segh e13
      try simp at f14
      replace h := chkE h; obtain ⟨e15, h⟩ := h
      apply AW.step
      · simp [f14]
        intros
        refine xrow_own ?_
        try simp [f14]
        intros
        refine xapp_pushN (acc := []) (ys := encS v13) (cap := none) (k := v13.length) tb_el32 tb_ti9 (by simp) (by rw [src_d]; simp) (by simp) (by simp) (by simp) (by simpa using (room_d e15).1) ?_
        try simp [f14]
        intros; rfl
      replace h := chkE h; obtain ⟨e16, h⟩ := h
      replace h := ltE h; obtain ⟨v17, e17, h⟩ := h
      apply AW.step
      · simp [← encS_append, ← e17, app_len1 e17]
        intros
        refine xrow_own ?_
        try simp [← encS_append, ← e17, app_len1 e17]
        intros
        refine xapp_pushN (acc := encS v13) (ys := encS [a1]) (cap := none) (k := 1) tb_el32 tb_ti9 (by simp) (by simp [encS, lvs]) (encS_sz _) (by simp) (by simp) (by simpa using (room_d e16).1) ?_
        try simp [← encS_append, ← e17, app_len1 e17]
        intros; rfl
      replace h := bnE h; obtain ⟨v18, e18, h⟩ := h
      have f19 := encS_segl e18
      try simp at f19
      replace h := chkE h; obtain ⟨e20, h⟩ := h
      replace h := ltE h; obtain ⟨v21, e21, h⟩ := h
      apply AW.step
      · simp [f19, ← encS_append, ← e21, app_len e21]
        intros
        refine xapp_pushN (acc := encS v17) (ys := encS v18) (cap := none) (k := v18.length) tb_el32 tb_ti9 (by simp) (by rw [src_d]; simp) (encS_sz _) (by simp) (by simp) (by simpa using (room_d e20).1) ?_
        try simp [f19, ← encS_append, ← e21, app_len e21]
        intros; rfl
      obtain rfl := Option.some.inj h
      refine AW.ret ?_
      refine Left.of (av := _) (by simp [Try.f104, resV, resC, comp]; rfl) ?_
      exact LeftV.mix 0 [some 4] hn0 rfl (by decide) rfl (by simp [pickOb, inv_cons, inv_nil, lvs_encS1]) (by simp [inv_cons, inv_nil, lvs_encS1])
theorem en_r5_SAdd : Enters Try.prog 104 := enters Try.func104 (by kernel_rfl) rfl
theorem z_r5_SAdd {n : Nat} {a0 : List ByteArray} {a1 : ByteArray} {r : List ByteArray} (h : r5_SAdd_sh n a0 a1 = some r) (hm : r.length ≤ 140737488355328) : Sound Try.prog 104 [.l (.d false 1 (encS a0)), .l (.s (.string a1))] [] (.l (.d false 1 (encS r))) [] := (s_r5_SAdd h).frz (by simp) (by omega) (encS_sz _) hm
def r5_SHas_tf_sh (n : Nat) (a0 : List ByteArray) (a1 : ByteArray) : Option Bool :=
bn (iter n (fun (y1 : Int) =>
lt (lenI a0) fun v4 =>
lt (ltI y1 v4) fun v5 =>
ite' v5 (bn (nth a0 y1) fun v6 =>
lt (eqS v6 a1) fun v7 =>
ite' v7 (some (.inr (.inr true))) (lt (addI .i64 y1 1) fun v8 =>
some (.inl v8))) (some (.inr (.inl ())))) 0) fun (y2 : Unit ⊕ Bool) =>
sm y2 (fun y9 => some false) (fun y10 => some y10)
set_option maxRecDepth 8000 in
set_option maxHeartbeats 8000000 in
theorem s_r5_SHas_tf {n : Nat} {a0 : List ByteArray} {a1 : ByteArray} {r : Bool} (h : r5_SHas_tf_sh n a0 a1 = some r) : Sound Try.prog 59 [.l (.d true 1 (encS a0)), .l (.s (.string a1))] [] (.l (.s (.bool r))) [] := by
  unfold r5_SHas_tf_sh at h
  refine Sound.of_aw (fn := Try.f59) (c := _) Try.func59 rfl (by simp [Try.f59]) fun cx hG hnb => ?_
  rw [show Try.f59.ntmps = 18 from rfl]
  have hn0 : cx.nb = 0 := hnb
  simp only [st0_mk, initTm, List.map_cons, List.map_nil]
  apply AW.step
  · simp
    intros; rfl
  refine AW.seq ?_
  apply AW.step
  · simp
    intros; rfl
  refine AW.block ?_
  replace h := bnE h; obtain ⟨y2, g2, h⟩ := h
  refine AW.iterP g2 (mk := fun gh ls q => (⟨[(0, .l (.d true 1 (encS a0))), (1, .l (.s (.string a1))), (5, .l (.s (.int .i64 q)))], [], 18, gh, ls⟩ : St)) (N := fun gh ls => (sp (xP 0 (cx := cx) (fun _ => (⟨[], [], 18, gh, ls⟩ : St))) (rP (cx := cx) (P := Try.prog) Try.f59 (fun q => .l (.s (.bool q))) (fun q => [])))) ?_ (noS noX noR) ?_ ?_
  · refine Weak.mixN [] hn0 (by decide) ?_ ?_ rfl
    all_goals first | (simp [inv_cons, inv_nil, pickOb]; done) | rfl
  · clear h; intro y1 y3 h
    refine AW.seq ?_
    replace h := ltE h; obtain ⟨v4, e4, h⟩ := h
    replace h := ltE h; obtain ⟨v5, e5, h⟩ := h
    apply AW.step
    · simp [lenI_cast e4, ← e5]
      intros; rfl
    cases v5 with
    | true =>
      replace h := iteT rfl h
      refine AW.cond_true (by simp) ?_
      refine AW.skip ?_
      try simp only [sp_l, sp_r, Post.seq, Post.block, Nat.reduceEqDiff, reduceIte, Nat.zero_ne_one, Nat.one_ne_zero]
      try simp only [sp_l, sp_r, Post.seq, Post.block, Nat.reduceEqDiff, reduceIte, Nat.zero_ne_one, Nat.one_ne_zero]
      refine AW.seq ?_
      refine AW.block ?_
      replace h := bnE h; obtain ⟨v6, e6, h⟩ := h
      replace h := ltE h; obtain ⟨v7, e7, h⟩ := h
      apply AW.step
      · simp [nth_d e6, ← e7]
        intros; rfl
      cases v7 with
      | true =>
        replace h := iteT rfl h
        refine AW.cond_true (by simp) ?_
        apply AW.step
        · simp
          intros; rfl
        obtain rfl := Option.some.inj h
        refine AW.ret ?_
        try simp only [sp_l, sp_r, Post.seq, Post.block, Nat.reduceEqDiff, reduceIte, Nat.zero_ne_one, Nat.one_ne_zero]
        refine rP_i ?_
        refine Left.plain hnb (by simp [Try.f59, resV, resC, comp]; rfl) rfl rfl ?_
        simp
      | false =>
        replace h := iteF rfl h
        refine AW.cond_false (by simp) ?_
        refine AW.skip ?_
        try simp only [sp_l, sp_r, Post.seq, Post.block, Nat.reduceEqDiff, reduceIte, Nat.zero_ne_one, Nat.one_ne_zero]
        try simp only [sp_l, sp_r, Post.seq, Post.block, Nat.reduceEqDiff, reduceIte, Nat.zero_ne_one, Nat.one_ne_zero]
        replace h := ltE h; obtain ⟨v8, e8, h⟩ := h
        apply AW.last
        · simp [← e8]
          intros; rfl
        obtain rfl := Option.some.inj h
        refine nP_i ?_
        refine Weak.mixN [] hn0 (by decide) ?_ ?_ rfl
        all_goals first | (simp [inv_cons, inv_nil, pickOb]; done) | rfl
    | false =>
      replace h := iteF rfl h
      refine AW.cond_false (by simp) ?_
      refine AW.exit ?_
      try simp only [sp_l, sp_r, Post.seq, Post.block, Nat.reduceEqDiff, reduceIte, Nat.zero_ne_one, Nat.one_ne_zero]
      obtain rfl := Option.some.inj h
      try simp only [sp_l, sp_r]
      refine xP_i ?_
      refine Weak.mixN [] hn0 (by decide) ?_ ?_ rfl
      all_goals first | (simp [inv_cons, inv_nil, pickOb]; done) | rfl
  · rintro e s hp
    rcases y2 with y9 | y10
    · replace h := smL h
      obtain ⟨rfl, hw⟩ := hp
      refine ⟨_, hw, ?_⟩
      try simp only [sp_l, sp_r, Post.seq, Post.block, Nat.reduceEqDiff, reduceIte, Nat.zero_ne_one, Nat.one_ne_zero]
      apply AW.step
      · simp
        intros; rfl
      obtain rfl := Option.some.inj h
      refine AW.ret ?_
      refine Left.plain hnb (by simp [Try.f59, resV, resC, comp]; rfl) rfl rfl ?_
      simp
    · replace h := smR h
      obtain ⟨rfl, hl⟩ := hp
      refine ⟨_, Weak.refl _, ?_⟩
      obtain rfl := Option.some.inj h
      exact hl
theorem en_r5_SHas_tf : Enters Try.prog 59 := enters Try.func59 (by kernel_rfl) rfl
def r5_SAdd_tf_sh (n : Nat) (a0 : List ByteArray) (a1 : ByteArray) : Option (List ByteArray) :=
bn (r5_SHas_tf_sh n a0 a1) fun v1 =>
ite' v1 (chk (room a0.length 16) <|
some a0) (bn (iter n (fun (y3 : Int) =>
bn (lt (lenI a0) fun v7 =>
lt (ltI y3 v7) fun v8 =>
ite' v8 (bn (nth a0 y3) fun v9 =>
lt (ltS v9 a1) fun v10 =>
some (v10)) (some (false))) fun (y6 : Bool) =>
lt (y6) fun v11 =>
ite' v11 (lt (addI .i64 y3 1) fun v12 =>
some (.inl v12)) (some (.inr y3))) 0) fun (y4 : Int) =>
bn (segh a0 y4) fun v13 =>
chk (room v13.length 16) <|
chk (room (v13.length + 1) 16) <|
lt (v13 ++ [a1]) fun v17 =>
bn (segl a0 y4) fun v18 =>
chk (room (v17.length + v18.length) 16) <|
lt (v17 ++ v18) fun v21 =>
some v21)
set_option maxRecDepth 8000 in
set_option maxHeartbeats 8000000 in
theorem s_r5_SAdd_tf {n : Nat} {a0 : List ByteArray} {a1 : ByteArray} {r : List ByteArray} (h : r5_SAdd_tf_sh n a0 a1 = some r) : Sound Try.prog 104 [.l (.d true 1 (encS a0)), .l (.s (.string a1))] [] (.l (.r 0 1 0 r.length)) [some ⟨9, 1, true, none, lvs (encS r)⟩] := by
  unfold r5_SAdd_tf_sh at h
  refine Sound.of_aw (fn := Try.f104) (c := _) Try.func104 rfl (by simp [Try.f104]) fun cx hG hnb => ?_
  rw [show Try.f104.ntmps = 41 from rfl]
  have hn0 : cx.nb = 0 := hnb
  simp only [st0_mk, initTm, List.map_cons, List.map_nil]
  apply AW.step
  · simp
    intros; rfl
  refine AW.seq ?_
  replace h := bnE h; obtain ⟨v1, e1, h⟩ := h
  apply AW.step
  · simp
    intros
    refine xcall_plain en_r5_SHas_tf (s_r5_SHas_tf e1) rfl ⟨.d _ _ _, .same rfl, trivial⟩ ?_
    try simp
    intros; rfl
  cases v1 with
  | true =>
    replace h := iteT rfl h
    refine AW.cond_true (by simp) ?_
    replace h := chkE h; obtain ⟨e2, h⟩ := h
    apply AW.step
    · simp
      intros
      refine xrow_own ?_
      try simp
      intros
      refine xapp_pushN (acc := []) (ys := encS a0) (cap := none) (k := a0.length) tb_el32 tb_ti9 (by simp) (by rw [src_dA, encS_lvsA]; simp) (by simp) (by simp) (by simp) (by simpa using (room_d e2).1) ?_
      try simp
      intros; rfl
    obtain rfl := Option.some.inj h
    refine AW.ret ?_
    refine Left.of (av := _) (by simp [Try.f104, resV, resC, comp]; rfl) ?_
    exact LeftV.mix 0 [some 1] hn0 rfl (by decide) rfl (by simp [pickOb, inv_cons, inv_nil]) (by simp [inv_cons, inv_nil])
  | false =>
    replace h := iteF rfl h
    refine AW.cond_false (by simp) ?_
    refine AW.skip ?_
    try simp only [sp_l, sp_r, Post.seq, Post.block, Nat.reduceEqDiff, reduceIte, Nat.zero_ne_one, Nat.one_ne_zero]
    try simp only [sp_l, sp_r, Post.seq, Post.block, Nat.reduceEqDiff, reduceIte, Nat.zero_ne_one, Nat.one_ne_zero]
    apply AW.step
    · simp
      intros; rfl
    refine AW.seq ?_
    refine AW.block ?_
    replace h := bnE h; obtain ⟨y4, g4, h⟩ := h
    refine AW.iterP g4 (mk := fun gh ls q => (⟨[(0, .l (.d true 1 (encS a0))), (1, .l (.s (.string a1))), (5, .l (.s (.int .i64 q)))], [], 41, gh, ls⟩ : St)) (N := fun gh ls => (xP 0 (cx := cx) (fun q => (⟨[(0, .l (.d true 1 (encS a0))), (1, .l (.s (.string a1))), (5, .l (.s (.int .i64 q)))], [], 41, gh, ls⟩ : St)))) ?_ noX ?_ ?_
    · refine Weak.mixN [] hn0 (by decide) ?_ ?_ rfl
      all_goals first | (simp [inv_cons, inv_nil, pickOb]; done) | rfl
    · clear h; intro y3 y5 h
      refine AW.seq ?_
      replace h := bnE h; obtain ⟨y6, g6, h⟩ := h
      refine AW.flow (p := fun gh ls => (nP (cx := cx) (fun q => (⟨[(0, .l (.d true 1 (encS a0))), (1, .l (.s (.string a1))), (5, .l (.s (.int .i64 y3))), (24, .l (.s (.bool q)))], [], 41, gh, ls⟩ : St))) y6) ?_ ?_
      · replace h := g6; clear g6
        replace h := ltE h; obtain ⟨v7, e7, h⟩ := h
        replace h := ltE h; obtain ⟨v8, e8, h⟩ := h
        cases v8 with
        | true =>
          replace h := iteT rfl h
          replace h := bnE h; obtain ⟨v9, e9, h⟩ := h
          replace h := ltE h; obtain ⟨v10, e10, h⟩ := h
          apply AW.last
          · simp [lenI_cast e7, ← e8, nth_d e9, ← e10]
            intros; rfl
          obtain rfl := Option.some.inj h
          refine nP_i ?_
          refine Weak.mixN [] hn0 (by decide) ?_ ?_ rfl
          all_goals first | (simp [inv_cons, inv_nil, pickOb]; done) | rfl
        | false =>
          replace h := iteF rfl h
          apply AW.last
          · simp [lenI_cast e7, ← e8]
            intros; rfl
          obtain rfl := Option.some.inj h
          refine nP_i ?_
          refine Weak.mixN [] hn0 (by decide) ?_ ?_ rfl
          all_goals first | (simp [inv_cons, inv_nil, pickOb]; done) | rfl
      · rintro e s hp
        obtain ⟨rfl, hw⟩ := hp
        refine ⟨_, hw, ?_⟩
        try simp only [sp_l, sp_r, Post.seq, Post.block, Nat.reduceEqDiff, reduceIte, Nat.zero_ne_one, Nat.one_ne_zero]
        replace h := ltE h; obtain ⟨v11, e11, h⟩ := h
        rw [← e11]
        cases v11 with
        | true =>
          replace h := iteT rfl h
          refine AW.cond_true (by simp) ?_
          refine AW.skip ?_
          try simp only [sp_l, sp_r, Post.seq, Post.block, Nat.reduceEqDiff, reduceIte, Nat.zero_ne_one, Nat.one_ne_zero]
          try simp only [sp_l, sp_r, Post.seq, Post.block, Nat.reduceEqDiff, reduceIte, Nat.zero_ne_one, Nat.one_ne_zero]
          refine AW.block ?_
          replace h := ltE h; obtain ⟨v12, e12, h⟩ := h
          apply AW.last
          · simp [← e12]
            intros; rfl
          obtain rfl := Option.some.inj h
          refine nP_i ?_
          refine Weak.mixN [] hn0 (by decide) ?_ ?_ rfl
          all_goals first | (simp [inv_cons, inv_nil, pickOb]; done) | rfl
        | false =>
          replace h := iteF rfl h
          refine AW.cond_false (by simp) ?_
          refine AW.exit ?_
          try simp only [sp_l, sp_r, Post.seq, Post.block, Nat.reduceEqDiff, reduceIte, Nat.zero_ne_one, Nat.one_ne_zero]
          obtain rfl := Option.some.inj h
          refine xP_i ?_
          refine Weak.mixN [] hn0 (by decide) ?_ ?_ rfl
          all_goals first | (simp [inv_cons, inv_nil, pickOb]; done) | rfl
    · rintro e s hp
      obtain ⟨rfl, hw⟩ := hp
      refine ⟨_, hw, ?_⟩
      try simp only [sp_l, sp_r, Post.seq, Post.block, Nat.reduceEqDiff, reduceIte, Nat.zero_ne_one, Nat.one_ne_zero]
      replace h := bnE h; obtain ⟨v13, e13, h⟩ := h
      have f14 := encS_segh e13
      try simp at f14
      replace h := chkE h; obtain ⟨e15, h⟩ := h
      apply AW.step
      · simp [f14]
        intros
        refine xrow_own ?_
        try simp [f14]
        intros
        refine xapp_pushN (acc := []) (ys := encS v13) (cap := none) (k := v13.length) tb_el32 tb_ti9 (by simp) (by rw [src_dA, encS_lvsA]; simp) (by simp) (by simp) (by simp) (by simpa using (room_d e15).1) ?_
        try simp [f14]
        intros; rfl
      replace h := chkE h; obtain ⟨e16, h⟩ := h
      replace h := ltE h; obtain ⟨v17, e17, h⟩ := h
      apply AW.step
      · simp [← encS_append, ← e17, app_len1 e17]
        intros
        refine xrow_own ?_
        try simp [← encS_append, ← e17, app_len1 e17]
        intros
        refine xapp_pushN (acc := encS v13) (ys := encS [a1]) (cap := none) (k := 1) tb_el32 tb_ti9 (by simp) (by simp [encS, lvs]) (encS_sz _) (by simp) (by simp) (by simpa using (room_d e16).1) ?_
        try simp [← encS_append, ← e17, app_len1 e17]
        intros; rfl
      replace h := bnE h; obtain ⟨v18, e18, h⟩ := h
      have f19 := encS_segl e18
      try simp at f19
      replace h := chkE h; obtain ⟨e20, h⟩ := h
      replace h := ltE h; obtain ⟨v21, e21, h⟩ := h
      apply AW.step
      · simp [f19, ← encS_append, ← e21, app_len e21]
        intros
        refine xapp_pushN (acc := encS v17) (ys := encS v18) (cap := none) (k := v18.length) tb_el32 tb_ti9 (by simp) (by rw [src_dA, encS_lvsA]; simp) (encS_sz _) (by simp) (by simp) (by simpa using (room_d e20).1) ?_
        try simp [f19, ← encS_append, ← e21, app_len e21]
        intros; rfl
      obtain rfl := Option.some.inj h
      refine AW.ret ?_
      refine Left.of (av := _) (by simp [Try.f104, resV, resC, comp]; rfl) ?_
      exact LeftV.mix 0 [some 4] hn0 rfl (by decide) rfl (by simp [pickOb, inv_cons, inv_nil, lvs_encS1]) (by simp [inv_cons, inv_nil, lvs_encS1])
theorem en_r5_SAdd_tf : Enters Try.prog 104 := enters Try.func104 (by kernel_rfl) rfl
theorem z_r5_SAdd_tf {n : Nat} {a0 : List ByteArray} {a1 : ByteArray} {r : List ByteArray} (h : r5_SAdd_tf_sh n a0 a1 = some r) (hm : r.length ≤ 140737488355328) : Sound Try.prog 104 [.l (.d true 1 (encS a0)), .l (.s (.string a1))] [] (.l (.d false 1 (encS r))) [] := (s_r5_SAdd_tf h).frz (by simp) (by omega) (encS_sz _) hm
def l5_Make_sh (n : Nat) (a0 : List Int) (a1 : Int) : Option Item :=
lt (lenI a0) fun v1 =>
lt (eqI v1 0) fun v2 =>
ite' v2 (some (⟨1, ⟨#[]⟩, [], [], 0⟩ : Item)) (bn (nth a0 0) fun v3 =>
lt (cvI .i64 v3) fun v4 =>
bn (remI .i64 v4 4) fun v5 =>
lt (addI .i64 1 v5) fun v6 =>
bn (bn (remI .u8 a1 3) fun v8 =>
lt (eqI v8 0) fun v9 =>
ite' v9 (lt (cvI .i64 a1) fun v10 =>
some (v10)) (some (0))) fun (y7 : Int) =>
bn (iter n (fun (y11 : Int × ByteArray × List Field × List ByteArray) =>
bn (lt (lenI a0) fun v15 =>
lt (ltI y11.1 v15) fun v16 =>
ite' v16 (lt (ltI y11.1 9) fun v17 =>
some (v17)) (some (false))) fun (y14 : Bool) =>
lt (y14) fun v18 =>
ite' v18 (bn (bn (nth a0 y11.1) fun v20 =>
bn (remI .u8 v20 5) fun v21 =>
lt (addI .u8 97 v21) fun v22 =>
lt (strL [v22]) fun v23 =>
lt (cvI .i64 v20) fun v25 =>
bn (remI .i64 v25 3) fun v26 =>
bn (r1_Digits_sh n v26) fun v27 =>
bn (catS v23 v27) fun v28 =>
lt (eqI v6 1) fun v29 =>
ite' v29 (bn (catS y11.2.1 v28) fun v30 =>
some ((v30, y11.2.2.1, y11.2.2.2))) (lt (eqI v6 2) fun v31 =>
ite' v31 (lt (subI .i64 v25 100) fun v32 =>
bn (r1_Digits_sh n v32) fun v33 =>
bn (r5_HSet_sh n y11.2.2.1 v28 v33) fun v34 =>
some ((y11.2.1, v34, y11.2.2.2))) (lt (eqI v6 3) fun v35 =>
ite' v35 (chk (room (y11.2.2.2.length + 1) 16) <|
lt (y11.2.2.2 ++ [v28]) fun v37 =>
some ((y11.2.1, y11.2.2.1, v37))) (chk (room y11.2.2.2.length 1) <|
bn (r5_SAdd_tf_sh n y11.2.2.2 v28) fun v39 =>
some ((y11.2.1, y11.2.2.1, v39)))))) fun (y19 : ByteArray × List Field × List ByteArray) =>
lt (addI .i64 y11.1 1) fun v40 =>
some (.inl (v40, y19.1, y19.2.1, y19.2.2))) (some (.inr (y11.2.1, y11.2.2.1, y11.2.2.2)))) (1, ⟨#[]⟩, [], [])) fun (y12 : ByteArray × List Field × List ByteArray) =>
bn (lt (lenI a0) fun v42 =>
lt (eqI v42 1) fun v43 =>
ite' v43 (lt (neI v6 1) fun v44 =>
some (v44)) (some (false))) fun (y41 : Bool) =>
lt (y41) fun v45 =>
ite' v45 (bn (nth a0 0) fun v46 =>
lt (cvI .i64 v46) fun v47 =>
bn (r1_Digits_sh n v47) fun v48 =>
some (⟨1, v48, [], [], y7⟩ : Item)) (chk (room y12.2.2.length 1) <|
some (⟨v6, y12.1, y12.2.1, y12.2.2, y7⟩ : Item)))
set_option maxRecDepth 8000 in
set_option maxHeartbeats 8000000 in
theorem s_l5_Make {n : Nat} {a0 : List Int} {a1 : Int} {r : Item} (h : l5_Make_sh n a0 a1 = some r) : Sound Try.prog 68 [.l (.d false 1 (encU a0)), .l (.s (.int .u8 a1))] [] (.g [.s (.int .i64 r.kind), .s (.string r.s), .d false 2 (encField r.f), .d false 1 (encS r.l), .s (.int .i64 r.exp)]) [] := by
  unfold l5_Make_sh at h
  refine Sound.of_aw (fn := Try.f68) (c := _) Try.func68 rfl (by simp [Try.f68]) fun cx hG hnb => ?_
  rw [show Try.f68.ntmps = 104 from rfl]
  have hn0 : cx.nb = 0 := hnb
  simp only [st0_mk, initTm, List.map_cons, List.map_nil]
  apply AW.step
  · simp
    intros; rfl
  refine AW.seq ?_
  replace h := ltE h; obtain ⟨v1, e1, h⟩ := h
  replace h := ltE h; obtain ⟨v2, e2, h⟩ := h
  apply AW.step
  · simp [lenI_cast e1, ← e2]
    intros; rfl
  cases v2 with
  | true =>
    replace h := iteT rfl h
    refine AW.cond_true (by simp) ?_
    apply AW.step
    · simp
      intros; rfl
    refine AW.nilCellD 0 2 2 rfl rfl rfl rfl ?_
    refine AW.nilCellD 0 3 1 rfl rfl rfl rfl ?_
    obtain rfl := Option.some.inj h
    refine AW.ret ?_
    refine Left.plain hnb (by simp [Try.f68, resV, resC, comp]; rfl) rfl rfl ?_
    simp
  | false =>
    replace h := iteF rfl h
    refine AW.cond_false (by simp) ?_
    refine AW.skip ?_
    try simp only [sp_l, sp_r, Post.seq, Post.block, Nat.reduceEqDiff, reduceIte, Nat.zero_ne_one, Nat.one_ne_zero]
    try simp only [sp_l, sp_r, Post.seq, Post.block, Nat.reduceEqDiff, reduceIte, Nat.zero_ne_one, Nat.one_ne_zero]
    replace h := bnE h; obtain ⟨v3, e3, h⟩ := h
    replace h := ltE h; obtain ⟨v4, e4, h⟩ := h
    replace h := bnE h; obtain ⟨v5, e5, h⟩ := h
    replace h := ltE h; obtain ⟨v6, e6, h⟩ := h
    apply AW.step
    · simp [(show a0[0]? = some v3 from (nth_d e3).2), ← e4, e5, ← e6]
      intros; rfl
    replace h := bnE h; obtain ⟨y7, g7, h⟩ := h
    refine AW.flow (p := fun gh ls => (nP (cx := cx) (fun q => (⟨[(0, .l (.d false 1 (encU a0))), (4, .l (.p 0 0)), (5, .l (.p 1 0))], [some ⟨34, 5, false, none, [.s (.int .i64 0), .s (.string ⟨#[]⟩), .s (.slice none 0 0), .s (.slice none 0 0), .s (.int .i64 0)]⟩, some ⟨34, 5, false, none, [.s (.int .i64 v6), .s (.string ⟨#[]⟩), .s (.slice none 0 0), .s (.slice none 0 0), .s (.int .i64 q)]⟩], 104, gh, ls⟩ : St))) y7) ?_ ?_
    · replace h := g7; clear g7
      replace h := bnE h; obtain ⟨v8, e8, h⟩ := h
      replace h := ltE h; obtain ⟨v9, e9, h⟩ := h
      apply AW.step
      · simp [e8, ← e9]
        intros; rfl
      cases v9 with
      | true =>
        replace h := iteT rfl h
        refine AW.cond_true (by simp) ?_
        replace h := ltE h; obtain ⟨v10, e10, h⟩ := h
        apply AW.last
        · simp [← e10]
          intros; rfl
        obtain rfl := Option.some.inj h
        refine nP_i ?_
        refine Weak.mixN [some 0, some 1] hn0 (by decide) ?_ ?_ rfl
        all_goals first | (simp [inv_cons, inv_nil, pickOb]; done) | rfl
      | false =>
        replace h := iteF rfl h
        refine AW.cond_false (by simp) ?_
        refine AW.skip ?_
        try simp only [sp_l, sp_r, Post.seq, Post.block, Nat.reduceEqDiff, reduceIte, Nat.zero_ne_one, Nat.one_ne_zero]
        obtain rfl := Option.some.inj h
        refine nP_i ?_
        refine Weak.mixN [some 0, some 1] hn0 (by decide) ?_ ?_ rfl
        all_goals first | (simp [inv_cons, inv_nil, pickOb]; done) | rfl
    · rintro e s hp
      obtain ⟨rfl, hw⟩ := hp
      refine ⟨_, hw, ?_⟩
      try simp only [sp_l, sp_r, Post.seq, Post.block, Nat.reduceEqDiff, reduceIte, Nat.zero_ne_one, Nat.one_ne_zero]
      refine AW.seq ?_
      apply AW.step
      · simp
        intros; rfl
      refine AW.block ?_
      replace h := bnE h; obtain ⟨y12, g12, h⟩ := h
      refine AW.iterP g12 (mk := fun gh ls q => (⟨[(0, .l (.d false 1 (encU a0))), (4, .l (.p 0 0)), (5, .l (.p 1 0)), (6, .l (.s (.int .i64 q.1)))], [some ⟨34, 5, false, none, [.s (.int .i64 0), .s (.string ⟨#[]⟩), .s (.slice none 0 0), .s (.slice none 0 0), .s (.int .i64 0)]⟩, some ⟨34, 5, false, none, [.s (.int .i64 v6), .s (.string q.2.1), .d false 2 (encField q.2.2.1), .r 2 1 0 q.2.2.2.length, .s (.int .i64 y7)]⟩, some ⟨9, 1, true, none, lvs (encS q.2.2.2)⟩], 104, gh, ls⟩ : St)) (N := fun gh ls => (xP 0 (cx := cx) (fun q => (⟨[(0, .l (.d false 1 (encU a0))), (4, .l (.p 0 0)), (5, .l (.p 1 0))], [some ⟨34, 5, false, none, [.s (.int .i64 0), .s (.string ⟨#[]⟩), .s (.slice none 0 0), .s (.slice none 0 0), .s (.int .i64 0)]⟩, some ⟨34, 5, false, none, [.s (.int .i64 v6), .s (.string q.1), .d false 2 (encField q.2.1), .r 2 1 0 q.2.2.length, .s (.int .i64 y7)]⟩, some ⟨9, 1, true, none, lvs (encS q.2.2)⟩], 104, gh, ls⟩ : St)))) ?_ noX ?_ ?_
      · refine W.nilCellD 1 2 2 rfl rfl rfl rfl ?_
        refine W.nilCell 1 3 9 1 2 rfl rfl rfl rfl rfl ?_
        refine Weak.mixN [some 0, some 1, some 2] hn0 (by decide) ?_ ?_ rfl
        all_goals first | (simp [inv_cons, inv_nil, pickOb]; done) | rfl
      · clear h; intro y11 y13 h
        refine AW.seq ?_
        replace h := bnE h; obtain ⟨y14, g14, h⟩ := h
        refine AW.flow (p := fun gh ls => (nP (cx := cx) (fun q => (⟨[(0, .l (.d false 1 (encU a0))), (4, .l (.p 0 0)), (5, .l (.p 1 0)), (6, .l (.s (.int .i64 y11.1))), (32, .l (.s (.bool q)))], [some ⟨34, 5, false, none, [.s (.int .i64 0), .s (.string ⟨#[]⟩), .s (.slice none 0 0), .s (.slice none 0 0), .s (.int .i64 0)]⟩, some ⟨34, 5, false, none, [.s (.int .i64 v6), .s (.string y11.2.1), .d false 2 (encField y11.2.2.1), .r 2 1 0 y11.2.2.2.length, .s (.int .i64 y7)]⟩, some ⟨9, 1, true, none, lvs (encS y11.2.2.2)⟩], 104, gh, ls⟩ : St))) y14) ?_ ?_
        · replace h := g14; clear g14
          replace h := ltE h; obtain ⟨v15, e15, h⟩ := h
          replace h := ltE h; obtain ⟨v16, e16, h⟩ := h
          cases v16 with
          | true =>
            replace h := iteT rfl h
            replace h := ltE h; obtain ⟨v17, e17, h⟩ := h
            apply AW.last
            · simp [lenI_cast e15, ← e16, ← e17]
              intros; rfl
            obtain rfl := Option.some.inj h
            refine nP_i ?_
            refine Weak.mixN [some 0, some 1, some 2] hn0 (by decide) ?_ ?_ rfl
            all_goals first | (simp [inv_cons, inv_nil, pickOb]; done) | rfl
          | false =>
            replace h := iteF rfl h
            apply AW.last
            · simp [lenI_cast e15, ← e16]
              intros; rfl
            obtain rfl := Option.some.inj h
            refine nP_i ?_
            refine Weak.mixN [some 0, some 1, some 2] hn0 (by decide) ?_ ?_ rfl
            all_goals first | (simp [inv_cons, inv_nil, pickOb]; done) | rfl
        · rintro e s hp
          obtain ⟨rfl, hw⟩ := hp
          refine ⟨_, hw, ?_⟩
          try simp only [sp_l, sp_r, Post.seq, Post.block, Nat.reduceEqDiff, reduceIte, Nat.zero_ne_one, Nat.one_ne_zero]
          replace h := ltE h; obtain ⟨v18, e18, h⟩ := h
          rw [← e18]
          cases v18 with
          | true =>
            replace h := iteT rfl h
            refine AW.cond_true (by simp) ?_
            refine AW.skip ?_
            try simp only [sp_l, sp_r, Post.seq, Post.block, Nat.reduceEqDiff, reduceIte, Nat.zero_ne_one, Nat.one_ne_zero]
            try simp only [sp_l, sp_r, Post.seq, Post.block, Nat.reduceEqDiff, reduceIte, Nat.zero_ne_one, Nat.one_ne_zero]
            replace h := bnE h; obtain ⟨y19, g19, h⟩ := h
            refine AW.flow (p := fun gh ls => (nP (cx := cx) (fun q => (⟨[(0, .l (.d false 1 (encU a0))), (4, .l (.p 0 0)), (5, .l (.p 1 0)), (6, .l (.s (.int .i64 y11.1)))], [some ⟨34, 5, false, none, [.s (.int .i64 0), .s (.string ⟨#[]⟩), .s (.slice none 0 0), .s (.slice none 0 0), .s (.int .i64 0)]⟩, some ⟨34, 5, false, none, [.s (.int .i64 v6), .s (.string q.1), .d false 2 (encField q.2.1), .r 2 1 0 q.2.2.length, .s (.int .i64 y7)]⟩, some ⟨9, 1, true, none, lvs (encS q.2.2)⟩], 104, gh, ls⟩ : St))) y19) ?_ ?_
            · replace h := g19; clear g19
              refine AW.block ?_
              replace h := bnE h; obtain ⟨v20, e20, h⟩ := h
              replace h := bnE h; obtain ⟨v21, e21, h⟩ := h
              replace h := ltE h; obtain ⟨v22, e22, h⟩ := h
              replace h := ltE h; obtain ⟨v23, e23, h⟩ := h
              have f24 : (⟨#[UInt8.ofNat (v22).toNat]⟩ : ByteArray) = v23 := e23.symm
              replace h := ltE h; obtain ⟨v25, e25, h⟩ := h
              replace h := bnE h; obtain ⟨v26, e26, h⟩ := h
              replace h := bnE h; obtain ⟨v27, e27, h⟩ := h
              replace h := bnE h; obtain ⟨v28, e28, h⟩ := h
              apply AW.drawnE (V := [_, _, _, _, _, _, _, _, _, _, _, _, _, _, _]) (M := [[some ⟨34, 5, false, none, [.s (.int .i64 0), .s (.string ⟨#[]⟩), .s (.slice none 0 0), .s (.slice none 0 0), .s (.int .i64 0)]⟩, some ⟨34, 5, false, none, [.s (.int .i64 v6), .s (.string y11.2.1), .d false 2 (encField y11.2.2.1), .r 2 1 0 y11.2.2.2.length, .s (.int .i64 y7)]⟩, some ⟨9, 1, true, none, lvs (encS y11.2.2.2)⟩], [some ⟨34, 5, false, none, [.s (.int .i64 0), .s (.string ⟨#[]⟩), .s (.slice none 0 0), .s (.slice none 0 0), .s (.int .i64 0)]⟩, some ⟨34, 5, false, none, [.s (.int .i64 v6), .s (.string y11.2.1), .d false 2 (encField y11.2.2.1), .r 2 1 0 y11.2.2.2.length, .s (.int .i64 y7)]⟩, some ⟨9, 1, true, none, lvs (encS y11.2.2.2)⟩, some ⟨5, 1, true, none, [.s (.int .u8 v22)]⟩]]) mixed [⟨[0], [], [(0, none)], false⟩, ⟨[0], [], [(6, none)], false⟩, ⟨[0], [0, 1], [(35, some 0), (36, some 1)], false⟩, ⟨[0], [0, 1, 2], [(37, some 2)], false⟩, ⟨[0], [0, 1, 2, 3], [(38, some 3)], false⟩, ⟨[0], [0, 1, 2, 3, 4], [(39, some 4)], false⟩, ⟨[0], [0, 1, 2, 3, 4, 5], [(40, some 5)], true⟩, ⟨[1], [0, 1, 2, 3, 4, 5, 6], [(41, some 6)], false⟩, ⟨[0, 1], [], [(0, none)], false⟩, ⟨[0, 1], [], [(6, none)], false⟩, ⟨[0, 1], [8, 9], [(43, some 8), (44, some 9)], false⟩, ⟨[0, 1], [8, 9, 10], [(45, some 10)], false⟩, ⟨[0, 1], [8, 9, 10, 11], [(46, some 11)], false⟩, ⟨[0, 1], [8, 9, 10, 11, 12], [(47, some 12)], false⟩, ⟨[0, 1], [8, 9, 10, 11, 12, 13], [(48, some 13)], false⟩, ⟨[], [0, 1, 2, 3, 4, 5, 6, 7, 8, 9, 10, 11, 12, 13, 14], [], false⟩, ⟨[], [0, 1, 2, 3, 4, 5, 6, 7, 8, 9, 10, 11, 12, 13, 14, 15], [], false⟩] 15 1 (by kernel_rfl) (by kernel_rfl)
              · rfl
              · refine ⟨?_, ?_, ?_, ?_, ?_, ?_, ?_, ?_, ⟨?_, ?_⟩, ⟨?_, ?_⟩, ⟨?_, ?_⟩, ⟨?_, ?_⟩, ⟨?_, ?_⟩, ⟨?_, ?_⟩, ⟨?_, ?_⟩, trivial⟩
                · intro tm hr
                  simp [AllL, rdV] at hr
                  simp [hr, nth_d e20, e21, ← e22, f24, ← e25, e26, e28]
                  intros; first | exact KD.mk | exact KD.mkN
                · intro tm hr
                  simp [AllL, rdV] at hr
                  simp [hr, nth_d e20, e21, ← e22, f24, ← e25, e26, e28]
                  intros; first | exact KD.mk | exact KD.mkN
                · intro tm hr
                  simp [AllL, rdV] at hr
                  simp [hr, nth_d e20, e21, ← e22, f24, ← e25, e26, e28]
                  intros; first | exact KD.mk | exact KD.mkN
                · intro tm hr
                  simp [AllL, rdV] at hr
                  simp [hr, nth_d e20, e21, ← e22, f24, ← e25, e26, e28]
                  intros; first | exact KD.mk | exact KD.mkN
                · intro tm hr
                  simp [AllL, rdV] at hr
                  simp [hr, nth_d e20, e21, ← e22, f24, ← e25, e26, e28]
                  intros; first | exact KD.mk | exact KD.mkN
                · intro tm hr
                  simp [AllL, rdV] at hr
                  simp [hr, nth_d e20, e21, ← e22, f24, ← e25, e26, e28]
                  intros; first | exact KD.mk | exact KD.mkN
                · intro tm hr
                  simp [AllL, rdV] at hr
                  simp [hr, nth_d e20, e21, ← e22, f24, ← e25, e26, e28]
                  intros
                  refine xrow_own ?_
                  try simp [nth_d e20, e21, ← e22, f24, ← e25, e26, e28]
                  intros; first | exact KD.mk | exact KD.mkN
                · intro tm hr
                  simp [AllL, rdV] at hr
                  simp [hr, nth_d e20, e21, ← e22, f24, ← e25, e26, e28]
                  intros; first | exact KD.mk | exact KD.mkN
                · intro tm hr
                  simp [AllL, rdV] at hr
                  simp [hr, nth_d e20, e21, ← e22, f24, ← e25, e26, e28]
                  intros; first | exact KD.mk | exact KD.mkN
                · intro tm hr
                  simp [AllL, rdV] at hr
                  simp [hr, nth_d e20, e21, ← e22, f24, ← e25, e26, e28]
                  intros; first | exact KD.mk | exact KD.mkN
                · intro tm hr
                  simp [AllL, rdV] at hr
                  simp [hr, nth_d e20, e21, ← e22, f24, ← e25, e26, e28]
                  intros; first | exact KD.mk | exact KD.mkN
                · intro tm hr
                  simp [AllL, rdV] at hr
                  simp [hr, nth_d e20, e21, ← e22, f24, ← e25, e26, e28]
                  intros; first | exact KD.mk | exact KD.mkN
                · intro tm hr
                  simp [AllL, rdV] at hr
                  simp [hr, nth_d e20, e21, ← e22, f24, ← e25, e26, e28]
                  intros; first | exact KD.mk | exact KD.mkN
                · intro tm hr
                  simp [AllL, rdV] at hr
                  simp [hr, nth_d e20, e21, ← e22, f24, ← e25, e26, e28]
                  intros; first | exact KD.mk | exact KD.mkN
                · intro tm hr
                  simp [AllL, rdV] at hr
                  simp [hr, nth_d e20, e21, ← e22, f24, ← e25, e26, e28]
                  intros; first | exact KD.mk | exact KD.mkN
                · intro tm hr
                  simp [AllL, rdV] at hr
                  simp [hr, nth_d e20, e21, ← e22, f24, ← e25, e26, e28]
                  intros; first | exact KD.mk | exact KD.mkN
                · intro tm hr
                  simp [AllL, rdV] at hr
                  simp [hr, nth_d e20, e21, ← e22, f24, ← e25, e26, e28]
                  intros; first | exact KD.mk | exact KD.mkN
                · intro tm hr
                  simp [AllL, rdV] at hr
                  simp [hr, nth_d e20, e21, ← e22, f24, ← e25, e26, e28]
                  intros; first | exact KD.mk | exact KD.mkN
                · intro tm hr
                  simp [AllL, rdV] at hr
                  simp [hr, nth_d e20, e21, ← e22, f24, ← e25, e26, e28]
                  intros; first | exact KD.mk | exact KD.mkN
                · intro tm hr
                  simp [AllL, rdV] at hr
                  simp [hr, nth_d e20, e21, ← e22, f24, ← e25, e26, e28]
                  intros; first | exact KD.mk | exact KD.mkN
                · intro tm hr
                  simp [AllL, rdV] at hr
                  simp [hr, nth_d e20, e21, ← e22, f24, ← e25, e26, e28]
                  intros
                  refine xcall_plain en_r1_Digits (s_r1_Digits e27) rfl ⟨.same rfl, trivial⟩ ?_
                  try simp [nth_d e20, e21, ← e22, f24, ← e25, e26, e28]
                  intros; first | exact KD.mk | exact KD.mkN
                · intro tm hr
                  simp [AllL, rdV] at hr
                  simp [hr, nth_d e20, e21, ← e22, f24, ← e25, e26, e28]
                  intros
                  refine xcall_plain en_r1_Digits (s_r1_Digits e27) rfl ⟨.same rfl, trivial⟩ ?_
                  try simp [nth_d e20, e21, ← e22, f24, ← e25, e26, e28]
                  intros; first | exact KD.mk | exact KD.mkN
              · rfl
              · simp [tmD, putD, nth_d e20, e21, ← e22, f24, ← e25, e26, e28]; rfl
              · simp [nth_d e20, e21, ← e22, f24, ← e25, e26, e28]
                intros; rfl
              apply AW.step
              · simp
                intros; rfl
              refine AW.block ?_
              replace h := ltE h; obtain ⟨v29, e29, h⟩ := h
              apply AW.step
              · simp [← e29]
                intros; rfl
              cases v29 with
              | true =>
                replace h := iteT rfl h
                refine AW.cond_true (by simp) ?_
                replace h := bnE h; obtain ⟨v30, e30, h⟩ := h
                apply AW.last
                · simp [e30]
                  intros; rfl
                obtain rfl := Option.some.inj h
                refine nP_i ?_
                refine Weak.mixN [some 0, some 1, some 2] hn0 (by decide) ?_ ?_ rfl
                all_goals first | (simp [inv_cons, inv_nil, pickOb, lvs_encU1]; done) | rfl
              | false =>
                replace h := iteF rfl h
                refine AW.cond_false (by simp) ?_
                replace h := ltE h; obtain ⟨v31, e31, h⟩ := h
                apply AW.step
                · simp [← e31]
                  intros; rfl
                cases v31 with
                | true =>
                  replace h := iteT rfl h
                  refine AW.cond_true (by simp) ?_
                  replace h := ltE h; obtain ⟨v32, e32, h⟩ := h
                  replace h := bnE h; obtain ⟨v33, e33, h⟩ := h
                  replace h := bnE h; obtain ⟨v34, e34, h⟩ := h
                  apply AW.drawnR (V := [_, _, _, _, _, _, _, _, _, _]) mixed [⟨[0], [], [(5, none)], false⟩, ⟨[0], [0], [(67, some 0)], false⟩, ⟨[0], [], [(7, none)], false⟩, ⟨[0], [], [(0, none)], false⟩, ⟨[0], [], [(6, none)], false⟩, ⟨[0], [3, 4], [(70, some 3), (71, some 4)], false⟩, ⟨[0], [3, 4, 5], [(72, some 5)], false⟩, ⟨[0], [3, 4, 5, 6], [(73, some 6)], false⟩, ⟨[0], [3, 4, 5, 6, 7], [(74, some 7)], false⟩, ⟨[0], [3, 4, 5, 6, 7, 8], [(75, some 8)], false⟩, ⟨[], [0, 1, 2, 3, 4, 5, 6, 7, 8, 9], [], false⟩, ⟨[], [0, 1, 2, 3, 4, 5, 6, 7, 8, 9, 10], [], false⟩, ⟨[], [0, 1, 2, 3, 4, 5, 6, 7, 8, 9, 10, 11], [], false⟩] 10 (by kernel_rfl) (by kernel_rfl)
                  · refine ⟨?_, ?_, ?_, ?_, ?_, ?_, ?_, ?_, ?_, ?_, trivial⟩
                    · intro tm hr
                      simp [AllL, rdV] at hr
                      simp [hr, nth_d e20, ← e25, ← e32]
                      intros; first | exact KD.mk | exact KD.mkN
                    · intro tm hr
                      simp [AllL, rdV] at hr
                      simp [hr, nth_d e20, ← e25, ← e32]
                      intros; first | exact KD.mk | exact KD.mkN
                    · intro tm hr
                      simp [AllL, rdV] at hr
                      simp [hr, nth_d e20, ← e25, ← e32]
                      intros; first | exact KD.mk | exact KD.mkN
                    · intro tm hr
                      simp [AllL, rdV] at hr
                      simp [hr, nth_d e20, ← e25, ← e32]
                      intros; first | exact KD.mk | exact KD.mkN
                    · intro tm hr
                      simp [AllL, rdV] at hr
                      simp [hr, nth_d e20, ← e25, ← e32]
                      intros; first | exact KD.mk | exact KD.mkN
                    · intro tm hr
                      simp [AllL, rdV] at hr
                      simp [hr, nth_d e20, ← e25, ← e32]
                      intros; first | exact KD.mk | exact KD.mkN
                    · intro tm hr
                      simp [AllL, rdV] at hr
                      simp [hr, nth_d e20, ← e25, ← e32]
                      intros; first | exact KD.mk | exact KD.mkN
                    · intro tm hr
                      simp [AllL, rdV] at hr
                      simp [hr, nth_d e20, ← e25, ← e32]
                      intros; first | exact KD.mk | exact KD.mkN
                    · intro tm hr
                      simp [AllL, rdV] at hr
                      simp [hr, nth_d e20, ← e25, ← e32]
                      intros; first | exact KD.mk | exact KD.mkN
                    · intro tm hr
                      simp [AllL, rdV] at hr
                      simp [hr, nth_d e20, ← e25, ← e32]
                      intros
                      refine xcall_plain en_r1_Digits (s_r1_Digits e33) rfl ⟨.same rfl, trivial⟩ ?_
                      try simp [nth_d e20, ← e25, ← e32]
                      intros; first | exact KD.mk | exact KD.mkN
                  · rfl
                  · simp [tmD, putD, nth_d e20, ← e25, ← e32]; rfl
                  · simp [nth_d e20, ← e25, ← e32]
                    intros
                    refine xcall_plain en_r5_HSet (s_r5_HSet e34) rfl ⟨.same rfl, .same rfl, .same rfl, trivial⟩ ?_
                    try simp [nth_d e20, ← e25, ← e32]
                    intros; rfl
                  obtain rfl := Option.some.inj h
                  refine nP_i ?_
                  refine Weak.mixN [some 0, some 1, some 2] hn0 (by decide) ?_ ?_ rfl
                  all_goals first | (simp [inv_cons, inv_nil, pickOb, lvs_encU1]; done) | rfl
                | false =>
                  replace h := iteF rfl h
                  refine AW.cond_false (by simp) ?_
                  replace h := ltE h; obtain ⟨v35, e35, h⟩ := h
                  apply AW.step
                  · simp [← e35]
                    intros; rfl
                  cases v35 with
                  | true =>
                    replace h := iteT rfl h
                    refine AW.cond_true (by simp) ?_
                    replace h := chkE h; obtain ⟨e36, h⟩ := h
                    replace h := ltE h; obtain ⟨v37, e37, h⟩ := h
                    apply AW.last
                    · simp [← encS_append, ← e37, app_len1 e37]
                      intros
                      refine xrow_own ?_
                      try simp [← encS_append, ← e37, app_len1 e37]
                      intros
                      refine xapp_pushN (acc := encS y11.2.2.2) (ys := encS [v28]) (cap := none) (k := 1) tb_el32 tb_ti9 (by simp) (by simp [encS, lvs]) (encS_sz _) (by simp) (by simp) (by simpa using (room_d e36).1) ?_
                      try simp [← encS_append, ← e37, app_len1 e37]
                      intros; rfl
                    obtain rfl := Option.some.inj h
                    refine nP_i ?_
                    refine Weak.mixN [some 0, some 1, some 5] hn0 (by decide) ?_ ?_ rfl
                    all_goals first | (simp [inv_cons, inv_nil, pickOb, lvs_encS1, lvs_encU1]; done) | rfl
                  | false =>
                    replace h := iteF rfl h
                    refine AW.cond_false (by simp) ?_
                    replace h := chkE h; obtain ⟨e38, h⟩ := h
                    replace h := bnE h; obtain ⟨v39, e39, h⟩ := h
                    apply AW.last
                    · simp [outR]
                      intros
                      refine xcall_new en_r5_SAdd_tf (s_r5_SAdd_tf e39) rfl (by simp) ⟨.rowd (by simp) rfl (by omega) (encS_sz _) (by simp) (by first | exact (room_d e38).2 | simpa using (room_d e38).2 | simp), .same rfl, trivial⟩ ?_
                      try simp [outR]
                      intros; rfl
                    obtain rfl := Option.some.inj h
                    refine nP_i ?_
                    refine Weak.mixN [some 0, some 1, some 4] hn0 (by decide) ?_ ?_ rfl
                    all_goals first | (simp [inv_cons, inv_nil, pickOb, lvs_encU1]; done) | rfl
            · rintro e s hp
              obtain ⟨rfl, hw⟩ := hp
              refine ⟨_, hw, ?_⟩
              try simp only [sp_l, sp_r, Post.seq, Post.block, Nat.reduceEqDiff, reduceIte, Nat.zero_ne_one, Nat.one_ne_zero]
              replace h := ltE h; obtain ⟨v40, e40, h⟩ := h
              apply AW.last
              · simp [← e40]
                intros; rfl
              obtain rfl := Option.some.inj h
              refine nP_i ?_
              refine Weak.mixN [some 0, some 1, some 2] hn0 (by decide) ?_ ?_ rfl
              all_goals first | (simp [inv_cons, inv_nil, pickOb]; done) | rfl
          | false =>
            replace h := iteF rfl h
            refine AW.cond_false (by simp) ?_
            refine AW.exit ?_
            try simp only [sp_l, sp_r, Post.seq, Post.block, Nat.reduceEqDiff, reduceIte, Nat.zero_ne_one, Nat.one_ne_zero]
            obtain rfl := Option.some.inj h
            refine xP_i ?_
            refine Weak.mixN [some 0, some 1, some 2] hn0 (by decide) ?_ ?_ rfl
            all_goals first | (simp [inv_cons, inv_nil, pickOb]; done) | rfl
      · rintro e s hp
        obtain ⟨rfl, hw⟩ := hp
        refine ⟨_, hw, ?_⟩
        try simp only [sp_l, sp_r, Post.seq, Post.block, Nat.reduceEqDiff, reduceIte, Nat.zero_ne_one, Nat.one_ne_zero]
        refine AW.seq ?_
        replace h := bnE h; obtain ⟨y41, g41, h⟩ := h
        refine AW.flow (p := fun gh ls => (nP (cx := cx) (fun q => (⟨[(0, .l (.d false 1 (encU a0))), (4, .l (.p 0 0)), (5, .l (.p 1 0)), (94, .l (.s (.bool q)))], [some ⟨34, 5, false, none, [.s (.int .i64 0), .s (.string ⟨#[]⟩), .s (.slice none 0 0), .s (.slice none 0 0), .s (.int .i64 0)]⟩, some ⟨34, 5, false, none, [.s (.int .i64 v6), .s (.string y12.1), .d false 2 (encField y12.2.1), .r 2 1 0 y12.2.2.length, .s (.int .i64 y7)]⟩, some ⟨9, 1, true, none, lvs (encS y12.2.2)⟩], 104, gh, ls⟩ : St))) y41) ?_ ?_
        · replace h := g41; clear g41
          replace h := ltE h; obtain ⟨v42, e42, h⟩ := h
          replace h := ltE h; obtain ⟨v43, e43, h⟩ := h
          cases v43 with
          | true =>
            replace h := iteT rfl h
            replace h := ltE h; obtain ⟨v44, e44, h⟩ := h
            apply AW.last
            · simp [lenI_cast e42, ← e43, ← e44]
              intros; rfl
            obtain rfl := Option.some.inj h
            refine nP_i ?_
            refine Weak.mixN [some 0, some 1, some 2] hn0 (by decide) ?_ ?_ rfl
            all_goals first | (simp [inv_cons, inv_nil, pickOb]; done) | rfl
          | false =>
            replace h := iteF rfl h
            apply AW.last
            · simp [lenI_cast e42, ← e43]
              intros; rfl
            obtain rfl := Option.some.inj h
            refine nP_i ?_
            refine Weak.mixN [some 0, some 1, some 2] hn0 (by decide) ?_ ?_ rfl
            all_goals first | (simp [inv_cons, inv_nil, pickOb]; done) | rfl
        · rintro e s hp
          obtain ⟨rfl, hw⟩ := hp
          refine ⟨_, hw, ?_⟩
          try simp only [sp_l, sp_r, Post.seq, Post.block, Nat.reduceEqDiff, reduceIte, Nat.zero_ne_one, Nat.one_ne_zero]
          replace h := ltE h; obtain ⟨v45, e45, h⟩ := h
          rw [← e45]
          cases v45 with
          | true =>
            replace h := iteT rfl h
            refine AW.cond_true (by simp) ?_
            replace h := bnE h; obtain ⟨v46, e46, h⟩ := h
            replace h := ltE h; obtain ⟨v47, e47, h⟩ := h
            replace h := bnE h; obtain ⟨v48, e48, h⟩ := h
            apply AW.drawnP (V := [_, _, _, _, _, _, _]) mixed [⟨[0], [], [(0, none)], false⟩, ⟨[0], [0], [(95, some 0)], false⟩, ⟨[0], [0, 1], [(96, some 1)], false⟩, ⟨[0], [0, 1, 2], [(97, some 2)], false⟩, ⟨[0], [0, 1, 2, 3], [(98, some 3)], false⟩, ⟨[0], [], [(5, none)], false⟩, ⟨[0], [5], [(100, some 5)], false⟩, ⟨[], [0, 1, 2, 3, 4, 5, 6], [], false⟩, ⟨[], [0, 1, 2, 3, 4, 5, 6, 7], [], false⟩] 7 (by kernel_rfl) (by kernel_rfl)
            · refine ⟨?_, ?_, ?_, ?_, ?_, ?_, ?_, trivial⟩
              · intro tm hr
                simp [AllL, rdV] at hr
                simp [hr, (show a0[0]? = some v46 from (nth_d e46).2), ← e47]
                intros; first | exact KD.mk | exact KD.mkN
              · intro tm hr
                simp [AllL, rdV] at hr
                simp [hr, (show a0[0]? = some v46 from (nth_d e46).2), ← e47]
                intros; first | exact KD.mk | exact KD.mkN
              · intro tm hr
                simp [AllL, rdV] at hr
                simp [hr, (show a0[0]? = some v46 from (nth_d e46).2), ← e47]
                intros; first | exact KD.mk | exact KD.mkN
              · intro tm hr
                simp [AllL, rdV] at hr
                simp [hr, (show a0[0]? = some v46 from (nth_d e46).2), ← e47]
                intros; first | exact KD.mk | exact KD.mkN
              · intro tm hr
                simp [AllL, rdV] at hr
                simp [hr, (show a0[0]? = some v46 from (nth_d e46).2), ← e47]
                intros
                refine xcall_plain en_r1_Digits (s_r1_Digits e48) rfl ⟨.same rfl, trivial⟩ ?_
                try simp [(show a0[0]? = some v46 from (nth_d e46).2), ← e47]
                intros; first | exact KD.mk | exact KD.mkN
              · intro tm hr
                simp [AllL, rdV] at hr
                simp [hr, (show a0[0]? = some v46 from (nth_d e46).2), ← e47]
                intros; first | exact KD.mk | exact KD.mkN
              · intro tm hr
                simp [AllL, rdV] at hr
                simp [hr, (show a0[0]? = some v46 from (nth_d e46).2), ← e47]
                intros; first | exact KD.mk | exact KD.mkN
            · rfl
            · simp [tmD, putD, (show a0[0]? = some v46 from (nth_d e46).2), ← e47]; rfl
            · simp [(show a0[0]? = some v46 from (nth_d e46).2), ← e47]
              intros; rfl
            refine AW.nilCellD 0 2 2 rfl rfl rfl rfl ?_
            refine AW.nilCellD 0 3 1 rfl rfl rfl rfl ?_
            obtain rfl := Option.some.inj h
            refine AW.ret ?_
            refine Left.plain hnb (by simp [Try.f68, resV, resC, comp]; rfl) rfl rfl ?_
            simp
          | false =>
            replace h := iteF rfl h
            refine AW.cond_false (by simp) ?_
            refine AW.skip ?_
            try simp only [sp_l, sp_r, Post.seq, Post.block, Nat.reduceEqDiff, reduceIte, Nat.zero_ne_one, Nat.one_ne_zero]
            try simp only [sp_l, sp_r, Post.seq, Post.block, Nat.reduceEqDiff, reduceIte, Nat.zero_ne_one, Nat.one_ne_zero]
            apply AW.step
            · simp
              intros; rfl
            replace h := chkE h; obtain ⟨e49, h⟩ := h
            refine AW.frzRow 2 (ty := 9) (cap := none) (sz := 1) (es := encS y12.2.2) (by simp) (by omega) (encS_sz _) (by first | exact (room_d e49).2 | simpa using (room_d e49).2 | simp) (by simp [Tm.frz, AV.frz, LV.frz]; rfl) (by simp [Ob.frz, LV.frz]; rfl) rfl ?_
            obtain rfl := Option.some.inj h
            refine AW.ret ?_
            refine Left.plain hnb (by simp [Try.f68, resV, resC, comp]; rfl) rfl rfl ?_
            simp
theorem en_l5_Make : Enters Try.prog 68 := enters Try.func68 (by kernel_rfl) rfl
def l11_Effects_sh (n : Nat) (a0 : List Int) : Option (List Effect) :=
bn (iter n (fun (y1 : Int × List Effect) =>
bn (lt (addI .i64 y1.1 3) fun v5 =>
lt (lenI a0) fun v6 =>
lt (ltI v5 v6) fun v7 =>
ite' v7 (lt (lenI y1.2) fun v8 =>
lt (ltI v8 40) fun v9 =>
some (v9)) (some (false))) fun (y4 : Bool) =>
lt (y4) fun v10 =>
ite' v10 (bn (nth a0 y1.1) fun v11 =>
bn (l11_Key_sh n v11) fun v12 =>
lt (addI .i64 y1.1 1) fun v13 =>
bn (nth a0 v13) fun v14 =>
bn (remI .u8 v14 4) fun v15 =>
lt (eqI v15 0) fun v16 =>
bn (lt (notB v16) fun v18 =>
ite' v18 (lt (addI .i64 y1.1 4) fun v19 =>
bn (seglh a0 v13 v19) fun v20 =>
lt (addI .i64 y1.1 2) fun v22 =>
bn (nth a0 v22) fun v23 =>
bn (l5_Make_sh n v20 v23) fun v24 =>
some ((v24.kind, v24.s, v24.f, v24.l, v24.exp))) (some ((0, ⟨#[]⟩, [], [], 0)))) fun (y17 : Int × ByteArray × List Field × List ByteArray × Int) =>
chk (room (y1.2.length + 1) 104) <|
lt (y1.2 ++ [(⟨v12, v16, (⟨y17.1, y17.2.1, y17.2.2.1, y17.2.2.2.1, y17.2.2.2.2⟩ : Item)⟩ : Effect)]) fun v26 =>
lt (addI .i64 y1.1 4) fun v27 =>
some (.inl (v27, v26))) (some (.inr y1.2))) (0, [])) fun (y2 : List Effect) =>
chk (room y2.length 1) <|
some y2
set_option maxRecDepth 8000 in
set_option maxHeartbeats 8000000 in
theorem s_l11_Effects {n : Nat} {a0 : List Int} {r : List Effect} (h : l11_Effects_sh n a0 = some r) : Sound Try.prog 16 [.l (.d false 1 (encU a0))] [] (.l (.d false 7 (encEffect r))) [] := by
  unfold l11_Effects_sh at h
  refine Sound.of_aw (fn := Try.f16) (c := _) Try.func16 rfl (by simp [Try.f16]) fun cx hG hnb => ?_
  rw [show Try.f16.ntmps = 52 from rfl]
  have hn0 : cx.nb = 0 := hnb
  simp only [st0_mk, initTm, List.map_cons, List.map_nil]
  apply AW.step
  · simp
    intros; rfl
  apply AW.step
  · simp
    intros; rfl
  refine AW.seq ?_
  apply AW.step
  · simp
    intros; rfl
  refine AW.block ?_
  replace h := bnE h; obtain ⟨y2, g2, h⟩ := h
  refine AW.iterP g2 (mk := fun gh ls q => (⟨[(0, .l (.d false 1 (encU a0))), (3, .l (.r 0 7 0 q.2.length)), (4, .l (.s (.int .i64 q.1)))], [some ⟨36, 7, true, none, lvs (encEffect q.2)⟩], 52, gh, ls⟩ : St)) (N := fun gh ls => (xP 0 (cx := cx) (fun q => (⟨[(3, .l (.r 0 7 0 q.length))], [some ⟨36, 7, true, none, lvs (encEffect q)⟩], 52, gh, ls⟩ : St)))) ?_ noX ?_ ?_
  · refine W.nilRow 3 36 7 0 (by simp) rfl rfl ?_
    refine Weak.mixN [some 0] hn0 (by decide) ?_ ?_ rfl
    all_goals first | (simp [inv_cons, inv_nil, pickOb]; done) | rfl
  · clear h; intro y1 y3 h
    refine AW.seq ?_
    replace h := bnE h; obtain ⟨y4, g4, h⟩ := h
    refine AW.flow (p := fun gh ls => (nP (cx := cx) (fun q => (⟨[(0, .l (.d false 1 (encU a0))), (3, .l (.r 0 7 0 y1.2.length)), (4, .l (.s (.int .i64 y1.1))), (15, .l (.s (.bool q)))], [some ⟨36, 7, true, none, lvs (encEffect y1.2)⟩], 52, gh, ls⟩ : St))) y4) ?_ ?_
    · replace h := g4; clear g4
      replace h := ltE h; obtain ⟨v5, e5, h⟩ := h
      replace h := ltE h; obtain ⟨v6, e6, h⟩ := h
      replace h := ltE h; obtain ⟨v7, e7, h⟩ := h
      cases v7 with
      | true =>
        replace h := iteT rfl h
        replace h := ltE h; obtain ⟨v8, e8, h⟩ := h
        replace h := ltE h; obtain ⟨v9, e9, h⟩ := h
        apply AW.last
        · simp [← e5, lenI_cast e6, ← e7, lenI_cast e8, ← e9]
          intros; rfl
        obtain rfl := Option.some.inj h
        refine nP_i ?_
        refine Weak.mixN [some 0] hn0 (by decide) ?_ ?_ rfl
        all_goals first | (simp [inv_cons, inv_nil, pickOb]; done) | rfl
      | false =>
        replace h := iteF rfl h
        apply AW.last
        · simp [← e5, lenI_cast e6, ← e7]
          intros; rfl
        obtain rfl := Option.some.inj h
        refine nP_i ?_
        refine Weak.mixN [some 0] hn0 (by decide) ?_ ?_ rfl
        all_goals first | (simp [inv_cons, inv_nil, pickOb]; done) | rfl
    · rintro e s hp
      obtain ⟨rfl, hw⟩ := hp
      refine ⟨_, hw, ?_⟩
      try simp only [sp_l, sp_r, Post.seq, Post.block, Nat.reduceEqDiff, reduceIte, Nat.zero_ne_one, Nat.one_ne_zero]
      replace h := ltE h; obtain ⟨v10, e10, h⟩ := h
      rw [← e10]
      cases v10 with
      | true =>
        replace h := iteT rfl h
        refine AW.cond_true (by simp) ?_
        refine AW.skip ?_
        try simp only [sp_l, sp_r, Post.seq, Post.block, Nat.reduceEqDiff, reduceIte, Nat.zero_ne_one, Nat.one_ne_zero]
        try simp only [sp_l, sp_r, Post.seq, Post.block, Nat.reduceEqDiff, reduceIte, Nat.zero_ne_one, Nat.one_ne_zero]
        refine AW.seq ?_
        refine AW.block ?_
        replace h := bnE h; obtain ⟨v11, e11, h⟩ := h
        replace h := bnE h; obtain ⟨v12, e12, h⟩ := h
        replace h := ltE h; obtain ⟨v13, e13, h⟩ := h
        replace h := bnE h; obtain ⟨v14, e14, h⟩ := h
        replace h := bnE h; obtain ⟨v15, e15, h⟩ := h
        replace h := ltE h; obtain ⟨v16, e16, h⟩ := h
        apply AW.drawnE (V := [_, _, _, _, _, _, _, _, _, _, _, _, _, _]) (M := [[some ⟨36, 7, true, none, lvs (encEffect y1.2)⟩], [some ⟨36, 7, true, none, lvs (encEffect y1.2)⟩, some ⟨36, 7, false, none, [.s (.string ⟨#[]⟩), .s (.bool false), .s (.int .i64 0), .s (.string ⟨#[]⟩), .s (.slice none 0 0), .s (.slice none 0 0), .s (.int .i64 0)]⟩]]) mixed [⟨[0, 1], [], [(0, none)], false⟩, ⟨[0, 1], [], [(4, none)], false⟩, ⟨[0, 1], [0, 1], [(18, some 0), (19, some 1)], false⟩, ⟨[0, 1], [0, 1, 2], [(20, some 2)], false⟩, ⟨[0, 1], [0, 1, 2, 3], [(21, some 3)], false⟩, ⟨[0, 1], [], [(0, none)], false⟩, ⟨[0, 1], [], [(4, none)], false⟩, ⟨[0, 1], [6], [(24, some 6)], false⟩, ⟨[0, 1], [5, 6, 7], [(23, some 5), (25, some 7)], false⟩, ⟨[0, 1], [5, 6, 7, 8], [(26, some 8)], false⟩, ⟨[0, 1], [5, 6, 7, 8, 9], [(27, some 9)], false⟩, ⟨[0, 1], [5, 6, 7, 8, 9, 10], [(28, some 10)], false⟩, ⟨[0, 1], [0, 1, 2, 3, 4, 5, 6, 7, 8, 9, 10, 11], [(22, some 4), (29, some 11)], false⟩, ⟨[0], [], [], true⟩, ⟨[], [0, 1, 2, 3, 4, 5, 6, 7, 8, 9, 10, 11, 12, 13], [], false⟩] 14 1 (by kernel_rfl) (by kernel_rfl)
        · rfl
        · refine ⟨⟨?_, ?_⟩, ⟨?_, ?_⟩, ⟨?_, ?_⟩, ⟨?_, ?_⟩, ⟨?_, ?_⟩, ⟨?_, ?_⟩, ⟨?_, ?_⟩, ⟨?_, ?_⟩, ⟨?_, ?_⟩, ⟨?_, ?_⟩, ⟨?_, ?_⟩, ⟨?_, ?_⟩, ⟨?_, ?_⟩, ?_, trivial⟩
          · intro tm hr
            simp [AllL, rdV] at hr
            simp [hr, nth_d e11, ← e13, nth_d e14, e15, ← e16]
            intros; first | exact KD.mk | exact KD.mkN
          · intro tm hr
            simp [AllL, rdV] at hr
            simp [hr, nth_d e11, ← e13, nth_d e14, e15, ← e16]
            intros; first | exact KD.mk | exact KD.mkN
          · intro tm hr
            simp [AllL, rdV] at hr
            simp [hr, nth_d e11, ← e13, nth_d e14, e15, ← e16]
            intros; first | exact KD.mk | exact KD.mkN
          · intro tm hr
            simp [AllL, rdV] at hr
            simp [hr, nth_d e11, ← e13, nth_d e14, e15, ← e16]
            intros; first | exact KD.mk | exact KD.mkN
          · intro tm hr
            simp [AllL, rdV] at hr
            simp [hr, nth_d e11, ← e13, nth_d e14, e15, ← e16]
            intros; first | exact KD.mk | exact KD.mkN
          · intro tm hr
            simp [AllL, rdV] at hr
            simp [hr, nth_d e11, ← e13, nth_d e14, e15, ← e16]
            intros; first | exact KD.mk | exact KD.mkN
          · intro tm hr
            simp [AllL, rdV] at hr
            simp [hr, nth_d e11, ← e13, nth_d e14, e15, ← e16]
            intros; first | exact KD.mk | exact KD.mkN
          · intro tm hr
            simp [AllL, rdV] at hr
            simp [hr, nth_d e11, ← e13, nth_d e14, e15, ← e16]
            intros; first | exact KD.mk | exact KD.mkN
          · intro tm hr
            simp [AllL, rdV] at hr
            simp [hr, nth_d e11, ← e13, nth_d e14, e15, ← e16]
            intros
            refine xcall_plain en_l11_Key (s_l11_Key e12) rfl ⟨.same rfl, trivial⟩ ?_
            try simp [nth_d e11, ← e13, nth_d e14, e15, ← e16]
            intros; first | exact KD.mk | exact KD.mkN
          · intro tm hr
            simp [AllL, rdV] at hr
            simp [hr, nth_d e11, ← e13, nth_d e14, e15, ← e16]
            intros
            refine xcall_plain en_l11_Key (s_l11_Key e12) rfl ⟨.same rfl, trivial⟩ ?_
            try simp [nth_d e11, ← e13, nth_d e14, e15, ← e16]
            intros; first | exact KD.mk | exact KD.mkN
          · intro tm hr
            simp [AllL, rdV] at hr
            simp [hr, nth_d e11, ← e13, nth_d e14, e15, ← e16]
            intros; first | exact KD.mk | exact KD.mkN
          · intro tm hr
            simp [AllL, rdV] at hr
            simp [hr, nth_d e11, ← e13, nth_d e14, e15, ← e16]
            intros; first | exact KD.mk | exact KD.mkN
          · intro tm hr
            simp [AllL, rdV] at hr
            simp [hr, nth_d e11, ← e13, nth_d e14, e15, ← e16]
            intros; first | exact KD.mk | exact KD.mkN
          · intro tm hr
            simp [AllL, rdV] at hr
            simp [hr, nth_d e11, ← e13, nth_d e14, e15, ← e16]
            intros; first | exact KD.mk | exact KD.mkN
          · intro tm hr
            simp [AllL, rdV] at hr
            simp [hr, nth_d e11, ← e13, nth_d e14, e15, ← e16]
            intros; first | exact KD.mk | exact KD.mkN
          · intro tm hr
            simp [AllL, rdV] at hr
            simp [hr, nth_d e11, ← e13, nth_d e14, e15, ← e16]
            intros; first | exact KD.mk | exact KD.mkN
          · intro tm hr
            simp [AllL, rdV] at hr
            simp [hr, nth_d e11, ← e13, nth_d e14, e15, ← e16]
            intros; first | exact KD.mk | exact KD.mkN
          · intro tm hr
            simp [AllL, rdV] at hr
            simp [hr, nth_d e11, ← e13, nth_d e14, e15, ← e16]
            intros; first | exact KD.mk | exact KD.mkN
          · intro tm hr
            simp [AllL, rdV] at hr
            simp [hr, nth_d e11, ← e13, nth_d e14, e15, ← e16]
            intros; first | exact KD.mk | exact KD.mkN
          · intro tm hr
            simp [AllL, rdV] at hr
            simp [hr, nth_d e11, ← e13, nth_d e14, e15, ← e16]
            intros; first | exact KD.mk | exact KD.mkN
          · intro tm hr
            simp [AllL, rdV] at hr
            simp [hr, nth_d e11, ← e13, nth_d e14, e15, ← e16]
            intros; first | exact KD.mk | exact KD.mkN
          · intro tm hr
            simp [AllL, rdV] at hr
            simp [hr, nth_d e11, ← e13, nth_d e14, e15, ← e16]
            intros; first | exact KD.mk | exact KD.mkN
          · intro tm hr
            simp [AllL, rdV] at hr
            simp [hr, nth_d e11, ← e13, nth_d e14, e15, ← e16]
            intros; first | exact KD.mk | exact KD.mkN
          · intro tm hr
            simp [AllL, rdV] at hr
            simp [hr, nth_d e11, ← e13, nth_d e14, e15, ← e16]
            intros; first | exact KD.mk | exact KD.mkN
          · intro tm hr
            simp [AllL, rdV] at hr
            simp [hr, nth_d e11, ← e13, nth_d e14, e15, ← e16]
            intros; first | exact KD.mk | exact KD.mkN
          · intro tm hr
            simp [AllL, rdV] at hr
            simp [hr, nth_d e11, ← e13, nth_d e14, e15, ← e16]
            intros; first | exact KD.mk | exact KD.mkN
          · intro tm hr
            simp [AllL, rdV] at hr
            simp [hr, nth_d e11, ← e13, nth_d e14, e15, ← e16]
            intros; first | exact KD.mk | exact KD.mkN
        · rfl
        · simp [tmD, putD, nth_d e11, ← e13, nth_d e14, e15, ← e16]; rfl
        · simp [nth_d e11, ← e13, nth_d e14, e15, ← e16]
          intros; rfl
        replace h := bnE h; obtain ⟨y17, g17, h⟩ := h
        refine AW.flow (p := fun gh ls => (nP (cx := cx) (fun q => (⟨[(0, .l (.d false 1 (encU a0))), (3, .l (.r 0 7 0 y1.2.length)), (4, .l (.s (.int .i64 y1.1))), (5, .l (.p 1 0))], [some ⟨36, 7, true, none, lvs (encEffect y1.2)⟩, some ⟨36, 7, false, none, [.s (.string v12), .s (.bool v16), .s (.int .i64 q.1), .s (.string q.2.1), .d false 2 (encField q.2.2.1), .d false 1 (encS q.2.2.2.1), .s (.int .i64 q.2.2.2.2)]⟩], 52, gh, ls⟩ : St))) y17) ?_ ?_
        · replace h := g17; clear g17
          replace h := ltE h; obtain ⟨v18, e18, h⟩ := h
          apply AW.step
          · simp [← e18]
            intros; rfl
          cases v18 with
          | true =>
            replace h := iteT rfl h
            refine AW.cond_true (by simp) ?_
            replace h := ltE h; obtain ⟨v19, e19, h⟩ := h
            replace h := bnE h; obtain ⟨v20, e20, h⟩ := h
            have f21 := encU_seglh e20
            try simp [← e13, ← e19] at f21
            replace h := ltE h; obtain ⟨v22, e22, h⟩ := h
            replace h := bnE h; obtain ⟨v23, e23, h⟩ := h
            replace h := bnE h; obtain ⟨v24, e24, h⟩ := h
            apply AW.drawnR (V := [_, _, _, _, _, _, _, _, _, _, _]) mixed [⟨[0], [], [(0, none)], false⟩, ⟨[0], [], [(4, none)], false⟩, ⟨[0], [1], [(35, some 1)], false⟩, ⟨[0], [], [(4, none)], false⟩, ⟨[0], [3], [(37, some 3)], false⟩, ⟨[0], [0, 1, 2, 3, 4], [(34, some 0), (36, some 2), (38, some 4)], false⟩, ⟨[0], [], [(0, none)], false⟩, ⟨[0], [], [(4, none)], false⟩, ⟨[0], [7], [(41, some 7)], false⟩, ⟨[0], [6, 7, 8], [(40, some 6), (42, some 8)], false⟩, ⟨[0], [6, 7, 8, 9], [(43, some 9)], false⟩, ⟨[], [0, 1, 2, 3, 4, 5, 6, 7, 8, 9, 10], [], false⟩, ⟨[], [0, 1, 2, 3, 4, 5, 6, 7, 8, 9, 10, 11], [], false⟩, ⟨[], [0, 1, 2, 3, 4, 5, 6, 7, 8, 9, 10, 11, 12], [], false⟩] 11 (by kernel_rfl) (by kernel_rfl)
            · refine ⟨?_, ?_, ?_, ?_, ?_, ?_, ?_, ?_, ?_, ?_, ?_, trivial⟩
              · intro tm hr
                simp [AllL, rdV] at hr
                simp [hr, ← e13, ← e19, f21, ← e22, nth_d e23]
                intros; first | exact KD.mk | exact KD.mkN
              · intro tm hr
                simp [AllL, rdV] at hr
                simp [hr, ← e13, ← e19, f21, ← e22, nth_d e23]
                intros; first | exact KD.mk | exact KD.mkN
              · intro tm hr
                simp [AllL, rdV] at hr
                simp [hr, ← e13, ← e19, f21, ← e22, nth_d e23]
                intros; first | exact KD.mk | exact KD.mkN
              · intro tm hr
                simp [AllL, rdV] at hr
                simp [hr, ← e13, ← e19, f21, ← e22, nth_d e23]
                intros; first | exact KD.mk | exact KD.mkN
              · intro tm hr
                simp [AllL, rdV] at hr
                simp [hr, ← e13, ← e19, f21, ← e22, nth_d e23]
                intros; first | exact KD.mk | exact KD.mkN
              · intro tm hr
                simp [AllL, rdV] at hr
                simp [hr, ← e13, ← e19, f21, ← e22, nth_d e23]
                intros; first | exact KD.mk | exact KD.mkN
              · intro tm hr
                simp [AllL, rdV] at hr
                simp [hr, ← e13, ← e19, f21, ← e22, nth_d e23]
                intros; first | exact KD.mk | exact KD.mkN
              · intro tm hr
                simp [AllL, rdV] at hr
                simp [hr, ← e13, ← e19, f21, ← e22, nth_d e23]
                intros; first | exact KD.mk | exact KD.mkN
              · intro tm hr
                simp [AllL, rdV] at hr
                simp [hr, ← e13, ← e19, f21, ← e22, nth_d e23]
                intros; first | exact KD.mk | exact KD.mkN
              · intro tm hr
                simp [AllL, rdV] at hr
                simp [hr, ← e13, ← e19, f21, ← e22, nth_d e23]
                intros; first | exact KD.mk | exact KD.mkN
              · intro tm hr
                simp [AllL, rdV] at hr
                simp [hr, ← e13, ← e19, f21, ← e22, nth_d e23]
                intros; first | exact KD.mk | exact KD.mkN
            · rfl
            · simp [tmD, putD, ← e13, ← e19, f21, ← e22, nth_d e23]; rfl
            · simp [← e13, ← e19, f21, ← e22, nth_d e23]
              intros
              refine xcall_plain en_l5_Make (s_l5_Make e24) rfl ⟨.same rfl, .same rfl, trivial⟩ ?_
              try simp [← e13, ← e19, f21, ← e22, nth_d e23]
              intros; rfl
            obtain rfl := Option.some.inj h
            refine nP_i ?_
            refine Weak.mixN [some 0, some 1] hn0 (by decide) ?_ ?_ rfl
            all_goals first | (simp [inv_cons, inv_nil, pickOb]; done) | rfl
          | false =>
            replace h := iteF rfl h
            refine AW.cond_false (by simp) ?_
            refine AW.skip ?_
            try simp only [sp_l, sp_r, Post.seq, Post.block, Nat.reduceEqDiff, reduceIte, Nat.zero_ne_one, Nat.one_ne_zero]
            obtain rfl := Option.some.inj h
            refine nP_i ?_
            refine W.nilCellD 1 4 2 rfl rfl rfl rfl ?_
            refine W.nilCellD 1 5 1 rfl rfl rfl rfl ?_
            refine Weak.mixN [some 0, some 1] hn0 (by decide) ?_ ?_ rfl
            all_goals first | (simp [inv_cons, inv_nil, pickOb]; done) | rfl
        · rintro e s hp
          obtain ⟨rfl, hw⟩ := hp
          refine ⟨_, hw, ?_⟩
          try simp only [sp_l, sp_r, Post.seq, Post.block, Nat.reduceEqDiff, reduceIte, Nat.zero_ne_one, Nat.one_ne_zero]
          replace h := chkE h; obtain ⟨e25, h⟩ := h
          replace h := ltE h; obtain ⟨v26, e26, h⟩ := h
          apply AW.last
          · simp [← encEffect_append, ← e26, app_len1 e26]
            intros
            refine xrow_own ?_
            try simp [← encEffect_append, ← e26, app_len1 e26]
            intros
            refine xapp_pushN (acc := encEffect y1.2) (ys := encEffect [(⟨v12, v16, (⟨y17.1, y17.2.1, y17.2.2.1, y17.2.2.2.1, y17.2.2.2.2⟩ : Item)⟩ : Effect)]) (cap := none) (k := 1) tb_el24 tb_ti36 (by simp) (by simp [encEffect, lvs]) (encEffect_sz _) (by simp) (by simp) (by simpa using (room_d e25).1) ?_
            try simp [← encEffect_append, ← e26, app_len1 e26]
            intros; rfl
          try simp only [sp_l, sp_r, Post.seq, Post.block, Nat.reduceEqDiff, reduceIte, Nat.zero_ne_one, Nat.one_ne_zero]
          replace h := ltE h; obtain ⟨v27, e27, h⟩ := h
          apply AW.last
          · simp [← e27]
            intros; rfl
          obtain rfl := Option.some.inj h
          refine nP_i ?_
          refine Weak.mixN [some 3] hn0 (by decide) ?_ ?_ rfl
          all_goals first | (simp [inv_cons, inv_nil, pickOb, lvs_encEffect1]; done) | rfl
      | false =>
        replace h := iteF rfl h
        refine AW.cond_false (by simp) ?_
        refine AW.exit ?_
        try simp only [sp_l, sp_r, Post.seq, Post.block, Nat.reduceEqDiff, reduceIte, Nat.zero_ne_one, Nat.one_ne_zero]
        obtain rfl := Option.some.inj h
        refine xP_i ?_
        refine Weak.mixN [some 0] hn0 (by decide) ?_ ?_ rfl
        all_goals first | (simp [inv_cons, inv_nil, pickOb]; done) | rfl
  · rintro e s hp
    obtain ⟨rfl, hw⟩ := hp
    refine ⟨_, hw, ?_⟩
    try simp only [sp_l, sp_r, Post.seq, Post.block, Nat.reduceEqDiff, reduceIte, Nat.zero_ne_one, Nat.one_ne_zero]
    apply AW.step
    · simp
      intros; rfl
    replace h := chkE h; obtain ⟨e28, h⟩ := h
    refine AW.frzRow 0 (ty := 36) (cap := none) (sz := 7) (es := encEffect y2) (by simp) (by omega) (encEffect_sz _) (by first | exact (room_d e28).2 | simpa using (room_d e28).2 | simp) (by simp [Tm.frz, AV.frz, LV.frz]; rfl) (by simp [Ob.frz, LV.frz]; rfl) rfl ?_
    obtain rfl := Option.some.inj h
    refine AW.ret ?_
    refine Left.plain hnb (by simp [Try.f16, resV, resC, comp]; rfl) rfl rfl ?_
    simp
theorem en_l11_Effects : Enters Try.prog 16 := enters Try.func16 (by kernel_rfl) rfl
def r5_SameFields_sh (n : Nat) (a0 : List Field) (a1 : List Field) : Option Bool :=
lt (lenI a0) fun v1 =>
lt (lenI a1) fun v2 =>
lt (neI v1 v2) fun v3 =>
ite' v3 (some false) (bn (iter n (fun (y4 : Int) =>
lt (lenI a0) fun v7 =>
lt (ltI y4 v7) fun v8 =>
ite' v8 (bn (nth a0 y4) fun v9 =>
bn (nth a1 y4) fun v10 =>
lt (notB (andB (eqS v9.name v10.name) (andB (eqS v9.val v10.val) true))) fun v11 =>
ite' v11 (some (.inr (.inr false))) (lt (addI .i64 y4 1) fun v12 =>
some (.inl v12))) (some (.inr (.inl ())))) 0) fun (y5 : Unit ⊕ Bool) =>
sm y5 (fun y13 => some true) (fun y14 => some y14))
set_option maxRecDepth 8000 in
set_option maxHeartbeats 8000000 in
theorem s_r5_SameFields {n : Nat} {a0 : List Field} {a1 : List Field} {r : Bool} (h : r5_SameFields_sh n a0 a1 = some r) : Sound Try.prog 23 [.l (.d false 2 (encField a0)), .l (.d false 2 (encField a1))] [] (.l (.s (.bool r))) [] := by
  unfold r5_SameFields_sh at h
  refine Sound.of_aw (fn := Try.f23) (c := _) Try.func23 rfl (by simp [Try.f23]) fun cx hG hnb => ?_
  rw [show Try.f23.ntmps = 26 from rfl]
  have hn0 : cx.nb = 0 := hnb
  simp only [st0_mk, initTm, List.map_cons, List.map_nil]
  apply AW.step
  · simp
    intros; rfl
  refine AW.seq ?_
  replace h := ltE h; obtain ⟨v1, e1, h⟩ := h
  replace h := ltE h; obtain ⟨v2, e2, h⟩ := h
  replace h := ltE h; obtain ⟨v3, e3, h⟩ := h
  apply AW.step
  · simp [lenI_cast e1, lenI_cast e2, ← e3]
    intros; rfl
  cases v3 with
  | true =>
    replace h := iteT rfl h
    refine AW.cond_true (by simp) ?_
    apply AW.step
    · simp
      intros; rfl
    obtain rfl := Option.some.inj h
    refine AW.ret ?_
    refine Left.plain hnb (by simp [Try.f23, resV, resC, comp]; rfl) rfl rfl ?_
    simp
  | false =>
    replace h := iteF rfl h
    refine AW.cond_false (by simp) ?_
    refine AW.skip ?_
    try simp only [sp_l, sp_r, Post.seq, Post.block, Nat.reduceEqDiff, reduceIte, Nat.zero_ne_one, Nat.one_ne_zero]
    try simp only [sp_l, sp_r, Post.seq, Post.block, Nat.reduceEqDiff, reduceIte, Nat.zero_ne_one, Nat.one_ne_zero]
    refine AW.seq ?_
    apply AW.step
    · simp
      intros; rfl
    refine AW.block ?_
    replace h := bnE h; obtain ⟨y5, g5, h⟩ := h
    refine AW.iterP g5 (mk := fun gh ls q => (⟨[(0, .l (.d false 2 (encField a0))), (1, .l (.d false 2 (encField a1))), (5, .l (.s (.int .i64 q)))], [], 26, gh, ls⟩ : St)) (N := fun gh ls => (sp (xP 0 (cx := cx) (fun _ => (⟨[], [], 26, gh, ls⟩ : St))) (rP (cx := cx) (P := Try.prog) Try.f23 (fun q => .l (.s (.bool q))) (fun q => [])))) ?_ (noS noX noR) ?_ ?_
    · refine Weak.mixN [] hn0 (by decide) ?_ ?_ rfl
      all_goals first | (simp [inv_cons, inv_nil, pickOb]; done) | rfl
    · clear h; intro y4 y6 h
      refine AW.seq ?_
      replace h := ltE h; obtain ⟨v7, e7, h⟩ := h
      replace h := ltE h; obtain ⟨v8, e8, h⟩ := h
      apply AW.step
      · simp [lenI_cast e7, ← e8]
        intros; rfl
      cases v8 with
      | true =>
        replace h := iteT rfl h
        refine AW.cond_true (by simp) ?_
        refine AW.skip ?_
        try simp only [sp_l, sp_r, Post.seq, Post.block, Nat.reduceEqDiff, reduceIte, Nat.zero_ne_one, Nat.one_ne_zero]
        try simp only [sp_l, sp_r, Post.seq, Post.block, Nat.reduceEqDiff, reduceIte, Nat.zero_ne_one, Nat.one_ne_zero]
        refine AW.seq ?_
        refine AW.block ?_
        replace h := bnE h; obtain ⟨v9, e9, h⟩ := h
        replace h := bnE h; obtain ⟨v10, e10, h⟩ := h
        replace h := ltE h; obtain ⟨v11, e11, h⟩ := h
        apply AW.drawnP (V := [_, _, _, _, _, _, _, _]) mixed [⟨[0], [], [(0, none)], false⟩, ⟨[0], [], [(5, none)], false⟩, ⟨[0], [0, 1], [(17, some 0), (18, some 1)], false⟩, ⟨[0], [0, 1, 2], [(19, some 2)], false⟩, ⟨[0], [], [(1, none)], false⟩, ⟨[0], [], [(5, none)], false⟩, ⟨[0], [4, 5], [(21, some 4), (22, some 5)], false⟩, ⟨[0], [4, 5, 6], [(23, some 6)], false⟩, ⟨[], [0, 1, 2, 3, 4, 5, 6, 7], [], false⟩] 8 (by kernel_rfl) (by kernel_rfl)
        · refine ⟨?_, ?_, ?_, ?_, ?_, ?_, ?_, ?_, trivial⟩
          · intro tm hr
            simp [AllL, rdV] at hr
            simp [hr, nth_d e9, nth_d e10, ← e11]
            intros; first | exact KD.mk | exact KD.mkN
          · intro tm hr
            simp [AllL, rdV] at hr
            simp [hr, nth_d e9, nth_d e10, ← e11]
            intros; first | exact KD.mk | exact KD.mkN
          · intro tm hr
            simp [AllL, rdV] at hr
            simp [hr, nth_d e9, nth_d e10, ← e11]
            intros; first | exact KD.mk | exact KD.mkN
          · intro tm hr
            simp [AllL, rdV] at hr
            simp [hr, nth_d e9, nth_d e10, ← e11]
            intros; first | exact KD.mk | exact KD.mkN
          · intro tm hr
            simp [AllL, rdV] at hr
            simp [hr, nth_d e9, nth_d e10, ← e11]
            intros; first | exact KD.mk | exact KD.mkN
          · intro tm hr
            simp [AllL, rdV] at hr
            simp [hr, nth_d e9, nth_d e10, ← e11]
            intros; first | exact KD.mk | exact KD.mkN
          · intro tm hr
            simp [AllL, rdV] at hr
            simp [hr, nth_d e9, nth_d e10, ← e11]
            intros; first | exact KD.mk | exact KD.mkN
          · intro tm hr
            simp [AllL, rdV] at hr
            simp [hr, nth_d e9, nth_d e10, ← e11]
            intros; first | exact KD.mk | exact KD.mkN
        · rfl
        · simp [tmD, putD, nth_d e9, nth_d e10, ← e11]; rfl
        · simp [nth_d e9, nth_d e10, ← e11]
          intros; rfl
        cases v11 with
        | true =>
          replace h := iteT rfl h
          refine AW.cond_true (by simp) ?_
          apply AW.step
          · simp
            intros; rfl
          obtain rfl := Option.some.inj h
          refine AW.ret ?_
          try simp only [sp_l, sp_r, Post.seq, Post.block, Nat.reduceEqDiff, reduceIte, Nat.zero_ne_one, Nat.one_ne_zero]
          refine rP_i ?_
          refine Left.plain hnb (by simp [Try.f23, resV, resC, comp]; rfl) rfl rfl ?_
          simp
        | false =>
          replace h := iteF rfl h
          refine AW.cond_false (by simp) ?_
          refine AW.skip ?_
          try simp only [sp_l, sp_r, Post.seq, Post.block, Nat.reduceEqDiff, reduceIte, Nat.zero_ne_one, Nat.one_ne_zero]
          try simp only [sp_l, sp_r, Post.seq, Post.block, Nat.reduceEqDiff, reduceIte, Nat.zero_ne_one, Nat.one_ne_zero]
          replace h := ltE h; obtain ⟨v12, e12, h⟩ := h
          apply AW.last
          · simp [← e12]
            intros; rfl
          obtain rfl := Option.some.inj h
          refine nP_i ?_
          refine Weak.mixN [] hn0 (by decide) ?_ ?_ rfl
          all_goals first | (simp [inv_cons, inv_nil, pickOb]; done) | rfl
      | false =>
        replace h := iteF rfl h
        refine AW.cond_false (by simp) ?_
        refine AW.exit ?_
        try simp only [sp_l, sp_r, Post.seq, Post.block, Nat.reduceEqDiff, reduceIte, Nat.zero_ne_one, Nat.one_ne_zero]
        obtain rfl := Option.some.inj h
        try simp only [sp_l, sp_r]
        refine xP_i ?_
        refine Weak.mixN [] hn0 (by decide) ?_ ?_ rfl
        all_goals first | (simp [inv_cons, inv_nil, pickOb]; done) | rfl
    · rintro e s hp
      rcases y5 with y13 | y14
      · replace h := smL h
        obtain ⟨rfl, hw⟩ := hp
        refine ⟨_, hw, ?_⟩
        try simp only [sp_l, sp_r, Post.seq, Post.block, Nat.reduceEqDiff, reduceIte, Nat.zero_ne_one, Nat.one_ne_zero]
        apply AW.step
        · simp
          intros; rfl
        obtain rfl := Option.some.inj h
        refine AW.ret ?_
        refine Left.plain hnb (by simp [Try.f23, resV, resC, comp]; rfl) rfl rfl ?_
        simp
      · replace h := smR h
        obtain ⟨rfl, hl⟩ := hp
        refine ⟨_, Weak.refl _, ?_⟩
        obtain rfl := Option.some.inj h
        exact hl
theorem en_r5_SameFields : Enters Try.prog 23 := enters Try.func23 (by kernel_rfl) rfl
def r1_Texts_sh (n : Nat) (a0 : List ByteArray) (a1 : List ByteArray) : Option Bool :=
lt (lenI a0) fun v1 =>
lt (lenI a1) fun v2 =>
lt (neI v1 v2) fun v3 =>
ite' v3 (some false) (bn (iter n (fun (y4 : Int) =>
lt (lenI a0) fun v7 =>
lt (ltI y4 v7) fun v8 =>
ite' v8 (bn (nth a0 y4) fun v9 =>
bn (nth a1 y4) fun v10 =>
lt (neS v9 v10) fun v11 =>
ite' v11 (some (.inr (.inr false))) (lt (addI .i64 y4 1) fun v12 =>
some (.inl v12))) (some (.inr (.inl ())))) 0) fun (y5 : Unit ⊕ Bool) =>
sm y5 (fun y13 => some true) (fun y14 => some y14))
set_option maxRecDepth 8000 in
set_option maxHeartbeats 8000000 in
theorem s_r1_Texts {n : Nat} {a0 : List ByteArray} {a1 : List ByteArray} {r : Bool} (h : r1_Texts_sh n a0 a1 = some r) : Sound Try.prog 31 [.l (.d false 1 (encS a0)), .l (.d false 1 (encS a1))] [] (.l (.s (.bool r))) [] := by
  unfold r1_Texts_sh at h
  refine Sound.of_aw (fn := Try.f31) (c := _) Try.func31 rfl (by simp [Try.f31]) fun cx hG hnb => ?_
  rw [show Try.f31.ntmps = 26 from rfl]
  have hn0 : cx.nb = 0 := hnb
  simp only [st0_mk, initTm, List.map_cons, List.map_nil]
  apply AW.step
  · simp
    intros; rfl
  refine AW.seq ?_
  replace h := ltE h; obtain ⟨v1, e1, h⟩ := h
  replace h := ltE h; obtain ⟨v2, e2, h⟩ := h
  replace h := ltE h; obtain ⟨v3, e3, h⟩ := h
  apply AW.step
  · simp [lenI_cast e1, lenI_cast e2, ← e3]
    intros; rfl
  cases v3 with
  | true =>
    replace h := iteT rfl h
    refine AW.cond_true (by simp) ?_
    apply AW.step
    · simp
      intros; rfl
    obtain rfl := Option.some.inj h
    refine AW.ret ?_
    refine Left.plain hnb (by simp [Try.f31, resV, resC, comp]; rfl) rfl rfl ?_
    simp
  | false =>
    replace h := iteF rfl h
    refine AW.cond_false (by simp) ?_
    refine AW.skip ?_
    try simp only [sp_l, sp_r, Post.seq, Post.block, Nat.reduceEqDiff, reduceIte, Nat.zero_ne_one, Nat.one_ne_zero]
    try simp only [sp_l, sp_r, Post.seq, Post.block, Nat.reduceEqDiff, reduceIte, Nat.zero_ne_one, Nat.one_ne_zero]
    refine AW.seq ?_
    apply AW.step
    · simp
      intros; rfl
    refine AW.block ?_
    replace h := bnE h; obtain ⟨y5, g5, h⟩ := h
    refine AW.iterP g5 (mk := fun gh ls q => (⟨[(0, .l (.d false 1 (encS a0))), (1, .l (.d false 1 (encS a1))), (5, .l (.s (.int .i64 q)))], [], 26, gh, ls⟩ : St)) (N := fun gh ls => (sp (xP 0 (cx := cx) (fun _ => (⟨[], [], 26, gh, ls⟩ : St))) (rP (cx := cx) (P := Try.prog) Try.f31 (fun q => .l (.s (.bool q))) (fun q => [])))) ?_ (noS noX noR) ?_ ?_
    · refine Weak.mixN [] hn0 (by decide) ?_ ?_ rfl
      all_goals first | (simp [inv_cons, inv_nil, pickOb]; done) | rfl
    · clear h; intro y4 y6 h
      refine AW.seq ?_
      replace h := ltE h; obtain ⟨v7, e7, h⟩ := h
      replace h := ltE h; obtain ⟨v8, e8, h⟩ := h
      apply AW.step
      · simp [lenI_cast e7, ← e8]
        intros; rfl
      cases v8 with
      | true =>
        replace h := iteT rfl h
        refine AW.cond_true (by simp) ?_
        refine AW.skip ?_
        try simp only [sp_l, sp_r, Post.seq, Post.block, Nat.reduceEqDiff, reduceIte, Nat.zero_ne_one, Nat.one_ne_zero]
        try simp only [sp_l, sp_r, Post.seq, Post.block, Nat.reduceEqDiff, reduceIte, Nat.zero_ne_one, Nat.one_ne_zero]
        refine AW.seq ?_
        refine AW.block ?_
        replace h := bnE h; obtain ⟨v9, e9, h⟩ := h
        replace h := bnE h; obtain ⟨v10, e10, h⟩ := h
        replace h := ltE h; obtain ⟨v11, e11, h⟩ := h
        apply AW.drawnP (V := [_, _, _, _, _, _, _, _]) mixed [⟨[0], [], [(0, none)], false⟩, ⟨[0], [], [(5, none)], false⟩, ⟨[0], [0, 1], [(17, some 0), (18, some 1)], false⟩, ⟨[0], [0, 1, 2], [(19, some 2)], false⟩, ⟨[0], [], [(1, none)], false⟩, ⟨[0], [], [(5, none)], false⟩, ⟨[0], [4, 5], [(21, some 4), (22, some 5)], false⟩, ⟨[0], [4, 5, 6], [(23, some 6)], false⟩, ⟨[], [0, 1, 2, 3, 4, 5, 6, 7], [], false⟩] 8 (by kernel_rfl) (by kernel_rfl)
        · refine ⟨?_, ?_, ?_, ?_, ?_, ?_, ?_, ?_, trivial⟩
          · intro tm hr
            simp [AllL, rdV] at hr
            simp [hr, nth_d e9, nth_d e10, ← e11]
            intros; first | exact KD.mk | exact KD.mkN
          · intro tm hr
            simp [AllL, rdV] at hr
            simp [hr, nth_d e9, nth_d e10, ← e11]
            intros; first | exact KD.mk | exact KD.mkN
          · intro tm hr
            simp [AllL, rdV] at hr
            simp [hr, nth_d e9, nth_d e10, ← e11]
            intros; first | exact KD.mk | exact KD.mkN
          · intro tm hr
            simp [AllL, rdV] at hr
            simp [hr, nth_d e9, nth_d e10, ← e11]
            intros; first | exact KD.mk | exact KD.mkN
          · intro tm hr
            simp [AllL, rdV] at hr
            simp [hr, nth_d e9, nth_d e10, ← e11]
            intros; first | exact KD.mk | exact KD.mkN
          · intro tm hr
            simp [AllL, rdV] at hr
            simp [hr, nth_d e9, nth_d e10, ← e11]
            intros; first | exact KD.mk | exact KD.mkN
          · intro tm hr
            simp [AllL, rdV] at hr
            simp [hr, nth_d e9, nth_d e10, ← e11]
            intros; first | exact KD.mk | exact KD.mkN
          · intro tm hr
            simp [AllL, rdV] at hr
            simp [hr, nth_d e9, nth_d e10, ← e11]
            intros; first | exact KD.mk | exact KD.mkN
        · rfl
        · simp [tmD, putD, nth_d e9, nth_d e10, ← e11]; rfl
        · simp [nth_d e9, nth_d e10, ← e11]
          intros; rfl
        cases v11 with
        | true =>
          replace h := iteT rfl h
          refine AW.cond_true (by simp) ?_
          apply AW.step
          · simp
            intros; rfl
          obtain rfl := Option.some.inj h
          refine AW.ret ?_
          try simp only [sp_l, sp_r, Post.seq, Post.block, Nat.reduceEqDiff, reduceIte, Nat.zero_ne_one, Nat.one_ne_zero]
          refine rP_i ?_
          refine Left.plain hnb (by simp [Try.f31, resV, resC, comp]; rfl) rfl rfl ?_
          simp
        | false =>
          replace h := iteF rfl h
          refine AW.cond_false (by simp) ?_
          refine AW.skip ?_
          try simp only [sp_l, sp_r, Post.seq, Post.block, Nat.reduceEqDiff, reduceIte, Nat.zero_ne_one, Nat.one_ne_zero]
          try simp only [sp_l, sp_r, Post.seq, Post.block, Nat.reduceEqDiff, reduceIte, Nat.zero_ne_one, Nat.one_ne_zero]
          replace h := ltE h; obtain ⟨v12, e12, h⟩ := h
          apply AW.last
          · simp [← e12]
            intros; rfl
          obtain rfl := Option.some.inj h
          refine nP_i ?_
          refine Weak.mixN [] hn0 (by decide) ?_ ?_ rfl
          all_goals first | (simp [inv_cons, inv_nil, pickOb]; done) | rfl
      | false =>
        replace h := iteF rfl h
        refine AW.cond_false (by simp) ?_
        refine AW.exit ?_
        try simp only [sp_l, sp_r, Post.seq, Post.block, Nat.reduceEqDiff, reduceIte, Nat.zero_ne_one, Nat.one_ne_zero]
        obtain rfl := Option.some.inj h
        try simp only [sp_l, sp_r]
        refine xP_i ?_
        refine Weak.mixN [] hn0 (by decide) ?_ ?_ rfl
        all_goals first | (simp [inv_cons, inv_nil, pickOb]; done) | rfl
    · rintro e s hp
      rcases y5 with y13 | y14
      · replace h := smL h
        obtain ⟨rfl, hw⟩ := hp
        refine ⟨_, hw, ?_⟩
        try simp only [sp_l, sp_r, Post.seq, Post.block, Nat.reduceEqDiff, reduceIte, Nat.zero_ne_one, Nat.one_ne_zero]
        apply AW.step
        · simp
          intros; rfl
        obtain rfl := Option.some.inj h
        refine AW.ret ?_
        refine Left.plain hnb (by simp [Try.f31, resV, resC, comp]; rfl) rfl rfl ?_
        simp
      · replace h := smR h
        obtain ⟨rfl, hl⟩ := hp
        refine ⟨_, Weak.refl _, ?_⟩
        obtain rfl := Option.some.inj h
        exact hl
theorem en_r1_Texts : Enters Try.prog 31 := enters Try.func31 (by kernel_rfl) rfl
def r5_SameItem_sh (n : Nat) (a0 : Item) (a1 : Item) : Option Bool :=
bn (lt (eqI a0.kind a1.kind) fun v2 =>
ite' v2 (lt (eqS a0.s a1.s) fun v3 =>
ite' v3 (lt (eqI a0.exp a1.exp) fun v4 =>
ite' v4 (bn (r5_SameFields_sh n a0.f a1.f) fun v5 =>
ite' v5 (bn (r1_Texts_sh n a0.l a1.l) fun v6 =>
some (v6)) (some (false))) (some (false))) (some (false))) (some (false))) fun (y1 : Bool) =>
some y1
set_option maxRecDepth 8000 in
set_option maxHeartbeats 8000000 in
theorem s_r5_SameItem {n : Nat} {a0 : Item} {a1 : Item} {r : Bool} (h : r5_SameItem_sh n a0 a1 = some r) : Sound Try.prog 58 [.g [.s (.int .i64 a0.kind), .s (.string a0.s), .d false 2 (encField a0.f), .d false 1 (encS a0.l), .s (.int .i64 a0.exp)], .g [.s (.int .i64 a1.kind), .s (.string a1.s), .d false 2 (encField a1.f), .d false 1 (encS a1.l), .s (.int .i64 a1.exp)]] [] (.l (.s (.bool r))) [] := by
  unfold r5_SameItem_sh at h
  refine Sound.of_aw (fn := Try.f58) (c := _) Try.func58 rfl (by simp [Try.f58]) fun cx hG hnb => ?_
  rw [show Try.f58.ntmps = 38 from rfl]
  have hn0 : cx.nb = 0 := hnb
  simp only [st0_mk, initTm, List.map_cons, List.map_nil]
  apply AW.step
  · simp
    intros; rfl
  replace h := bnE h; obtain ⟨y1, g1, h⟩ := h
  refine AW.flow (p := fun gh ls => (nP (cx := cx) (fun q => (⟨[(4, .l (.s (.bool q)))], [], 38, gh, ls⟩ : St))) y1) ?_ ?_
  · replace h := g1; clear g1
    replace h := ltE h; obtain ⟨v2, e2, h⟩ := h
    cases v2 with
    | true =>
      replace h := iteT rfl h
      replace h := ltE h; obtain ⟨v3, e3, h⟩ := h
      cases v3 with
      | true =>
        replace h := iteT rfl h
        replace h := ltE h; obtain ⟨v4, e4, h⟩ := h
        cases v4 with
        | true =>
          replace h := iteT rfl h
          replace h := bnE h; obtain ⟨v5, e5, h⟩ := h
          cases v5 with
          | true =>
            replace h := iteT rfl h
            replace h := bnE h; obtain ⟨v6, e6, h⟩ := h
            apply AW.last
            · simp [← e2, ← e3, ← e4]
              intros
              refine xcall_plain en_r5_SameFields (s_r5_SameFields e5) rfl ⟨.same rfl, .same rfl, trivial⟩ ?_
              try simp [← e2, ← e3, ← e4]
              intros
              refine xcall_plain en_r1_Texts (s_r1_Texts e6) rfl ⟨.same rfl, .same rfl, trivial⟩ ?_
              try simp [← e2, ← e3, ← e4]
              intros; rfl
            obtain rfl := Option.some.inj h
            refine nP_i ?_
            refine Weak.mixN [] hn0 (by decide) ?_ ?_ rfl
            all_goals first | (simp [inv_cons, inv_nil, pickOb]; done) | rfl
          | false =>
            replace h := iteF rfl h
            apply AW.last
            · simp [← e2, ← e3, ← e4]
              intros
              refine xcall_plain en_r5_SameFields (s_r5_SameFields e5) rfl ⟨.same rfl, .same rfl, trivial⟩ ?_
              try simp [← e2, ← e3, ← e4]
              intros; rfl
            obtain rfl := Option.some.inj h
            refine nP_i ?_
            refine Weak.mixN [] hn0 (by decide) ?_ ?_ rfl
            all_goals first | (simp [inv_cons, inv_nil, pickOb]; done) | rfl
        | false =>
          replace h := iteF rfl h
          apply AW.last
          · simp [← e2, ← e3, ← e4]
            intros; rfl
          obtain rfl := Option.some.inj h
          refine nP_i ?_
          refine Weak.mixN [] hn0 (by decide) ?_ ?_ rfl
          all_goals first | (simp [inv_cons, inv_nil, pickOb]; done) | rfl
      | false =>
        replace h := iteF rfl h
        apply AW.last
        · simp [← e2, ← e3]
          intros; rfl
        obtain rfl := Option.some.inj h
        refine nP_i ?_
        refine Weak.mixN [] hn0 (by decide) ?_ ?_ rfl
        all_goals first | (simp [inv_cons, inv_nil, pickOb]; done) | rfl
    | false =>
      replace h := iteF rfl h
      apply AW.last
      · simp [← e2]
        intros; rfl
      obtain rfl := Option.some.inj h
      refine nP_i ?_
      refine Weak.mixN [] hn0 (by decide) ?_ ?_ rfl
      all_goals first | (simp [inv_cons, inv_nil, pickOb]; done) | rfl
  · rintro e s hp
    obtain ⟨rfl, hw⟩ := hp
    refine ⟨_, hw, ?_⟩
    try simp only [sp_l, sp_r, Post.seq, Post.block, Nat.reduceEqDiff, reduceIte, Nat.zero_ne_one, Nat.one_ne_zero]
    obtain rfl := Option.some.inj h
    refine AW.ret ?_
    refine Left.plain hnb (by simp [Try.f58, resV, resC, comp]; rfl) rfl rfl ?_
    simp
theorem en_r5_SameItem : Enters Try.prog 58 := enters Try.func58 (by kernel_rfl) rfl
def r5_SameEffects_sh (n : Nat) (a0 : List Effect) (a1 : List Effect) : Option Bool :=
lt (lenI a0) fun v1 =>
lt (lenI a1) fun v2 =>
lt (neI v1 v2) fun v3 =>
ite' v3 (some false) (bn (iter n (fun (y4 : Int) =>
lt (lenI a0) fun v7 =>
lt (ltI y4 v7) fun v8 =>
ite' v8 (bn (bn (nth a0 y4) fun v10 =>
bn (nth a1 y4) fun v11 =>
lt (neS v10.key v11.key) fun v12 =>
ite' v12 (some (true)) (lt (neB v10.gone v11.gone) fun v13 =>
ite' v13 (some (true)) (bn (r5_SameItem_sh n v10.item v11.item) fun v14 =>
lt (notB v14) fun v15 =>
some (v15)))) fun (y9 : Bool) =>
lt (y9) fun v16 =>
ite' v16 (some (.inr (.inr false))) (lt (addI .i64 y4 1) fun v17 =>
some (.inl v17))) (some (.inr (.inl ())))) 0) fun (y5 : Unit ⊕ Bool) =>
sm y5 (fun y18 => some true) (fun y19 => some y19))
set_option maxRecDepth 8000 in
set_option maxHeartbeats 8000000 in
theorem s_r5_SameEffects {n : Nat} {a0 : List Effect} {a1 : List Effect} {r : Bool} (h : r5_SameEffects_sh n a0 a1 = some r) : Sound Try.prog 18 [.l (.d false 7 (encEffect a0)), .l (.d false 7 (encEffect a1))] [] (.l (.s (.bool r))) [] := by
  unfold r5_SameEffects_sh at h
  refine Sound.of_aw (fn := Try.f18) (c := _) Try.func18 rfl (by simp [Try.f18]) fun cx hG hnb => ?_
  rw [show Try.f18.ntmps = 55 from rfl]
  have hn0 : cx.nb = 0 := hnb
  simp only [st0_mk, initTm, List.map_cons, List.map_nil]
  apply AW.step
  · simp
    intros; rfl
  refine AW.seq ?_
  replace h := ltE h; obtain ⟨v1, e1, h⟩ := h
  replace h := ltE h; obtain ⟨v2, e2, h⟩ := h
  replace h := ltE h; obtain ⟨v3, e3, h⟩ := h
  apply AW.step
  · simp [lenI_cast e1, lenI_cast e2, ← e3]
    intros; rfl
  cases v3 with
  | true =>
    replace h := iteT rfl h
    refine AW.cond_true (by simp) ?_
    apply AW.step
    · simp
      intros; rfl
    obtain rfl := Option.some.inj h
    refine AW.ret ?_
    refine Left.plain hnb (by simp [Try.f18, resV, resC, comp]; rfl) rfl rfl ?_
    simp
  | false =>
    replace h := iteF rfl h
    refine AW.cond_false (by simp) ?_
    refine AW.skip ?_
    try simp only [sp_l, sp_r, Post.seq, Post.block, Nat.reduceEqDiff, reduceIte, Nat.zero_ne_one, Nat.one_ne_zero]
    try simp only [sp_l, sp_r, Post.seq, Post.block, Nat.reduceEqDiff, reduceIte, Nat.zero_ne_one, Nat.one_ne_zero]
    refine AW.seq ?_
    apply AW.step
    · simp
      intros; rfl
    refine AW.block ?_
    replace h := bnE h; obtain ⟨y5, g5, h⟩ := h
    refine AW.iterP g5 (mk := fun gh ls q => (⟨[(0, .l (.d false 7 (encEffect a0))), (1, .l (.d false 7 (encEffect a1))), (5, .l (.s (.int .i64 q)))], [], 55, gh, ls⟩ : St)) (N := fun gh ls => (sp (xP 0 (cx := cx) (fun _ => (⟨[], [], 55, gh, ls⟩ : St))) (rP (cx := cx) (P := Try.prog) Try.f18 (fun q => .l (.s (.bool q))) (fun q => [])))) ?_ (noS noX noR) ?_ ?_
    · refine Weak.mixN [] hn0 (by decide) ?_ ?_ rfl
      all_goals first | (simp [inv_cons, inv_nil, pickOb]; done) | rfl
    · clear h; intro y4 y6 h
      refine AW.seq ?_
      replace h := ltE h; obtain ⟨v7, e7, h⟩ := h
      replace h := ltE h; obtain ⟨v8, e8, h⟩ := h
      apply AW.step
      · simp [lenI_cast e7, ← e8]
        intros; rfl
      cases v8 with
      | true =>
        replace h := iteT rfl h
        refine AW.cond_true (by simp) ?_
        refine AW.skip ?_
        try simp only [sp_l, sp_r, Post.seq, Post.block, Nat.reduceEqDiff, reduceIte, Nat.zero_ne_one, Nat.one_ne_zero]
        try simp only [sp_l, sp_r, Post.seq, Post.block, Nat.reduceEqDiff, reduceIte, Nat.zero_ne_one, Nat.one_ne_zero]
        refine AW.seq ?_
        refine AW.block ?_
        replace h := bnE h; obtain ⟨y9, g9, h⟩ := h
        refine AW.flow (p := fun gh ls => (nP (cx := cx) (fun q => (⟨[(0, .l (.d false 7 (encEffect a0))), (1, .l (.d false 7 (encEffect a1))), (5, .l (.s (.int .i64 y4))), (54, .l (.s (.bool q)))], [], 55, gh, ls⟩ : St))) y9) ?_ ?_
        · replace h := g9; clear g9
          replace h := bnE h; obtain ⟨v10, e10, h⟩ := h
          replace h := bnE h; obtain ⟨v11, e11, h⟩ := h
          replace h := ltE h; obtain ⟨v12, e12, h⟩ := h
          cases v12 with
          | true =>
            replace h := iteT rfl h
            apply AW.drawnR (V := [_, _, _, _, _, _, _, _, _, _, _, _, _, _, _, _, _, _, _, _, _, _, _, _, _, _, _, _, _, _, _, _, _, _, _]) mixed [⟨[0], [], [(0, none)], false⟩, ⟨[0], [], [(5, none)], false⟩, ⟨[0], [0, 1], [(17, some 0), (18, some 1)], false⟩, ⟨[0], [0, 1, 2], [(19, some 2)], false⟩, ⟨[0], [0, 1, 2, 3], [(20, some 3)], false⟩, ⟨[0], [], [(1, none)], false⟩, ⟨[0], [], [(5, none)], false⟩, ⟨[0], [5, 6], [(22, some 5), (23, some 6)], false⟩, ⟨[0], [5, 6, 7], [(24, some 7)], false⟩, ⟨[0], [5, 6, 7, 8], [(25, some 8)], false⟩, ⟨[0], [0, 1, 2, 3, 4, 5, 6, 7, 8, 9], [(21, some 4), (26, some 9)], false⟩, ⟨[0], [0, 1, 2, 3, 4, 5, 6, 7, 8, 9, 10], [(27, some 10)], false⟩, ⟨[0], [0, 1, 2, 3, 4, 5, 6, 7, 8, 9, 10, 11], [(0, none), (28, some 11)], false⟩, ⟨[0], [0, 1, 2, 3, 4, 5, 6, 7, 8, 9, 10, 11], [(5, none), (28, some 11)], false⟩, ⟨[0], [0, 1, 2, 3, 4, 5, 6, 7, 8, 9, 10, 11, 12, 13], [(28, some 11), (29, some 12), (30, some 13)], false⟩, ⟨[0], [0, 1, 2, 3, 4, 5, 6, 7, 8, 9, 10, 11, 12, 13, 14], [(28, some 11), (31, some 14)], false⟩, ⟨[0], [0, 1, 2, 3, 4, 5, 6, 7, 8, 9, 10, 11, 12, 13, 14, 15], [(28, some 11), (32, some 15)], false⟩, ⟨[0], [0, 1, 2, 3, 4, 5, 6, 7, 8, 9, 10, 11], [(1, none), (28, some 11)], false⟩, ⟨[0], [0, 1, 2, 3, 4, 5, 6, 7, 8, 9, 10, 11], [(5, none), (28, some 11)], false⟩, ⟨[0], [0, 1, 2, 3, 4, 5, 6, 7, 8, 9, 10, 11, 17, 18], [(28, some 11), (34, some 17), (35, some 18)], false⟩, ⟨[0], [0, 1, 2, 3, 4, 5, 6, 7, 8, 9, 10, 11, 17, 18, 19], [(28, some 11), (36, some 19)], false⟩, ⟨[0], [0, 1, 2, 3, 4, 5, 6, 7, 8, 9, 10, 11, 17, 18, 19, 20], [(28, some 11), (37, some 20)], false⟩, ⟨[0], [0, 1, 2, 3, 4, 5, 6, 7, 8, 9, 10, 11, 12, 13, 14, 15, 16, 17, 18, 19, 20, 21], [(28, some 11), (33, some 16), (38, some 21)], false⟩, ⟨[0], [0, 1, 2, 3, 4, 5, 6, 7, 8, 9, 10, 11, 12, 13, 14, 15, 16, 17, 18, 19, 20, 21, 22], [(28, some 11), (39, some 22)], false⟩, ⟨[0], [0, 1, 2, 3, 4, 5, 6, 7, 8, 9, 10, 11, 12, 13, 14, 15, 16, 17, 18, 19, 20, 21, 22, 23], [(40, some 23)], false⟩, ⟨[0], [0, 1, 2, 3, 4, 5, 6, 7, 8, 9, 10, 11, 12, 13, 14, 15, 16, 17, 18, 19, 20, 21, 22, 23, 24], [(0, none), (41, some 24)], false⟩, ⟨[0], [0, 1, 2, 3, 4, 5, 6, 7, 8, 9, 10, 11, 12, 13, 14, 15, 16, 17, 18, 19, 20, 21, 22, 23, 24], [(5, none), (41, some 24)], false⟩, ⟨[0], [0, 1, 2, 3, 4, 5, 6, 7, 8, 9, 10, 11, 12, 13, 14, 15, 16, 17, 18, 19, 20, 21, 22, 23, 24, 25, 26], [(41, some 24), (42, some 25), (43, some 26)], false⟩, ⟨[0], [0, 1, 2, 3, 4, 5, 6, 7, 8, 9, 10, 11, 12, 13, 14, 15, 16, 17, 18, 19, 20, 21, 22, 23, 24, 25, 26, 27], [(41, some 24), (44, some 27)], false⟩, ⟨[0], [0, 1, 2, 3, 4, 5, 6, 7, 8, 9, 10, 11, 12, 13, 14, 15, 16, 17, 18, 19, 20, 21, 22, 23, 24, 25, 26, 27, 28], [(41, some 24), (45, some 28)], false⟩, ⟨[0], [0, 1, 2, 3, 4, 5, 6, 7, 8, 9, 10, 11, 12, 13, 14, 15, 16, 17, 18, 19, 20, 21, 22, 23, 24], [(1, none), (41, some 24)], false⟩, ⟨[0], [0, 1, 2, 3, 4, 5, 6, 7, 8, 9, 10, 11, 12, 13, 14, 15, 16, 17, 18, 19, 20, 21, 22, 23, 24], [(5, none), (41, some 24)], false⟩, ⟨[0], [0, 1, 2, 3, 4, 5, 6, 7, 8, 9, 10, 11, 12, 13, 14, 15, 16, 17, 18, 19, 20, 21, 22, 23, 24, 30, 31], [(41, some 24), (47, some 30), (48, some 31)], false⟩, ⟨[0], [0, 1, 2, 3, 4, 5, 6, 7, 8, 9, 10, 11, 12, 13, 14, 15, 16, 17, 18, 19, 20, 21, 22, 23, 24, 30, 31, 32], [(41, some 24), (49, some 32)], false⟩, ⟨[0], [0, 1, 2, 3, 4, 5, 6, 7, 8, 9, 10, 11, 12, 13, 14, 15, 16, 17, 18, 19, 20, 21, 22, 23, 24, 30, 31, 32, 33], [(41, some 24), (50, some 33)], false⟩, ⟨[], [0, 1, 2, 3, 4, 5, 6, 7, 8, 9, 10, 11, 12, 13, 14, 15, 16, 17, 18, 19, 20, 21, 22, 23, 24, 25, 26, 27, 28, 29, 30, 31, 32, 33, 34], [], false⟩, ⟨[], [0, 1, 2, 3, 4, 5, 6, 7, 8, 9, 10, 11, 12, 13, 14, 15, 16, 17, 18, 19, 20, 21, 22, 23, 24, 25, 26, 27, 28, 29, 30, 31, 32, 33, 34, 35], [], false⟩, ⟨[], [0, 1, 2, 3, 4, 5, 6, 7, 8, 9, 10, 11, 12, 13, 14, 15, 16, 17, 18, 19, 20, 21, 22, 23, 24, 25, 26, 27, 28, 29, 30, 31, 32, 33, 34, 35, 36], [], false⟩] 35 (by kernel_rfl) (by kernel_rfl)
            · refine ⟨?_, ?_, ?_, ?_, ?_, ?_, ?_, ?_, ?_, ?_, ?_, ?_, ?_, ?_, ?_, ?_, ?_, ?_, ?_, ?_, ?_, ?_, ?_, ?_, ?_, ?_, ?_, ?_, ?_, ?_, ?_, ?_, ?_, ?_, ?_, trivial⟩
              · intro tm hr
                simp [AllL, rdV] at hr
                simp [hr, nth_d e10, nth_d e11, ← e12]
                intros; first | exact KD.mk | exact KD.mkN
              · intro tm hr
                simp [AllL, rdV] at hr
                simp [hr, nth_d e10, nth_d e11, ← e12]
                intros; first | exact KD.mk | exact KD.mkN
              · intro tm hr
                simp [AllL, rdV] at hr
                simp [hr, nth_d e10, nth_d e11, ← e12]
                intros; first | exact KD.mk | exact KD.mkN
              · intro tm hr
                simp [AllL, rdV] at hr
                simp [hr, nth_d e10, nth_d e11, ← e12]
                intros; first | exact KD.mk | exact KD.mkN
              · intro tm hr
                simp [AllL, rdV] at hr
                simp [hr, nth_d e10, nth_d e11, ← e12]
                intros; first | exact KD.mk | exact KD.mkN
              · intro tm hr
                simp [AllL, rdV] at hr
                simp [hr, nth_d e10, nth_d e11, ← e12]
                intros; first | exact KD.mk | exact KD.mkN
              · intro tm hr
                simp [AllL, rdV] at hr
                simp [hr, nth_d e10, nth_d e11, ← e12]
                intros; first | exact KD.mk | exact KD.mkN
              · intro tm hr
                simp [AllL, rdV] at hr
                simp [hr, nth_d e10, nth_d e11, ← e12]
                intros; first | exact KD.mk | exact KD.mkN
              · intro tm hr
                simp [AllL, rdV] at hr
                simp [hr, nth_d e10, nth_d e11, ← e12]
                intros; first | exact KD.mk | exact KD.mkN
              · intro tm hr
                simp [AllL, rdV] at hr
                simp [hr, nth_d e10, nth_d e11, ← e12]
                intros; first | exact KD.mk | exact KD.mkN
              · intro tm hr
                simp [AllL, rdV] at hr
                simp [hr, nth_d e10, nth_d e11, ← e12]
                intros; first | exact KD.mk | exact KD.mkN
              · intro tm hr
                simp [AllL, rdV] at hr
                simp [hr, nth_d e10, nth_d e11, ← e12]
                intros; first | exact KD.mk | exact KD.mkN
              · intro tm hr
                simp [AllL, rdV] at hr
                simp [hr, nth_d e10, nth_d e11, ← e12]
                intros; first | exact KD.mk | exact KD.mkN
              · intro tm hr
                simp [AllL, rdV] at hr
                simp [hr, nth_d e10, nth_d e11, ← e12]
                intros; first | exact KD.mk | exact KD.mkN
              · intro tm hr
                simp [AllL, rdV] at hr
                simp [hr, nth_d e10, nth_d e11, ← e12]
                intros; first | exact KD.mk | exact KD.mkN
              · intro tm hr
                simp [AllL, rdV] at hr
                simp [hr, nth_d e10, nth_d e11, ← e12]
                intros; first | exact KD.mk | exact KD.mkN
              · intro tm hr
                simp [AllL, rdV] at hr
                simp [hr, nth_d e10, nth_d e11, ← e12]
                intros; first | exact KD.mk | exact KD.mkN
              · intro tm hr
                simp [AllL, rdV] at hr
                simp [hr, nth_d e10, nth_d e11, ← e12]
                intros; first | exact KD.mk | exact KD.mkN
              · intro tm hr
                simp [AllL, rdV] at hr
                simp [hr, nth_d e10, nth_d e11, ← e12]
                intros; first | exact KD.mk | exact KD.mkN
              · intro tm hr
                simp [AllL, rdV] at hr
                simp [hr, nth_d e10, nth_d e11, ← e12]
                intros; first | exact KD.mk | exact KD.mkN
              · intro tm hr
                simp [AllL, rdV] at hr
                simp [hr, nth_d e10, nth_d e11, ← e12]
                intros; first | exact KD.mk | exact KD.mkN
              · intro tm hr
                simp [AllL, rdV] at hr
                simp [hr, nth_d e10, nth_d e11, ← e12]
                intros; first | exact KD.mk | exact KD.mkN
              · intro tm hr
                simp [AllL, rdV] at hr
                simp [hr, nth_d e10, nth_d e11, ← e12]
                intros; first | exact KD.mk | exact KD.mkN
              · intro tm hr
                simp [AllL, rdV] at hr
                simp [hr, nth_d e10, nth_d e11, ← e12]
                intros; first | exact KD.mk | exact KD.mkN
              · intro tm hr
                simp [AllL, rdV] at hr
                simp [hr, nth_d e10, nth_d e11, ← e12]
                intros; first | exact KD.mk | exact KD.mkN
              · intro tm hr
                simp [AllL, rdV] at hr
                simp [hr, nth_d e10, nth_d e11, ← e12]
                intros; first | exact KD.mk | exact KD.mkN
              · intro tm hr
                simp [AllL, rdV] at hr
                simp [hr, nth_d e10, nth_d e11, ← e12]
                intros; first | exact KD.mk | exact KD.mkN
              · intro tm hr
                simp [AllL, rdV] at hr
                simp [hr, nth_d e10, nth_d e11, ← e12]
                intros; first | exact KD.mk | exact KD.mkN
              · intro tm hr
                simp [AllL, rdV] at hr
                simp [hr, nth_d e10, nth_d e11, ← e12]
                intros; first | exact KD.mk | exact KD.mkN
              · intro tm hr
                simp [AllL, rdV] at hr
                simp [hr, nth_d e10, nth_d e11, ← e12]
                intros; first | exact KD.mk | exact KD.mkN
              · intro tm hr
                simp [AllL, rdV] at hr
                simp [hr, nth_d e10, nth_d e11, ← e12]
                intros; first | exact KD.mk | exact KD.mkN
              · intro tm hr
                simp [AllL, rdV] at hr
                simp [hr, nth_d e10, nth_d e11, ← e12]
                intros; first | exact KD.mk | exact KD.mkN
              · intro tm hr
                simp [AllL, rdV] at hr
                simp [hr, nth_d e10, nth_d e11, ← e12]
                intros; first | exact KD.mk | exact KD.mkN
              · intro tm hr
                simp [AllL, rdV] at hr
                simp [hr, nth_d e10, nth_d e11, ← e12]
                intros; first | exact KD.mk | exact KD.mkN
              · intro tm hr
                simp [AllL, rdV] at hr
                simp [hr, nth_d e10, nth_d e11, ← e12]
                intros; first | exact KD.mk | exact KD.mkN
            · rfl
            · simp [tmD, putD, nth_d e10, nth_d e11, ← e12]; rfl
            · simp [nth_d e10, nth_d e11, ← e12]
              intros; rfl
            obtain rfl := Option.some.inj h
            refine nP_i ?_
            refine Weak.mixN [] hn0 (by decide) ?_ ?_ rfl
            all_goals first | (simp [inv_cons, inv_nil, pickOb]; done) | rfl
          | false =>
            replace h := iteF rfl h
            replace h := ltE h; obtain ⟨v13, e13, h⟩ := h
            cases v13 with
            | true =>
              replace h := iteT rfl h
              apply AW.drawnR (V := [_, _, _, _, _, _, _, _, _, _, _, _, _, _, _, _, _, _, _, _, _, _, _, _, _, _, _, _, _, _, _, _, _, _, _]) mixed [⟨[0], [], [(0, none)], false⟩, ⟨[0], [], [(5, none)], false⟩, ⟨[0], [0, 1], [(17, some 0), (18, some 1)], false⟩, ⟨[0], [0, 1, 2], [(19, some 2)], false⟩, ⟨[0], [0, 1, 2, 3], [(20, some 3)], false⟩, ⟨[0], [], [(1, none)], false⟩, ⟨[0], [], [(5, none)], false⟩, ⟨[0], [5, 6], [(22, some 5), (23, some 6)], false⟩, ⟨[0], [5, 6, 7], [(24, some 7)], false⟩, ⟨[0], [5, 6, 7, 8], [(25, some 8)], false⟩, ⟨[0], [0, 1, 2, 3, 4, 5, 6, 7, 8, 9], [(21, some 4), (26, some 9)], false⟩, ⟨[0], [0, 1, 2, 3, 4, 5, 6, 7, 8, 9, 10], [(27, some 10)], false⟩, ⟨[0], [0, 1, 2, 3, 4, 5, 6, 7, 8, 9, 10, 11], [(0, none), (28, some 11)], false⟩, ⟨[0], [0, 1, 2, 3, 4, 5, 6, 7, 8, 9, 10, 11], [(5, none), (28, some 11)], false⟩, ⟨[0], [0, 1, 2, 3, 4, 5, 6, 7, 8, 9, 10, 11, 12, 13], [(28, some 11), (29, some 12), (30, some 13)], false⟩, ⟨[0], [0, 1, 2, 3, 4, 5, 6, 7, 8, 9, 10, 11, 12, 13, 14], [(28, some 11), (31, some 14)], false⟩, ⟨[0], [0, 1, 2, 3, 4, 5, 6, 7, 8, 9, 10, 11, 12, 13, 14, 15], [(28, some 11), (32, some 15)], false⟩, ⟨[0], [0, 1, 2, 3, 4, 5, 6, 7, 8, 9, 10, 11], [(1, none), (28, some 11)], false⟩, ⟨[0], [0, 1, 2, 3, 4, 5, 6, 7, 8, 9, 10, 11], [(5, none), (28, some 11)], false⟩, ⟨[0], [0, 1, 2, 3, 4, 5, 6, 7, 8, 9, 10, 11, 17, 18], [(28, some 11), (34, some 17), (35, some 18)], false⟩, ⟨[0], [0, 1, 2, 3, 4, 5, 6, 7, 8, 9, 10, 11, 17, 18, 19], [(28, some 11), (36, some 19)], false⟩, ⟨[0], [0, 1, 2, 3, 4, 5, 6, 7, 8, 9, 10, 11, 17, 18, 19, 20], [(28, some 11), (37, some 20)], false⟩, ⟨[0], [0, 1, 2, 3, 4, 5, 6, 7, 8, 9, 10, 11, 12, 13, 14, 15, 16, 17, 18, 19, 20, 21], [(28, some 11), (33, some 16), (38, some 21)], false⟩, ⟨[0], [0, 1, 2, 3, 4, 5, 6, 7, 8, 9, 10, 11, 12, 13, 14, 15, 16, 17, 18, 19, 20, 21, 22], [(28, some 11), (39, some 22)], false⟩, ⟨[0], [0, 1, 2, 3, 4, 5, 6, 7, 8, 9, 10, 11, 12, 13, 14, 15, 16, 17, 18, 19, 20, 21, 22, 23], [(40, some 23)], false⟩, ⟨[0], [0, 1, 2, 3, 4, 5, 6, 7, 8, 9, 10, 11, 12, 13, 14, 15, 16, 17, 18, 19, 20, 21, 22, 23, 24], [(0, none), (41, some 24)], false⟩, ⟨[0], [0, 1, 2, 3, 4, 5, 6, 7, 8, 9, 10, 11, 12, 13, 14, 15, 16, 17, 18, 19, 20, 21, 22, 23, 24], [(5, none), (41, some 24)], false⟩, ⟨[0], [0, 1, 2, 3, 4, 5, 6, 7, 8, 9, 10, 11, 12, 13, 14, 15, 16, 17, 18, 19, 20, 21, 22, 23, 24, 25, 26], [(41, some 24), (42, some 25), (43, some 26)], false⟩, ⟨[0], [0, 1, 2, 3, 4, 5, 6, 7, 8, 9, 10, 11, 12, 13, 14, 15, 16, 17, 18, 19, 20, 21, 22, 23, 24, 25, 26, 27], [(41, some 24), (44, some 27)], false⟩, ⟨[0], [0, 1, 2, 3, 4, 5, 6, 7, 8, 9, 10, 11, 12, 13, 14, 15, 16, 17, 18, 19, 20, 21, 22, 23, 24, 25, 26, 27, 28], [(41, some 24), (45, some 28)], false⟩, ⟨[0], [0, 1, 2, 3, 4, 5, 6, 7, 8, 9, 10, 11, 12, 13, 14, 15, 16, 17, 18, 19, 20, 21, 22, 23, 24], [(1, none), (41, some 24)], false⟩, ⟨[0], [0, 1, 2, 3, 4, 5, 6, 7, 8, 9, 10, 11, 12, 13, 14, 15, 16, 17, 18, 19, 20, 21, 22, 23, 24], [(5, none), (41, some 24)], false⟩, ⟨[0], [0, 1, 2, 3, 4, 5, 6, 7, 8, 9, 10, 11, 12, 13, 14, 15, 16, 17, 18, 19, 20, 21, 22, 23, 24, 30, 31], [(41, some 24), (47, some 30), (48, some 31)], false⟩, ⟨[0], [0, 1, 2, 3, 4, 5, 6, 7, 8, 9, 10, 11, 12, 13, 14, 15, 16, 17, 18, 19, 20, 21, 22, 23, 24, 30, 31, 32], [(41, some 24), (49, some 32)], false⟩, ⟨[0], [0, 1, 2, 3, 4, 5, 6, 7, 8, 9, 10, 11, 12, 13, 14, 15, 16, 17, 18, 19, 20, 21, 22, 23, 24, 30, 31, 32, 33], [(41, some 24), (50, some 33)], false⟩, ⟨[], [0, 1, 2, 3, 4, 5, 6, 7, 8, 9, 10, 11, 12, 13, 14, 15, 16, 17, 18, 19, 20, 21, 22, 23, 24, 25, 26, 27, 28, 29, 30, 31, 32, 33, 34], [], false⟩, ⟨[], [0, 1, 2, 3, 4, 5, 6, 7, 8, 9, 10, 11, 12, 13, 14, 15, 16, 17, 18, 19, 20, 21, 22, 23, 24, 25, 26, 27, 28, 29, 30, 31, 32, 33, 34, 35], [], false⟩, ⟨[], [0, 1, 2, 3, 4, 5, 6, 7, 8, 9, 10, 11, 12, 13, 14, 15, 16, 17, 18, 19, 20, 21, 22, 23, 24, 25, 26, 27, 28, 29, 30, 31, 32, 33, 34, 35, 36], [], false⟩] 35 (by kernel_rfl) (by kernel_rfl)
              · refine ⟨?_, ?_, ?_, ?_, ?_, ?_, ?_, ?_, ?_, ?_, ?_, ?_, ?_, ?_, ?_, ?_, ?_, ?_, ?_, ?_, ?_, ?_, ?_, ?_, ?_, ?_, ?_, ?_, ?_, ?_, ?_, ?_, ?_, ?_, ?_, trivial⟩
                · intro tm hr
                  simp [AllL, rdV] at hr
                  simp [hr, nth_d e10, nth_d e11, ← e12, ← e13]
                  intros; first | exact KD.mk | exact KD.mkN
                · intro tm hr
                  simp [AllL, rdV] at hr
                  simp [hr, nth_d e10, nth_d e11, ← e12, ← e13]
                  intros; first | exact KD.mk | exact KD.mkN
                · intro tm hr
                  simp [AllL, rdV] at hr
                  simp [hr, nth_d e10, nth_d e11, ← e12, ← e13]
                  intros; first | exact KD.mk | exact KD.mkN
                · intro tm hr
                  simp [AllL, rdV] at hr
                  simp [hr, nth_d e10, nth_d e11, ← e12, ← e13]
                  intros; first | exact KD.mk | exact KD.mkN
                · intro tm hr
                  simp [AllL, rdV] at hr
                  simp [hr, nth_d e10, nth_d e11, ← e12, ← e13]
                  intros; first | exact KD.mk | exact KD.mkN
                · intro tm hr
                  simp [AllL, rdV] at hr
                  simp [hr, nth_d e10, nth_d e11, ← e12, ← e13]
                  intros; first | exact KD.mk | exact KD.mkN
                · intro tm hr
                  simp [AllL, rdV] at hr
                  simp [hr, nth_d e10, nth_d e11, ← e12, ← e13]
                  intros; first | exact KD.mk | exact KD.mkN
                · intro tm hr
                  simp [AllL, rdV] at hr
                  simp [hr, nth_d e10, nth_d e11, ← e12, ← e13]
                  intros; first | exact KD.mk | exact KD.mkN
                · intro tm hr
                  simp [AllL, rdV] at hr
                  simp [hr, nth_d e10, nth_d e11, ← e12, ← e13]
                  intros; first | exact KD.mk | exact KD.mkN
                · intro tm hr
                  simp [AllL, rdV] at hr
                  simp [hr, nth_d e10, nth_d e11, ← e12, ← e13]
                  intros; first | exact KD.mk | exact KD.mkN
                · intro tm hr
                  simp [AllL, rdV] at hr
                  simp [hr, nth_d e10, nth_d e11, ← e12, ← e13]
                  intros; first | exact KD.mk | exact KD.mkN
                · intro tm hr
                  simp [AllL, rdV] at hr
                  simp [hr, nth_d e10, nth_d e11, ← e12, ← e13]
                  intros; first | exact KD.mk | exact KD.mkN
                · intro tm hr
                  simp [AllL, rdV] at hr
                  simp [hr, nth_d e10, nth_d e11, ← e12, ← e13]
                  intros; first | exact KD.mk | exact KD.mkN
                · intro tm hr
                  simp [AllL, rdV] at hr
                  simp [hr, nth_d e10, nth_d e11, ← e12, ← e13]
                  intros; first | exact KD.mk | exact KD.mkN
                · intro tm hr
                  simp [AllL, rdV] at hr
                  simp [hr, nth_d e10, nth_d e11, ← e12, ← e13]
                  intros; first | exact KD.mk | exact KD.mkN
                · intro tm hr
                  simp [AllL, rdV] at hr
                  simp [hr, nth_d e10, nth_d e11, ← e12, ← e13]
                  intros; first | exact KD.mk | exact KD.mkN
                · intro tm hr
                  simp [AllL, rdV] at hr
                  simp [hr, nth_d e10, nth_d e11, ← e12, ← e13]
                  intros; first | exact KD.mk | exact KD.mkN
                · intro tm hr
                  simp [AllL, rdV] at hr
                  simp [hr, nth_d e10, nth_d e11, ← e12, ← e13]
                  intros; first | exact KD.mk | exact KD.mkN
                · intro tm hr
                  simp [AllL, rdV] at hr
                  simp [hr, nth_d e10, nth_d e11, ← e12, ← e13]
                  intros; first | exact KD.mk | exact KD.mkN
                · intro tm hr
                  simp [AllL, rdV] at hr
                  simp [hr, nth_d e10, nth_d e11, ← e12, ← e13]
                  intros; first | exact KD.mk | exact KD.mkN
                · intro tm hr
                  simp [AllL, rdV] at hr
                  simp [hr, nth_d e10, nth_d e11, ← e12, ← e13]
                  intros; first | exact KD.mk | exact KD.mkN
                · intro tm hr
                  simp [AllL, rdV] at hr
                  simp [hr, nth_d e10, nth_d e11, ← e12, ← e13]
                  intros; first | exact KD.mk | exact KD.mkN
                · intro tm hr
                  simp [AllL, rdV] at hr
                  simp [hr, nth_d e10, nth_d e11, ← e12, ← e13]
                  intros; first | exact KD.mk | exact KD.mkN
                · intro tm hr
                  simp [AllL, rdV] at hr
                  simp [hr, nth_d e10, nth_d e11, ← e12, ← e13]
                  intros; first | exact KD.mk | exact KD.mkN
                · intro tm hr
                  simp [AllL, rdV] at hr
                  simp [hr, nth_d e10, nth_d e11, ← e12, ← e13]
                  intros; first | exact KD.mk | exact KD.mkN
                · intro tm hr
                  simp [AllL, rdV] at hr
                  simp [hr, nth_d e10, nth_d e11, ← e12, ← e13]
                  intros; first | exact KD.mk | exact KD.mkN
                · intro tm hr
                  simp [AllL, rdV] at hr
                  simp [hr, nth_d e10, nth_d e11, ← e12, ← e13]
                  intros; first | exact KD.mk | exact KD.mkN
                · intro tm hr
                  simp [AllL, rdV] at hr
                  simp [hr, nth_d e10, nth_d e11, ← e12, ← e13]
                  intros; first | exact KD.mk | exact KD.mkN
                · intro tm hr
                  simp [AllL, rdV] at hr
                  simp [hr, nth_d e10, nth_d e11, ← e12, ← e13]
                  intros; first | exact KD.mk | exact KD.mkN
                · intro tm hr
                  simp [AllL, rdV] at hr
                  simp [hr, nth_d e10, nth_d e11, ← e12, ← e13]
                  intros; first | exact KD.mk | exact KD.mkN
                · intro tm hr
                  simp [AllL, rdV] at hr
                  simp [hr, nth_d e10, nth_d e11, ← e12, ← e13]
                  intros; first | exact KD.mk | exact KD.mkN
                · intro tm hr
                  simp [AllL, rdV] at hr
                  simp [hr, nth_d e10, nth_d e11, ← e12, ← e13]
                  intros; first | exact KD.mk | exact KD.mkN
                · intro tm hr
                  simp [AllL, rdV] at hr
                  simp [hr, nth_d e10, nth_d e11, ← e12, ← e13]
                  intros; first | exact KD.mk | exact KD.mkN
                · intro tm hr
                  simp [AllL, rdV] at hr
                  simp [hr, nth_d e10, nth_d e11, ← e12, ← e13]
                  intros; first | exact KD.mk | exact KD.mkN
                · intro tm hr
                  simp [AllL, rdV] at hr
                  simp [hr, nth_d e10, nth_d e11, ← e12, ← e13]
                  intros; first | exact KD.mk | exact KD.mkN
              · rfl
              · simp [tmD, putD, nth_d e10, nth_d e11, ← e12, ← e13]; rfl
              · simp [nth_d e10, nth_d e11, ← e12, ← e13]
                intros; rfl
              obtain rfl := Option.some.inj h
              refine nP_i ?_
              refine Weak.mixN [] hn0 (by decide) ?_ ?_ rfl
              all_goals first | (simp [inv_cons, inv_nil, pickOb]; done) | rfl
            | false =>
              replace h := iteF rfl h
              replace h := bnE h; obtain ⟨v14, e14, h⟩ := h
              replace h := ltE h; obtain ⟨v15, e15, h⟩ := h
              apply AW.drawnR (V := [_, _, _, _, _, _, _, _, _, _, _, _, _, _, _, _, _, _, _, _, _, _, _, _, _, _, _, _, _, _, _, _, _, _, _]) mixed [⟨[0], [], [(0, none)], false⟩, ⟨[0], [], [(5, none)], false⟩, ⟨[0], [0, 1], [(17, some 0), (18, some 1)], false⟩, ⟨[0], [0, 1, 2], [(19, some 2)], false⟩, ⟨[0], [0, 1, 2, 3], [(20, some 3)], false⟩, ⟨[0], [], [(1, none)], false⟩, ⟨[0], [], [(5, none)], false⟩, ⟨[0], [5, 6], [(22, some 5), (23, some 6)], false⟩, ⟨[0], [5, 6, 7], [(24, some 7)], false⟩, ⟨[0], [5, 6, 7, 8], [(25, some 8)], false⟩, ⟨[0], [0, 1, 2, 3, 4, 5, 6, 7, 8, 9], [(21, some 4), (26, some 9)], false⟩, ⟨[0], [0, 1, 2, 3, 4, 5, 6, 7, 8, 9, 10], [(27, some 10)], false⟩, ⟨[0], [0, 1, 2, 3, 4, 5, 6, 7, 8, 9, 10, 11], [(0, none), (28, some 11)], false⟩, ⟨[0], [0, 1, 2, 3, 4, 5, 6, 7, 8, 9, 10, 11], [(5, none), (28, some 11)], false⟩, ⟨[0], [0, 1, 2, 3, 4, 5, 6, 7, 8, 9, 10, 11, 12, 13], [(28, some 11), (29, some 12), (30, some 13)], false⟩, ⟨[0], [0, 1, 2, 3, 4, 5, 6, 7, 8, 9, 10, 11, 12, 13, 14], [(28, some 11), (31, some 14)], false⟩, ⟨[0], [0, 1, 2, 3, 4, 5, 6, 7, 8, 9, 10, 11, 12, 13, 14, 15], [(28, some 11), (32, some 15)], false⟩, ⟨[0], [0, 1, 2, 3, 4, 5, 6, 7, 8, 9, 10, 11], [(1, none), (28, some 11)], false⟩, ⟨[0], [0, 1, 2, 3, 4, 5, 6, 7, 8, 9, 10, 11], [(5, none), (28, some 11)], false⟩, ⟨[0], [0, 1, 2, 3, 4, 5, 6, 7, 8, 9, 10, 11, 17, 18], [(28, some 11), (34, some 17), (35, some 18)], false⟩, ⟨[0], [0, 1, 2, 3, 4, 5, 6, 7, 8, 9, 10, 11, 17, 18, 19], [(28, some 11), (36, some 19)], false⟩, ⟨[0], [0, 1, 2, 3, 4, 5, 6, 7, 8, 9, 10, 11, 17, 18, 19, 20], [(28, some 11), (37, some 20)], false⟩, ⟨[0], [0, 1, 2, 3, 4, 5, 6, 7, 8, 9, 10, 11, 12, 13, 14, 15, 16, 17, 18, 19, 20, 21], [(28, some 11), (33, some 16), (38, some 21)], false⟩, ⟨[0], [0, 1, 2, 3, 4, 5, 6, 7, 8, 9, 10, 11, 12, 13, 14, 15, 16, 17, 18, 19, 20, 21, 22], [(28, some 11), (39, some 22)], false⟩, ⟨[0], [0, 1, 2, 3, 4, 5, 6, 7, 8, 9, 10, 11, 12, 13, 14, 15, 16, 17, 18, 19, 20, 21, 22, 23], [(40, some 23)], false⟩, ⟨[0], [0, 1, 2, 3, 4, 5, 6, 7, 8, 9, 10, 11, 12, 13, 14, 15, 16, 17, 18, 19, 20, 21, 22, 23, 24], [(0, none), (41, some 24)], false⟩, ⟨[0], [0, 1, 2, 3, 4, 5, 6, 7, 8, 9, 10, 11, 12, 13, 14, 15, 16, 17, 18, 19, 20, 21, 22, 23, 24], [(5, none), (41, some 24)], false⟩, ⟨[0], [0, 1, 2, 3, 4, 5, 6, 7, 8, 9, 10, 11, 12, 13, 14, 15, 16, 17, 18, 19, 20, 21, 22, 23, 24, 25, 26], [(41, some 24), (42, some 25), (43, some 26)], false⟩, ⟨[0], [0, 1, 2, 3, 4, 5, 6, 7, 8, 9, 10, 11, 12, 13, 14, 15, 16, 17, 18, 19, 20, 21, 22, 23, 24, 25, 26, 27], [(41, some 24), (44, some 27)], false⟩, ⟨[0], [0, 1, 2, 3, 4, 5, 6, 7, 8, 9, 10, 11, 12, 13, 14, 15, 16, 17, 18, 19, 20, 21, 22, 23, 24, 25, 26, 27, 28], [(41, some 24), (45, some 28)], false⟩, ⟨[0], [0, 1, 2, 3, 4, 5, 6, 7, 8, 9, 10, 11, 12, 13, 14, 15, 16, 17, 18, 19, 20, 21, 22, 23, 24], [(1, none), (41, some 24)], false⟩, ⟨[0], [0, 1, 2, 3, 4, 5, 6, 7, 8, 9, 10, 11, 12, 13, 14, 15, 16, 17, 18, 19, 20, 21, 22, 23, 24], [(5, none), (41, some 24)], false⟩, ⟨[0], [0, 1, 2, 3, 4, 5, 6, 7, 8, 9, 10, 11, 12, 13, 14, 15, 16, 17, 18, 19, 20, 21, 22, 23, 24, 30, 31], [(41, some 24), (47, some 30), (48, some 31)], false⟩, ⟨[0], [0, 1, 2, 3, 4, 5, 6, 7, 8, 9, 10, 11, 12, 13, 14, 15, 16, 17, 18, 19, 20, 21, 22, 23, 24, 30, 31, 32], [(41, some 24), (49, some 32)], false⟩, ⟨[0], [0, 1, 2, 3, 4, 5, 6, 7, 8, 9, 10, 11, 12, 13, 14, 15, 16, 17, 18, 19, 20, 21, 22, 23, 24, 30, 31, 32, 33], [(41, some 24), (50, some 33)], false⟩, ⟨[], [0, 1, 2, 3, 4, 5, 6, 7, 8, 9, 10, 11, 12, 13, 14, 15, 16, 17, 18, 19, 20, 21, 22, 23, 24, 25, 26, 27, 28, 29, 30, 31, 32, 33, 34], [], false⟩, ⟨[], [0, 1, 2, 3, 4, 5, 6, 7, 8, 9, 10, 11, 12, 13, 14, 15, 16, 17, 18, 19, 20, 21, 22, 23, 24, 25, 26, 27, 28, 29, 30, 31, 32, 33, 34, 35], [], false⟩, ⟨[], [0, 1, 2, 3, 4, 5, 6, 7, 8, 9, 10, 11, 12, 13, 14, 15, 16, 17, 18, 19, 20, 21, 22, 23, 24, 25, 26, 27, 28, 29, 30, 31, 32, 33, 34, 35, 36], [], false⟩] 35 (by kernel_rfl) (by kernel_rfl)
              · refine ⟨?_, ?_, ?_, ?_, ?_, ?_, ?_, ?_, ?_, ?_, ?_, ?_, ?_, ?_, ?_, ?_, ?_, ?_, ?_, ?_, ?_, ?_, ?_, ?_, ?_, ?_, ?_, ?_, ?_, ?_, ?_, ?_, ?_, ?_, ?_, trivial⟩
                · intro tm hr
                  simp [AllL, rdV] at hr
                  simp [hr, nth_d e10, nth_d e11, ← e12, ← e13, ← e15]
                  intros; first | exact KD.mk | exact KD.mkN
                · intro tm hr
                  simp [AllL, rdV] at hr
                  simp [hr, nth_d e10, nth_d e11, ← e12, ← e13, ← e15]
                  intros; first | exact KD.mk | exact KD.mkN
                · intro tm hr
                  simp [AllL, rdV] at hr
                  simp [hr, nth_d e10, nth_d e11, ← e12, ← e13, ← e15]
                  intros; first | exact KD.mk | exact KD.mkN
                · intro tm hr
                  simp [AllL, rdV] at hr
                  simp [hr, nth_d e10, nth_d e11, ← e12, ← e13, ← e15]
                  intros; first | exact KD.mk | exact KD.mkN
                · intro tm hr
                  simp [AllL, rdV] at hr
                  simp [hr, nth_d e10, nth_d e11, ← e12, ← e13, ← e15]
                  intros; first | exact KD.mk | exact KD.mkN
                · intro tm hr
                  simp [AllL, rdV] at hr
                  simp [hr, nth_d e10, nth_d e11, ← e12, ← e13, ← e15]
                  intros; first | exact KD.mk | exact KD.mkN
                · intro tm hr
                  simp [AllL, rdV] at hr
                  simp [hr, nth_d e10, nth_d e11, ← e12, ← e13, ← e15]
                  intros; first | exact KD.mk | exact KD.mkN
                · intro tm hr
                  simp [AllL, rdV] at hr
                  simp [hr, nth_d e10, nth_d e11, ← e12, ← e13, ← e15]
                  intros; first | exact KD.mk | exact KD.mkN
                · intro tm hr
                  simp [AllL, rdV] at hr
                  simp [hr, nth_d e10, nth_d e11, ← e12, ← e13, ← e15]
                  intros; first | exact KD.mk | exact KD.mkN
                · intro tm hr
                  simp [AllL, rdV] at hr
                  simp [hr, nth_d e10, nth_d e11, ← e12, ← e13, ← e15]
                  intros; first | exact KD.mk | exact KD.mkN
                · intro tm hr
                  simp [AllL, rdV] at hr
                  simp [hr, nth_d e10, nth_d e11, ← e12, ← e13, ← e15]
                  intros; first | exact KD.mk | exact KD.mkN
                · intro tm hr
                  simp [AllL, rdV] at hr
                  simp [hr, nth_d e10, nth_d e11, ← e12, ← e13, ← e15]
                  intros; first | exact KD.mk | exact KD.mkN
                · intro tm hr
                  simp [AllL, rdV] at hr
                  simp [hr, nth_d e10, nth_d e11, ← e12, ← e13, ← e15]
                  intros; first | exact KD.mk | exact KD.mkN
                · intro tm hr
                  simp [AllL, rdV] at hr
                  simp [hr, nth_d e10, nth_d e11, ← e12, ← e13, ← e15]
                  intros; first | exact KD.mk | exact KD.mkN
                · intro tm hr
                  simp [AllL, rdV] at hr
                  simp [hr, nth_d e10, nth_d e11, ← e12, ← e13, ← e15]
                  intros; first | exact KD.mk | exact KD.mkN
                · intro tm hr
                  simp [AllL, rdV] at hr
                  simp [hr, nth_d e10, nth_d e11, ← e12, ← e13, ← e15]
                  intros; first | exact KD.mk | exact KD.mkN
                · intro tm hr
                  simp [AllL, rdV] at hr
                  simp [hr, nth_d e10, nth_d e11, ← e12, ← e13, ← e15]
                  intros; first | exact KD.mk | exact KD.mkN
                · intro tm hr
                  simp [AllL, rdV] at hr
                  simp [hr, nth_d e10, nth_d e11, ← e12, ← e13, ← e15]
                  intros; first | exact KD.mk | exact KD.mkN
                · intro tm hr
                  simp [AllL, rdV] at hr
                  simp [hr, nth_d e10, nth_d e11, ← e12, ← e13, ← e15]
                  intros; first | exact KD.mk | exact KD.mkN
                · intro tm hr
                  simp [AllL, rdV] at hr
                  simp [hr, nth_d e10, nth_d e11, ← e12, ← e13, ← e15]
                  intros; first | exact KD.mk | exact KD.mkN
                · intro tm hr
                  simp [AllL, rdV] at hr
                  simp [hr, nth_d e10, nth_d e11, ← e12, ← e13, ← e15]
                  intros; first | exact KD.mk | exact KD.mkN
                · intro tm hr
                  simp [AllL, rdV] at hr
                  simp [hr, nth_d e10, nth_d e11, ← e12, ← e13, ← e15]
                  intros; first | exact KD.mk | exact KD.mkN
                · intro tm hr
                  simp [AllL, rdV] at hr
                  simp [hr, nth_d e10, nth_d e11, ← e12, ← e13, ← e15]
                  intros; first | exact KD.mk | exact KD.mkN
                · intro tm hr
                  simp [AllL, rdV] at hr
                  simp [hr, nth_d e10, nth_d e11, ← e12, ← e13, ← e15]
                  intros; first | exact KD.mk | exact KD.mkN
                · intro tm hr
                  simp [AllL, rdV] at hr
                  simp [hr, nth_d e10, nth_d e11, ← e12, ← e13, ← e15]
                  intros; first | exact KD.mk | exact KD.mkN
                · intro tm hr
                  simp [AllL, rdV] at hr
                  simp [hr, nth_d e10, nth_d e11, ← e12, ← e13, ← e15]
                  intros; first | exact KD.mk | exact KD.mkN
                · intro tm hr
                  simp [AllL, rdV] at hr
                  simp [hr, nth_d e10, nth_d e11, ← e12, ← e13, ← e15]
                  intros; first | exact KD.mk | exact KD.mkN
                · intro tm hr
                  simp [AllL, rdV] at hr
                  simp [hr, nth_d e10, nth_d e11, ← e12, ← e13, ← e15]
                  intros; first | exact KD.mk | exact KD.mkN
                · intro tm hr
                  simp [AllL, rdV] at hr
                  simp [hr, nth_d e10, nth_d e11, ← e12, ← e13, ← e15]
                  intros; first | exact KD.mk | exact KD.mkN
                · intro tm hr
                  simp [AllL, rdV] at hr
                  simp [hr, nth_d e10, nth_d e11, ← e12, ← e13, ← e15]
                  intros; first | exact KD.mk | exact KD.mkN
                · intro tm hr
                  simp [AllL, rdV] at hr
                  simp [hr, nth_d e10, nth_d e11, ← e12, ← e13, ← e15]
                  intros; first | exact KD.mk | exact KD.mkN
                · intro tm hr
                  simp [AllL, rdV] at hr
                  simp [hr, nth_d e10, nth_d e11, ← e12, ← e13, ← e15]
                  intros; first | exact KD.mk | exact KD.mkN
                · intro tm hr
                  simp [AllL, rdV] at hr
                  simp [hr, nth_d e10, nth_d e11, ← e12, ← e13, ← e15]
                  intros; first | exact KD.mk | exact KD.mkN
                · intro tm hr
                  simp [AllL, rdV] at hr
                  simp [hr, nth_d e10, nth_d e11, ← e12, ← e13, ← e15]
                  intros; first | exact KD.mk | exact KD.mkN
                · intro tm hr
                  simp [AllL, rdV] at hr
                  simp [hr, nth_d e10, nth_d e11, ← e12, ← e13, ← e15]
                  intros; first | exact KD.mk | exact KD.mkN
              · rfl
              · simp [tmD, putD, nth_d e10, nth_d e11, ← e12, ← e13, ← e15]; rfl
              · simp [nth_d e10, nth_d e11, ← e12, ← e13, ← e15]
                intros
                refine xcall_plain en_r5_SameItem (s_r5_SameItem e14) rfl ⟨.same rfl, .same rfl, trivial⟩ ?_
                try simp [nth_d e10, nth_d e11, ← e12, ← e13, ← e15]
                intros; rfl
              obtain rfl := Option.some.inj h
              refine nP_i ?_
              refine Weak.mixN [] hn0 (by decide) ?_ ?_ rfl
              all_goals first | (simp [inv_cons, inv_nil, pickOb]; done) | rfl
        · rintro e s hp
          obtain ⟨rfl, hw⟩ := hp
          refine ⟨_, hw, ?_⟩
          try simp only [sp_l, sp_r, Post.seq, Post.block, Nat.reduceEqDiff, reduceIte, Nat.zero_ne_one, Nat.one_ne_zero]
          replace h := ltE h; obtain ⟨v16, e16, h⟩ := h
          rw [← e16]
          cases v16 with
          | true =>
            replace h := iteT rfl h
            refine AW.cond_true (by simp) ?_
            apply AW.step
            · simp
              intros; rfl
            obtain rfl := Option.some.inj h
            refine AW.ret ?_
            try simp only [sp_l, sp_r, Post.seq, Post.block, Nat.reduceEqDiff, reduceIte, Nat.zero_ne_one, Nat.one_ne_zero]
            refine rP_i ?_
            refine Left.plain hnb (by simp [Try.f18, resV, resC, comp]; rfl) rfl rfl ?_
            simp
          | false =>
            replace h := iteF rfl h
            refine AW.cond_false (by simp) ?_
            refine AW.skip ?_
            try simp only [sp_l, sp_r, Post.seq, Post.block, Nat.reduceEqDiff, reduceIte, Nat.zero_ne_one, Nat.one_ne_zero]
            try simp only [sp_l, sp_r, Post.seq, Post.block, Nat.reduceEqDiff, reduceIte, Nat.zero_ne_one, Nat.one_ne_zero]
            replace h := ltE h; obtain ⟨v17, e17, h⟩ := h
            apply AW.last
            · simp [← e17]
              intros; rfl
            obtain rfl := Option.some.inj h
            refine nP_i ?_
            refine Weak.mixN [] hn0 (by decide) ?_ ?_ rfl
            all_goals first | (simp [inv_cons, inv_nil, pickOb]; done) | rfl
      | false =>
        replace h := iteF rfl h
        refine AW.cond_false (by simp) ?_
        refine AW.exit ?_
        try simp only [sp_l, sp_r, Post.seq, Post.block, Nat.reduceEqDiff, reduceIte, Nat.zero_ne_one, Nat.one_ne_zero]
        obtain rfl := Option.some.inj h
        try simp only [sp_l, sp_r]
        refine xP_i ?_
        refine Weak.mixN [] hn0 (by decide) ?_ ?_ rfl
        all_goals first | (simp [inv_cons, inv_nil, pickOb]; done) | rfl
    · rintro e s hp
      rcases y5 with y18 | y19
      · replace h := smL h
        obtain ⟨rfl, hw⟩ := hp
        refine ⟨_, hw, ?_⟩
        try simp only [sp_l, sp_r, Post.seq, Post.block, Nat.reduceEqDiff, reduceIte, Nat.zero_ne_one, Nat.one_ne_zero]
        apply AW.step
        · simp
          intros; rfl
        obtain rfl := Option.some.inj h
        refine AW.ret ?_
        refine Left.plain hnb (by simp [Try.f18, resV, resC, comp]; rfl) rfl rfl ?_
        simp
      · replace h := smR h
        obtain ⟨rfl, hl⟩ := hp
        refine ⟨_, Weak.refl _, ?_⟩
        obtain rfl := Option.some.inj h
        exact hl
theorem en_r5_SameEffects : Enters Try.prog 18 := enters Try.func18 (by kernel_rfl) rfl
def l15_FeedKeeps_sh (n : Nat) (a0 : List Int) (a1 : Int) : Option Bool :=
bn (lt (lenI a0) fun v2 =>
lt (ltI v2 4) fun v3 =>
ite' v3 (some (true)) (lt (gtI v2 120) fun v4 =>
some (v4))) fun (y1 : Bool) =>
lt (y1) fun v5 =>
ite' v5 (bn (l15_awake_sh n) fun v6 =>
some v6) (bn (l11_Effects_sh n a0) fun v7 =>
bn (iter n (fun (y8 : Int × List Effect × Int × Int × Int × List Effect × Int × Int × Int × Int × Int × Int × List Effect × Int × Int × Int) =>
lt (cvI .i64 a1) fun v11 =>
bn (remI .i64 v11 6) fun v12 =>
lt (addI .i64 1 v12) fun v13 =>
lt (ltI y8.1 v13) fun v14 =>
ite' v14 (bn (feed_Add_sh n (⟨(⟨y8.2.2.1, y8.2.2.2.1⟩ : Rid), y8.2.2.2.2.1, y8.2.2.2.2.2.1, (⟨y8.2.2.2.2.2.2.1, y8.2.2.2.2.2.2.2.1⟩ : Rid), y8.2.2.2.2.2.2.2.2.1⟩ : Feed) v7) fun v15 =>
bn (iter n (fun (y16 : Int × Int × Int × Int × List Effect × Int × Int × Int) =>
lt (lenI v7) fun v19 =>
lt (ltI y16.1 v19) fun v20 =>
ite' v20 (bn (nth v7 y16.1) fun v21 =>
bn (feed_Add_sh n (⟨(⟨y16.2.1, y16.2.2.1⟩ : Rid), y16.2.2.2.1, y16.2.2.2.2.1, (⟨y16.2.2.2.2.2.1, y16.2.2.2.2.2.2.1⟩ : Rid), y16.2.2.2.2.2.2.2⟩ : Feed) [v21]) fun v22 =>
lt (addI .i64 y16.1 1) fun v23 =>
some (.inl (v23, v22.rid.node, v22.rid.epoch, v22.off, v22.back, v22.prev.node, v22.prev.epoch, v22.upto))) (some (.inr (y16.2.1, y16.2.2.1, y16.2.2.2.1, y16.2.2.2.2.1, y16.2.2.2.2.2.1, y16.2.2.2.2.2.2.1, y16.2.2.2.2.2.2.2)))) (0, y8.2.2.2.2.2.2.2.2.2.1, y8.2.2.2.2.2.2.2.2.2.2.1, y8.2.2.2.2.2.2.2.2.2.2.2.1, y8.2.2.2.2.2.2.2.2.2.2.2.2.1, y8.2.2.2.2.2.2.2.2.2.2.2.2.2.1, y8.2.2.2.2.2.2.2.2.2.2.2.2.2.2.1, y8.2.2.2.2.2.2.2.2.2.2.2.2.2.2.2)) fun (y17 : Int × Int × Int × List Effect × Int × Int × Int) =>
chk (room (y8.2.1.length + v7.length) 104) <|
lt (y8.2.1 ++ v7) fun v25 =>
lt (addI .i64 y8.1 1) fun v26 =>
some (.inl (v26, v25, v15.rid.node, v15.rid.epoch, v15.off, v15.back, v15.prev.node, v15.prev.epoch, v15.upto, y17.1, y17.2.1, y17.2.2.1, y17.2.2.2.1, y17.2.2.2.2.1, y17.2.2.2.2.2.1, y17.2.2.2.2.2.2))) (some (.inr (y8.2.1, y8.2.2.1, y8.2.2.2.1, y8.2.2.2.2.1, y8.2.2.2.2.2.1, y8.2.2.2.2.2.2.1, y8.2.2.2.2.2.2.2.1, y8.2.2.2.2.2.2.2.2.1, y8.2.2.2.2.2.2.2.2.2.1, y8.2.2.2.2.2.2.2.2.2.2.1, y8.2.2.2.2.2.2.2.2.2.2.2.1, y8.2.2.2.2.2.2.2.2.2.2.2.2.1, y8.2.2.2.2.2.2.2.2.2.2.2.2.2.1, y8.2.2.2.2.2.2.2.2.2.2.2.2.2.2.1, y8.2.2.2.2.2.2.2.2.2.2.2.2.2.2.2)))) (0, [], 0, 0, 0, [], 0, 0, 0, 0, 0, 0, [], 0, 0, 0)) fun (y9 : List Effect × Int × Int × Int × List Effect × Int × Int × Int × Int × Int × Int × List Effect × Int × Int × Int) =>
chk (room y9.1.length 1) <|
bn (lt (lenI y9.1) fun v29 =>
lt (eqI y9.2.2.2.1 v29) fun v30 =>
ite' v30 (lt (subI .i64 v29 64) fun v31 =>
lt (maxI 0 v31) fun v32 =>
bn (segl y9.1 v32) fun v33 =>
bn (r5_SameEffects_sh n y9.2.2.2.2.1 v33) fun v35 =>
ite' v35 (bn (feed_Same_sh n (⟨(⟨y9.2.1, y9.2.2.1⟩ : Rid), y9.2.2.2.1, y9.2.2.2.2.1, (⟨y9.2.2.2.2.2.1, y9.2.2.2.2.2.2.1⟩ : Rid), y9.2.2.2.2.2.2.2.1⟩ : Feed) (⟨(⟨y9.2.2.2.2.2.2.2.2.1, y9.2.2.2.2.2.2.2.2.2.1⟩ : Rid), y9.2.2.2.2.2.2.2.2.2.2.1, y9.2.2.2.2.2.2.2.2.2.2.2.1, (⟨y9.2.2.2.2.2.2.2.2.2.2.2.2.1, y9.2.2.2.2.2.2.2.2.2.2.2.2.2.1⟩ : Rid), y9.2.2.2.2.2.2.2.2.2.2.2.2.2.2⟩ : Feed)) fun v36 =>
ite' v36 (bn (l15_awake_sh n) fun v37 =>
some (v37)) (some (false))) (some (false))) (some (false))) fun (y28 : Bool) =>
some y28)
set_option maxRecDepth 8000 in
set_option maxHeartbeats 8000000 in
theorem s_l15_FeedKeeps {n : Nat} {a0 : List Int} {a1 : Int} {r : Bool} (h : l15_FeedKeeps_sh n a0 a1 = some r) : Sound Try.prog 3 [.l (.d false 1 (encU a0)), .l (.s (.int .u8 a1))] [] (.l (.s (.bool r))) [] := by
  unfold l15_FeedKeeps_sh at h
  refine Sound.of_aw (fn := Try.f3) (c := _) Try.func3 rfl (by simp [Try.f3]) fun cx hG hnb => ?_
  rw [show Try.f3.ntmps = 73 from rfl]
  have hn0 : cx.nb = 0 := hnb
  simp only [st0_mk, initTm, List.map_cons, List.map_nil]
  apply AW.step
  · simp
    intros; rfl
  refine AW.seq ?_
  replace h := bnE h; obtain ⟨y1, g1, h⟩ := h
  refine AW.flow (p := fun gh ls => (nP (cx := cx) (fun q => (⟨[(0, .l (.d false 1 (encU a0))), (1, .l (.s (.int .u8 a1))), (18, .l (.s (.bool q)))], [], 73, gh, ls⟩ : St))) y1) ?_ ?_
  · replace h := g1; clear g1
    replace h := ltE h; obtain ⟨v2, e2, h⟩ := h
    replace h := ltE h; obtain ⟨v3, e3, h⟩ := h
    cases v3 with
    | true =>
      replace h := iteT rfl h
      apply AW.last
      · simp [lenI_cast e2, ← e3]
        intros; rfl
      obtain rfl := Option.some.inj h
      refine nP_i ?_
      refine Weak.mixN [] hn0 (by decide) ?_ ?_ rfl
      all_goals first | (simp [inv_cons, inv_nil, pickOb]; done) | rfl
    | false =>
      replace h := iteF rfl h
      replace h := ltE h; obtain ⟨v4, e4, h⟩ := h
      apply AW.last
      · simp [lenI_cast e2, ← e3, ← e4]
        intros; rfl
      obtain rfl := Option.some.inj h
      refine nP_i ?_
      refine Weak.mixN [] hn0 (by decide) ?_ ?_ rfl
      all_goals first | (simp [inv_cons, inv_nil, pickOb]; done) | rfl
  · rintro e s hp
    obtain ⟨rfl, hw⟩ := hp
    refine ⟨_, hw, ?_⟩
    try simp only [sp_l, sp_r, Post.seq, Post.block, Nat.reduceEqDiff, reduceIte, Nat.zero_ne_one, Nat.one_ne_zero]
    replace h := ltE h; obtain ⟨v5, e5, h⟩ := h
    rw [← e5]
    cases v5 with
    | true =>
      replace h := iteT rfl h
      refine AW.cond_true (by simp) ?_
      replace h := bnE h; obtain ⟨v6, e6, h⟩ := h
      apply AW.step
      · simp
        intros
        refine xcall_plain en_l15_awake (s_l15_awake e6) rfl trivial ?_
        try simp
        intros; rfl
      obtain rfl := Option.some.inj h
      refine AW.ret ?_
      refine Left.plain hnb (by simp [Try.f3, resV, resC, comp]; rfl) rfl rfl ?_
      simp
    | false =>
      replace h := iteF rfl h
      refine AW.cond_false (by simp) ?_
      refine AW.skip ?_
      try simp only [sp_l, sp_r, Post.seq, Post.block, Nat.reduceEqDiff, reduceIte, Nat.zero_ne_one, Nat.one_ne_zero]
      try simp only [sp_l, sp_r, Post.seq, Post.block, Nat.reduceEqDiff, reduceIte, Nat.zero_ne_one, Nat.one_ne_zero]
      replace h := bnE h; obtain ⟨v7, e7, h⟩ := h
      apply AW.step
      · simp
        intros
        refine xcall_plain en_l11_Effects (s_l11_Effects e7) rfl ⟨.same rfl, trivial⟩ ?_
        try simp
        intros; rfl
      apply AW.step
      · simp
        intros; rfl
      apply AW.step
      · simp
        intros; rfl
      refine AW.seq ?_
      apply AW.step
      · simp
        intros; rfl
      refine AW.block ?_
      replace h := bnE h; obtain ⟨y9, g9, h⟩ := h
      refine AW.iterP g9 (mk := fun gh ls q => (⟨[(1, .l (.s (.int .u8 a1))), (5, .l (.d false 7 (encEffect v7))), (6, .l (.r 0 7 0 q.2.1.length)), (7, .l (.p 1 0)), (8, .l (.p 2 0)), (9, .l (.s (.int .i64 q.1)))], [some ⟨36, 7, true, none, lvs (encEffect q.2.1)⟩, some ⟨29, 7, false, none, [.s (.int .i64 q.2.2.1), .s (.int .i64 q.2.2.2.1), .s (.int .i64 q.2.2.2.2.1), .d false 7 (encEffect q.2.2.2.2.2.1), .s (.int .i64 q.2.2.2.2.2.2.1), .s (.int .i64 q.2.2.2.2.2.2.2.1), .s (.int .i64 q.2.2.2.2.2.2.2.2.1)]⟩, some ⟨29, 7, false, none, [.s (.int .i64 q.2.2.2.2.2.2.2.2.2.1), .s (.int .i64 q.2.2.2.2.2.2.2.2.2.2.1), .s (.int .i64 q.2.2.2.2.2.2.2.2.2.2.2.1), .d false 7 (encEffect q.2.2.2.2.2.2.2.2.2.2.2.2.1), .s (.int .i64 q.2.2.2.2.2.2.2.2.2.2.2.2.2.1), .s (.int .i64 q.2.2.2.2.2.2.2.2.2.2.2.2.2.2.1), .s (.int .i64 q.2.2.2.2.2.2.2.2.2.2.2.2.2.2.2)]⟩], 73, gh, ls⟩ : St)) (N := fun gh ls => (xP 0 (cx := cx) (fun q => (⟨[(6, .l (.r 0 7 0 q.1.length)), (7, .l (.p 1 0)), (8, .l (.p 2 0))], [some ⟨36, 7, true, none, lvs (encEffect q.1)⟩, some ⟨29, 7, false, none, [.s (.int .i64 q.2.1), .s (.int .i64 q.2.2.1), .s (.int .i64 q.2.2.2.1), .d false 7 (encEffect q.2.2.2.2.1), .s (.int .i64 q.2.2.2.2.2.1), .s (.int .i64 q.2.2.2.2.2.2.1), .s (.int .i64 q.2.2.2.2.2.2.2.1)]⟩, some ⟨29, 7, false, none, [.s (.int .i64 q.2.2.2.2.2.2.2.2.1), .s (.int .i64 q.2.2.2.2.2.2.2.2.2.1), .s (.int .i64 q.2.2.2.2.2.2.2.2.2.2.1), .d false 7 (encEffect q.2.2.2.2.2.2.2.2.2.2.2.1), .s (.int .i64 q.2.2.2.2.2.2.2.2.2.2.2.2.1), .s (.int .i64 q.2.2.2.2.2.2.2.2.2.2.2.2.2.1), .s (.int .i64 q.2.2.2.2.2.2.2.2.2.2.2.2.2.2)]⟩], 73, gh, ls⟩ : St)))) ?_ noX ?_ ?_
      · refine W.nilRow 6 36 7 2 (by simp) rfl rfl ?_
        refine W.nilCellD 0 3 7 rfl rfl rfl rfl ?_
        refine W.nilCellD 1 3 7 rfl rfl rfl rfl ?_
        refine Weak.mixN [some 2, some 0, some 1] hn0 (by decide) ?_ ?_ rfl
        all_goals first | (simp [inv_cons, inv_nil, pickOb]; done) | rfl
      · clear h; intro y8 y10 h
        refine AW.seq ?_
        replace h := ltE h; obtain ⟨v11, e11, h⟩ := h
        replace h := bnE h; obtain ⟨v12, e12, h⟩ := h
        replace h := ltE h; obtain ⟨v13, e13, h⟩ := h
        replace h := ltE h; obtain ⟨v14, e14, h⟩ := h
        apply AW.step
        · simp [← e11, e12, ← e13, ← e14]
          intros; rfl
        cases v14 with
        | true =>
          replace h := iteT rfl h
          refine AW.cond_true (by simp) ?_
          refine AW.skip ?_
          try simp only [sp_l, sp_r, Post.seq, Post.block, Nat.reduceEqDiff, reduceIte, Nat.zero_ne_one, Nat.one_ne_zero]
          try simp only [sp_l, sp_r, Post.seq, Post.block, Nat.reduceEqDiff, reduceIte, Nat.zero_ne_one, Nat.one_ne_zero]
          refine AW.seq ?_
          refine AW.block ?_
          replace h := bnE h; obtain ⟨v15, e15, h⟩ := h
          apply AW.step
          · simp
            intros
            refine xcall_plain en_feed_Add (s_feed_Add e15) rfl ⟨.same rfl, .same rfl, trivial⟩ ?_
            try simp
            intros; rfl
          refine AW.seq ?_
          apply AW.step
          · simp
            intros; rfl
          refine AW.block ?_
          replace h := bnE h; obtain ⟨y17, g17, h⟩ := h
          refine AW.iterP g17 (mk := fun gh ls q => (⟨[(1, .l (.s (.int .u8 a1))), (5, .l (.d false 7 (encEffect v7))), (6, .l (.r 0 7 0 y8.2.1.length)), (7, .l (.p 1 0)), (8, .l (.p 2 0)), (9, .l (.s (.int .i64 y8.1))), (10, .l (.s (.int .i64 q.1)))], [some ⟨36, 7, true, none, lvs (encEffect y8.2.1)⟩, some ⟨29, 7, false, none, [.s (.int .i64 v15.rid.node), .s (.int .i64 v15.rid.epoch), .s (.int .i64 v15.off), .d false 7 (encEffect v15.back), .s (.int .i64 v15.prev.node), .s (.int .i64 v15.prev.epoch), .s (.int .i64 v15.upto)]⟩, some ⟨29, 7, false, none, [.s (.int .i64 q.2.1), .s (.int .i64 q.2.2.1), .s (.int .i64 q.2.2.2.1), .d false 7 (encEffect q.2.2.2.2.1), .s (.int .i64 q.2.2.2.2.2.1), .s (.int .i64 q.2.2.2.2.2.2.1), .s (.int .i64 q.2.2.2.2.2.2.2)]⟩], 73, gh, ls⟩ : St)) (N := fun gh ls => (xP 2 (cx := cx) (fun q => (⟨[(1, .l (.s (.int .u8 a1))), (5, .l (.d false 7 (encEffect v7))), (6, .l (.r 0 7 0 y8.2.1.length)), (7, .l (.p 1 0)), (8, .l (.p 2 0)), (9, .l (.s (.int .i64 y8.1)))], [some ⟨36, 7, true, none, lvs (encEffect y8.2.1)⟩, some ⟨29, 7, false, none, [.s (.int .i64 v15.rid.node), .s (.int .i64 v15.rid.epoch), .s (.int .i64 v15.off), .d false 7 (encEffect v15.back), .s (.int .i64 v15.prev.node), .s (.int .i64 v15.prev.epoch), .s (.int .i64 v15.upto)]⟩, some ⟨29, 7, false, none, [.s (.int .i64 q.1), .s (.int .i64 q.2.1), .s (.int .i64 q.2.2.1), .d false 7 (encEffect q.2.2.2.1), .s (.int .i64 q.2.2.2.2.1), .s (.int .i64 q.2.2.2.2.2.1), .s (.int .i64 q.2.2.2.2.2.2)]⟩], 73, gh, ls⟩ : St)))) ?_ noX ?_ ?_
          · refine Weak.mixN [some 0, some 1, some 2] hn0 (by decide) ?_ ?_ rfl
            all_goals first | (simp [inv_cons, inv_nil, pickOb]; done) | rfl
          · clear h; intro y16 y18 h
            refine AW.seq ?_
            replace h := ltE h; obtain ⟨v19, e19, h⟩ := h
            replace h := ltE h; obtain ⟨v20, e20, h⟩ := h
            apply AW.step
            · simp [lenI_cast e19, ← e20]
              intros; rfl
            cases v20 with
            | true =>
              replace h := iteT rfl h
              refine AW.cond_true (by simp) ?_
              refine AW.skip ?_
              try simp only [sp_l, sp_r, Post.seq, Post.block, Nat.reduceEqDiff, reduceIte, Nat.zero_ne_one, Nat.one_ne_zero]
              try simp only [sp_l, sp_r, Post.seq, Post.block, Nat.reduceEqDiff, reduceIte, Nat.zero_ne_one, Nat.one_ne_zero]
              refine AW.seq ?_
              refine AW.block ?_
              replace h := bnE h; obtain ⟨v21, e21, h⟩ := h
              replace h := bnE h; obtain ⟨v22, e22, h⟩ := h
              apply AW.drawnF (V := [_, _, _, _, _, _]) (M := [[some ⟨36, 7, true, none, lvs (encEffect y8.2.1)⟩, some ⟨29, 7, false, none, [.s (.int .i64 v15.rid.node), .s (.int .i64 v15.rid.epoch), .s (.int .i64 v15.off), .d false 7 (encEffect v15.back), .s (.int .i64 v15.prev.node), .s (.int .i64 v15.prev.epoch), .s (.int .i64 v15.upto)]⟩, some ⟨29, 7, false, none, [.s (.int .i64 y16.2.1), .s (.int .i64 y16.2.2.1), .s (.int .i64 y16.2.2.2.1), .d false 7 (encEffect y16.2.2.2.2.1), .s (.int .i64 y16.2.2.2.2.2.1), .s (.int .i64 y16.2.2.2.2.2.2.1), .s (.int .i64 y16.2.2.2.2.2.2.2)]⟩], [some ⟨36, 7, true, none, lvs (encEffect y8.2.1)⟩, some ⟨29, 7, false, none, [.s (.int .i64 v15.rid.node), .s (.int .i64 v15.rid.epoch), .s (.int .i64 v15.off), .d false 7 (encEffect v15.back), .s (.int .i64 v15.prev.node), .s (.int .i64 v15.prev.epoch), .s (.int .i64 v15.upto)]⟩, some ⟨29, 7, false, none, [.s (.int .i64 y16.2.1), .s (.int .i64 y16.2.2.1), .s (.int .i64 y16.2.2.2.1), .d false 7 (encEffect y16.2.2.2.2.1), .s (.int .i64 y16.2.2.2.2.2.1), .s (.int .i64 y16.2.2.2.2.2.2.1), .s (.int .i64 y16.2.2.2.2.2.2.2)]⟩, none]]) mixed [⟨[0, 1], [], [(8, none)], false⟩, ⟨[0], [], [(5, none)], false⟩, ⟨[0], [], [(10, none)], false⟩, ⟨[0], [1, 2], [(40, some 1), (41, some 2)], false⟩, ⟨[0], [1, 2, 3], [(42, some 3)], false⟩, ⟨[0], [1, 2, 3, 4], [(43, some 4)], true⟩, ⟨[], [0, 1, 2, 3, 4, 5], [], false⟩, ⟨[], [0, 1, 2, 3, 4, 5, 6], [], false⟩] 6 1 (by kernel_rfl) (by kernel_rfl)
              · rfl
              · refine ⟨⟨?_, ?_⟩, ?_, ?_, ?_, ?_, ?_, trivial⟩
                · intro tm hr
                  simp [AllL, rdV] at hr
                  simp [hr, nth_d e21]
                  intros; first | exact KD.mk | exact KD.mkN
                · intro tm hr
                  simp [AllL, rdV] at hr
                  simp [hr, nth_d e21]
                  intros; first | exact KD.mk | exact KD.mkN
                · intro tm hr
                  simp [AllL, rdV] at hr
                  simp [hr, nth_d e21]
                  intros; first | exact KD.mk | exact KD.mkN
                · intro tm hr
                  simp [AllL, rdV] at hr
                  simp [hr, nth_d e21]
                  intros; first | exact KD.mk | exact KD.mkN
                · intro tm hr
                  simp [AllL, rdV] at hr
                  simp [hr, nth_d e21]
                  intros; first | exact KD.mk | exact KD.mkN
                · intro tm hr
                  simp [AllL, rdV] at hr
                  simp [hr, nth_d e21]
                  intros; first | exact KD.mk | exact KD.mkN
                · intro tm hr
                  simp [AllL, rdV] at hr
                  simp [hr, nth_d e21]
                  intros
                  refine xrow_data (es := encEffect [v21]) (by simp [encEffect, lvs, All2]) (encEffect_sz _) (by omega) (by simp) ?_
                  try simp [nth_d e21]
                  intros; first | exact KD.mk | exact KD.mkN
              · rfl
              · simp [tmD, putD, nth_d e21]; rfl
              · simp [nth_d e21]
                intros
                refine xcall_plain en_feed_Add (s_feed_Add e22) rfl ⟨.same rfl, .same rfl, trivial⟩ ?_
                try simp [nth_d e21]
                intros; rfl
              try simp only [sp_l, sp_r, Post.seq, Post.block, Nat.reduceEqDiff, reduceIte, Nat.zero_ne_one, Nat.one_ne_zero]
              replace h := ltE h; obtain ⟨v23, e23, h⟩ := h
              apply AW.last
              · simp [← e23]
                intros; rfl
              obtain rfl := Option.some.inj h
              refine nP_i ?_
              refine Weak.mixN [some 0, some 1, some 2] hn0 (by decide) ?_ ?_ rfl
              all_goals first | (simp [inv_cons, inv_nil, pickOb]; done) | rfl
            | false =>
              replace h := iteF rfl h
              refine AW.cond_false (by simp) ?_
              refine AW.exit ?_
              try simp only [sp_l, sp_r, Post.seq, Post.block, Nat.reduceEqDiff, reduceIte, Nat.zero_ne_one, Nat.one_ne_zero]
              obtain rfl := Option.some.inj h
              refine xP_i ?_
              refine Weak.mixN [some 0, some 1, some 2] hn0 (by decide) ?_ ?_ rfl
              all_goals first | (simp [inv_cons, inv_nil, pickOb]; done) | rfl
          · rintro e s hp
            obtain ⟨rfl, hw⟩ := hp
            refine ⟨_, hw, ?_⟩
            try simp only [sp_l, sp_r, Post.seq, Post.block, Nat.reduceEqDiff, reduceIte, Nat.zero_ne_one, Nat.one_ne_zero]
            replace h := chkE h; obtain ⟨e24, h⟩ := h
            replace h := ltE h; obtain ⟨v25, e25, h⟩ := h
            apply AW.last
            · simp [← encEffect_append, ← e25, app_len e25]
              intros
              refine xapp_pushN (acc := encEffect y8.2.1) (ys := encEffect v7) (cap := none) (k := v7.length) tb_el24 tb_ti36 (by simp) (by rw [src_d]; simp) (encEffect_sz _) (by simp) (by simp) (by simpa using (room_d e24).1) ?_
              try simp [← encEffect_append, ← e25, app_len e25]
              intros; rfl
            try simp only [sp_l, sp_r, Post.seq, Post.block, Nat.reduceEqDiff, reduceIte, Nat.zero_ne_one, Nat.one_ne_zero]
            replace h := ltE h; obtain ⟨v26, e26, h⟩ := h
            apply AW.last
            · simp [← e26]
              intros; rfl
            obtain rfl := Option.some.inj h
            refine nP_i ?_
            refine Weak.mixN [some 3, some 1, some 2] hn0 (by decide) ?_ ?_ rfl
            all_goals first | (simp [inv_cons, inv_nil, pickOb]; done) | rfl
        | false =>
          replace h := iteF rfl h
          refine AW.cond_false (by simp) ?_
          refine AW.exit ?_
          try simp only [sp_l, sp_r, Post.seq, Post.block, Nat.reduceEqDiff, reduceIte, Nat.zero_ne_one, Nat.one_ne_zero]
          obtain rfl := Option.some.inj h
          refine xP_i ?_
          refine Weak.mixN [some 0, some 1, some 2] hn0 (by decide) ?_ ?_ rfl
          all_goals first | (simp [inv_cons, inv_nil, pickOb]; done) | rfl
      · rintro e s hp
        obtain ⟨rfl, hw⟩ := hp
        refine ⟨_, hw, ?_⟩
        try simp only [sp_l, sp_r, Post.seq, Post.block, Nat.reduceEqDiff, reduceIte, Nat.zero_ne_one, Nat.one_ne_zero]
        replace h := chkE h; obtain ⟨e27, h⟩ := h
        refine AW.frzRow 0 (ty := 36) (cap := none) (sz := 7) (es := encEffect y9.1) (by simp) (by omega) (encEffect_sz _) (by first | exact (room_d e27).2 | simpa using (room_d e27).2 | simp) (by simp [Tm.frz, AV.frz, LV.frz]; rfl) (by simp [Ob.frz, LV.frz]; rfl) rfl ?_
        replace h := bnE h; obtain ⟨y28, g28, h⟩ := h
        refine AW.flow (p := fun gh ls => (nP (cx := cx) (fun q => (⟨[(4, .l (.s (.bool q)))], [], 73, gh, ls⟩ : St))) y28) ?_ ?_
        · replace h := g28; clear g28
          replace h := ltE h; obtain ⟨v29, e29, h⟩ := h
          replace h := ltE h; obtain ⟨v30, e30, h⟩ := h
          cases v30 with
          | true =>
            replace h := iteT rfl h
            replace h := ltE h; obtain ⟨v31, e31, h⟩ := h
            replace h := ltE h; obtain ⟨v32, e32, h⟩ := h
            replace h := bnE h; obtain ⟨v33, e33, h⟩ := h
            have f34 := encEffect_segl e33
            try simp [lenI_cast e29, ← e30, ← e31, ← e32] at f34
            replace h := bnE h; obtain ⟨v35, e35, h⟩ := h
            cases v35 with
            | true =>
              replace h := iteT rfl h
              replace h := bnE h; obtain ⟨v36, e36, h⟩ := h
              cases v36 with
              | true =>
                replace h := iteT rfl h
                replace h := bnE h; obtain ⟨v37, e37, h⟩ := h
                apply AW.drawnR (V := [_, _, _, _, _, _, _, _, _, _, _, _, _, _, _, _, _, _, _]) mixed [⟨[0], [], [(7, none)], false⟩, ⟨[0], [0], [(49, some 0)], false⟩, ⟨[0], [], [(6, none)], false⟩, ⟨[0], [2], [(51, some 2)], false⟩, ⟨[0], [0, 1, 2, 3], [(50, some 1), (52, some 3)], false⟩, ⟨[0], [0, 1, 2, 3, 4], [(53, some 4)], false⟩, ⟨[0], [0, 1, 2, 3, 4, 5], [(7, none), (54, some 5)], false⟩, ⟨[0], [0, 1, 2, 3, 4, 5, 6], [(54, some 5), (55, some 6)], false⟩, ⟨[0], [0, 1, 2, 3, 4, 5], [(6, none), (54, some 5)], false⟩, ⟨[0], [0, 1, 2, 3, 4, 5], [(6, none), (54, some 5)], false⟩, ⟨[0], [0, 1, 2, 3, 4, 5, 9], [(54, some 5), (58, some 9)], false⟩, ⟨[0], [0, 1, 2, 3, 4, 5, 9, 10], [(54, some 5), (59, some 10)], false⟩, ⟨[0], [0, 1, 2, 3, 4, 5, 9, 10, 11], [(54, some 5), (60, some 11)], false⟩, ⟨[0], [0, 1, 2, 3, 4, 5, 8, 9, 10, 11, 12], [(54, some 5), (57, some 8), (61, some 12)], false⟩, ⟨[0], [0, 1, 2, 3, 4, 5, 6, 7, 8, 9, 10, 11, 12, 13], [(54, some 5), (56, some 7), (62, some 13)], false⟩, ⟨[0], [0, 1, 2, 3, 4, 5, 6, 7, 8, 9, 10, 11, 12, 13, 14], [(54, some 5), (63, some 14)], false⟩, ⟨[0], [0, 1, 2, 3, 4, 5, 6, 7, 8, 9, 10, 11, 12, 13, 14, 15], [(64, some 15)], false⟩, ⟨[0], [0, 1, 2, 3, 4, 5, 6, 7, 8, 9, 10, 11, 12, 13, 14, 15, 16], [(7, none), (65, some 16)], false⟩, ⟨[0], [0, 1, 2, 3, 4, 5, 6, 7, 8, 9, 10, 11, 12, 13, 14, 15, 16], [(8, none), (65, some 16)], false⟩, ⟨[], [0, 1, 2, 3, 4, 5, 6, 7, 8, 9, 10, 11, 12, 13, 14, 15, 16, 17, 18], [], false⟩, ⟨[], [0, 1, 2, 3, 4, 5, 6, 7, 8, 9, 10, 11, 12, 13, 14, 15, 16, 17, 18, 19], [], false⟩, ⟨[], [0, 1, 2, 3, 4, 5, 6, 7, 8, 9, 10, 11, 12, 13, 14, 15, 16, 17, 18, 19, 20], [], false⟩, ⟨[], [0, 1, 2, 3, 4, 5, 6, 7, 8, 9, 10, 11, 12, 13, 14, 15, 16, 17, 18, 19, 20, 21], [], false⟩, ⟨[], [0, 1, 2, 3, 4, 5, 6, 7, 8, 9, 10, 11, 12, 13, 14, 15, 16, 17, 18, 19, 20, 21, 22], [], false⟩, ⟨[], [0, 1, 2, 3, 4, 5, 6, 7, 8, 9, 10, 11, 12, 13, 14, 15, 16, 17, 18, 19, 20, 21, 22, 23], [], false⟩] 19 (by kernel_rfl) (by kernel_rfl)
                · refine ⟨?_, ?_, ?_, ?_, ?_, ?_, ?_, ?_, ?_, ?_, ?_, ?_, ?_, ?_, ?_, ?_, ?_, ?_, ?_, trivial⟩
                  · intro tm hr
                    simp [AllL, rdV] at hr
                    simp [hr, lenI_cast e29, ← e30, ← e31, ← e32, f34]
                    intros; first | exact KD.mk | exact KD.mkN
                  · intro tm hr
                    simp [AllL, rdV] at hr
                    simp [hr, lenI_cast e29, ← e30, ← e31, ← e32, f34]
                    intros; first | exact KD.mk | exact KD.mkN
                  · intro tm hr
                    simp [AllL, rdV] at hr
                    simp [hr, lenI_cast e29, ← e30, ← e31, ← e32, f34]
                    intros; first | exact KD.mk | exact KD.mkN
                  · intro tm hr
                    simp [AllL, rdV] at hr
                    simp [hr, lenI_cast e29, ← e30, ← e31, ← e32, f34]
                    intros; first | exact KD.mk | exact KD.mkN
                  · intro tm hr
                    simp [AllL, rdV] at hr
                    simp [hr, lenI_cast e29, ← e30, ← e31, ← e32, f34]
                    intros; first | exact KD.mk | exact KD.mkN
                  · intro tm hr
                    simp [AllL, rdV] at hr
                    simp [hr, lenI_cast e29, ← e30, ← e31, ← e32, f34]
                    intros; first | exact KD.mk | exact KD.mkN
                  · intro tm hr
                    simp [AllL, rdV] at hr
                    simp [hr, lenI_cast e29, ← e30, ← e31, ← e32, f34]
                    intros; first | exact KD.mk | exact KD.mkN
                  · intro tm hr
                    simp [AllL, rdV] at hr
                    simp [hr, lenI_cast e29, ← e30, ← e31, ← e32, f34]
                    intros; first | exact KD.mk | exact KD.mkN
                  · intro tm hr
                    simp [AllL, rdV] at hr
                    simp [hr, lenI_cast e29, ← e30, ← e31, ← e32, f34]
                    intros; first | exact KD.mk | exact KD.mkN
                  · intro tm hr
                    simp [AllL, rdV] at hr
                    simp [hr, lenI_cast e29, ← e30, ← e31, ← e32, f34]
                    intros; first | exact KD.mk | exact KD.mkN
                  · intro tm hr
                    simp [AllL, rdV] at hr
                    simp [hr, lenI_cast e29, ← e30, ← e31, ← e32, f34]
                    intros; first | exact KD.mk | exact KD.mkN
                  · intro tm hr
                    simp [AllL, rdV] at hr
                    simp [hr, lenI_cast e29, ← e30, ← e31, ← e32, f34]
                    intros; first | exact KD.mk | exact KD.mkN
                  · intro tm hr
                    simp [AllL, rdV] at hr
                    simp [hr, lenI_cast e29, ← e30, ← e31, ← e32, f34]
                    intros; first | exact KD.mk | exact KD.mkN
                  · intro tm hr
                    simp [AllL, rdV] at hr
                    simp [hr, lenI_cast e29, ← e30, ← e31, ← e32, f34]
                    intros; first | exact KD.mk | exact KD.mkN
                  · intro tm hr
                    simp [AllL, rdV] at hr
                    simp [hr, lenI_cast e29, ← e30, ← e31, ← e32, f34]
                    intros
                    refine xcall_plain en_r5_SameEffects (s_r5_SameEffects e35) rfl ⟨.same rfl, .same rfl, trivial⟩ ?_
                    try simp [lenI_cast e29, ← e30, ← e31, ← e32, f34]
                    intros; first | exact KD.mk | exact KD.mkN
                  · intro tm hr
                    simp [AllL, rdV] at hr
                    simp [hr, lenI_cast e29, ← e30, ← e31, ← e32, f34]
                    intros; first | exact KD.mk | exact KD.mkN
                  · intro tm hr
                    simp [AllL, rdV] at hr
                    simp [hr, lenI_cast e29, ← e30, ← e31, ← e32, f34]
                    intros; first | exact KD.mk | exact KD.mkN
                  · intro tm hr
                    simp [AllL, rdV] at hr
                    simp [hr, lenI_cast e29, ← e30, ← e31, ← e32, f34]
                    intros; first | exact KD.mk | exact KD.mkN
                  · intro tm hr
                    simp [AllL, rdV] at hr
                    simp [hr, lenI_cast e29, ← e30, ← e31, ← e32, f34]
                    intros; first | exact KD.mk | exact KD.mkN
                · rfl
                · simp [tmD, putD, lenI_cast e29, ← e30, ← e31, ← e32, f34]; rfl
                · simp [lenI_cast e29, ← e30, ← e31, ← e32, f34]
                  intros
                  refine xcall_plain en_feed_Same (s_feed_Same e36) rfl ⟨.same rfl, .same rfl, trivial⟩ ?_
                  try simp [lenI_cast e29, ← e30, ← e31, ← e32, f34]
                  intros
                  refine xcall_plain en_l15_awake (s_l15_awake e37) rfl trivial ?_
                  try simp [lenI_cast e29, ← e30, ← e31, ← e32, f34]
                  intros; rfl
                obtain rfl := Option.some.inj h
                refine nP_i ?_
                refine Weak.mixN [] hn0 (by decide) ?_ ?_ rfl
                all_goals first | (simp [inv_cons, inv_nil, pickOb]; done) | rfl
              | false =>
                replace h := iteF rfl h
                apply AW.drawnR (V := [_, _, _, _, _, _, _, _, _, _, _, _, _, _, _, _, _, _, _]) mixed [⟨[0], [], [(7, none)], false⟩, ⟨[0], [0], [(49, some 0)], false⟩, ⟨[0], [], [(6, none)], false⟩, ⟨[0], [2], [(51, some 2)], false⟩, ⟨[0], [0, 1, 2, 3], [(50, some 1), (52, some 3)], false⟩, ⟨[0], [0, 1, 2, 3, 4], [(53, some 4)], false⟩, ⟨[0], [0, 1, 2, 3, 4, 5], [(7, none), (54, some 5)], false⟩, ⟨[0], [0, 1, 2, 3, 4, 5, 6], [(54, some 5), (55, some 6)], false⟩, ⟨[0], [0, 1, 2, 3, 4, 5], [(6, none), (54, some 5)], false⟩, ⟨[0], [0, 1, 2, 3, 4, 5], [(6, none), (54, some 5)], false⟩, ⟨[0], [0, 1, 2, 3, 4, 5, 9], [(54, some 5), (58, some 9)], false⟩, ⟨[0], [0, 1, 2, 3, 4, 5, 9, 10], [(54, some 5), (59, some 10)], false⟩, ⟨[0], [0, 1, 2, 3, 4, 5, 9, 10, 11], [(54, some 5), (60, some 11)], false⟩, ⟨[0], [0, 1, 2, 3, 4, 5, 8, 9, 10, 11, 12], [(54, some 5), (57, some 8), (61, some 12)], false⟩, ⟨[0], [0, 1, 2, 3, 4, 5, 6, 7, 8, 9, 10, 11, 12, 13], [(54, some 5), (56, some 7), (62, some 13)], false⟩, ⟨[0], [0, 1, 2, 3, 4, 5, 6, 7, 8, 9, 10, 11, 12, 13, 14], [(54, some 5), (63, some 14)], false⟩, ⟨[0], [0, 1, 2, 3, 4, 5, 6, 7, 8, 9, 10, 11, 12, 13, 14, 15], [(64, some 15)], false⟩, ⟨[0], [0, 1, 2, 3, 4, 5, 6, 7, 8, 9, 10, 11, 12, 13, 14, 15, 16], [(7, none), (65, some 16)], false⟩, ⟨[0], [0, 1, 2, 3, 4, 5, 6, 7, 8, 9, 10, 11, 12, 13, 14, 15, 16], [(8, none), (65, some 16)], false⟩, ⟨[], [0, 1, 2, 3, 4, 5, 6, 7, 8, 9, 10, 11, 12, 13, 14, 15, 16, 17, 18], [], false⟩, ⟨[], [0, 1, 2, 3, 4, 5, 6, 7, 8, 9, 10, 11, 12, 13, 14, 15, 16, 17, 18, 19], [], false⟩, ⟨[], [0, 1, 2, 3, 4, 5, 6, 7, 8, 9, 10, 11, 12, 13, 14, 15, 16, 17, 18, 19, 20], [], false⟩, ⟨[], [0, 1, 2, 3, 4, 5, 6, 7, 8, 9, 10, 11, 12, 13, 14, 15, 16, 17, 18, 19, 20, 21], [], false⟩, ⟨[], [0, 1, 2, 3, 4, 5, 6, 7, 8, 9, 10, 11, 12, 13, 14, 15, 16, 17, 18, 19, 20, 21, 22], [], false⟩, ⟨[], [0, 1, 2, 3, 4, 5, 6, 7, 8, 9, 10, 11, 12, 13, 14, 15, 16, 17, 18, 19, 20, 21, 22, 23], [], false⟩] 19 (by kernel_rfl) (by kernel_rfl)
                · refine ⟨?_, ?_, ?_, ?_, ?_, ?_, ?_, ?_, ?_, ?_, ?_, ?_, ?_, ?_, ?_, ?_, ?_, ?_, ?_, trivial⟩
                  · intro tm hr
                    simp [AllL, rdV] at hr
                    simp [hr, lenI_cast e29, ← e30, ← e31, ← e32, f34]
                    intros; first | exact KD.mk | exact KD.mkN
                  · intro tm hr
                    simp [AllL, rdV] at hr
                    simp [hr, lenI_cast e29, ← e30, ← e31, ← e32, f34]
                    intros; first | exact KD.mk | exact KD.mkN
                  · intro tm hr
                    simp [AllL, rdV] at hr
                    simp [hr, lenI_cast e29, ← e30, ← e31, ← e32, f34]
                    intros; first | exact KD.mk | exact KD.mkN
                  · intro tm hr
                    simp [AllL, rdV] at hr
                    simp [hr, lenI_cast e29, ← e30, ← e31, ← e32, f34]
                    intros; first | exact KD.mk | exact KD.mkN
                  · intro tm hr
                    simp [AllL, rdV] at hr
                    simp [hr, lenI_cast e29, ← e30, ← e31, ← e32, f34]
                    intros; first | exact KD.mk | exact KD.mkN
                  · intro tm hr
                    simp [AllL, rdV] at hr
                    simp [hr, lenI_cast e29, ← e30, ← e31, ← e32, f34]
                    intros; first | exact KD.mk | exact KD.mkN
                  · intro tm hr
                    simp [AllL, rdV] at hr
                    simp [hr, lenI_cast e29, ← e30, ← e31, ← e32, f34]
                    intros; first | exact KD.mk | exact KD.mkN
                  · intro tm hr
                    simp [AllL, rdV] at hr
                    simp [hr, lenI_cast e29, ← e30, ← e31, ← e32, f34]
                    intros; first | exact KD.mk | exact KD.mkN
                  · intro tm hr
                    simp [AllL, rdV] at hr
                    simp [hr, lenI_cast e29, ← e30, ← e31, ← e32, f34]
                    intros; first | exact KD.mk | exact KD.mkN
                  · intro tm hr
                    simp [AllL, rdV] at hr
                    simp [hr, lenI_cast e29, ← e30, ← e31, ← e32, f34]
                    intros; first | exact KD.mk | exact KD.mkN
                  · intro tm hr
                    simp [AllL, rdV] at hr
                    simp [hr, lenI_cast e29, ← e30, ← e31, ← e32, f34]
                    intros; first | exact KD.mk | exact KD.mkN
                  · intro tm hr
                    simp [AllL, rdV] at hr
                    simp [hr, lenI_cast e29, ← e30, ← e31, ← e32, f34]
                    intros; first | exact KD.mk | exact KD.mkN
                  · intro tm hr
                    simp [AllL, rdV] at hr
                    simp [hr, lenI_cast e29, ← e30, ← e31, ← e32, f34]
                    intros; first | exact KD.mk | exact KD.mkN
                  · intro tm hr
                    simp [AllL, rdV] at hr
                    simp [hr, lenI_cast e29, ← e30, ← e31, ← e32, f34]
                    intros; first | exact KD.mk | exact KD.mkN
                  · intro tm hr
                    simp [AllL, rdV] at hr
                    simp [hr, lenI_cast e29, ← e30, ← e31, ← e32, f34]
                    intros
                    refine xcall_plain en_r5_SameEffects (s_r5_SameEffects e35) rfl ⟨.same rfl, .same rfl, trivial⟩ ?_
                    try simp [lenI_cast e29, ← e30, ← e31, ← e32, f34]
                    intros; first | exact KD.mk | exact KD.mkN
                  · intro tm hr
                    simp [AllL, rdV] at hr
                    simp [hr, lenI_cast e29, ← e30, ← e31, ← e32, f34]
                    intros; first | exact KD.mk | exact KD.mkN
                  · intro tm hr
                    simp [AllL, rdV] at hr
                    simp [hr, lenI_cast e29, ← e30, ← e31, ← e32, f34]
                    intros; first | exact KD.mk | exact KD.mkN
                  · intro tm hr
                    simp [AllL, rdV] at hr
                    simp [hr, lenI_cast e29, ← e30, ← e31, ← e32, f34]
                    intros; first | exact KD.mk | exact KD.mkN
                  · intro tm hr
                    simp [AllL, rdV] at hr
                    simp [hr, lenI_cast e29, ← e30, ← e31, ← e32, f34]
                    intros; first | exact KD.mk | exact KD.mkN
                · rfl
                · simp [tmD, putD, lenI_cast e29, ← e30, ← e31, ← e32, f34]; rfl
                · simp [lenI_cast e29, ← e30, ← e31, ← e32, f34]
                  intros
                  refine xcall_plain en_feed_Same (s_feed_Same e36) rfl ⟨.same rfl, .same rfl, trivial⟩ ?_
                  try simp [lenI_cast e29, ← e30, ← e31, ← e32, f34]
                  intros; rfl
                obtain rfl := Option.some.inj h
                refine nP_i ?_
                refine Weak.mixN [] hn0 (by decide) ?_ ?_ rfl
                all_goals first | (simp [inv_cons, inv_nil, pickOb]; done) | rfl
            | false =>
              replace h := iteF rfl h
              apply AW.drawnR (V := [_, _, _, _, _, _, _, _, _, _, _, _, _, _, _, _, _, _, _]) mixed [⟨[0], [], [(7, none)], false⟩, ⟨[0], [0], [(49, some 0)], false⟩, ⟨[0], [], [(6, none)], false⟩, ⟨[0], [2], [(51, some 2)], false⟩, ⟨[0], [0, 1, 2, 3], [(50, some 1), (52, some 3)], false⟩, ⟨[0], [0, 1, 2, 3, 4], [(53, some 4)], false⟩, ⟨[0], [0, 1, 2, 3, 4, 5], [(7, none), (54, some 5)], false⟩, ⟨[0], [0, 1, 2, 3, 4, 5, 6], [(54, some 5), (55, some 6)], false⟩, ⟨[0], [0, 1, 2, 3, 4, 5], [(6, none), (54, some 5)], false⟩, ⟨[0], [0, 1, 2, 3, 4, 5], [(6, none), (54, some 5)], false⟩, ⟨[0], [0, 1, 2, 3, 4, 5, 9], [(54, some 5), (58, some 9)], false⟩, ⟨[0], [0, 1, 2, 3, 4, 5, 9, 10], [(54, some 5), (59, some 10)], false⟩, ⟨[0], [0, 1, 2, 3, 4, 5, 9, 10, 11], [(54, some 5), (60, some 11)], false⟩, ⟨[0], [0, 1, 2, 3, 4, 5, 8, 9, 10, 11, 12], [(54, some 5), (57, some 8), (61, some 12)], false⟩, ⟨[0], [0, 1, 2, 3, 4, 5, 6, 7, 8, 9, 10, 11, 12, 13], [(54, some 5), (56, some 7), (62, some 13)], false⟩, ⟨[0], [0, 1, 2, 3, 4, 5, 6, 7, 8, 9, 10, 11, 12, 13, 14], [(54, some 5), (63, some 14)], false⟩, ⟨[0], [0, 1, 2, 3, 4, 5, 6, 7, 8, 9, 10, 11, 12, 13, 14, 15], [(64, some 15)], false⟩, ⟨[0], [0, 1, 2, 3, 4, 5, 6, 7, 8, 9, 10, 11, 12, 13, 14, 15, 16], [(7, none), (65, some 16)], false⟩, ⟨[0], [0, 1, 2, 3, 4, 5, 6, 7, 8, 9, 10, 11, 12, 13, 14, 15, 16], [(8, none), (65, some 16)], false⟩, ⟨[], [0, 1, 2, 3, 4, 5, 6, 7, 8, 9, 10, 11, 12, 13, 14, 15, 16, 17, 18], [], false⟩, ⟨[], [0, 1, 2, 3, 4, 5, 6, 7, 8, 9, 10, 11, 12, 13, 14, 15, 16, 17, 18, 19], [], false⟩, ⟨[], [0, 1, 2, 3, 4, 5, 6, 7, 8, 9, 10, 11, 12, 13, 14, 15, 16, 17, 18, 19, 20], [], false⟩, ⟨[], [0, 1, 2, 3, 4, 5, 6, 7, 8, 9, 10, 11, 12, 13, 14, 15, 16, 17, 18, 19, 20, 21], [], false⟩, ⟨[], [0, 1, 2, 3, 4, 5, 6, 7, 8, 9, 10, 11, 12, 13, 14, 15, 16, 17, 18, 19, 20, 21, 22], [], false⟩, ⟨[], [0, 1, 2, 3, 4, 5, 6, 7, 8, 9, 10, 11, 12, 13, 14, 15, 16, 17, 18, 19, 20, 21, 22, 23], [], false⟩] 19 (by kernel_rfl) (by kernel_rfl)
              · refine ⟨?_, ?_, ?_, ?_, ?_, ?_, ?_, ?_, ?_, ?_, ?_, ?_, ?_, ?_, ?_, ?_, ?_, ?_, ?_, trivial⟩
                · intro tm hr
                  simp [AllL, rdV] at hr
                  simp [hr, lenI_cast e29, ← e30, ← e31, ← e32, f34]
                  intros; first | exact KD.mk | exact KD.mkN
                · intro tm hr
                  simp [AllL, rdV] at hr
                  simp [hr, lenI_cast e29, ← e30, ← e31, ← e32, f34]
                  intros; first | exact KD.mk | exact KD.mkN
                · intro tm hr
                  simp [AllL, rdV] at hr
                  simp [hr, lenI_cast e29, ← e30, ← e31, ← e32, f34]
                  intros; first | exact KD.mk | exact KD.mkN
                · intro tm hr
                  simp [AllL, rdV] at hr
                  simp [hr, lenI_cast e29, ← e30, ← e31, ← e32, f34]
                  intros; first | exact KD.mk | exact KD.mkN
                · intro tm hr
                  simp [AllL, rdV] at hr
                  simp [hr, lenI_cast e29, ← e30, ← e31, ← e32, f34]
                  intros; first | exact KD.mk | exact KD.mkN
                · intro tm hr
                  simp [AllL, rdV] at hr
                  simp [hr, lenI_cast e29, ← e30, ← e31, ← e32, f34]
                  intros; first | exact KD.mk | exact KD.mkN
                · intro tm hr
                  simp [AllL, rdV] at hr
                  simp [hr, lenI_cast e29, ← e30, ← e31, ← e32, f34]
                  intros; first | exact KD.mk | exact KD.mkN
                · intro tm hr
                  simp [AllL, rdV] at hr
                  simp [hr, lenI_cast e29, ← e30, ← e31, ← e32, f34]
                  intros; first | exact KD.mk | exact KD.mkN
                · intro tm hr
                  simp [AllL, rdV] at hr
                  simp [hr, lenI_cast e29, ← e30, ← e31, ← e32, f34]
                  intros; first | exact KD.mk | exact KD.mkN
                · intro tm hr
                  simp [AllL, rdV] at hr
                  simp [hr, lenI_cast e29, ← e30, ← e31, ← e32, f34]
                  intros; first | exact KD.mk | exact KD.mkN
                · intro tm hr
                  simp [AllL, rdV] at hr
                  simp [hr, lenI_cast e29, ← e30, ← e31, ← e32, f34]
                  intros; first | exact KD.mk | exact KD.mkN
                · intro tm hr
                  simp [AllL, rdV] at hr
                  simp [hr, lenI_cast e29, ← e30, ← e31, ← e32, f34]
                  intros; first | exact KD.mk | exact KD.mkN
                · intro tm hr
                  simp [AllL, rdV] at hr
                  simp [hr, lenI_cast e29, ← e30, ← e31, ← e32, f34]
                  intros; first | exact KD.mk | exact KD.mkN
                · intro tm hr
                  simp [AllL, rdV] at hr
                  simp [hr, lenI_cast e29, ← e30, ← e31, ← e32, f34]
                  intros; first | exact KD.mk | exact KD.mkN
                · intro tm hr
                  simp [AllL, rdV] at hr
                  simp [hr, lenI_cast e29, ← e30, ← e31, ← e32, f34]
                  intros
                  refine xcall_plain en_r5_SameEffects (s_r5_SameEffects e35) rfl ⟨.same rfl, .same rfl, trivial⟩ ?_
                  try simp [lenI_cast e29, ← e30, ← e31, ← e32, f34]
                  intros; first | exact KD.mk | exact KD.mkN
                · intro tm hr
                  simp [AllL, rdV] at hr
                  simp [hr, lenI_cast e29, ← e30, ← e31, ← e32, f34]
                  intros; first | exact KD.mk | exact KD.mkN
                · intro tm hr
                  simp [AllL, rdV] at hr
                  simp [hr, lenI_cast e29, ← e30, ← e31, ← e32, f34]
                  intros; first | exact KD.mk | exact KD.mkN
                · intro tm hr
                  simp [AllL, rdV] at hr
                  simp [hr, lenI_cast e29, ← e30, ← e31, ← e32, f34]
                  intros; first | exact KD.mk | exact KD.mkN
                · intro tm hr
                  simp [AllL, rdV] at hr
                  simp [hr, lenI_cast e29, ← e30, ← e31, ← e32, f34]
                  intros; first | exact KD.mk | exact KD.mkN
              · rfl
              · simp [tmD, putD, lenI_cast e29, ← e30, ← e31, ← e32, f34]; rfl
              · simp [lenI_cast e29, ← e30, ← e31, ← e32, f34]
                intros; rfl
              obtain rfl := Option.some.inj h
              refine nP_i ?_
              refine Weak.mixN [] hn0 (by decide) ?_ ?_ rfl
              all_goals first | (simp [inv_cons, inv_nil, pickOb]; done) | rfl
          | false =>
            replace h := iteF rfl h
            apply AW.drawnR (V := [_, _, _, _, _, _, _, _, _, _, _, _, _, _, _, _, _, _, _]) mixed [⟨[0], [], [(7, none)], false⟩, ⟨[0], [0], [(49, some 0)], false⟩, ⟨[0], [], [(6, none)], false⟩, ⟨[0], [2], [(51, some 2)], false⟩, ⟨[0], [0, 1, 2, 3], [(50, some 1), (52, some 3)], false⟩, ⟨[0], [0, 1, 2, 3, 4], [(53, some 4)], false⟩, ⟨[0], [0, 1, 2, 3, 4, 5], [(7, none), (54, some 5)], false⟩, ⟨[0], [0, 1, 2, 3, 4, 5, 6], [(54, some 5), (55, some 6)], false⟩, ⟨[0], [0, 1, 2, 3, 4, 5], [(6, none), (54, some 5)], false⟩, ⟨[0], [0, 1, 2, 3, 4, 5], [(6, none), (54, some 5)], false⟩, ⟨[0], [0, 1, 2, 3, 4, 5, 9], [(54, some 5), (58, some 9)], false⟩, ⟨[0], [0, 1, 2, 3, 4, 5, 9, 10], [(54, some 5), (59, some 10)], false⟩, ⟨[0], [0, 1, 2, 3, 4, 5, 9, 10, 11], [(54, some 5), (60, some 11)], false⟩, ⟨[0], [0, 1, 2, 3, 4, 5, 8, 9, 10, 11, 12], [(54, some 5), (57, some 8), (61, some 12)], false⟩, ⟨[0], [0, 1, 2, 3, 4, 5, 6, 7, 8, 9, 10, 11, 12, 13], [(54, some 5), (56, some 7), (62, some 13)], false⟩, ⟨[0], [0, 1, 2, 3, 4, 5, 6, 7, 8, 9, 10, 11, 12, 13, 14], [(54, some 5), (63, some 14)], false⟩, ⟨[0], [0, 1, 2, 3, 4, 5, 6, 7, 8, 9, 10, 11, 12, 13, 14, 15], [(64, some 15)], false⟩, ⟨[0], [0, 1, 2, 3, 4, 5, 6, 7, 8, 9, 10, 11, 12, 13, 14, 15, 16], [(7, none), (65, some 16)], false⟩, ⟨[0], [0, 1, 2, 3, 4, 5, 6, 7, 8, 9, 10, 11, 12, 13, 14, 15, 16], [(8, none), (65, some 16)], false⟩, ⟨[], [0, 1, 2, 3, 4, 5, 6, 7, 8, 9, 10, 11, 12, 13, 14, 15, 16, 17, 18], [], false⟩, ⟨[], [0, 1, 2, 3, 4, 5, 6, 7, 8, 9, 10, 11, 12, 13, 14, 15, 16, 17, 18, 19], [], false⟩, ⟨[], [0, 1, 2, 3, 4, 5, 6, 7, 8, 9, 10, 11, 12, 13, 14, 15, 16, 17, 18, 19, 20], [], false⟩, ⟨[], [0, 1, 2, 3, 4, 5, 6, 7, 8, 9, 10, 11, 12, 13, 14, 15, 16, 17, 18, 19, 20, 21], [], false⟩, ⟨[], [0, 1, 2, 3, 4, 5, 6, 7, 8, 9, 10, 11, 12, 13, 14, 15, 16, 17, 18, 19, 20, 21, 22], [], false⟩, ⟨[], [0, 1, 2, 3, 4, 5, 6, 7, 8, 9, 10, 11, 12, 13, 14, 15, 16, 17, 18, 19, 20, 21, 22, 23], [], false⟩] 19 (by kernel_rfl) (by kernel_rfl)
            · refine ⟨?_, ?_, ?_, ?_, ?_, ?_, ?_, ?_, ?_, ?_, ?_, ?_, ?_, ?_, ?_, ?_, ?_, ?_, ?_, trivial⟩
              · intro tm hr
                simp [AllL, rdV] at hr
                simp [hr, lenI_cast e29, ← e30]
                intros; first | exact KD.mk | exact KD.mkN
              · intro tm hr
                simp [AllL, rdV] at hr
                simp [hr, lenI_cast e29, ← e30]
                intros; first | exact KD.mk | exact KD.mkN
              · intro tm hr
                simp [AllL, rdV] at hr
                simp [hr, lenI_cast e29, ← e30]
                intros; first | exact KD.mk | exact KD.mkN
              · intro tm hr
                simp [AllL, rdV] at hr
                simp [hr, lenI_cast e29, ← e30]
                intros; first | exact KD.mk | exact KD.mkN
              · intro tm hr
                simp [AllL, rdV] at hr
                simp [hr, lenI_cast e29, ← e30]
                intros; first | exact KD.mk | exact KD.mkN
              · intro tm hr
                simp [AllL, rdV] at hr
                simp [hr, lenI_cast e29, ← e30]
                intros; first | exact KD.mk | exact KD.mkN
              · intro tm hr
                simp [AllL, rdV] at hr
                simp [hr, lenI_cast e29, ← e30]
                intros; first | exact KD.mk | exact KD.mkN
              · intro tm hr
                simp [AllL, rdV] at hr
                simp [hr, lenI_cast e29, ← e30]
                intros; first | exact KD.mk | exact KD.mkN
              · intro tm hr
                simp [AllL, rdV] at hr
                simp [hr, lenI_cast e29, ← e30]
                intros; first | exact KD.mk | exact KD.mkN
              · intro tm hr
                simp [AllL, rdV] at hr
                simp [hr, lenI_cast e29, ← e30]
                intros; first | exact KD.mk | exact KD.mkN
              · intro tm hr
                simp [AllL, rdV] at hr
                simp [hr, lenI_cast e29, ← e30]
                intros; first | exact KD.mk | exact KD.mkN
              · intro tm hr
                simp [AllL, rdV] at hr
                simp [hr, lenI_cast e29, ← e30]
                intros; first | exact KD.mk | exact KD.mkN
              · intro tm hr
                simp [AllL, rdV] at hr
                simp [hr, lenI_cast e29, ← e30]
                intros; first | exact KD.mk | exact KD.mkN
              · intro tm hr
                simp [AllL, rdV] at hr
                simp [hr, lenI_cast e29, ← e30]
                intros; first | exact KD.mk | exact KD.mkN
              · intro tm hr
                simp [AllL, rdV] at hr
                simp [hr, lenI_cast e29, ← e30]
                intros; first | exact KD.mk | exact KD.mkN
              · intro tm hr
                simp [AllL, rdV] at hr
                simp [hr, lenI_cast e29, ← e30]
                intros; first | exact KD.mk | exact KD.mkN
              · intro tm hr
                simp [AllL, rdV] at hr
                simp [hr, lenI_cast e29, ← e30]
                intros; first | exact KD.mk | exact KD.mkN
              · intro tm hr
                simp [AllL, rdV] at hr
                simp [hr, lenI_cast e29, ← e30]
                intros; first | exact KD.mk | exact KD.mkN
              · intro tm hr
                simp [AllL, rdV] at hr
                simp [hr, lenI_cast e29, ← e30]
                intros; first | exact KD.mk | exact KD.mkN
            · rfl
            · simp [tmD, putD, lenI_cast e29, ← e30]; rfl
            · simp [lenI_cast e29, ← e30]
              intros; rfl
            obtain rfl := Option.some.inj h
            refine nP_i ?_
            refine Weak.mixN [] hn0 (by decide) ?_ ?_ rfl
            all_goals first | (simp [inv_cons, inv_nil, pickOb]; done) | rfl
        · rintro e s hp
          obtain ⟨rfl, hw⟩ := hp
          refine ⟨_, hw, ?_⟩
          try simp only [sp_l, sp_r, Post.seq, Post.block, Nat.reduceEqDiff, reduceIte, Nat.zero_ne_one, Nat.one_ne_zero]
          obtain rfl := Option.some.inj h
          refine AW.ret ?_
          refine Left.plain hnb (by simp [Try.f3, resV, resC, comp]; rfl) rfl rfl ?_
          simp
theorem en_l15_FeedKeeps : Enters Try.prog 3 := enters Try.func3 (by kernel_rfl) rfl
end Go.Proofs.Ytlkhfdccapkcdaa
/- Plain laws: comparisons of what is alike, feeds. -/
namespace Go.Proofs.Ytlkhfdccapkcdaa
open Go Go.RowKit
set_option linter.unusedVariables false
set_option linter.unusedSimpArgs false
@[simp] theorem eqS_self (a : ByteArray) : eqS a a = true := by simp [eqS]
@[simp] theorem neS_self (a : ByteArray) : neS a a = false := by simp [neS]
@[simp] theorem eqI_self (a : Int) : eqI a a = true := by simp [eqI]
@[simp] theorem neI_self (a : Int) : neI a a = false := by simp [neI]
@[simp] theorem eqB_self (a : Bool) : eqB a a = true := by simp [eqB]
@[simp] theorem neB_self (a : Bool) : neB a a = false := by simp [neB]
@[simp] theorem andB_tt : andB true true = true := rfl
theorem ltI_t {a b : Int} (h : a < b) : ltI a b = true := by simp [ltI, h]
theorem ltI_f {a b : Int} (h : ¬ a < b) : ltI a b = false := by simp [ltI]; omega
theorem eqF_refl (l : List Field) (h : l.length ≤ 100000000000) : slices_Equal_api_Field_sh big l l = some true := by
  unfold slices_Equal_api_Field_sh
  simp only [lt_eq, bn_some, ite_t, ite_f, sm_inl, sm_inr, lenI_eq, Option.some.injEq, neI_self]
  refine bn_run (.inl ()) (fun i => (i : Int)) l.length (by unfold big; omega) rfl (fun i hi => ?_) ?_ ?_
  rotate_left 2
  · rfl
  · rw [ltI_t (by omega)]
    simp only [lt_eq, bn_some, ite_t, ite_f, sm_inl, sm_inr, lenI_eq, Option.some.injEq, nth_some hi, eqS_self, andB_tt, notB_t]
    rw [addI_64 (by omega) (by omega)]
    rfl
  · rw [ltI_f (by omega)]; rfl
theorem eqT_refl (l : List ByteArray) (h : l.length ≤ 100000000000) : slices_Equal_string_sh big l l = some true := by
  unfold slices_Equal_string_sh
  simp only [lt_eq, bn_some, ite_t, ite_f, sm_inl, sm_inr, lenI_eq, Option.some.injEq, neI_self]
  refine bn_run (.inl ()) (fun i => (i : Int)) l.length (by unfold big; omega) rfl (fun i hi => ?_) ?_ ?_
  rotate_left 2
  · rfl
  · rw [ltI_t (by omega)]
    simp only [lt_eq, bn_some, ite_t, ite_f, sm_inl, sm_inr, lenI_eq, Option.some.injEq, nth_some hi, neS_self]
    rw [addI_64 (by omega) (by omega)]
    rfl
  · rw [ltI_f (by omega)]; rfl
/-- An item of a size that goes through. -/
def okI (i : Item) : Prop := i.f.length ≤ 1000000000 ∧ i.l.length ≤ 1000000000
theorem item_Same_refl (i : Item) (h : okI i) : item_Same_sh big i i = some true := by
  unfold item_Same_sh
  simp only [lt_eq, bn_some, ite_t, ite_f, sm_inl, sm_inr, lenI_eq, Option.some.injEq, eqI_self, eqS_self, eqF_refl i.f (by have := h.1; omega), eqT_refl i.l (by have := h.2; omega)]
theorem item_Copy_ok (i : Item) (h : okI i) : item_Copy_sh big i = some i := by
  unfold item_Copy_sh
  have h1 := h.1
  have h2 := h.2
  rw [chk_small h1, chk_small h2, chk_room (by omega) (by omega), chk_room (by omega) (by omega)]
theorem r_eqF_refl (l : List Field) (h : l.length ≤ 100000000000) : r5_SameFields_sh big l l = some true := by
  unfold r5_SameFields_sh
  simp only [lt_eq, bn_some, ite_t, ite_f, sm_inl, sm_inr, lenI_eq, Option.some.injEq, neI_self]
  refine bn_run (.inl ()) (fun i => (i : Int)) l.length (by unfold big; omega) rfl (fun i hi => ?_) ?_ ?_
  rotate_left 2
  · rfl
  · rw [ltI_t (by omega)]
    simp only [lt_eq, bn_some, ite_t, ite_f, sm_inl, sm_inr, lenI_eq, Option.some.injEq, nth_some hi, eqS_self, andB_tt, notB_t]
    rw [addI_64 (by omega) (by omega)]
    rfl
  · rw [ltI_f (by omega)]; rfl
theorem r_eqT_refl (l : List ByteArray) (h : l.length ≤ 100000000000) : r1_Texts_sh big l l = some true := by
  unfold r1_Texts_sh
  simp only [lt_eq, bn_some, ite_t, ite_f, sm_inl, sm_inr, lenI_eq, Option.some.injEq, neI_self]
  refine bn_run (.inl ()) (fun i => (i : Int)) l.length (by unfold big; omega) rfl (fun i hi => ?_) ?_ ?_
  rotate_left 2
  · rfl
  · rw [ltI_t (by omega)]
    simp only [lt_eq, bn_some, ite_t, ite_f, sm_inl, sm_inr, lenI_eq, Option.some.injEq, nth_some hi, neS_self]
    rw [addI_64 (by omega) (by omega)]
    rfl
  · rw [ltI_f (by omega)]; rfl
theorem r_SameItem_refl (i : Item) (h : okI i) : r5_SameItem_sh big i i = some true := by
  unfold r5_SameItem_sh
  simp only [lt_eq, bn_some, ite_t, ite_f, sm_inl, sm_inr, lenI_eq, Option.some.injEq, eqI_self, eqS_self, r_eqF_refl i.f (by have := h.1; omega), r_eqT_refl i.l (by have := h.2; omega)]
def okE (l : List Effect) : Prop := l.length ≤ 1000000000 ∧ ∀ e ∈ l, okI e.item
theorem r_SameEffects_refl (l : List Effect) (h : okE l) : r5_SameEffects_sh big l l = some true := by
  have hl := h.1
  unfold r5_SameEffects_sh
  simp only [lt_eq, bn_some, ite_t, ite_f, sm_inl, sm_inr, lenI_eq, Option.some.injEq, neI_self]
  refine bn_run (.inl ()) (fun i => (i : Int)) l.length (by unfold big; omega) rfl (fun i hi => ?_) ?_ ?_
  rotate_left 2
  · rfl
  · rw [ltI_t (by omega)]
    simp only [lt_eq, bn_some, ite_t, ite_f, sm_inl, sm_inr, lenI_eq, Option.some.injEq, nth_some hi, neS_self, neB_self, r_SameItem_refl _ (h.2 _ (List.getElem_mem hi)), notB_t]
    rw [addI_64 (by omega) (by omega)]
    rfl
  · rw [ltI_f (by omega)]; rfl
theorem feed_eq_refl (l : List Effect) (h : okE l) : slices_EqualFunc_api_Effect_sh big l l = some true := by
  have hl := h.1
  unfold slices_EqualFunc_api_Effect_sh
  simp only [lt_eq, bn_some, ite_t, ite_f, sm_inl, sm_inr, lenI_eq, Option.some.injEq, neI_self]
  refine bn_run (.inl ()) (fun i => (i : Int)) l.length (by unfold big; omega) rfl (fun i hi => ?_) ?_ ?_
  rotate_left 2
  · rfl
  · rw [ltI_t (by omega)]
    have h1 : feed_Same_1_sh big l[i] l[i] = some true := by
      unfold feed_Same_1_sh
      simp only [lt_eq, bn_some, ite_t, ite_f, sm_inl, sm_inr, lenI_eq, Option.some.injEq, eqS_self, eqB_self, item_Same_refl _ (h.2 _ (List.getElem_mem hi))]
    simp only [lt_eq, bn_some, ite_t, ite_f, sm_inl, sm_inr, lenI_eq, Option.some.injEq, nth_some hi, h1, notB_t]
    rw [addI_64 (by omega) (by omega)]
    rfl
  · rw [ltI_f (by omega)]; rfl
theorem feed_Same_refl (f : Feed) (h : okE f.back) : feed_Same_sh big f f = some true := by
  unfold feed_Same_sh
  simp only [lt_eq, bn_some, ite_t, ite_f, sm_inl, sm_inr, lenI_eq, Option.some.injEq, eqI_self, andB_tt, feed_eq_refl _ h]
theorem copied_ok (l : List Effect) (h : okE l) : feed_copied_sh big l = some l := by
  have hl := h.1
  unfold feed_copied_sh
  rw [chk_small hl]
  simp only [lt_eq, bn_some, ite_t, ite_f, sm_inl, sm_inr, lenI_eq, Option.some.injEq]
  refine bn_run (l) (fun i => ((i : Int), l)) l.length (by unfold big; omega) rfl (fun i hi => ?_) ?_ ?_
  rotate_left 2
  · rw [chk_room (by omega) (by omega)]
  · rw [ltI_t (by simp; omega)]
    simp only [lt_eq, bn_some, ite_t, ite_f, sm_inl, sm_inr, lenI_eq, Option.some.injEq, nth_some hi, item_Copy_ok _ (h.2 _ (List.getElem_mem hi))]
    rw [addI_64 (by omega) (by omega)]
    have e : l.set i { key := l[i].key, gone := l[i].gone, item := l[i].item } = l := List.set_getElem_self hi
    simp [e]
  · rw [ltI_f (by simp)]; rfl
def lastN (l : List Effect) : List Effect := l.drop (l.length - 64)
theorem okE.drop {l : List Effect} (h : okE l) (k : Nat) : okE (l.drop k) := ⟨by have := h.1; simp; omega, fun e he => h.2 e (List.mem_of_mem_drop he)⟩
theorem okE.app {l m : List Effect} (h : okE l) (h2 : okE m) (h3 : l.length + m.length ≤ 1000000000) : okE (l ++ m) := ⟨by simp; exact h3, fun e he => by
  rcases List.mem_append.1 he with he | he
  · exact h.2 e he
  · exact h2.2 e he⟩
theorem feed_last_ok (l : List Effect) (h : okE l) : feed_last_sh big l 64 = some (lastN l) := by
  have hl := h.1
  unfold feed_last_sh
  simp only [lt_eq, bn_some, ite_t, ite_f, sm_inl, sm_inr, lenI_eq, Option.some.injEq]
  rw [subI_64 (by omega) (by omega)]
  have e : maxI 0 ((l.length : Int) - 64) = ((l.length - 64 : Nat) : Int) := by simp only [maxI]; omega
  rw [e, segl_nat (by omega)]
  simp only [lt_eq, bn_some, ite_t, ite_f, sm_inl, sm_inr, lenI_eq, Option.some.injEq]
  rw [copied_ok _ (h.drop _)]
  rfl
theorem feed_Add_ok (f : Feed) (l : List Effect) (h : okE f.back) (h2 : okE l) (h3 : f.back.length + l.length ≤ 1000000000) (h4 : 0 ≤ f.off) (h5 : f.off ≤ 1000000000000) :
    feed_Add_sh big f l = some { f with off := f.off + l.length, back := lastN (f.back ++ l) } := by
  have hl := h2.1
  unfold feed_Add_sh
  simp only [lt_eq, bn_some, ite_t, ite_f, sm_inl, sm_inr, lenI_eq, Option.some.injEq]
  rw [addI_64 (by omega) (by omega), chk_t (by simp [catB]; omega)]
  simp only [lt_eq, bn_some, ite_t, ite_f, sm_inl, sm_inr, lenI_eq, Option.some.injEq, List.flatten_cons, List.flatten_nil, List.append_nil]
  rw [feed_last_ok _ (h.app h2 h3)]
  rfl
end Go.Proofs.Ytlkhfdccapkcdaa
/- Plain laws: the effects that numbers tell. -/
namespace Go.Proofs.Ytlkhfdccapkcdaa
open Go Go.RowKit
set_option linter.unusedVariables false
set_option linter.unusedSimpArgs false
theorem remI_pos {k : IntKind} {a b : Int} (h : 0 ≤ a) (hb : 0 < b) : remI k a b = some (a % b) := by
  have : ¬ b = 0 := by omega
  simp only [remI, ne_eq, this, not_false_eq_true, if_true, Int.tmod_eq_emod_of_nonneg h]
theorem quoI_u64 {a b : Int} (h : 0 ≤ a) (h2 : a < 18446744073709551616) (hb : 0 < b) : quoI .u64 a b = some (a / b) := by
  have hne : ¬ b = 0 := by omega
  have h3 : a / b ≤ a := Int.ediv_le_self b h
  have h4 : 0 ≤ a / b := Int.ediv_nonneg h (by omega)
  simp only [quoI, ne_eq, hne, not_false_eq_true, if_true, Int.tdiv_eq_ediv_of_nonneg h, wrap_u64]
  rw [Int.emod_eq_of_lt h4 (by omega)]
theorem quoI_64 {a b : Int} (h : 0 ≤ a) (h2 : a < 9223372036854775808) (hb : 0 < b) : quoI .i64 a b = some (a / b) := by
  have hne : ¬ b = 0 := by omega
  have h3 : a / b ≤ a := Int.ediv_le_self b h
  have h4 : 0 ≤ a / b := Int.ediv_nonneg h (by omega)
  simp only [quoI, ne_eq, hne, not_false_eq_true, if_true, Int.tdiv_eq_ediv_of_nonneg h]
  rw [wrap64 (by omega) (by omega)]
theorem catS_ok {a b : ByteArray} (h : a.size + b.size ≤ 9223372036854775807) : catS a b = some (a ++ b) := by simp [catS, h]
theorem strL1 (x : Int) : (strL [x]).size = 1 := rfl
theorem Rn.cat {β : Type} {a b : ByteArray} {k : ByteArray → Option β} {Q : β → Prop} (h : a.size + b.size ≤ 9223372036854775807) (hk : Rn (k (a ++ b)) Q) : Rn (Go.Proofs.Ytlkhfdccapkcdaa.bn (catS a b) k) Q := Rn.bnE (catS_ok h) hk
theorem Digits_ok (a : Int) (h : -9223372036854775808 ≤ a) (h2 : a ≤ 9223372036854775807) : Rn (r1_Digits_sh big a) fun s => s.size ≤ 30 := by
  unfold r1_Digits_sh
  refine Rn.lt (Rn.bn (P := fun v : Int => 0 ≤ v ∧ v < 18446744073709551616) ?_ fun v hv => ?_)
  · refine Rn.lt (Rn.ite (fun _ => Rn.lt (Rn.some ?_)) (fun _ => Rn.some ?_)) <;> simp only [negI, cvI, wrap_u64] <;> omega
  refine Rn.bn (P := fun b : Int × ByteArray => 0 ≤ b.1 ∧ b.2.size ≤ 20) (Rn.iter _ (fun k a => 0 ≤ a.1 ∧ a.1 < 18446744073709551616 ∧ a.1 < 10 ^ (20 - k) ∧ a.2.size = k) 20 (by unfold big; omega) ⟨hv.1, hv.2, by simp only; omega, rfl⟩ fun k a hk hI => ?_) fun b hb => ?_
  · obtain ⟨i1, i2, i3, i4⟩ := hI
    refine Rn.lt (Rn.ite (fun hg => ?_) (fun hg => Rn.some ⟨i1, by simp only; omega⟩))
    have hg : 10 ≤ a.1 := by simpa [geI] using hg
    have hk2 : k < 20 := by
      apply Nat.lt_of_not_le
      intro hk3
      have : 20 - k = 0 := by omega
      rw [this] at i3
      simp at i3
      omega
    refine Rn.bnE (remI_pos i1 (by omega)) (Rn.lt (Rn.lt (Rn.lt (Rn.cat ?_ (Rn.bnE (quoI_u64 i1 i2 (by omega)) (Rn.some ⟨hk2, ?_, ?_, ?_, ?_⟩))))))
    · rw [strL1]; omega
    · simp only; omega
    · simp only; omega
    · have e : 20 - k = (20 - (k + 1)) + 1 := by omega
      rw [e, Int.pow_succ] at i3
      simp only
      omega
    · simp [strL1, i4]; omega
  · refine Rn.lt (Rn.lt (Rn.lt (Rn.cat ?_ (Rn.lt (Rn.ite (fun _ => Rn.cat ?_ (Rn.some ?_)) (fun _ => Rn.some ?_))))))
    · rw [strL1]; omega
    · have e1 : (⟨#[45]⟩ : ByteArray).size = 1 := rfl
      simp only [ByteArray.size_append, strL1, e1]; omega
    · have e1 : (⟨#[45]⟩ : ByteArray).size = 1 := rfl
      simp only [ByteArray.size_append, strL1, e1]; omega
    · simp [strL1]; omega
theorem Key_ok (a : Int) (h : 0 ≤ a) (h2 : a ≤ 255) : Rn (l11_Key_sh big a) fun _ => True := by
  unfold l11_Key_sh
  refine Rn.bnE (remI_pos h (by omega)) (Rn.lt (Rn.lt (Rn.cat ?_ (Rn.cat ?_ (Rn.lt ?_)))))
  · rw [strL1]; decide
  · rw [ByteArray.size_append, strL1]; decide
  rw [cvI_64 (by omega) (by omega)]
  refine Rn.bnE (quoI_64 h (by omega) (by omega)) (Rn.bnE (remI_pos (by omega) (by omega)) (Rn.bn (Digits_ok _ (by omega) (by omega)) fun s hs => Rn.cat ?_ (Rn.some trivial)))
  have e1 : (⟨#[123]⟩ : ByteArray).size = 1 := rfl
  have e2 : (⟨#[125]⟩ : ByteArray).size = 1 := rfl
  simp only [ByteArray.size_append, strL1, e1, e2]
  omega
theorem HSet_ok (l : List Field) (x y : ByteArray) (h : l.length ≤ 100) : Rn (r5_HSet_sh big l x y) fun m => m.length ≤ l.length + 1 := by
  unfold r5_HSet_sh
  refine Rn.bn (P := fun b : Bool × List Field => b.2.length + (if b.1 then 0 else 1) ≤ l.length + 1)
    (Rn.iter _ (fun k a => a.2.1 = (k : Int) ∧ a.2.2.length + (if a.1 then 0 else 1) ≤ k + 1) l.length (by unfold big; omega) ⟨rfl, by simp⟩ fun k a hk hI => ?_) fun b hb => ?_
  · obtain ⟨d, i, m⟩ := a
    obtain ⟨rfl, i2⟩ := hI
    simp only at i2
    refine Rn.lt (Rn.lt (Rn.ite (fun hg => ?_) (fun hg => Rn.some ?_)))
    · have hk2 : k < l.length := by
        have : ((k : Int) < (l.length : Int)) := by simpa [ltI, lenI] using hg
        omega
      refine Rn.bn (P := fun b : Bool × List Field => b.2.length + (if b.1 then 0 else 1) ≤ k + 2) ?_ fun b hb => ?_
      · refine Rn.bn (P := fun b : Bool × List Field => b.2.length + (if b.1 then 0 else 1) ≤ k + 1) ?_ fun b hb => ?_
        · refine Rn.bn (P := fun b : Bool => b = true → d = false) ?_ fun b hb => ?_
          · refine Rn.lt (Rn.ite (fun hd => Rn.bnE (nth_some hk2) (Rn.lt (Rn.some fun _ => ?_))) (fun hd => Rn.some (by simp)))
            simpa [notB] using hd
          · refine Rn.lt (Rn.ite (fun hd => Rn.room ?_ ?_ (Rn.lt (Rn.some ?_))) (fun hd => Rn.some i2))
            · simp only; split at i2 <;> omega
            · simp only; split at i2 <;> omega
            · rw [hb hd] at i2
              simpa using i2
        · refine Rn.bnE (nth_some hk2) (Rn.lt (Rn.ite (fun hd => Rn.room ?_ ?_ (Rn.lt (Rn.some ?_))) (fun hd => Rn.some ?_)))
          · split at hb <;> omega
          · split at hb <;> omega
          · simp only [List.length_append, List.length_cons, List.length_nil]
            omega
          · simp only; omega
      · refine Rn.lt (Rn.some ⟨hk2, ?_, ?_⟩)
        · simp only; rw [addI_64 (by omega) (by omega)]; omega
        · simpa using hb
    · simp only
      split at i2 <;> simp_all <;> omega
  · refine Rn.bn (P := fun m : List Field => m.length ≤ l.length + 1) ?_ fun m hm => Rn.room (by omega) (by omega) (Rn.some hm)
    refine Rn.lt (Rn.ite (fun hd => Rn.room ?_ ?_ (Rn.lt (Rn.some ?_))) (fun hd => Rn.some ?_))
    · split at hb <;> omega
    · split at hb <;> omega
    · have : b.1 = false := by simpa [notB] using hd
      rw [this] at hb
      simpa using hb
    · split at hb <;> omega
theorem SHas_ok (l : List ByteArray) (x : ByteArray) (h : l.length ≤ 1000000000) : Rn (r5_SHas_tf_sh big l x) fun _ => True := by
  unfold r5_SHas_tf_sh
  refine Rn.bn (P := fun _ => True) (Rn.iter _ (fun k a => a = (k : Int)) l.length (by unfold big; omega) rfl fun k a hk hI => ?_) fun b _ => Rn.sm (fun _ _ => Rn.some trivial) (fun _ _ => Rn.some trivial)
  subst hI
  refine Rn.lt (Rn.lt (Rn.ite (fun hg => ?_) (fun hg => Rn.some trivial)))
  have hk2 : k < l.length := by
    have : ((k : Int) < (l.length : Int)) := by simpa [ltI, lenI] using hg
    omega
  refine Rn.bnE (nth_some hk2) (Rn.lt (Rn.ite (fun _ => Rn.some trivial) (fun _ => Rn.lt (Rn.some ⟨hk2, ?_⟩))))
  rw [addI_64 (by omega) (by omega)]; omega
theorem SAdd_ok (l : List ByteArray) (x : ByteArray) (h : l.length ≤ 1000000000) : Rn (r5_SAdd_tf_sh big l x) fun m => m.length ≤ l.length + 1 := by
  unfold r5_SAdd_tf_sh
  refine Rn.bn (SHas_ok l x h) fun v _ => Rn.ite (fun _ => Rn.room (by omega) (by omega) (Rn.some (by omega))) (fun _ => ?_)
  refine Rn.bn (P := fun i : Int => ∃ k : Nat, k ≤ l.length ∧ i = k) (Rn.iter _ (fun k a => a = (k : Int)) l.length (by unfold big; omega) rfl fun k a hk hI => ?_) fun b hb => ?_
  · subst hI
    refine Rn.bn (P := fun b : Bool => b = true → k < l.length) ?_ fun b hb => Rn.lt (Rn.ite (fun hd => Rn.lt (Rn.some ⟨hb hd, ?_⟩)) (fun _ => Rn.some ⟨k, hk, rfl⟩))
    · refine Rn.lt (Rn.lt (Rn.ite (fun hg => ?_) (fun _ => Rn.some (by simp))))
      have hk2 : k < l.length := by
        have : ((k : Int) < (l.length : Int)) := by simpa [ltI, lenI] using hg
        omega
      exact Rn.bnE (nth_some hk2) (Rn.lt (Rn.some fun _ => hk2))
    · have := hb hd
      rw [addI_64 (by omega) (by omega)]; omega
  · obtain ⟨k, hk, rfl⟩ := hb
    refine Rn.bnE (segh_nat hk) (Rn.room ?_ ?_ (Rn.room ?_ ?_ (Rn.lt (Rn.bnE (segl_nat hk) (Rn.room ?_ ?_ (Rn.lt (Rn.some ?_)))))))
    all_goals simp only [List.length_append, List.length_cons, List.length_nil, List.length_take, List.length_drop]
    all_goals omega
end Go.Proofs.Ytlkhfdccapkcdaa
/- Plain laws: items and effects that numbers tell. -/
namespace Go.Proofs.Ytlkhfdccapkcdaa
open Go Go.RowKit
set_option linter.unusedVariables false
set_option linter.unusedSimpArgs false
def u8s (l : List Int) : Prop := ∀ x ∈ l, 0 ≤ x ∧ x ≤ 255
theorem ltI_d {a b : Int} (h : ltI a b = true) : a < b := by simpa [ltI] using h
theorem ltI_n {a b : Int} (h : ltI a b = false) : b ≤ a := by simpa [ltI] using h
theorem eqI_d {a b : Int} (h : eqI a b = true) : a = b := by simpa [eqI] using h
theorem eqI_n {a b : Int} (h : eqI a b = false) : a ≠ b := by simpa [eqI] using h
theorem remI_u8 {a b : Int} (h : 0 ≤ a) (hb : 0 < b) : remI .u8 a b = some (a % b) := remI_pos h hb
theorem Make_ok (l : List Int) (x : Int) (hl : u8s l) (hx : 0 ≤ x) (hx2 : x ≤ 255) : Rn (l5_Make_sh big l x) fun i => i.f.length ≤ 9 ∧ i.l.length ≤ 9 := by
  unfold l5_Make_sh
  refine Rn.lt (Rn.lt (Rn.ite (fun _ => Rn.some ⟨by simp, by simp⟩) (fun hne => ?_)))
  have h0 : 0 < l.length := by
    have := eqI_n hne
    simp only [lenI] at this
    omega
  have hb0 := hl _ (List.getElem_mem h0)
  refine Rn.bnE (nth_some (i := 0) h0) (Rn.lt ?_)
  rw [cvI_64 (by omega) (by omega)]
  refine Rn.bnE (remI_pos hb0.1 (by omega)) (Rn.lt (Rn.bn (P := fun _ => True) ?_ fun v _ => ?_))
  · refine Rn.bnE (remI_pos hx (by omega)) (Rn.lt (Rn.ite (fun _ => Rn.lt (Rn.some trivial)) (fun _ => Rn.some trivial)))
  generalize addI .i64 1 (l[0] % 4) = kd
  refine Rn.bn (P := fun b : ByteArray × List Field × List ByteArray => b.2.1.length ≤ 9 ∧ b.2.2.length ≤ 9)
    (Rn.iter _ (fun k a => a.1 = ((k + 1 : Nat) : Int) ∧ a.2.1.size ≤ 40 * k ∧ a.2.2.1.length ≤ k ∧ a.2.2.2.length ≤ k) 8 (by unfold big; omega) ⟨rfl, Nat.le_refl _, by simp, by simp⟩ fun k a hk hI => ?_) fun b hb => ?_
  · obtain ⟨i, s, f, m⟩ := a
    obtain ⟨rfl, i2, i3, i4⟩ := hI
    simp only at i2 i3 i4
    refine Rn.bn (P := fun b : Bool => b = true → k < 8 ∧ k + 1 < l.length) ?_ fun b hb => Rn.lt (Rn.ite (fun hd => ?_) (fun _ => Rn.some ⟨by simp only; omega, by simp only; omega⟩))
    · refine Rn.lt (Rn.lt (Rn.ite (fun hg => Rn.lt (Rn.some fun hg2 => ?_)) (fun _ => Rn.some (by simp))))
      have h1 := ltI_d hg
      have h2 := ltI_d hg2
      simp only [lenI] at h1 h2
      omega
    · obtain ⟨hk8, hkl⟩ := hb hd
      have hb1 := hl _ (List.getElem_mem hkl)
      refine Rn.bn (P := fun b : ByteArray × List Field × List ByteArray => b.1.size ≤ 40 * (k + 1) ∧ b.2.1.length ≤ k + 1 ∧ b.2.2.length ≤ k + 1) ?_ fun b hb => Rn.lt (Rn.some ⟨hk8, ?_, hb⟩)
      · refine Rn.bnE (nth_some hkl) (Rn.bnE (remI_pos hb1.1 (by omega)) (Rn.lt (Rn.lt (Rn.lt ?_))))
        rw [cvI_64 (by omega) (by omega)]
        refine Rn.bnE (remI_pos hb1.1 (by omega)) ?_
        refine Rn.bn (Digits_ok _ (by omega) (by omega)) fun d hd => ?_
        refine Rn.cat (by rw [strL1]; omega) ?_
        have hw : ∀ x : Int, (strL [x] ++ d).size ≤ 31 := fun x => by
          rw [ByteArray.size_append, strL1]; omega
        have hw := hw (addI .u8 97 (l[k + 1] % 5))
        revert hw
        generalize strL [addI .u8 97 (l[k + 1] % 5)] ++ d = w
        intro hw
        refine Rn.lt ?_
        refine Rn.ite (fun _ => ?_) (fun _ => ?_)
        · refine Rn.cat (by simp only; omega) (Rn.some ⟨?_, ?_, ?_⟩)
          · rw [ByteArray.size_append]; simp only; omega
          · simp only; omega
          · simp only; omega
        refine Rn.lt ?_
        refine Rn.ite (fun _ => ?_) (fun _ => ?_)
        · refine Rn.lt ?_
          rw [subI_64 (by omega) (by omega)]
          refine Rn.bn (Digits_ok _ (by omega) (by omega)) fun e he => ?_
          refine Rn.bn (HSet_ok _ _ _ (by simp only; omega)) fun z hz => ?_
          refine Rn.some ⟨?_, ?_, ?_⟩
          · simp only; omega
          · simp only at hz ⊢; omega
          · simp only; omega
        refine Rn.lt ?_
        refine Rn.ite (fun _ => ?_) (fun _ => ?_)
        · refine Rn.room (by simp only; omega) (by simp only; omega) (Rn.lt (Rn.some ⟨?_, ?_, ?_⟩))
          · simp only; omega
          · simp only; omega
          · simp only [List.length_append, List.length_cons, List.length_nil]; omega
        · refine Rn.room (by simp only; omega) (by simp only; omega) ?_
          refine Rn.bn (SAdd_ok _ _ (by simp only; omega)) fun z hz => ?_
          refine Rn.some ⟨?_, ?_, ?_⟩
          · simp only; omega
          · simp only; omega
          · simp only at hz ⊢; omega
      · show addI .i64 ((k + 1 : Nat) : Int) 1 = _
        rw [addI_64 (by omega) (by omega)]; omega
  · refine Rn.bn (P := fun _ => True) ?_ fun c _ => ?_
    rotate_left
    · refine Rn.lt (Rn.ite (fun _ => ?_) (fun _ => Rn.room (by omega) (by omega) (Rn.some hb)))
      refine Rn.bnE (nth_some (i := 0) h0) (Rn.lt ?_)
      rw [cvI_64 (by omega) (by omega)]
      exact Rn.bn (Digits_ok _ (by omega) (by omega)) fun d hd => Rn.some ⟨by simp, by simp⟩
    · exact Rn.lt (Rn.lt (Rn.ite (fun _ => Rn.lt (Rn.some trivial)) (fun _ => Rn.some trivial)))
theorem u8s.seg {l : List Int} (h : u8s l) (i j : Nat) : u8s ((l.drop i).take j) := fun x hx => h x (List.mem_of_mem_drop (List.mem_of_mem_take hx))
theorem Effects_ok (l : List Int) (hl : u8s l) (h : l.length ≤ 1000000000) : Rn (l11_Effects_sh big l) fun m => m.length ≤ 40 ∧ (4 ≤ l.length → 0 < m.length) ∧ ∀ e ∈ m, okI e.item := by
  unfold l11_Effects_sh
  refine Rn.bn (P := fun m : List Effect => m.length ≤ 40 ∧ (4 ≤ l.length → 0 < m.length) ∧ ∀ e ∈ m, okI e.item)
    (Rn.iter _ (fun k a => a.1 = ((4 * k : Nat) : Int) ∧ a.2.length = k ∧ ∀ e ∈ a.2, okI e.item) 40 (by unfold big; omega) ⟨rfl, rfl, by simp⟩ fun k a hk hI => ?_) fun m hm => Rn.room (by omega) (by omega) (Rn.some hm)
  obtain ⟨i, m⟩ := a
  obtain ⟨rfl, i2, i3⟩ := hI
  simp only at i2 i3
  refine Rn.bn (P := fun b : Bool => (b = true → k < 40 ∧ 4 * k + 3 < l.length) ∧ (b = false → 4 ≤ l.length → 0 < k)) ?_ fun b hb => Rn.lt (Rn.ite (fun hd => ?_) (fun hd => Rn.some ⟨by simp only; omega, ?_, i3⟩))
  · refine Rn.lt ?_
    rw [addI_64 (by simp only; omega) (by simp only; omega)]
    refine Rn.lt (Rn.lt (Rn.ite (fun hg => Rn.lt (Rn.lt (Rn.some ?_))) (fun hg => Rn.some ?_)))
    · have h1 := ltI_d hg
      simp only [lenI] at h1
      refine ⟨fun h2 => ?_, fun h2 => ?_⟩
      · have h2 := ltI_d h2
        simp only [lenI, i2] at h2
        omega
      · have h2 := ltI_n h2
        simp only [lenI, i2] at h2
        omega
    · have h1 := ltI_n hg
      simp only [lenI] at h1
      exact ⟨fun h => by simp at h, fun _ => by omega⟩
  · obtain ⟨h40, h4⟩ := hb.1 hd
    have hb0 := hl _ (List.getElem_mem (show 4 * k < l.length by omega))
    have hb1 := hl _ (List.getElem_mem (show 4 * k + 1 < l.length by omega))
    have hb2 := hl _ (List.getElem_mem (show 4 * k + 2 < l.length by omega))
    refine Rn.bnE (nth_some (show 4 * k < l.length by omega)) (Rn.bn (Key_ok _ hb0.1 hb0.2) fun key _ => Rn.lt ?_)
    rw [show addI .i64 ((4 * k : Nat) : Int) 1 = ((4 * k + 1 : Nat) : Int) by rw [addI_64 (by omega) (by omega)]; omega]
    refine Rn.bnE (nth_some (show 4 * k + 1 < l.length by omega)) (Rn.bnE (remI_pos hb1.1 (by omega)) (Rn.lt (Rn.bn (P := fun b : Int × ByteArray × List Field × List ByteArray × Int => b.2.2.1.length ≤ 9 ∧ b.2.2.2.1.length ≤ 9) ?_ fun b hb => Rn.room ?_ ?_ (Rn.lt (Rn.lt (Rn.some ⟨h40, ?_, ?_, ?_⟩))))))
    · refine Rn.lt (Rn.ite (fun _ => Rn.lt ?_) (fun _ => Rn.some ⟨by simp, by simp⟩))
      rw [show addI .i64 ((4 * k : Nat) : Int) 4 = ((4 * k + 4 : Nat) : Int) by rw [addI_64 (by omega) (by omega)]; omega]
      refine Rn.bnE (seglh_nat (by omega) (by omega)) (Rn.lt ?_)
      rw [show addI .i64 ((4 * k : Nat) : Int) 2 = ((4 * k + 2 : Nat) : Int) by rw [addI_64 (by omega) (by omega)]; omega]
      exact Rn.bnE (nth_some (show 4 * k + 2 < l.length by omega)) (Rn.bn (Make_ok _ _ (hl.seg _ _) hb2.1 hb2.2) fun it hit => Rn.some hit)
    · simp only; omega
    · simp only; omega
    · simp only
      rw [addI_64 (by omega) (by omega)]; omega
    · simp [i2]
    · intro e he
      rcases List.mem_append.1 he with he | he
      · exact i3 e he
      · simp at he
        subst he
        exact ⟨by simp only; omega, by simp only; omega⟩
  · simp only [i2]
    exact hb.2 hd
end Go.Proofs.Ytlkhfdccapkcdaa
/- Plain law: feeds keep the last of what was added. -/
namespace Go.Proofs.Ytlkhfdccapkcdaa
open Go Go.RowKit
set_option linter.unusedVariables false
set_option linter.unusedSimpArgs false
set_option maxRecDepth 100000 in
theorem awake15_ok : l15_awake_sh big = some true := by kernel_rfl
theorem lastN_app (a b : List Effect) : lastN (lastN a ++ b) = lastN (a ++ b) := by
  unfold lastN
  by_cases h : a.length ≤ 64
  · rw [show a.length - 64 = 0 by omega, List.drop_zero]
  · have e1 : (List.drop (a.length - 64) a ++ b) = (a ++ b).drop (a.length - 64) := by rw [List.drop_append_of_le_length (by omega)]
    rw [e1, List.drop_drop]
    have e3 : a.length - 64 + ((List.drop (a.length - 64) (a ++ b)).length - 64) = (a ++ b).length - 64 := by
      simp only [List.length_drop, List.length_append]
      omega
    rw [e3]
theorem okE.lastN {l : List Effect} (h : okE l) : okE (lastN l) := h.drop _
theorem lastN_len (l : List Effect) : (lastN l).length ≤ 64 := by simp [lastN]; omega
def allR (l : List Effect) (i : Nat) : List Effect := (List.replicate i l).flatten
theorem allR_succ (l : List Effect) (i : Nat) : allR l (i + 1) = allR l i ++ l := by
  unfold allR
  rw [List.replicate_succ', List.flatten_append]
  simp
theorem allR_len (l : List Effect) (i : Nat) : (allR l i).length = i * l.length := by simp [allR]
theorem allR_ok {l : List Effect} (h : okE l) (i : Nat) (hi : i * l.length ≤ 1000000000) : okE (allR l i) := ⟨by rw [allR_len]; exact hi, fun e he => by
  simp only [allR, List.mem_flatten] at he
  obtain ⟨m, hm, hm2⟩ := he
  have := (List.mem_replicate.1 hm).2
  subst this
  exact h.2 e hm2⟩
def fdOf (off : Int) (b : List Effect) : Feed := ⟨⟨0, 0⟩, off, b, ⟨0, 0⟩, 0⟩
theorem FeedKeeps_ok (es : List Int) (t : Int) (hes : u8s es) (ht : 0 ≤ t) (ht2 : t ≤ 255) : l15_FeedKeeps_sh big es t = some true := by
  unfold l15_FeedKeeps_sh
  simp only [lt_eq, bn_some, ite_t, ite_f, sm_inl, sm_inr, lenI_eq, Option.some.injEq]
  by_cases hlen : 4 ≤ es.length ∧ es.length ≤ 120
  rotate_left
  · have e : ite' (ltI (es.length : Int) 4) (some true) (some (gtI (es.length : Int) 120)) = some true := by
      by_cases h : es.length < 4
      · rw [show ltI (es.length : Int) 4 = true by simp [ltI]; omega]; rfl
      · rw [show ltI (es.length : Int) 4 = false by simp [ltI]; omega, show gtI (es.length : Int) 120 = true by simp [gtI]; omega]; rfl
    rw [e]
    simp only [lt_eq, bn_some, ite_t, ite_f, sm_inl, sm_inr, lenI_eq, Option.some.injEq]
    rw [awake15_ok]
    rfl
  obtain ⟨hl1, hl2⟩ := hlen
  have e : ite' (ltI (es.length : Int) 4) (some true) (some (gtI (es.length : Int) 120)) = some false := by
    rw [show ltI (es.length : Int) 4 = false by simp [ltI]; omega, show gtI (es.length : Int) 120 = false by simp [gtI]; omega]; rfl
  rw [e]
  simp only [lt_eq, bn_some, ite_t, ite_f, sm_inl, sm_inr, lenI_eq, Option.some.injEq]
  obtain ⟨l, hl, hl40, hl0, hok⟩ := Effects_ok es hes (by omega)
  have hE : okE l := ⟨by omega, hok⟩
  rw [hl]
  simp only [lt_eq, bn_some, ite_t, ite_f, sm_inl, sm_inr, lenI_eq, Option.some.injEq]
  rw [cvI_64 (by omega) (by omega), remI_pos ht (by omega)]
  simp only [lt_eq, bn_some, ite_t, ite_f, sm_inl, sm_inr, lenI_eq, Option.some.injEq]
  rw [addI_64 (by omega) (by omega)]
  obtain ⟨N, hN⟩ : ∃ N : Nat, 1 + t % 6 = N := ⟨(1 + t % 6).toNat, by omega⟩
  have hN7 : N ≤ 6 := by omega
  rw [hN]
  have hm : ∀ i, i ≤ 6 → i * l.length ≤ 240 := fun i hi => by
    have := Nat.mul_le_mul hi hl40
    omega
  refine bn_run (allR l N, 0, 0, ((N * l.length : Nat) : Int), lastN (allR l N), 0, 0, 0, 0, 0, ((N * l.length : Nat) : Int), lastN (allR l N), 0, 0, 0)
    (fun i => ((i : Int), allR l i, 0, 0, ((i * l.length : Nat) : Int), lastN (allR l i), 0, 0, 0, 0, 0, ((i * l.length : Nat) : Int), lastN (allR l i), 0, 0, 0)) N (by unfold big; omega) ?_ (fun i hi => ?_) ?_ ?_
  · simp [allR, lastN]
  · have h1 := hm i (by omega)
    have h2 := hm (i + 1) (by omega)
    rw [Nat.add_mul] at h2
    have hA := allR_ok hE i (by omega)
    have hlA := allR_len l i
    simp only [lt_eq, bn_some, ite_t, ite_f, sm_inl, sm_inr, lenI_eq, Option.some.injEq]
    rw [ltI_t (by omega)]
    simp only [lt_eq, bn_some, ite_t, ite_f, sm_inl, sm_inr, lenI_eq, Option.some.injEq]
    rw [feed_Add_ok _ _ hA.lastN hE (by have := lastN_len (allR l i); simp only; omega) (by simp only; omega) (by simp only; omega)]
    simp only [lt_eq, bn_some, ite_t, ite_f, sm_inl, sm_inr, lenI_eq, Option.some.injEq]
    refine bn_run (0, 0, (((i + 1) * l.length : Nat) : Int), lastN (allR l (i + 1)), 0, 0, 0)
      (fun k => ((k : Int), 0, 0, ((i * l.length + k : Nat) : Int), lastN (allR l i ++ l.take k), 0, 0, 0)) l.length (by unfold big; omega) ?_ (fun k hk => ?_) ?_ ?_
    · simp
    · have hB : okE (allR l i ++ l.take k) := ⟨by simp; omega, fun e he => by
        rcases List.mem_append.1 he with he | he
        · exact hA.2 e he
        · exact hE.2 e (List.mem_of_mem_take he)⟩
      simp only [lt_eq, bn_some, ite_t, ite_f, sm_inl, sm_inr, lenI_eq, Option.some.injEq]
      rw [ltI_t (by omega), nth_some hk]
      simp only [lt_eq, bn_some, ite_t, ite_f, sm_inl, sm_inr, lenI_eq, Option.some.injEq]
      rw [feed_Add_ok _ _ hB.lastN ⟨by simp, fun e he => by simp at he; subst he; exact hE.2 _ (List.getElem_mem hk)⟩ (by have := lastN_len (allR l i ++ l.take k); simp; omega) (by simp only; omega) (by simp only; omega)]
      simp only [lt_eq, bn_some, ite_t, ite_f, sm_inl, sm_inr, lenI_eq, Option.some.injEq]
      rw [addI_64 (by omega) (by omega), lastN_app, List.append_assoc, List.take_append_getElem hk]
      simp
      omega
    · simp only [lt_eq, bn_some, ite_t, ite_f, sm_inl, sm_inr, lenI_eq, Option.some.injEq]
      rw [ltI_f (by omega)]
      simp only [lt_eq, bn_some, ite_t, ite_f, sm_inl, sm_inr, lenI_eq, Option.some.injEq]
      rw [List.take_length, ← allR_succ, Nat.add_mul, Nat.one_mul]
    · rw [chk_room (by rw [hlA]; omega) (by rw [hlA]; omega)]
      simp only [lt_eq, bn_some, ite_t, ite_f, sm_inl, sm_inr, lenI_eq, Option.some.injEq]
      rw [addI_64 (by omega) (by omega), lastN_app, ← allR_succ, Nat.add_mul]
      simp
  · simp only [lt_eq, bn_some, ite_t, ite_f, sm_inl, sm_inr, lenI_eq, Option.some.injEq]
    rw [ltI_f (by omega)]
    rfl
  · have h1 := hm N (by omega)
    have hA := allR_ok hE N (by omega)
    have hlA := allR_len l N
    simp only [lt_eq, bn_some, ite_t, ite_f, sm_inl, sm_inr, lenI_eq, Option.some.injEq]
    rw [chk_room (by rw [hlA]; omega) (by rw [hlA]; omega), hlA, eqI_self]
    simp only [lt_eq, bn_some, ite_t, ite_f, sm_inl, sm_inr, lenI_eq, Option.some.injEq]
    rw [subI_64 (by omega) (by omega)]
    have e : maxI 0 (((N * l.length : Nat) : Int) - 64) = ((N * l.length - 64 : Nat) : Int) := by simp only [maxI]; omega
    rw [e, segl_nat (by omega)]
    simp only [lt_eq, bn_some, ite_t, ite_f, sm_inl, sm_inr, lenI_eq, Option.some.injEq]
    have e2 : (allR l N).drop (N * l.length - 64) = lastN (allR l N) := by simp only [lastN, hlA]
    rw [e2, r_SameEffects_refl _ hA.lastN]
    simp only [lt_eq, bn_some, ite_t, ite_f, sm_inl, sm_inr, lenI_eq, Option.some.injEq]
    rw [feed_Same_refl _ hA.lastN]
    simp only [lt_eq, bn_some, ite_t, ite_f, sm_inl, sm_inr, lenI_eq, Option.some.injEq]
    rw [awake15_ok]
    rfl
end Go.Proofs.Ytlkhfdccapkcdaa
/- What is read as data of the program's structs. -/
namespace Go.Proofs.Ytlkhfdccapkcdaa
open Go Go.RowKit
set_option linter.unusedVariables false
set_option linter.unusedSimpArgs false
set_option linter.constructorNameAsVariable false
set_option maxRecDepth 100000
section
variable {P : Program} {n t : Nat} {ts : List T}
theorem WfT.bool (hu : P.underlying t = some .bool) (h : WfT P (n + 1) t ts) : ∃ b, ts = [.v (.bool b)] := by rw [WfT, hu] at h; exact h
theorem WfT.int {k : IntKind} (hu : P.underlying t = some (.int k)) (h : WfT P (n + 1) t ts) : ∃ i, ts = [.v (.int k i)] ∧ (Lit.int k i).wf = true := by rw [WfT, hu] at h; exact h
theorem WfT.str (hu : P.underlying t = some .string) (h : WfT P (n + 1) t ts) : ∃ s, ts = [.v (.string s)] ∧ s.size ≤ maxLen := by rw [WfT, hu] at h; exact h
theorem WfT.slice {e : Nat} (hu : P.underlying t = some (.slice e)) (h : WfT P (n + 1) t ts) : ∃ es, ts = [.sl (P.cellsOf e) es] ∧ es.length * P.bytesOf e ≤ reachBytes ∧ ∀ x ∈ es, WfT P n e x := by rw [WfT, hu] at h; exact h
theorem WfT.struct {fs : Array Go.Field} (hu : P.underlying t = some (.struct fs)) (h : WfT P (n + 1) t ts) : ∃ ps : List (List T), ts = ps.flatten ∧ All2 (fun p f => WfT P n f p) ps (fs.toList.map (·.type)) := by rw [WfT, hu] at h; exact h
end
theorem All2.cons_r {α β : Type} {R : α → β → Prop} {l : List α} {b : β} {bs : List β} (h : All2 R l (b :: bs)) : ∃ x xs, l = x :: xs ∧ R x b ∧ All2 R xs bs := by
  cases l with
  | nil => exact h.elim
  | cons x xs => exact ⟨x, xs, rfl, h⟩
theorem All2.nil_r {α β : Type} {R : α → β → Prop} {l : List α} (h : All2 R l ([] : List β)) : l = [] := by
  cases l with
  | nil => rfl
  | cons x xs => exact h.elim
def rngI (i : Int) : Prop := -9223372036854775808 ≤ i ∧ i ≤ 9223372036854775807
theorem wf_rngI {i : Int} (h : (Lit.int .i64 i).wf = true) : rngI i := by
  have h' := (Bool.and_eq_true _ _ ▸ h : _ ∧ _)
  have h1 := of_decide_eq_true h'.1
  have h2 := of_decide_eq_true h'.2
  exact ⟨h1, h2⟩
theorem wf_list {α : Type} {enc : List α → List (List T)} {R : List T → Prop} {rng : α → Prop} (hn : enc [] = []) (hc : ∀ x l, enc (x :: l) = enc [x] ++ enc l) (h1 : ∀ e, R e → ∃ x, enc [x] = [e] ∧ rng x) :
    ∀ es, (∀ x ∈ es, R x) → ∃ l, es = enc l ∧ ∀ x ∈ l, rng x
  | [], _ => ⟨[], hn.symm, fun x h => by cases h⟩
  | e :: es, h => by
    obtain ⟨x, hx, rx⟩ := h1 e (h e (by simp))
    obtain ⟨l, rfl, rl⟩ := wf_list hn hc h1 es fun y hy => h y (by simp [hy])
    refine ⟨x :: l, by rw [hc, hx]; rfl, ?_⟩
    intro y hy
    rcases List.mem_cons.1 hy with rfl | hy
    · exact rx
    · exact rl y hy
theorem wf_S (n : Nat) (e : List T) (h : WfT Try.prog (n + 1) 9 e) : ∃ x : ByteArray, encS [x] = [e] ∧ True := by
  obtain ⟨f, rfl, -⟩ := WfT.str (t := 9) Try.underlying9 h
  exact ⟨f, rfl, trivial⟩
theorem wf_Ss {n : Nat} {es : List (List T)} (h : ∀ x ∈ es, WfT Try.prog (n + 1) 9 x) : ∃ l : List ByteArray, es = encS l ∧ ∀ x ∈ l, True :=
  wf_list (enc := encS) (R := fun e => WfT Try.prog (n + 1) 9 e) (rng := fun _ => True) rfl (fun _ _ => rfl) (@wf_S n) es h
/-- Bytes. -/
def rngU (i : Int) : Prop := 0 ≤ i ∧ i ≤ 255
theorem wf_rngU {i : Int} (h : (Lit.int .u8 i).wf = true) : rngU i := by
  have h' := (Bool.and_eq_true _ _ ▸ h : _ ∧ _)
  exact ⟨of_decide_eq_true h'.1, of_decide_eq_true h'.2⟩
theorem wf_U (n : Nat) (e : List T) (h : WfT Try.prog (n + 1) 5 e) : ∃ x : Int, encU [x] = [e] ∧ rngU x := by
  obtain ⟨f, rfl, h2⟩ := WfT.int (t := 5) Try.underlying5 h
  have h' := (Bool.and_eq_true _ _ ▸ h2 : _ ∧ _)
  have h1 := of_decide_eq_true h'.1
  have h2 := of_decide_eq_true h'.2
  exact ⟨f, rfl, h1, h2⟩
theorem wf_Us {n : Nat} {es : List (List T)} (h : ∀ x ∈ es, WfT Try.prog (n + 1) 5 x) : ∃ l : List Int, es = encU l ∧ ∀ x ∈ l, rngU x :=
  wf_list (enc := encU) (R := fun e => WfT Try.prog (n + 1) 5 e) (rng := rngU) rfl (fun _ _ => rfl) (@wf_U n) es h
def rngField (x : Field) : Prop := True
theorem wf_Field (n : Nat) (e : List T) (h : WfT Try.prog (n + 2) 105 e) : ∃ x : Field, encField [x] = [e] ∧ rngField x := by
  obtain ⟨q0, rfl, w0⟩ := WfT.struct (t := 105) Try.underlying105 h
  obtain ⟨p0, q1, rfl, g0, w1⟩ := All2.cons_r w0
  obtain ⟨p1, q2, rfl, g1, w2⟩ := All2.cons_r w1
  obtain rfl := All2.nil_r w2
  obtain ⟨f0, rfl, -⟩ := WfT.str (t := 9) Try.underlying9 g0
  obtain ⟨f1, rfl, -⟩ := WfT.str (t := 9) Try.underlying9 g1
  exact ⟨⟨f0, f1⟩, rfl, trivial⟩
theorem wf_Fields {n : Nat} {es : List (List T)} (h : ∀ x ∈ es, WfT Try.prog (n + 2) 105 x) : ∃ l : List Field, es = encField l ∧ ∀ x ∈ l, rngField x :=
  wf_list (enc := encField) (R := fun e => WfT Try.prog (n + 2) 105 e) (rng := rngField) rfl (fun _ _ => rfl) (@wf_Field n) es h
def rngItem (x : Item) : Prop := (rngI x.kind) ∧ (∀ y ∈ x.f, rngField y) ∧ (rngI x.exp)
theorem wf_Item (n : Nat) (e : List T) (h : WfT Try.prog (n + 4) 34 e) : ∃ x : Item, encItem [x] = [e] ∧ rngItem x := by
  obtain ⟨q0, rfl, w0⟩ := WfT.struct (t := 34) Try.underlying34 h
  obtain ⟨p0, q1, rfl, g0, w1⟩ := All2.cons_r w0
  obtain ⟨p1, q2, rfl, g1, w2⟩ := All2.cons_r w1
  obtain ⟨p2, q3, rfl, g2, w3⟩ := All2.cons_r w2
  obtain ⟨p3, q4, rfl, g3, w4⟩ := All2.cons_r w3
  obtain ⟨p4, q5, rfl, g4, w5⟩ := All2.cons_r w4
  obtain rfl := All2.nil_r w5
  obtain ⟨f0, rfl, v0⟩ := WfT.int (t := 3) Try.underlying3 g0
  have r0 := wf_rngI v0
  obtain ⟨f1, rfl, -⟩ := WfT.str (t := 9) Try.underlying9 g1
  obtain ⟨es2, rfl, -, k2⟩ := WfT.slice (t := 31) Try.underlying31 g2
  obtain ⟨f2, rfl, r2⟩ := wf_Fields k2
  obtain ⟨es3, rfl, -, k3⟩ := WfT.slice (t := 32) Try.underlying32 g3
  obtain ⟨f3, rfl, r3⟩ := wf_Ss k3
  obtain ⟨f4, rfl, v4⟩ := WfT.int (t := 3) Try.underlying3 g4
  have r4 := wf_rngI v4
  exact ⟨⟨f0, f1, f2, f3, f4⟩, rfl, ⟨r0, r2, r4⟩⟩
theorem wf_Items {n : Nat} {es : List (List T)} (h : ∀ x ∈ es, WfT Try.prog (n + 4) 34 x) : ∃ l : List Item, es = encItem l ∧ ∀ x ∈ l, rngItem x :=
  wf_list (enc := encItem) (R := fun e => WfT Try.prog (n + 4) 34 e) (rng := rngItem) rfl (fun _ _ => rfl) (@wf_Item n) es h
def rngPair (x : Pair) : Prop := (rngItem x.item)
theorem wf_Pair (n : Nat) (e : List T) (h : WfT Try.prog (n + 5) 125 e) : ∃ x : Pair, encPair [x] = [e] ∧ rngPair x := by
  obtain ⟨q0, rfl, w0⟩ := WfT.struct (t := 125) Try.underlying125 h
  obtain ⟨p0, q1, rfl, g0, w1⟩ := All2.cons_r w0
  obtain ⟨p1, q2, rfl, g1, w2⟩ := All2.cons_r w1
  obtain rfl := All2.nil_r w2
  obtain ⟨f0, rfl, -⟩ := WfT.str (t := 9) Try.underlying9 g0
  obtain ⟨f1, e1, r1⟩ := wf_Item _ _ g1
  have e1 := (List.cons.inj e1).1
  subst e1
  exact ⟨⟨f0, f1⟩, rfl, r1⟩
theorem wf_Pairs {n : Nat} {es : List (List T)} (h : ∀ x ∈ es, WfT Try.prog (n + 5) 125 x) : ∃ l : List Pair, es = encPair l ∧ ∀ x ∈ l, rngPair x :=
  wf_list (enc := encPair) (R := fun e => WfT Try.prog (n + 5) 125 e) (rng := rngPair) rfl (fun _ _ => rfl) (@wf_Pair n) es h
def rngEffect (x : Effect) : Prop := (rngItem x.item)
theorem wf_Effect (n : Nat) (e : List T) (h : WfT Try.prog (n + 5) 36 e) : ∃ x : Effect, encEffect [x] = [e] ∧ rngEffect x := by
  obtain ⟨q0, rfl, w0⟩ := WfT.struct (t := 36) Try.underlying36 h
  obtain ⟨p0, q1, rfl, g0, w1⟩ := All2.cons_r w0
  obtain ⟨p1, q2, rfl, g1, w2⟩ := All2.cons_r w1
  obtain ⟨p2, q3, rfl, g2, w3⟩ := All2.cons_r w2
  obtain rfl := All2.nil_r w3
  obtain ⟨f0, rfl, -⟩ := WfT.str (t := 9) Try.underlying9 g0
  obtain ⟨f1, rfl⟩ := WfT.bool (t := 4) Try.underlying4 g1
  obtain ⟨f2, e2, r2⟩ := wf_Item _ _ g2
  have e2 := (List.cons.inj e2).1
  subst e2
  exact ⟨⟨f0, f1, f2⟩, rfl, r2⟩
theorem wf_Effects {n : Nat} {es : List (List T)} (h : ∀ x ∈ es, WfT Try.prog (n + 5) 36 x) : ∃ l : List Effect, es = encEffect l ∧ ∀ x ∈ l, rngEffect x :=
  wf_list (enc := encEffect) (R := fun e => WfT Try.prog (n + 5) 36 e) (rng := rngEffect) rfl (fun _ _ => rfl) (@wf_Effect n) es h
def rngRid (x : Rid) : Prop := (rngI x.node) ∧ (rngI x.epoch)
theorem wf_Rid (n : Nat) (e : List T) (h : WfT Try.prog (n + 2) 27 e) : ∃ x : Rid, encRid [x] = [e] ∧ rngRid x := by
  obtain ⟨q0, rfl, w0⟩ := WfT.struct (t := 27) Try.underlying27 h
  obtain ⟨p0, q1, rfl, g0, w1⟩ := All2.cons_r w0
  obtain ⟨p1, q2, rfl, g1, w2⟩ := All2.cons_r w1
  obtain rfl := All2.nil_r w2
  obtain ⟨f0, rfl, v0⟩ := WfT.int (t := 3) Try.underlying3 g0
  have r0 := wf_rngI v0
  obtain ⟨f1, rfl, v1⟩ := WfT.int (t := 3) Try.underlying3 g1
  have r1 := wf_rngI v1
  exact ⟨⟨f0, f1⟩, rfl, ⟨r0, r1⟩⟩
theorem wf_Rids {n : Nat} {es : List (List T)} (h : ∀ x ∈ es, WfT Try.prog (n + 2) 27 x) : ∃ l : List Rid, es = encRid l ∧ ∀ x ∈ l, rngRid x :=
  wf_list (enc := encRid) (R := fun e => WfT Try.prog (n + 2) 27 e) (rng := rngRid) rfl (fun _ _ => rfl) (@wf_Rid n) es h
def rngFeed (x : Feed) : Prop := (rngRid x.rid) ∧ (rngI x.off) ∧ (∀ y ∈ x.back, rngEffect y) ∧ (rngRid x.prev) ∧ (rngI x.upto)
theorem wf_Feed (n : Nat) (e : List T) (h : WfT Try.prog (n + 7) 29 e) : ∃ x : Feed, encFeed [x] = [e] ∧ rngFeed x := by
  obtain ⟨q0, rfl, w0⟩ := WfT.struct (t := 29) Try.underlying29 h
  obtain ⟨p0, q1, rfl, g0, w1⟩ := All2.cons_r w0
  obtain ⟨p1, q2, rfl, g1, w2⟩ := All2.cons_r w1
  obtain ⟨p2, q3, rfl, g2, w3⟩ := All2.cons_r w2
  obtain ⟨p3, q4, rfl, g3, w4⟩ := All2.cons_r w3
  obtain ⟨p4, q5, rfl, g4, w5⟩ := All2.cons_r w4
  obtain rfl := All2.nil_r w5
  obtain ⟨f0, e0, r0⟩ := wf_Rid _ _ g0
  have e0 := (List.cons.inj e0).1
  subst e0
  obtain ⟨f1, rfl, v1⟩ := WfT.int (t := 3) Try.underlying3 g1
  have r1 := wf_rngI v1
  obtain ⟨es2, rfl, -, k2⟩ := WfT.slice (t := 24) Try.underlying24 g2
  obtain ⟨f2, rfl, r2⟩ := wf_Effects k2
  obtain ⟨f3, e3, r3⟩ := wf_Rid _ _ g3
  have e3 := (List.cons.inj e3).1
  subst e3
  obtain ⟨f4, rfl, v4⟩ := WfT.int (t := 3) Try.underlying3 g4
  have r4 := wf_rngI v4
  exact ⟨⟨f0, f1, f2, f3, f4⟩, rfl, ⟨r0, r1, r2, r3, r4⟩⟩
theorem wf_Feeds {n : Nat} {es : List (List T)} (h : ∀ x ∈ es, WfT Try.prog (n + 7) 29 x) : ∃ l : List Feed, es = encFeed l ∧ ∀ x ∈ l, rngFeed x :=
  wf_list (enc := encFeed) (R := fun e => WfT Try.prog (n + 7) 29 e) (rng := rngFeed) rfl (fun _ _ => rfl) (@wf_Feed n) es h
end Go.Proofs.Ytlkhfdccapkcdaa
/- What all rows need. -/
namespace Go.Proofs.Ytlkhfdccapkcdaa
open Go Go.RowKit
open Go.ChangeShapes Go.WideShapes Go.ChangeAt Go.RowKit
theorem Try.own : ownKnob Try.prog.godebug = none := by kernel_rfl
theorem Try.laidOut : laidOutB Try.prog = true := by kernel_rfl
end Go.Proofs.Ytlkhfdccapkcdaa
