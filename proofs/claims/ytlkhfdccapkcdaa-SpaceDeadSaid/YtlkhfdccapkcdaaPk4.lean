/- Part 4 of the proof. -/
import Derived.Test.YtlkhfdccapkcdaaPk3
import Derived.Test.YtlkhfdccapkcdaaRows
import Derived.ProofKit
/- Walks, printed: l15_awake, r1_Digits, l11_Key, r5_HSet, r5_SHas, r5_SAdd, r5_SHas_tf, r5_SAdd_tf, l5_Make, l11_Effects, r5_SameFields, r1_Texts, r5_SameItem, r5_SameE -/
namespace Go.Proofs.Ytlkhfdccapkcdaa
open Go Go.RowKit
set_option linter.unusedVariables false
set_option linter.unusedSimpArgs false
def r1_Digits_sh (n : Nat) (a0 : Int) : Option ByteArray :=
lt (cvI .u64 a0) fun v1 =>
bn (lt (ltI a0 0) fun v3 =>
ite' v3 (lt (negI .u64 v1) fun v4 =>
some (v4)) (some (v1))) fun (y2 : Int) =>
bn (iter n (fun (y5 : Int × ByteArray) =>
lt (geI y5.1 10) fun v8 =>
ite' v8 (bn (remI .u64 y5.1 10) fun v9 =>
lt (addI .u64 48 v9) fun v10 =>
lt (cvI .u8 v10) fun v11 =>
lt (strL [v11]) fun v12 =>
bn (catS v12 y5.2) fun v14 =>
bn (quoI .u64 y5.1 10) fun v15 =>
some (.inl (v15, v14))) (some (.inr (y5.1, y5.2)))) (y2, ⟨#[]⟩)) fun (y6 : Int × ByteArray) =>
lt (addI .u64 48 y6.1) fun v16 =>
lt (cvI .u8 v16) fun v17 =>
lt (strL [v17]) fun v18 =>
bn (catS v18 y6.2) fun v20 =>
lt (ltI a0 0) fun v21 =>
ite' v21 (bn (catS ⟨#[45]⟩ v20) fun v22 =>
some v22) (some v20)
set_option maxRecDepth 8000 in
set_option maxHeartbeats 8000000 in
theorem s_r1_Digits {n : Nat} {a0 : Int} {r : ByteArray} (h : r1_Digits_sh n a0 = some r) : Sound Try.prog 25 [.l (.s (.int .i64 a0))] [] (.l (.s (.string r))) [] := by
  unfold r1_Digits_sh at h
  refine Sound.of_aw (fn := Try.f25) (c := _) Try.func25 rfl (by simp [Try.f25]) fun cx hG hnb => ?_
  rw [show Try.f25.ntmps = 35 from rfl]
  have hn0 : cx.nb = 0 := hnb
  simp only [st0_mk, initTm, List.map_cons, List.map_nil]
  apply AW.step
  · simp
    intros; rfl
  replace h := ltE h; obtain ⟨v1, e1, h⟩ := h
  apply AW.step
  · simp [← e1]
    intros; rfl
  replace h := bnE h; obtain ⟨y2, g2, h⟩ := h
  refine AW.flow (p := fun gh ls => (nP (cx := cx) (fun q => (⟨[(0, .l (.s (.int .i64 a0))), (3, .l (.s (.int .u64 q))), (4, .l (.s (.string ⟨#[]⟩)))], [], 35, gh, ls⟩ : St))) y2) ?_ ?_
  · replace h := g2; clear g2
    replace h := ltE h; obtain ⟨v3, e3, h⟩ := h
    apply AW.step
    · simp [← e3]
      intros; rfl
    cases v3 with
    | true =>
      replace h := iteT rfl h
      refine AW.cond_true (by simp) ?_
      replace h := ltE h; obtain ⟨v4, e4, h⟩ := h
      apply AW.last
      · simp [← e4]
        intros; rfl
      obtain rfl := Option.some.inj h
      refine nP_i ?_
      refine Weak.mixN [] hn0 (by decide) ?_ ?_ rfl
      all_goals first | (simp [inv_cons, inv_nil, pickOb]; done) | rfl
    | false =>
      replace h := iteF rfl h
      refine AW.cond_false (by simp) ?_
      refine AW.skip ?_
      try simp only [sp_l, sp_r, Post.seq, Post.block, Nat.reduceEqDiff, reduceIte, Nat.zero_ne_one, Nat.one_ne_zero]
      obtain rfl := Option.some.inj h
      refine nP_i ?_
      refine Weak.mixN [] hn0 (by decide) ?_ ?_ rfl
      all_goals first | (simp [inv_cons, inv_nil, pickOb]; done) | rfl
  · rintro e s hp
    obtain ⟨rfl, hw⟩ := hp
    refine ⟨_, hw, ?_⟩
    try simp only [sp_l, sp_r, Post.seq, Post.block, Nat.reduceEqDiff, reduceIte, Nat.zero_ne_one, Nat.one_ne_zero]
    refine AW.seq ?_
    refine AW.block ?_
    replace h := bnE h; obtain ⟨y6, g6, h⟩ := h
    refine AW.iterP g6 (mk := fun gh ls q => (⟨[(0, .l (.s (.int .i64 a0))), (3, .l (.s (.int .u64 q.1))), (4, .l (.s (.string q.2)))], [], 35, gh, ls⟩ : St)) (N := fun gh ls => (xP 0 (cx := cx) (fun q => (⟨[(0, .l (.s (.int .i64 a0))), (3, .l (.s (.int .u64 q.1))), (4, .l (.s (.string q.2)))], [], 35, gh, ls⟩ : St)))) ?_ noX ?_ ?_
    · refine Weak.mixN [] hn0 (by decide) ?_ ?_ rfl
      all_goals first | (simp [inv_cons, inv_nil, pickOb]; done) | rfl
    · clear h; intro y5 y7 h
      refine AW.seq ?_
      replace h := ltE h; obtain ⟨v8, e8, h⟩ := h
      apply AW.step
      · simp [← e8]
        intros; rfl
      cases v8 with
      | true =>
        replace h := iteT rfl h
        refine AW.cond_true (by simp) ?_
        refine AW.skip ?_
        try simp only [sp_l, sp_r, Post.seq, Post.block, Nat.reduceEqDiff, reduceIte, Nat.zero_ne_one, Nat.one_ne_zero]
        try simp only [sp_l, sp_r, Post.seq, Post.block, Nat.reduceEqDiff, reduceIte, Nat.zero_ne_one, Nat.one_ne_zero]
        refine AW.block ?_
        replace h := bnE h; obtain ⟨v9, e9, h⟩ := h
        replace h := ltE h; obtain ⟨v10, e10, h⟩ := h
        replace h := ltE h; obtain ⟨v11, e11, h⟩ := h
        replace h := ltE h; obtain ⟨v12, e12, h⟩ := h
        have f13 : (⟨#[UInt8.ofNat (v11).toNat]⟩ : ByteArray) = v12 := e12.symm
        replace h := bnE h; obtain ⟨v14, e14, h⟩ := h
        apply AW.step
        · simp [e9, ← e10, ← e11, f13, e14]
          intros
          refine xrow_own ?_
          try simp [e9, ← e10, ← e11, f13, e14]
          intros; rfl
        replace h := bnE h; obtain ⟨v15, e15, h⟩ := h
        apply AW.last
        · simp [e15]
          intros; rfl
        obtain rfl := Option.some.inj h
        refine nP_i ?_
        refine Weak.mixN [] hn0 (by decide) ?_ ?_ rfl
        all_goals first | (simp [inv_cons, inv_nil, pickOb, lvs_encU1]; done) | rfl
      | false =>
        replace h := iteF rfl h
        refine AW.cond_false (by simp) ?_
        refine AW.exit ?_
        try simp only [sp_l, sp_r, Post.seq, Post.block, Nat.reduceEqDiff, reduceIte, Nat.zero_ne_one, Nat.one_ne_zero]
        obtain rfl := Option.some.inj h
        refine xP_i ?_
        refine Weak.mixN [] hn0 (by decide) ?_ ?_ rfl
        all_goals first | (simp [inv_cons, inv_nil, pickOb]; done) | rfl
    · rintro e s hp
      obtain ⟨rfl, hw⟩ := hp
      refine ⟨_, hw, ?_⟩
      try simp only [sp_l, sp_r, Post.seq, Post.block, Nat.reduceEqDiff, reduceIte, Nat.zero_ne_one, Nat.one_ne_zero]
      replace h := ltE h; obtain ⟨v16, e16, h⟩ := h
      replace h := ltE h; obtain ⟨v17, e17, h⟩ := h
      replace h := ltE h; obtain ⟨v18, e18, h⟩ := h
      have f19 : (⟨#[UInt8.ofNat (v17).toNat]⟩ : ByteArray) = v18 := e18.symm
      replace h := bnE h; obtain ⟨v20, e20, h⟩ := h
      apply AW.step
      · simp [← e16, ← e17, f19, e20]
        intros
        refine xrow_own ?_
        try simp [← e16, ← e17, f19, e20]
        intros; rfl
      refine AW.seq ?_
      replace h := ltE h; obtain ⟨v21, e21, h⟩ := h
      apply AW.step
      · simp [← e21]
        intros; rfl
      cases v21 with
      | true =>
        replace h := iteT rfl h
        refine AW.cond_true (by simp) ?_
        replace h := bnE h; obtain ⟨v22, e22, h⟩ := h
        apply AW.step
        · simp [e22]
          intros; rfl
        obtain rfl := Option.some.inj h
        refine AW.ret ?_
        refine Left.plain hnb (by simp [Try.f25, resV, resC, comp]; rfl) rfl rfl ?_
        simp
      | false =>
        replace h := iteF rfl h
        refine AW.cond_false (by simp) ?_
        refine AW.skip ?_
        try simp only [sp_l, sp_r, Post.seq, Post.block, Nat.reduceEqDiff, reduceIte, Nat.zero_ne_one, Nat.one_ne_zero]
        try simp only [sp_l, sp_r, Post.seq, Post.block, Nat.reduceEqDiff, reduceIte, Nat.zero_ne_one, Nat.one_ne_zero]
        apply AW.step
        · simp
          intros; rfl
        obtain rfl := Option.some.inj h
        refine AW.ret ?_
        refine Left.plain hnb (by simp [Try.f25, resV, resC, comp]; rfl) rfl rfl ?_
        simp
theorem en_r1_Digits : Enters Try.prog 25 := enters Try.func25 (by kernel_rfl) rfl
def l11_Key_sh (n : Nat) (a0 : Int) : Option ByteArray :=
bn (remI .u8 a0 4) fun v1 =>
lt (addI .u8 97 v1) fun v2 =>
lt (strL [v2]) fun v3 =>
bn (catS ⟨#[123]⟩ v3) fun v5 =>
bn (catS v5 ⟨#[125]⟩) fun v6 =>
lt (cvI .i64 a0) fun v7 =>
bn (quoI .i64 v7 4) fun v8 =>
bn (remI .i64 v8 5) fun v9 =>
bn (r1_Digits_sh n v9) fun v10 =>
bn (catS v6 v10) fun v11 =>
some v11
set_option maxRecDepth 8000 in
set_option maxHeartbeats 8000000 in
theorem s_l11_Key {n : Nat} {a0 : Int} {r : ByteArray} (h : l11_Key_sh n a0 = some r) : Sound Try.prog 53 [.l (.s (.int .u8 a0))] [] (.l (.s (.string r))) [] := by
  unfold l11_Key_sh at h
  refine Sound.of_aw (fn := Try.f53) (c := _) Try.func53 rfl (by simp [Try.f53]) fun cx hG hnb => ?_
  rw [show Try.f53.ntmps = 16 from rfl]
  have hn0 : cx.nb = 0 := hnb
  simp only [st0_mk, initTm, List.map_cons, List.map_nil]
  apply AW.step
  · simp
    intros; rfl
  replace h := bnE h; obtain ⟨v1, e1, h⟩ := h
  replace h := ltE h; obtain ⟨v2, e2, h⟩ := h
  replace h := ltE h; obtain ⟨v3, e3, h⟩ := h
  have f4 : (⟨#[UInt8.ofNat (v2).toNat]⟩ : ByteArray) = v3 := e3.symm
  replace h := bnE h; obtain ⟨v5, e5, h⟩ := h
  replace h := bnE h; obtain ⟨v6, e6, h⟩ := h
  replace h := ltE h; obtain ⟨v7, e7, h⟩ := h
  replace h := bnE h; obtain ⟨v8, e8, h⟩ := h
  replace h := bnE h; obtain ⟨v9, e9, h⟩ := h
  replace h := bnE h; obtain ⟨v10, e10, h⟩ := h
  replace h := bnE h; obtain ⟨v11, e11, h⟩ := h
  apply AW.drawnE (V := [_, _, _, _, _, _, _, _, _, _, _, _]) (M := [[], [some ⟨5, 1, true, none, [.s (.int .u8 v2)]⟩]]) mixed [⟨[0], [], [(0, none)], false⟩, ⟨[0], [0], [(3, some 0)], false⟩, ⟨[0], [0, 1], [(4, some 1)], false⟩, ⟨[0], [0, 1, 2], [(5, some 2)], true⟩, ⟨[1], [0, 1, 2, 3], [(6, some 3)], false⟩, ⟨[1], [0, 1, 2, 3, 4], [(7, some 4)], false⟩, ⟨[1], [0, 1, 2, 3, 4, 5], [(8, some 5)], false⟩, ⟨[0, 1], [], [(0, none)], false⟩, ⟨[0, 1], [7], [(10, some 7)], false⟩, ⟨[0, 1], [7, 8], [(11, some 8)], false⟩, ⟨[0, 1], [7, 8, 9], [(12, some 9)], false⟩, ⟨[0, 1], [7, 8, 9, 10], [(13, some 10)], false⟩, ⟨[], [0, 1, 2, 3, 4, 5, 6, 7, 8, 9, 10, 11], [], false⟩, ⟨[], [0, 1, 2, 3, 4, 5, 6, 7, 8, 9, 10, 11, 12], [], false⟩] 12 1 (by kernel_rfl) (by kernel_rfl)
  · rfl
  · refine ⟨?_, ?_, ?_, ?_, ?_, ?_, ?_, ⟨?_, ?_⟩, ⟨?_, ?_⟩, ⟨?_, ?_⟩, ⟨?_, ?_⟩, ⟨?_, ?_⟩, trivial⟩
    · intro tm hr
      simp [AllL, rdV] at hr
      simp [hr, e1, ← e2, f4, e5, e6, ← e7, e8, e9, e11]
      intros; first | exact KD.mk | exact KD.mkN
    · intro tm hr
      simp [AllL, rdV] at hr
      simp [hr, e1, ← e2, f4, e5, e6, ← e7, e8, e9, e11]
      intros; first | exact KD.mk | exact KD.mkN
    · intro tm hr
      simp [AllL, rdV] at hr
      simp [hr, e1, ← e2, f4, e5, e6, ← e7, e8, e9, e11]
      intros; first | exact KD.mk | exact KD.mkN
    · intro tm hr
      simp [AllL, rdV] at hr
      simp [hr, e1, ← e2, f4, e5, e6, ← e7, e8, e9, e11]
      intros
      refine xrow_own ?_
      try simp [e1, ← e2, f4, e5, e6, ← e7, e8, e9, e11]
      intros; first | exact KD.mk | exact KD.mkN
    · intro tm hr
      simp [AllL, rdV] at hr
      simp [hr, e1, ← e2, f4, e5, e6, ← e7, e8, e9, e11]
      intros; first | exact KD.mk | exact KD.mkN
    · intro tm hr
      simp [AllL, rdV] at hr
      simp [hr, e1, ← e2, f4, e5, e6, ← e7, e8, e9, e11]
      intros; first | exact KD.mk | exact KD.mkN
    · intro tm hr
      simp [AllL, rdV] at hr
      simp [hr, e1, ← e2, f4, e5, e6, ← e7, e8, e9, e11]
      intros; first | exact KD.mk | exact KD.mkN
    · intro tm hr
      simp [AllL, rdV] at hr
      simp [hr, e1, ← e2, f4, e5, e6, ← e7, e8, e9, e11]
      intros; first | exact KD.mk | exact KD.mkN
    · intro tm hr
      simp [AllL, rdV] at hr
      simp [hr, e1, ← e2, f4, e5, e6, ← e7, e8, e9, e11]
      intros; first | exact KD.mk | exact KD.mkN
    · intro tm hr
      simp [AllL, rdV] at hr
      simp [hr, e1, ← e2, f4, e5, e6, ← e7, e8, e9, e11]
      intros; first | exact KD.mk | exact KD.mkN
    · intro tm hr
      simp [AllL, rdV] at hr
      simp [hr, e1, ← e2, f4, e5, e6, ← e7, e8, e9, e11]
      intros; first | exact KD.mk | exact KD.mkN
    · intro tm hr
      simp [AllL, rdV] at hr
      simp [hr, e1, ← e2, f4, e5, e6, ← e7, e8, e9, e11]
      intros; first | exact KD.mk | exact KD.mkN
    · intro tm hr
      simp [AllL, rdV] at hr
      simp [hr, e1, ← e2, f4, e5, e6, ← e7, e8, e9, e11]
      intros; first | exact KD.mk | exact KD.mkN
    · intro tm hr
      simp [AllL, rdV] at hr
      simp [hr, e1, ← e2, f4, e5, e6, ← e7, e8, e9, e11]
      intros; first | exact KD.mk | exact KD.mkN
    · intro tm hr
      simp [AllL, rdV] at hr
      simp [hr, e1, ← e2, f4, e5, e6, ← e7, e8, e9, e11]
      intros; first | exact KD.mk | exact KD.mkN
    · intro tm hr
      simp [AllL, rdV] at hr
      simp [hr, e1, ← e2, f4, e5, e6, ← e7, e8, e9, e11]
      intros
      refine xcall_plain en_r1_Digits (s_r1_Digits e10) rfl ⟨.same rfl, trivial⟩ ?_
      try simp [e1, ← e2, f4, e5, e6, ← e7, e8, e9, e11]
      intros; first | exact KD.mk | exact KD.mkN
    · intro tm hr
      simp [AllL, rdV] at hr
      simp [hr, e1, ← e2, f4, e5, e6, ← e7, e8, e9, e11]
      intros
      refine xcall_plain en_r1_Digits (s_r1_Digits e10) rfl ⟨.same rfl, trivial⟩ ?_
      try simp [e1, ← e2, f4, e5, e6, ← e7, e8, e9, e11]
      intros; first | exact KD.mk | exact KD.mkN
  · rfl
  · simp [tmD, putD, e1, ← e2, f4, e5, e6, ← e7, e8, e9, e11]; rfl
  · simp [e1, ← e2, f4, e5, e6, ← e7, e8, e9, e11]
    intros; rfl
  obtain rfl := Option.some.inj h
  refine AW.ret ?_
  refine Left.plain hnb (by simp [Try.f53, resV, resC, comp]; rfl) rfl rfl ?_
  simp
theorem en_l11_Key : Enters Try.prog 53 := enters Try.func53 (by kernel_rfl) rfl
def r5_HSet_sh (n : Nat) (a0 : List Field) (a1 : ByteArray) (a2 : ByteArray) : Option (List Field) :=
bn (iter n (fun (y1 : Bool × Int × List Field) =>
lt (lenI a0) fun v4 =>
lt (ltI y1.2.1 v4) fun v5 =>
ite' v5 (bn (bn (bn (lt (notB y1.1) fun v9 =>
ite' v9 (bn (nth a0 y1.2.1) fun v10 =>
lt (geS v10.name a1) fun v11 =>
some (v11)) (some (false))) fun (y8 : Bool) =>
lt (y8) fun v12 =>
ite' v12 (chk (room (y1.2.2.length + 1) 32) <|
lt (y1.2.2 ++ [(⟨a1, a2⟩ : Field)]) fun v14 =>
some ((true, v14))) (some ((y1.1, y1.2.2)))) fun (y7 : Bool × List Field) =>
bn (nth a0 y1.2.1) fun v15 =>
lt (neS v15.name a1) fun v16 =>
ite' v16 (chk (room (y7.2.length + 1) 32) <|
lt (y7.2 ++ [v15]) fun v18 =>
some ((y7.1, v18))) (some ((y7.1, y7.2)))) fun (y6 : Bool × List Field) =>
lt (addI .i64 y1.2.1 1) fun v19 =>
some (.inl (y6.1, v19, y6.2))) (some (.inr (y1.1, y1.2.2)))) (false, 0, [])) fun (y2 : Bool × List Field) =>
bn (lt (notB y2.1) fun v21 =>
ite' v21 (chk (room (y2.2.length + 1) 32) <|
lt (y2.2 ++ [(⟨a1, a2⟩ : Field)]) fun v23 =>
some (v23)) (some (y2.2))) fun (y20 : List Field) =>
chk (room y20.length 1) <|
some y20
set_option maxRecDepth 8000 in
set_option maxHeartbeats 8000000 in
theorem s_r5_HSet {n : Nat} {a0 : List Field} {a1 : ByteArray} {a2 : ByteArray} {r : List Field} (h : r5_HSet_sh n a0 a1 a2 = some r) : Sound Try.prog 29 [.l (.d false 2 (encField a0)), .l (.s (.string a1)), .l (.s (.string a2))] [] (.l (.d false 2 (encField r))) [] := by
  unfold r5_HSet_sh at h
  refine Sound.of_aw (fn := Try.f29) (c := _) Try.func29 rfl (by simp [Try.f29]) fun cx hG hnb => ?_
  rw [show Try.f29.ntmps = 56 from rfl]
  have hn0 : cx.nb = 0 := hnb
  simp only [st0_mk, initTm, List.map_cons, List.map_nil]
  apply AW.step
  · simp
    intros; rfl
  apply AW.step
  · simp
    intros; rfl
  apply AW.step
  · simp
    intros; rfl
  refine AW.seq ?_
  apply AW.step
  · simp
    intros; rfl
  refine AW.block ?_
  replace h := bnE h; obtain ⟨y2, g2, h⟩ := h
  refine AW.iterP g2 (mk := fun gh ls q => (⟨[(0, .l (.d false 2 (encField a0))), (1, .l (.s (.string a1))), (2, .l (.s (.string a2))), (7, .l (.r 0 2 0 q.2.2.length)), (8, .l (.s (.bool q.1))), (9, .l (.s (.int .i64 q.2.1)))], [some ⟨105, 2, true, none, lvs (encField q.2.2)⟩], 56, gh, ls⟩ : St)) (N := fun gh ls => (xP 0 (cx := cx) (fun q => (⟨[(1, .l (.s (.string a1))), (2, .l (.s (.string a2))), (7, .l (.r 0 2 0 q.2.length)), (8, .l (.s (.bool q.1)))], [some ⟨105, 2, true, none, lvs (encField q.2)⟩], 56, gh, ls⟩ : St)))) ?_ noX ?_ ?_
  · refine W.nilRow 7 105 2 0 (by simp) rfl rfl ?_
    refine Weak.mixN [some 0] hn0 (by decide) ?_ ?_ rfl
    all_goals first | (simp [inv_cons, inv_nil, pickOb]; done) | rfl
  · clear h; intro y1 y3 h
    refine AW.seq ?_
    replace h := ltE h; obtain ⟨v4, e4, h⟩ := h
    replace h := ltE h; obtain ⟨v5, e5, h⟩ := h
    apply AW.step
    · simp [lenI_cast e4, ← e5]
      intros; rfl
    cases v5 with
    | true =>
      replace h := iteT rfl h
      refine AW.cond_true (by simp) ?_
      refine AW.skip ?_
      try simp only [sp_l, sp_r, Post.seq, Post.block, Nat.reduceEqDiff, reduceIte, Nat.zero_ne_one, Nat.one_ne_zero]
      try simp only [sp_l, sp_r, Post.seq, Post.block, Nat.reduceEqDiff, reduceIte, Nat.zero_ne_one, Nat.one_ne_zero]
      replace h := bnE h; obtain ⟨y6, g6, h⟩ := h
      refine AW.flow (p := fun gh ls => (nP (cx := cx) (fun q => (⟨[(0, .l (.d false 2 (encField a0))), (1, .l (.s (.string a1))), (2, .l (.s (.string a2))), (7, .l (.r 0 2 0 q.2.length)), (8, .l (.s (.bool q.1))), (9, .l (.s (.int .i64 y1.2.1)))], [some ⟨105, 2, true, none, lvs (encField q.2)⟩], 56, gh, ls⟩ : St))) y6) ?_ ?_
      · replace h := g6; clear g6
        refine AW.block ?_
        replace h := bnE h; obtain ⟨y7, g7, h⟩ := h
        refine AW.flow (p := fun gh ls => (nP (cx := cx) (fun q => (⟨[(0, .l (.d false 2 (encField a0))), (1, .l (.s (.string a1))), (2, .l (.s (.string a2))), (7, .l (.r 0 2 0 q.2.length)), (8, .l (.s (.bool q.1))), (9, .l (.s (.int .i64 y1.2.1)))], [some ⟨105, 2, true, none, lvs (encField q.2)⟩], 56, gh, ls⟩ : St))) y7) ?_ ?_
        · replace h := g7; clear g7
          replace h := bnE h; obtain ⟨y8, g8, h⟩ := h
          refine AW.flow (p := fun gh ls => (nP (cx := cx) (fun q => (⟨[(0, .l (.d false 2 (encField a0))), (1, .l (.s (.string a1))), (2, .l (.s (.string a2))), (7, .l (.r 0 2 0 y1.2.2.length)), (8, .l (.s (.bool y1.1))), (9, .l (.s (.int .i64 y1.2.1))), (26, .l (.s (.bool q)))], [some ⟨105, 2, true, none, lvs (encField y1.2.2)⟩], 56, gh, ls⟩ : St))) y8) ?_ ?_
          · replace h := g8; clear g8
            replace h := ltE h; obtain ⟨v9, e9, h⟩ := h
            cases v9 with
            | true =>
              replace h := iteT rfl h
              replace h := bnE h; obtain ⟨v10, e10, h⟩ := h
              replace h := ltE h; obtain ⟨v11, e11, h⟩ := h
              apply AW.last
              · simp [← e9, nth_d e10, ← e11]
                intros; rfl
              obtain rfl := Option.some.inj h
              refine nP_i ?_
              refine Weak.mixN [some 0] hn0 (by decide) ?_ ?_ rfl
              all_goals first | (simp [inv_cons, inv_nil, pickOb]; done) | rfl
            | false =>
              replace h := iteF rfl h
              apply AW.last
              · simp [← e9]
                intros; rfl
              obtain rfl := Option.some.inj h
              refine nP_i ?_
              refine Weak.mixN [some 0] hn0 (by decide) ?_ ?_ rfl
              all_goals first | (simp [inv_cons, inv_nil, pickOb]; done) | rfl
          · rintro e s hp
            obtain ⟨rfl, hw⟩ := hp
            refine ⟨_, hw, ?_⟩
            try simp only [sp_l, sp_r, Post.seq, Post.block, Nat.reduceEqDiff, reduceIte, Nat.zero_ne_one, Nat.one_ne_zero]
            replace h := ltE h; obtain ⟨v12, e12, h⟩ := h
            rw [← e12]
            cases v12 with
            | true =>
              replace h := iteT rfl h
              refine AW.cond_true (by simp) ?_
              replace h := chkE h; obtain ⟨e13, h⟩ := h
              replace h := ltE h; obtain ⟨v14, e14, h⟩ := h
              apply AW.step
              · simp [← encField_append, ← e14, app_len1 e14]
                intros
                refine xrow_own ?_
                try simp [← encField_append, ← e14, app_len1 e14]
                intros
                refine xapp_pushN (acc := encField y1.2.2) (ys := encField [(⟨a1, a2⟩ : Field)]) (cap := none) (k := 1) tb_el31 tb_ti105 (by simp) (by simp [encField, lvs]) (encField_sz _) (by simp) (by simp) (by simpa using (room_d e13).1) ?_
                try simp [← encField_append, ← e14, app_len1 e14]
                intros; rfl
              apply AW.last
              · simp
                intros; rfl
              obtain rfl := Option.some.inj h
              refine nP_i ?_
              refine Weak.mixN [some 2] hn0 (by decide) ?_ ?_ rfl
              all_goals first | (simp [inv_cons, inv_nil, pickOb, lvs_encField1]; done) | rfl
            | false =>
              replace h := iteF rfl h
              refine AW.cond_false (by simp) ?_
              refine AW.skip ?_
              try simp only [sp_l, sp_r, Post.seq, Post.block, Nat.reduceEqDiff, reduceIte, Nat.zero_ne_one, Nat.one_ne_zero]
              obtain rfl := Option.some.inj h
              refine nP_i ?_
              refine Weak.mixN [some 0] hn0 (by decide) ?_ ?_ rfl
              all_goals first | (simp [inv_cons, inv_nil, pickOb]; done) | rfl
        · rintro e s hp
          obtain ⟨rfl, hw⟩ := hp
          refine ⟨_, hw, ?_⟩
          try simp only [sp_l, sp_r, Post.seq, Post.block, Nat.reduceEqDiff, reduceIte, Nat.zero_ne_one, Nat.one_ne_zero]
          replace h := bnE h; obtain ⟨v15, e15, h⟩ := h
          replace h := ltE h; obtain ⟨v16, e16, h⟩ := h
          apply AW.step
          · simp [nth_d e15, ← e16]
            intros; rfl
          cases v16 with
          | true =>
            replace h := iteT rfl h
            refine AW.cond_true (by simp) ?_
            replace h := chkE h; obtain ⟨e17, h⟩ := h
            replace h := ltE h; obtain ⟨v18, e18, h⟩ := h
            apply AW.last
            · simp [nth_d e15, ← encField_append, ← e18, app_len1 e18]
              intros
              refine xrow_own ?_
              try simp [nth_d e15, ← encField_append, ← e18, app_len1 e18]
              intros
              refine xapp_pushN (acc := encField y7.2) (ys := encField [v15]) (cap := none) (k := 1) tb_el31 tb_ti105 (by simp) (by simp [encField, lvs]) (encField_sz _) (by simp) (by simp) (by simpa using (room_d e17).1) ?_
              try simp [nth_d e15, ← encField_append, ← e18, app_len1 e18]
              intros; rfl
            obtain rfl := Option.some.inj h
            refine nP_i ?_
            refine Weak.mixN [some 2] hn0 (by decide) ?_ ?_ rfl
            all_goals first | (simp [inv_cons, inv_nil, pickOb, lvs_encField1]; done) | rfl
          | false =>
            replace h := iteF rfl h
            refine AW.cond_false (by simp) ?_
            refine AW.skip ?_
            try simp only [sp_l, sp_r, Post.seq, Post.block, Nat.reduceEqDiff, reduceIte, Nat.zero_ne_one, Nat.one_ne_zero]
            obtain rfl := Option.some.inj h
            refine nP_i ?_
            refine Weak.mixN [some 0] hn0 (by decide) ?_ ?_ rfl
            all_goals first | (simp [inv_cons, inv_nil, pickOb]; done) | rfl
      · rintro e s hp
        obtain ⟨rfl, hw⟩ := hp
        refine ⟨_, hw, ?_⟩
        try simp only [sp_l, sp_r, Post.seq, Post.block, Nat.reduceEqDiff, reduceIte, Nat.zero_ne_one, Nat.one_ne_zero]
        replace h := ltE h; obtain ⟨v19, e19, h⟩ := h
        apply AW.last
        · simp [← e19]
          intros; rfl
        obtain rfl := Option.some.inj h
        refine nP_i ?_
        refine Weak.mixN [some 0] hn0 (by decide) ?_ ?_ rfl
        all_goals first | (simp [inv_cons, inv_nil, pickOb]; done) | rfl
    | false =>
      replace h := iteF rfl h
      refine AW.cond_false (by simp) ?_
      refine AW.exit ?_
      try simp only [sp_l, sp_r, Post.seq, Post.block, Nat.reduceEqDiff, reduceIte, Nat.zero_ne_one, Nat.one_ne_zero]
      obtain rfl := Option.some.inj h
      refine xP_i ?_
      refine Weak.mixN [some 0] hn0 (by decide) ?_ ?_ rfl
      all_goals first | (simp [inv_cons, inv_nil, pickOb]; done) | rfl
  · rintro e s hp
    obtain ⟨rfl, hw⟩ := hp
    refine ⟨_, hw, ?_⟩
    try simp only [sp_l, sp_r, Post.seq, Post.block, Nat.reduceEqDiff, reduceIte, Nat.zero_ne_one, Nat.one_ne_zero]
    replace h := bnE h; obtain ⟨y20, g20, h⟩ := h
    refine AW.flow (p := fun gh ls => (nP (cx := cx) (fun q => (⟨[(7, .l (.r 0 2 0 q.length))], [some ⟨105, 2, true, none, lvs (encField q)⟩], 56, gh, ls⟩ : St))) y20) ?_ ?_
    · replace h := g20; clear g20
      replace h := ltE h; obtain ⟨v21, e21, h⟩ := h
      apply AW.step
      · simp [← e21]
        intros; rfl
      cases v21 with
      | true =>
        replace h := iteT rfl h
        refine AW.cond_true (by simp) ?_
        replace h := chkE h; obtain ⟨e22, h⟩ := h
        replace h := ltE h; obtain ⟨v23, e23, h⟩ := h
        apply AW.last
        · simp [← encField_append, ← e23, app_len1 e23]
          intros
          refine xrow_own ?_
          try simp [← encField_append, ← e23, app_len1 e23]
          intros
          refine xapp_pushN (acc := encField y2.2) (ys := encField [(⟨a1, a2⟩ : Field)]) (cap := none) (k := 1) tb_el31 tb_ti105 (by simp) (by simp [encField, lvs]) (encField_sz _) (by simp) (by simp) (by simpa using (room_d e22).1) ?_
          try simp [← encField_append, ← e23, app_len1 e23]
          intros; rfl
        obtain rfl := Option.some.inj h
        refine nP_i ?_
        refine Weak.mixN [some 2] hn0 (by decide) ?_ ?_ rfl
        all_goals first | (simp [inv_cons, inv_nil, pickOb, lvs_encField1]; done) | rfl
      | false =>
        replace h := iteF rfl h
        refine AW.cond_false (by simp) ?_
        refine AW.skip ?_
        try simp only [sp_l, sp_r, Post.seq, Post.block, Nat.reduceEqDiff, reduceIte, Nat.zero_ne_one, Nat.one_ne_zero]
        obtain rfl := Option.some.inj h
        refine nP_i ?_
        refine Weak.mixN [some 0] hn0 (by decide) ?_ ?_ rfl
        all_goals first | (simp [inv_cons, inv_nil, pickOb]; done) | rfl
    · rintro e s hp
      obtain ⟨rfl, hw⟩ := hp
      refine ⟨_, hw, ?_⟩
      try simp only [sp_l, sp_r, Post.seq, Post.block, Nat.reduceEqDiff, reduceIte, Nat.zero_ne_one, Nat.one_ne_zero]
      apply AW.step
      · simp
        intros; rfl
      replace h := chkE h; obtain ⟨e24, h⟩ := h
      refine AW.frzRow 0 (ty := 105) (cap := none) (sz := 2) (es := encField y20) (by simp) (by omega) (encField_sz _) (by first | exact (room_d e24).2 | simpa using (room_d e24).2 | simp) (by simp [Tm.frz, AV.frz, LV.frz]; rfl) (by simp [Ob.frz, LV.frz]; rfl) rfl ?_
      obtain rfl := Option.some.inj h
      refine AW.ret ?_
      refine Left.plain hnb (by simp [Try.f29, resV, resC, comp]; rfl) rfl rfl ?_
      simp
theorem en_r5_HSet : Enters Try.prog 29 := enters Try.func29 (by kernel_rfl) rfl
def r5_SHas_sh (n : Nat) (a0 : List ByteArray) (a1 : ByteArray) : Option Bool :=
bn (iter n (fun (y1 : Int) =>
lt (lenI a0) fun v4 =>
lt (ltI y1 v4) fun v5 =>
ite' v5 (bn (nth a0 y1) fun v6 =>
lt (eqS v6 a1) fun v7 =>
ite' v7 (some (.inr (.inr true))) (lt (addI .i64 y1 1) fun v8 =>
some (.inl v8))) (some (.inr (.inl ())))) 0) fun (y2 : Unit ⊕ Bool) =>
sm y2 (fun y9 => some false) (fun y10 => some y10)
set_option maxRecDepth 8000 in
set_option maxHeartbeats 8000000 in
theorem s_r5_SHas {n : Nat} {a0 : List ByteArray} {a1 : ByteArray} {r : Bool} (h : r5_SHas_sh n a0 a1 = some r) : Sound Try.prog 59 [.l (.d false 1 (encS a0)), .l (.s (.string a1))] [] (.l (.s (.bool r))) [] := by
  unfold r5_SHas_sh at h
  refine Sound.of_aw (fn := Try.f59) (c := _) Try.func59 rfl (by simp [Try.f59]) fun cx hG hnb => ?_
  rw [show Try.f59.ntmps = 18 from rfl]
  have hn0 : cx.nb = 0 := hnb
  simp only [st0_mk, initTm, List.map_cons, List.map_nil]
  apply AW.step
  · simp
    intros; rfl
  refine AW.seq ?_
  apply AW.step
  · simp
    intros; rfl
  refine AW.block ?_
  replace h := bnE h; obtain ⟨y2, g2, h⟩ := h
  refine AW.iterP g2 (mk := fun gh ls q => (⟨[(0, .l (.d false 1 (encS a0))), (1, .l (.s (.string a1))), (5, .l (.s (.int .i64 q)))], [], 18, gh, ls⟩ : St)) (N := fun gh ls => (sp (xP 0 (cx := cx) (fun _ => (⟨[], [], 18, gh, ls⟩ : St))) (rP (cx := cx) (P := Try.prog) Try.f59 (fun q => .l (.s (.bool q))) (fun q => [])))) ?_ (noS noX noR) ?_ ?_
  · refine Weak.mixN [] hn0 (by decide) ?_ ?_ rfl
    all_goals first | (simp [inv_cons, inv_nil, pickOb]; done) | rfl
  · clear h; intro y1 y3 h
    refine AW.seq ?_
    replace h := ltE h; obtain ⟨v4, e4, h⟩ := h
    replace h := ltE h; obtain ⟨v5, e5, h⟩ := h
    apply AW.step
    · simp [lenI_cast e4, ← e5]
      intros; rfl
    cases v5 with
    | true =>
      replace h := iteT rfl h
      refine AW.cond_true (by simp) ?_
      refine AW.skip ?_
      try simp only [sp_l, sp_r, Post.seq, Post.block, Nat.reduceEqDiff, reduceIte, Nat.zero_ne_one, Nat.one_ne_zero]
      try simp only [sp_l, sp_r, Post.seq, Post.block, Nat.reduceEqDiff, reduceIte, Nat.zero_ne_one, Nat.one_ne_zero]
      refine AW.seq ?_
      refine AW.block ?_
      replace h := bnE h; obtain ⟨v6, e6, h⟩ := h
      replace h := ltE h; obtain ⟨v7, e7, h⟩ := h
      apply AW.step
      · simp [nth_d e6, ← e7]
        intros; rfl
      cases v7 with
      | true =>
        replace h := iteT rfl h
        refine AW.cond_true (by simp) ?_
        apply AW.step
        · simp
          intros; rfl
        obtain rfl := Option.some.inj h
        refine AW.ret ?_
        try simp only [sp_l, sp_r, Post.seq, Post.block, Nat.reduceEqDiff, reduceIte, Nat.zero_ne_one, Nat.one_ne_zero]
        refine rP_i ?_
        refine Left.plain hnb (by simp [Try.f59, resV, resC, comp]; rfl) rfl rfl ?_
        simp
      | false =>
        replace h := iteF rfl h
        refine AW.cond_false (by simp) ?_
        refine AW.skip ?_
        try simp only [sp_l, sp_r, Post.seq, Post.block, Nat.reduceEqDiff, reduceIte, Nat.zero_ne_one, Nat.one_ne_zero]
        try simp only [sp_l, sp_r, Post.seq, Post.block, Nat.reduceEqDiff, reduceIte, Nat.zero_ne_one, Nat.one_ne_zero]
        replace h := ltE h; obtain ⟨v8, e8, h⟩ := h
        apply AW.last
        · simp [← e8]
          intros; rfl
        obtain rfl := Option.some.inj h
        refine nP_i ?_
        refine Weak.mixN [] hn0 (by decide) ?_ ?_ rfl
        all_goals first | (simp [inv_cons, inv_nil, pickOb]; done) | rfl
    | false =>
      replace h := iteF rfl h
      refine AW.cond_false (by simp) ?_
      refine AW.exit ?_
      try simp only [sp_l, sp_r, Post.seq, Post.block, Nat.reduceEqDiff, reduceIte, Nat.zero_ne_one, Nat.one_ne_zero]
      obtain rfl := Option.some.inj h
      try simp only [sp_l, sp_r]
      refine xP_i ?_
      refine Weak.mixN [] hn0 (by decide) ?_ ?_ rfl
      all_goals first | (simp [inv_cons, inv_nil, pickOb]; done) | rfl
  · rintro e s hp
    rcases y2 with y9 | y10
    · replace h := smL h
      obtain ⟨rfl, hw⟩ := hp
      refine ⟨_, hw, ?_⟩
      try simp only [sp_l, sp_r, Post.seq, Post.block, Nat.reduceEqDiff, reduceIte, Nat.zero_ne_one, Nat.one_ne_zero]
      apply AW.step
      · simp
        intros; rfl
      obtain rfl := Option.some.inj h
      refine AW.ret ?_
      refine Left.plain hnb (by simp [Try.f59, resV, resC, comp]; rfl) rfl rfl ?_
      simp
    · replace h := smR h
      obtain ⟨rfl, hl⟩ := hp
      refine ⟨_, Weak.refl _, ?_⟩
      obtain rfl := Option.some.inj h
      exact hl
theorem en_r5_SHas : Enters Try.prog 59 := enters Try.func59 (by kernel_rfl) rfl
def r5_SHas_tf_sh (n : Nat) (a0 : List ByteArray) (a1 : ByteArray) : Option Bool :=
bn (iter n (fun (y1 : Int) =>
lt (lenI a0) fun v4 =>
lt (ltI y1 v4) fun v5 =>
ite' v5 (bn (nth a0 y1) fun v6 =>
lt (eqS v6 a1) fun v7 =>
ite' v7 (some (.inr (.inr true))) (lt (addI .i64 y1 1) fun v8 =>
some (.inl v8))) (some (.inr (.inl ())))) 0) fun (y2 : Unit ⊕ Bool) =>
sm y2 (fun y9 => some false) (fun y10 => some y10)
set_option maxRecDepth 8000 in
set_option maxHeartbeats 8000000 in
theorem s_r5_SHas_tf {n : Nat} {a0 : List ByteArray} {a1 : ByteArray} {r : Bool} (h : r5_SHas_tf_sh n a0 a1 = some r) : Sound Try.prog 59 [.l (.d true 1 (encS a0)), .l (.s (.string a1))] [] (.l (.s (.bool r))) [] := by
  unfold r5_SHas_tf_sh at h
  refine Sound.of_aw (fn := Try.f59) (c := _) Try.func59 rfl (by simp [Try.f59]) fun cx hG hnb => ?_
  rw [show Try.f59.ntmps = 18 from rfl]
  have hn0 : cx.nb = 0 := hnb
  simp only [st0_mk, initTm, List.map_cons, List.map_nil]
  apply AW.step
  · simp
    intros; rfl
  refine AW.seq ?_
  apply AW.step
  · simp
    intros; rfl
  refine AW.block ?_
  replace h := bnE h; obtain ⟨y2, g2, h⟩ := h
  refine AW.iterP g2 (mk := fun gh ls q => (⟨[(0, .l (.d true 1 (encS a0))), (1, .l (.s (.string a1))), (5, .l (.s (.int .i64 q)))], [], 18, gh, ls⟩ : St)) (N := fun gh ls => (sp (xP 0 (cx := cx) (fun _ => (⟨[], [], 18, gh, ls⟩ : St))) (rP (cx := cx) (P := Try.prog) Try.f59 (fun q => .l (.s (.bool q))) (fun q => [])))) ?_ (noS noX noR) ?_ ?_
  · refine Weak.mixN [] hn0 (by decide) ?_ ?_ rfl
    all_goals first | (simp [inv_cons, inv_nil, pickOb]; done) | rfl
  · clear h; intro y1 y3 h
    refine AW.seq ?_
    replace h := ltE h; obtain ⟨v4, e4, h⟩ := h
    replace h := ltE h; obtain ⟨v5, e5, h⟩ := h
    apply AW.step
    · simp [lenI_cast e4, ← e5]
      intros; rfl
    cases v5 with
    | true =>
      replace h := iteT rfl h
      refine AW.cond_true (by simp) ?_
      refine AW.skip ?_
      try simp only [sp_l, sp_r, Post.seq, Post.block, Nat.reduceEqDiff, reduceIte, Nat.zero_ne_one, Nat.one_ne_zero]
      try simp only [sp_l, sp_r, Post.seq, Post.block, Nat.reduceEqDiff, reduceIte, Nat.zero_ne_one, Nat.one_ne_zero]
      refine AW.seq ?_
      refine AW.block ?_
      replace h := bnE h; obtain ⟨v6, e6, h⟩ := h
      replace h := ltE h; obtain ⟨v7, e7, h⟩ := h
      apply AW.step
      · simp [nth_d e6, ← e7]
        intros; rfl
      cases v7 with
      | true =>
        replace h := iteT rfl h
        refine AW.cond_true (by simp) ?_
        apply AW.step
        · simp
          intros; rfl
        obtain rfl := Option.some.inj h
        refine AW.ret ?_
        try simp only [sp_l, sp_r, Post.seq, Post.block, Nat.reduceEqDiff, reduceIte, Nat.zero_ne_one, Nat.one_ne_zero]
        refine rP_i ?_
        refine Left.plain hnb (by simp [Try.f59, resV, resC, comp]; rfl) rfl rfl ?_
        simp
      | false =>
        replace h := iteF rfl h
        refine AW.cond_false (by simp) ?_
        refine AW.skip ?_
        try simp only [sp_l, sp_r, Post.seq, Post.block, Nat.reduceEqDiff, reduceIte, Nat.zero_ne_one, Nat.one_ne_zero]
        try simp only [sp_l, sp_r, Post.seq, Post.block, Nat.reduceEqDiff, reduceIte, Nat.zero_ne_one, Nat.one_ne_zero]
        replace h := ltE h; obtain ⟨v8, e8, h⟩ := h
        apply AW.last
        · simp [← e8]
          intros; rfl
        obtain rfl := Option.some.inj h
        refine nP_i ?_
        refine Weak.mixN [] hn0 (by decide) ?_ ?_ rfl
        all_goals first | (simp [inv_cons, inv_nil, pickOb]; done) | rfl
    | false =>
      replace h := iteF rfl h
      refine AW.cond_false (by simp) ?_
      refine AW.exit ?_
      try simp only [sp_l, sp_r, Post.seq, Post.block, Nat.reduceEqDiff, reduceIte, Nat.zero_ne_one, Nat.one_ne_zero]
      obtain rfl := Option.some.inj h
      try simp only [sp_l, sp_r]
      refine xP_i ?_
      refine Weak.mixN [] hn0 (by decide) ?_ ?_ rfl
      all_goals first | (simp [inv_cons, inv_nil, pickOb]; done) | rfl
  · rintro e s hp
    rcases y2 with y9 | y10
    · replace h := smL h
      obtain ⟨rfl, hw⟩ := hp
      refine ⟨_, hw, ?_⟩
      try simp only [sp_l, sp_r, Post.seq, Post.block, Nat.reduceEqDiff, reduceIte, Nat.zero_ne_one, Nat.one_ne_zero]
      apply AW.step
      · simp
        intros; rfl
      obtain rfl := Option.some.inj h
      refine AW.ret ?_
      refine Left.plain hnb (by simp [Try.f59, resV, resC, comp]; rfl) rfl rfl ?_
      simp
    · replace h := smR h
      obtain ⟨rfl, hl⟩ := hp
      refine ⟨_, Weak.refl _, ?_⟩
      obtain rfl := Option.some.inj h
      exact hl
theorem en_r5_SHas_tf : Enters Try.prog 59 := enters Try.func59 (by kernel_rfl) rfl
def r5_SAdd_tf_sh (n : Nat) (a0 : List ByteArray) (a1 : ByteArray) : Option (List ByteArray) :=
bn (r5_SHas_tf_sh n a0 a1) fun v1 =>
ite' v1 (chk (room a0.length 16) <|
some a0) (bn (iter n (fun (y3 : Int) =>
bn (lt (lenI a0) fun v7 =>
lt (ltI y3 v7) fun v8 =>
ite' v8 (bn (nth a0 y3) fun v9 =>
lt (ltS v9 a1) fun v10 =>
some (v10)) (some (false))) fun (y6 : Bool) =>
lt (y6) fun v11 =>
ite' v11 (lt (addI .i64 y3 1) fun v12 =>
some (.inl v12)) (some (.inr y3))) 0) fun (y4 : Int) =>
bn (segh a0 y4) fun v13 =>
chk (room v13.length 16) <|
chk (room (v13.length + 1) 16) <|
lt (v13 ++ [a1]) fun v17 =>
bn (segl a0 y4) fun v18 =>
chk (room (v17.length + v18.length) 16) <|
lt (v17 ++ v18) fun v21 =>
some v21)
set_option maxRecDepth 8000 in
set_option maxHeartbeats 8000000 in
theorem s_r5_SAdd_tf {n : Nat} {a0 : List ByteArray} {a1 : ByteArray} {r : List ByteArray} (h : r5_SAdd_tf_sh n a0 a1 = some r) : Sound Try.prog 104 [.l (.d true 1 (encS a0)), .l (.s (.string a1))] [] (.l (.r 0 1 0 r.length)) [some ⟨9, 1, true, none, lvs (encS r)⟩] := by
  unfold r5_SAdd_tf_sh at h
  refine Sound.of_aw (fn := Try.f104) (c := _) Try.func104 rfl (by simp [Try.f104]) fun cx hG hnb => ?_
  rw [show Try.f104.ntmps = 41 from rfl]
  have hn0 : cx.nb = 0 := hnb
  simp only [st0_mk, initTm, List.map_cons, List.map_nil]
  apply AW.step
  · simp
    intros; rfl
  refine AW.seq ?_
  replace h := bnE h; obtain ⟨v1, e1, h⟩ := h
  apply AW.step
  · simp
    intros
    refine xcall_plain en_r5_SHas_tf (s_r5_SHas_tf e1) rfl ⟨.d _ _ _, .same rfl, trivial⟩ ?_
    try simp
    intros; rfl
  cases v1 with
  | true =>
    replace h := iteT rfl h
    refine AW.cond_true (by simp) ?_
    replace h := chkE h; obtain ⟨e2, h⟩ := h
    apply AW.step
    · simp
      intros
      refine xrow_own ?_
      try simp
      intros
      refine xapp_pushN (acc := []) (ys := encS a0) (cap := none) (k := a0.length) tb_el32 tb_ti9 (by simp) (by rw [src_dA, encS_lvsA]; simp) (by simp) (by simp) (by simp) (by simpa using (room_d e2).1) ?_
      try simp
      intros; rfl
    obtain rfl := Option.some.inj h
    refine AW.ret ?_
    refine Left.of (av := _) (by simp [Try.f104, resV, resC, comp]; rfl) ?_
    exact LeftV.mix 0 [some 1] hn0 rfl (by decide) rfl (by simp [pickOb, inv_cons, inv_nil]) (by simp [inv_cons, inv_nil])
  | false =>
    replace h := iteF rfl h
    refine AW.cond_false (by simp) ?_
    refine AW.skip ?_
    try simp only [sp_l, sp_r, Post.seq, Post.block, Nat.reduceEqDiff, reduceIte, Nat.zero_ne_one, Nat.one_ne_zero]
    try simp only [sp_l, sp_r, Post.seq, Post.block, Nat.reduceEqDiff, reduceIte, Nat.zero_ne_one, Nat.one_ne_zero]
    apply AW.step
    · simp
      intros; rfl
    refine AW.seq ?_
    refine AW.block ?_
    replace h := bnE h; obtain ⟨y4, g4, h⟩ := h
    refine AW.iterP g4 (mk := fun gh ls q => (⟨[(0, .l (.d true 1 (encS a0))), (1, .l (.s (.string a1))), (5, .l (.s (.int .i64 q)))], [], 41, gh, ls⟩ : St)) (N := fun gh ls => (xP 0 (cx := cx) (fun q => (⟨[(0, .l (.d true 1 (encS a0))), (1, .l (.s (.string a1))), (5, .l (.s (.int .i64 q)))], [], 41, gh, ls⟩ : St)))) ?_ noX ?_ ?_
    · refine Weak.mixN [] hn0 (by decide) ?_ ?_ rfl
      all_goals first | (simp [inv_cons, inv_nil, pickOb]; done) | rfl
    · clear h; intro y3 y5 h
      refine AW.seq ?_
      replace h := bnE h; obtain ⟨y6, g6, h⟩ := h
      refine AW.flow (p := fun gh ls => (nP (cx := cx) (fun q => (⟨[(0, .l (.d true 1 (encS a0))), (1, .l (.s (.string a1))), (5, .l (.s (.int .i64 y3))), (24, .l (.s (.bool q)))], [], 41, gh, ls⟩ : St))) y6) ?_ ?_
      · replace h := g6; clear g6
        replace h := ltE h; obtain ⟨v7, e7, h⟩ := h
        replace h := ltE h; obtain ⟨v8, e8, h⟩ := h
        cases v8 with
        | true =>
          replace h := iteT rfl h
          replace h := bnE h; obtain ⟨v9, e9, h⟩ := h
          replace h := ltE h; obtain ⟨v10, e10, h⟩ := h
          apply AW.last
          · simp [lenI_cast e7, ← e8, nth_d e9, ← e10]
            intros; rfl
          obtain rfl := Option.some.inj h
          refine nP_i ?_
          refine Weak.mixN [] hn0 (by decide) ?_ ?_ rfl
          all_goals first | (simp [inv_cons, inv_nil, pickOb]; done) | rfl
        | false =>
          replace h := iteF rfl h
          apply AW.last
          · simp [lenI_cast e7, ← e8]
            intros; rfl
          obtain rfl := Option.some.inj h
          refine nP_i ?_
          refine Weak.mixN [] hn0 (by decide) ?_ ?_ rfl
          all_goals first | (simp [inv_cons, inv_nil, pickOb]; done) | rfl
      · rintro e s hp
        obtain ⟨rfl, hw⟩ := hp
        refine ⟨_, hw, ?_⟩
        try simp only [sp_l, sp_r, Post.seq, Post.block, Nat.reduceEqDiff, reduceIte, Nat.zero_ne_one, Nat.one_ne_zero]
        replace h := ltE h; obtain ⟨v11, e11, h⟩ := h
        rw [← e11]
        cases v11 with
        | true =>
          replace h := iteT rfl h
          refine AW.cond_true (by simp) ?_
          refine AW.skip ?_
          try simp only [sp_l, sp_r, Post.seq, Post.block, Nat.reduceEqDiff, reduceIte, Nat.zero_ne_one, Nat.one_ne_zero]
          try simp only [sp_l, sp_r, Post.seq, Post.block, Nat.reduceEqDiff, reduceIte, Nat.zero_ne_one, Nat.one_ne_zero]
          refine AW.block ?_
          replace h := ltE h; obtain ⟨v12, e12, h⟩ := h
          apply AW.last
          · simp [← e12]
            intros; rfl
          obtain rfl := Option.some.inj h
          refine nP_i ?_
          refine Weak.mixN [] hn0 (by decide) ?_ ?_ rfl
          all_goals first | (simp [inv_cons, inv_nil, pickOb]; done) | rfl
        | false =>
          replace h := iteF rfl h
          refine AW.cond_false (by simp) ?_
          refine AW.exit ?_
          try simp only [sp_l, sp_r, Post.seq, Post.block, Nat.reduceEqDiff, reduceIte, Nat.zero_ne_one, Nat.one_ne_zero]
          obtain rfl := Option.some.inj h
          refine xP_i ?_
          refine Weak.mixN [] hn0 (by decide) ?_ ?_ rfl
          all_goals first | (simp [inv_cons, inv_nil, pickOb]; done) | rfl
    · rintro e s hp
      obtain ⟨rfl, hw⟩ := hp
      refine ⟨_, hw, ?_⟩
      try simp only [sp_l, sp_r, Post.seq, Post.block, Nat.reduceEqDiff, reduceIte, Nat.zero_ne_one, Nat.one_ne_zero]
      replace h := bnE h; obtain ⟨v13, e13, h⟩ := h
      have f14 := encS_segh e13
      try simp at f14
      replace h := chkE h; obtain ⟨e15, h⟩ := h
      apply AW.step
      · simp [f14]
        intros
        refine xrow_own ?_
        try simp [f14]
        intros
        refine xapp_pushN (acc := []) (ys := encS v13) (cap := none) (k := v13.length) tb_el32 tb_ti9 (by simp) (by rw [src_dA, encS_lvsA]; simp) (by simp) (by simp) (by simp) (by simpa using (room_d e15).1) ?_
        try simp [f14]
        intros; rfl
      replace h := chkE h; obtain ⟨e16, h⟩ := h
      replace h := ltE h; obtain ⟨v17, e17, h⟩ := h
      apply AW.step
      · simp [← encS_append, ← e17, app_len1 e17]
        intros
        refine xrow_own ?_
        try simp [← encS_append, ← e17, app_len1 e17]
        intros
        refine xapp_pushN (acc := encS v13) (ys := encS [a1]) (cap := none) (k := 1) tb_el32 tb_ti9 (by simp) (by simp [encS, lvs]) (encS_sz _) (by simp) (by simp) (by simpa using (room_d e16).1) ?_
        try simp [← encS_append, ← e17, app_len1 e17]
        intros; rfl
      replace h := bnE h; obtain ⟨v18, e18, h⟩ := h
      have f19 := encS_segl e18
      try simp at f19
      replace h := chkE h; obtain ⟨e20, h⟩ := h
      replace h := ltE h; obtain ⟨v21, e21, h⟩ := h
      apply AW.step
      · simp [f19, ← encS_append, ← e21, app_len e21]
        intros
        refine xapp_pushN (acc := encS v17) (ys := encS v18) (cap := none) (k := v18.length) tb_el32 tb_ti9 (by simp) (by rw [src_dA, encS_lvsA]; simp) (encS_sz _) (by simp) (by simp) (by simpa using (room_d e20).1) ?_
        try simp [f19, ← encS_append, ← e21, app_len e21]
        intros; rfl
      obtain rfl := Option.some.inj h
      refine AW.ret ?_
      refine Left.of (av := _) (by simp [Try.f104, resV, resC, comp]; rfl) ?_
      exact LeftV.mix 0 [some 4] hn0 rfl (by decide) rfl (by simp [pickOb, inv_cons, inv_nil, lvs_encS1]) (by simp [inv_cons, inv_nil, lvs_encS1])
theorem en_r5_SAdd_tf : Enters Try.prog 104 := enters Try.func104 (by kernel_rfl) rfl
def l5_Make_sh (n : Nat) (a0 : List Int) (a1 : Int) : Option Item :=
lt (lenI a0) fun v1 =>
lt (eqI v1 0) fun v2 =>
ite' v2 (some (⟨1, ⟨#[]⟩, [], [], 0⟩ : Item)) (bn (nth a0 0) fun v3 =>
lt (cvI .i64 v3) fun v4 =>
bn (remI .i64 v4 4) fun v5 =>
lt (addI .i64 1 v5) fun v6 =>
bn (bn (remI .u8 a1 3) fun v8 =>
lt (eqI v8 0) fun v9 =>
ite' v9 (lt (cvI .i64 a1) fun v10 =>
some (v10)) (some (0))) fun (y7 : Int) =>
bn (iter n (fun (y11 : Int × ByteArray × List Field × List ByteArray) =>
bn (lt (lenI a0) fun v15 =>
lt (ltI y11.1 v15) fun v16 =>
ite' v16 (lt (ltI y11.1 9) fun v17 =>
some (v17)) (some (false))) fun (y14 : Bool) =>
lt (y14) fun v18 =>
ite' v18 (bn (bn (nth a0 y11.1) fun v20 =>
bn (remI .u8 v20 5) fun v21 =>
lt (addI .u8 97 v21) fun v22 =>
lt (strL [v22]) fun v23 =>
lt (cvI .i64 v20) fun v25 =>
bn (remI .i64 v25 3) fun v26 =>
bn (r1_Digits_sh n v26) fun v27 =>
bn (catS v23 v27) fun v28 =>
lt (eqI v6 1) fun v29 =>
ite' v29 (bn (catS y11.2.1 v28) fun v30 =>
some ((v30, y11.2.2.1, y11.2.2.2))) (lt (eqI v6 2) fun v31 =>
ite' v31 (lt (subI .i64 v25 100) fun v32 =>
bn (r1_Digits_sh n v32) fun v33 =>
bn (r5_HSet_sh n y11.2.2.1 v28 v33) fun v34 =>
some ((y11.2.1, v34, y11.2.2.2))) (lt (eqI v6 3) fun v35 =>
ite' v35 (chk (room (y11.2.2.2.length + 1) 16) <|
lt (y11.2.2.2 ++ [v28]) fun v37 =>
some ((y11.2.1, y11.2.2.1, v37))) (chk (room y11.2.2.2.length 1) <|
bn (r5_SAdd_tf_sh n y11.2.2.2 v28) fun v39 =>
some ((y11.2.1, y11.2.2.1, v39)))))) fun (y19 : ByteArray × List Field × List ByteArray) =>
lt (addI .i64 y11.1 1) fun v40 =>
some (.inl (v40, y19.1, y19.2.1, y19.2.2))) (some (.inr (y11.2.1, y11.2.2.1, y11.2.2.2)))) (1, ⟨#[]⟩, [], [])) fun (y12 : ByteArray × List Field × List ByteArray) =>
bn (lt (lenI a0) fun v42 =>
lt (eqI v42 1) fun v43 =>
ite' v43 (lt (neI v6 1) fun v44 =>
some (v44)) (some (false))) fun (y41 : Bool) =>
lt (y41) fun v45 =>
ite' v45 (bn (nth a0 0) fun v46 =>
lt (cvI .i64 v46) fun v47 =>
bn (r1_Digits_sh n v47) fun v48 =>
some (⟨1, v48, [], [], y7⟩ : Item)) (chk (room y12.2.2.length 1) <|
some (⟨v6, y12.1, y12.2.1, y12.2.2, y7⟩ : Item)))
set_option maxRecDepth 8000 in
set_option maxHeartbeats 8000000 in
theorem s_l5_Make {n : Nat} {a0 : List Int} {a1 : Int} {r : Item} (h : l5_Make_sh n a0 a1 = some r) : Sound Try.prog 68 [.l (.d false 1 (encU a0)), .l (.s (.int .u8 a1))] [] (.g [.s (.int .i64 r.kind), .s (.string r.s), .d false 2 (encField r.f), .d false 1 (encS r.l), .s (.int .i64 r.exp)]) [] := by
  unfold l5_Make_sh at h
  refine Sound.of_aw (fn := Try.f68) (c := _) Try.func68 rfl (by simp [Try.f68]) fun cx hG hnb => ?_
  rw [show Try.f68.ntmps = 104 from rfl]
  have hn0 : cx.nb = 0 := hnb
  simp only [st0_mk, initTm, List.map_cons, List.map_nil]
  apply AW.step
  · simp
    intros; rfl
  refine AW.seq ?_
  replace h := ltE h; obtain ⟨v1, e1, h⟩ := h
  replace h := ltE h; obtain ⟨v2, e2, h⟩ := h
  apply AW.step
  · simp [lenI_cast e1, ← e2]
    intros; rfl
  cases v2 with
  | true =>
    replace h := iteT rfl h
    refine AW.cond_true (by simp) ?_
    apply AW.step
    · simp
      intros; rfl
    refine AW.nilCellD 0 2 2 rfl rfl rfl rfl ?_
    refine AW.nilCellD 0 3 1 rfl rfl rfl rfl ?_
    obtain rfl := Option.some.inj h
    refine AW.ret ?_
    refine Left.plain hnb (by simp [Try.f68, resV, resC, comp]; rfl) rfl rfl ?_
    simp
  | false =>
    replace h := iteF rfl h
    refine AW.cond_false (by simp) ?_
    refine AW.skip ?_
    try simp only [sp_l, sp_r, Post.seq, Post.block, Nat.reduceEqDiff, reduceIte, Nat.zero_ne_one, Nat.one_ne_zero]
    try simp only [sp_l, sp_r, Post.seq, Post.block, Nat.reduceEqDiff, reduceIte, Nat.zero_ne_one, Nat.one_ne_zero]
    replace h := bnE h; obtain ⟨v3, e3, h⟩ := h
    replace h := ltE h; obtain ⟨v4, e4, h⟩ := h
    replace h := bnE h; obtain ⟨v5, e5, h⟩ := h
    replace h := ltE h; obtain ⟨v6, e6, h⟩ := h
    apply AW.step
    · simp [(show a0[0]? = some v3 from (nth_d e3).2), ← e4, e5, ← e6]
      intros; rfl
    replace h := bnE h; obtain ⟨y7, g7, h⟩ := h
    refine AW.flow (p := fun gh ls => (nP (cx := cx) (fun q => (⟨[(0, .l (.d false 1 (encU a0))), (4, .l (.p 0 0)), (5, .l (.p 1 0))], [some ⟨34, 5, false, none, [.s (.int .i64 0), .s (.string ⟨#[]⟩), .s (.slice none 0 0), .s (.slice none 0 0), .s (.int .i64 0)]⟩, some ⟨34, 5, false, none, [.s (.int .i64 v6), .s (.string ⟨#[]⟩), .s (.slice none 0 0), .s (.slice none 0 0), .s (.int .i64 q)]⟩], 104, gh, ls⟩ : St))) y7) ?_ ?_
    · replace h := g7; clear g7
      replace h := bnE h; obtain ⟨v8, e8, h⟩ := h
      replace h := ltE h; obtain ⟨v9, e9, h⟩ := h
      apply AW.step
      · simp [e8, ← e9]
        intros; rfl
      cases v9 with
      | true =>
        replace h := iteT rfl h
        refine AW.cond_true (by simp) ?_
        replace h := ltE h; obtain ⟨v10, e10, h⟩ := h
        apply AW.last
        · simp [← e10]
          intros; rfl
        obtain rfl := Option.some.inj h
        refine nP_i ?_
        refine Weak.mixN [some 0, some 1] hn0 (by decide) ?_ ?_ rfl
        all_goals first | (simp [inv_cons, inv_nil, pickOb]; done) | rfl
      | false =>
        replace h := iteF rfl h
        refine AW.cond_false (by simp) ?_
        refine AW.skip ?_
        try simp only [sp_l, sp_r, Post.seq, Post.block, Nat.reduceEqDiff, reduceIte, Nat.zero_ne_one, Nat.one_ne_zero]
        obtain rfl := Option.some.inj h
        refine nP_i ?_
        refine Weak.mixN [some 0, some 1] hn0 (by decide) ?_ ?_ rfl
        all_goals first | (simp [inv_cons, inv_nil, pickOb]; done) | rfl
    · rintro e s hp
      obtain ⟨rfl, hw⟩ := hp
      refine ⟨_, hw, ?_⟩
      try simp only [sp_l, sp_r, Post.seq, Post.block, Nat.reduceEqDiff, reduceIte, Nat.zero_ne_one, Nat.one_ne_zero]
      refine AW.seq ?_
      apply AW.step
      · simp
        intros; rfl
      refine AW.block ?_
      replace h := bnE h; obtain ⟨y12, g12, h⟩ := h
      refine AW.iterP g12 (mk := fun gh ls q => (⟨[(0, .l (.d false 1 (encU a0))), (4, .l (.p 0 0)), (5, .l (.p 1 0)), (6, .l (.s (.int .i64 q.1)))], [some ⟨34, 5, false, none, [.s (.int .i64 0), .s (.string ⟨#[]⟩), .s (.slice none 0 0), .s (.slice none 0 0), .s (.int .i64 0)]⟩, some ⟨34, 5, false, none, [.s (.int .i64 v6), .s (.string q.2.1), .d false 2 (encField q.2.2.1), .r 2 1 0 q.2.2.2.length, .s (.int .i64 y7)]⟩, some ⟨9, 1, true, none, lvs (encS q.2.2.2)⟩], 104, gh, ls⟩ : St)) (N := fun gh ls => (xP 0 (cx := cx) (fun q => (⟨[(0, .l (.d false 1 (encU a0))), (4, .l (.p 0 0)), (5, .l (.p 1 0))], [some ⟨34, 5, false, none, [.s (.int .i64 0), .s (.string ⟨#[]⟩), .s (.slice none 0 0), .s (.slice none 0 0), .s (.int .i64 0)]⟩, some ⟨34, 5, false, none, [.s (.int .i64 v6), .s (.string q.1), .d false 2 (encField q.2.1), .r 2 1 0 q.2.2.length, .s (.int .i64 y7)]⟩, some ⟨9, 1, true, none, lvs (encS q.2.2)⟩], 104, gh, ls⟩ : St)))) ?_ noX ?_ ?_
      · refine W.nilCellD 1 2 2 rfl rfl rfl rfl ?_
        refine W.nilCell 1 3 9 1 2 rfl rfl rfl rfl rfl ?_
        refine Weak.mixN [some 0, some 1, some 2] hn0 (by decide) ?_ ?_ rfl
        all_goals first | (simp [inv_cons, inv_nil, pickOb]; done) | rfl
      · clear h; intro y11 y13 h
        refine AW.seq ?_
        replace h := bnE h; obtain ⟨y14, g14, h⟩ := h
        refine AW.flow (p := fun gh ls => (nP (cx := cx) (fun q => (⟨[(0, .l (.d false 1 (encU a0))), (4, .l (.p 0 0)), (5, .l (.p 1 0)), (6, .l (.s (.int .i64 y11.1))), (32, .l (.s (.bool q)))], [some ⟨34, 5, false, none, [.s (.int .i64 0), .s (.string ⟨#[]⟩), .s (.slice none 0 0), .s (.slice none 0 0), .s (.int .i64 0)]⟩, some ⟨34, 5, false, none, [.s (.int .i64 v6), .s (.string y11.2.1), .d false 2 (encField y11.2.2.1), .r 2 1 0 y11.2.2.2.length, .s (.int .i64 y7)]⟩, some ⟨9, 1, true, none, lvs (encS y11.2.2.2)⟩], 104, gh, ls⟩ : St))) y14) ?_ ?_
        · replace h := g14; clear g14
          replace h := ltE h; obtain ⟨v15, e15, h⟩ := h
          replace h := ltE h; obtain ⟨v16, e16, h⟩ := h
          cases v16 with
          | true =>
            replace h := iteT rfl h
            replace h := ltE h; obtain ⟨v17, e17, h⟩ := h
            apply AW.last
            · simp [lenI_cast e15, ← e16, ← e17]
              intros; rfl
            obtain rfl := Option.some.inj h
            refine nP_i ?_
            refine Weak.mixN [some 0, some 1, some 2] hn0 (by decide) ?_ ?_ rfl
            all_goals first | (simp [inv_cons, inv_nil, pickOb]; done) | rfl
          | false =>
            replace h := iteF rfl h
            apply AW.last
            · simp [lenI_cast e15, ← e16]
              intros; rfl
            obtain rfl := Option.some.inj h
            refine nP_i ?_
            refine Weak.mixN [some 0, some 1, some 2] hn0 (by decide) ?_ ?_ rfl
            all_goals first | (simp [inv_cons, inv_nil, pickOb]; done) | rfl
        · rintro e s hp
          obtain ⟨rfl, hw⟩ := hp
          refine ⟨_, hw, ?_⟩
          try simp only [sp_l, sp_r, Post.seq, Post.block, Nat.reduceEqDiff, reduceIte, Nat.zero_ne_one, Nat.one_ne_zero]
          replace h := ltE h; obtain ⟨v18, e18, h⟩ := h
          rw [← e18]
          cases v18 with
          | true =>
            replace h := iteT rfl h
            refine AW.cond_true (by simp) ?_
            refine AW.skip ?_
            try simp only [sp_l, sp_r, Post.seq, Post.block, Nat.reduceEqDiff, reduceIte, Nat.zero_ne_one, Nat.one_ne_zero]
            try simp only [sp_l, sp_r, Post.seq, Post.block, Nat.reduceEqDiff, reduceIte, Nat.zero_ne_one, Nat.one_ne_zero]
            replace h := bnE h; obtain ⟨y19, g19, h⟩ := h
            refine AW.flow (p := fun gh ls => (nP (cx := cx) (fun q => (⟨[(0, .l (.d false 1 (encU a0))), (4, .l (.p 0 0)), (5, .l (.p 1 0)), (6, .l (.s (.int .i64 y11.1)))], [some ⟨34, 5, false, none, [.s (.int .i64 0), .s (.string ⟨#[]⟩), .s (.slice none 0 0), .s (.slice none 0 0), .s (.int .i64 0)]⟩, some ⟨34, 5, false, none, [.s (.int .i64 v6), .s (.string q.1), .d false 2 (encField q.2.1), .r 2 1 0 q.2.2.length, .s (.int .i64 y7)]⟩, some ⟨9, 1, true, none, lvs (encS q.2.2)⟩], 104, gh, ls⟩ : St))) y19) ?_ ?_
            · replace h := g19; clear g19
              refine AW.block ?_
              replace h := bnE h; obtain ⟨v20, e20, h⟩ := h
              replace h := bnE h; obtain ⟨v21, e21, h⟩ := h
              replace h := ltE h; obtain ⟨v22, e22, h⟩ := h
              replace h := ltE h; obtain ⟨v23, e23, h⟩ := h
              have f24 : (⟨#[UInt8.ofNat (v22).toNat]⟩ : ByteArray) = v23 := e23.symm
              replace h := ltE h; obtain ⟨v25, e25, h⟩ := h
              replace h := bnE h; obtain ⟨v26, e26, h⟩ := h
              replace h := bnE h; obtain ⟨v27, e27, h⟩ := h
              replace h := bnE h; obtain ⟨v28, e28, h⟩ := h
              apply AW.drawnE (V := [_, _, _, _, _, _, _, _, _, _, _, _, _, _, _]) (M := [[some ⟨34, 5, false, none, [.s (.int .i64 0), .s (.string ⟨#[]⟩), .s (.slice none 0 0), .s (.slice none 0 0), .s (.int .i64 0)]⟩, some ⟨34, 5, false, none, [.s (.int .i64 v6), .s (.string y11.2.1), .d false 2 (encField y11.2.2.1), .r 2 1 0 y11.2.2.2.length, .s (.int .i64 y7)]⟩, some ⟨9, 1, true, none, lvs (encS y11.2.2.2)⟩], [some ⟨34, 5, false, none, [.s (.int .i64 0), .s (.string ⟨#[]⟩), .s (.slice none 0 0), .s (.slice none 0 0), .s (.int .i64 0)]⟩, some ⟨34, 5, false, none, [.s (.int .i64 v6), .s (.string y11.2.1), .d false 2 (encField y11.2.2.1), .r 2 1 0 y11.2.2.2.length, .s (.int .i64 y7)]⟩, some ⟨9, 1, true, none, lvs (encS y11.2.2.2)⟩, some ⟨5, 1, true, none, [.s (.int .u8 v22)]⟩]]) mixed [⟨[0], [], [(0, none)], false⟩, ⟨[0], [], [(6, none)], false⟩, ⟨[0], [0, 1], [(35, some 0), (36, some 1)], false⟩, ⟨[0], [0, 1, 2], [(37, some 2)], false⟩, ⟨[0], [0, 1, 2, 3], [(38, some 3)], false⟩, ⟨[0], [0, 1, 2, 3, 4], [(39, some 4)], false⟩, ⟨[0], [0, 1, 2, 3, 4, 5], [(40, some 5)], true⟩, ⟨[1], [0, 1, 2, 3, 4, 5, 6], [(41, some 6)], false⟩, ⟨[0, 1], [], [(0, none)], false⟩, ⟨[0, 1], [], [(6, none)], false⟩, ⟨[0, 1], [8, 9], [(43, some 8), (44, some 9)], false⟩, ⟨[0, 1], [8, 9, 10], [(45, some 10)], false⟩, ⟨[0, 1], [8, 9, 10, 11], [(46, some 11)], false⟩, ⟨[0, 1], [8, 9, 10, 11, 12], [(47, some 12)], false⟩, ⟨[0, 1], [8, 9, 10, 11, 12, 13], [(48, some 13)], false⟩, ⟨[], [0, 1, 2, 3, 4, 5, 6, 7, 8, 9, 10, 11, 12, 13, 14], [], false⟩, ⟨[], [0, 1, 2, 3, 4, 5, 6, 7, 8, 9, 10, 11, 12, 13, 14, 15], [], false⟩] 15 1 (by kernel_rfl) (by kernel_rfl)
              · rfl
              · refine ⟨?_, ?_, ?_, ?_, ?_, ?_, ?_, ?_, ⟨?_, ?_⟩, ⟨?_, ?_⟩, ⟨?_, ?_⟩, ⟨?_, ?_⟩, ⟨?_, ?_⟩, ⟨?_, ?_⟩, ⟨?_, ?_⟩, trivial⟩
                · intro tm hr
                  simp [AllL, rdV] at hr
                  simp [hr, nth_d e20, e21, ← e22, f24, ← e25, e26, e28]
                  intros; first | exact KD.mk | exact KD.mkN
                · intro tm hr
                  simp [AllL, rdV] at hr
                  simp [hr, nth_d e20, e21, ← e22, f24, ← e25, e26, e28]
                  intros; first | exact KD.mk | exact KD.mkN
                · intro tm hr
                  simp [AllL, rdV] at hr
                  simp [hr, nth_d e20, e21, ← e22, f24, ← e25, e26, e28]
                  intros; first | exact KD.mk | exact KD.mkN
                · intro tm hr
                  simp [AllL, rdV] at hr
                  simp [hr, nth_d e20, e21, ← e22, f24, ← e25, e26, e28]
                  intros; first | exact KD.mk | exact KD.mkN
                · intro tm hr
                  simp [AllL, rdV] at hr
                  simp [hr, nth_d e20, e21, ← e22, f24, ← e25, e26, e28]
                  intros; first | exact KD.mk | exact KD.mkN
                · intro tm hr
                  simp [AllL, rdV] at hr
                  simp [hr, nth_d e20, e21, ← e22, f24, ← e25, e26, e28]
                  intros; first | exact KD.mk | exact KD.mkN
                · intro tm hr
                  simp [AllL, rdV] at hr
                  simp [hr, nth_d e20, e21, ← e22, f24, ← e25, e26, e28]
                  intros
                  refine xrow_own ?_
                  try simp [nth_d e20, e21, ← e22, f24, ← e25, e26, e28]
                  intros; first | exact KD.mk | exact KD.mkN
                · intro tm hr
                  simp [AllL, rdV] at hr
                  simp [hr, nth_d e20, e21, ← e22, f24, ← e25, e26, e28]
                  intros; first | exact KD.mk | exact KD.mkN
                · intro tm hr
                  simp [AllL, rdV] at hr
                  simp [hr, nth_d e20, e21, ← e22, f24, ← e25, e26, e28]
                  intros; first | exact KD.mk | exact KD.mkN
                · intro tm hr
                  simp [AllL, rdV] at hr
                  simp [hr, nth_d e20, e21, ← e22, f24, ← e25, e26, e28]
                  intros; first | exact KD.mk | exact KD.mkN
                · intro tm hr
                  simp [AllL, rdV] at hr
                  simp [hr, nth_d e20, e21, ← e22, f24, ← e25, e26, e28]
                  intros; first | exact KD.mk | exact KD.mkN
                · intro tm hr
                  simp [AllL, rdV] at hr
                  simp [hr, nth_d e20, e21, ← e22, f24, ← e25, e26, e28]
                  intros; first | exact KD.mk | exact KD.mkN
                · intro tm hr
                  simp [AllL, rdV] at hr
                  simp [hr, nth_d e20, e21, ← e22, f24, ← e25, e26, e28]
                  intros; first | exact KD.mk | exact KD.mkN
                · intro tm hr
                  simp [AllL, rdV] at hr
                  simp [hr, nth_d e20, e21, ← e22, f24, ← e25, e26, e28]
                  intros; first | exact KD.mk | exact KD.mkN
                · intro tm hr
                  simp [AllL, rdV] at hr
                  simp [hr, nth_d e20, e21, ← e22, f24, ← e25, e26, e28]
                  intros; first | exact KD.mk | exact KD.mkN
                · intro tm hr
                  simp [AllL, rdV] at hr
                  simp [hr, nth_d e20, e21, ← e22, f24, ← e25, e26, e28]
                  intros; first | exact KD.mk | exact KD.mkN
                · intro tm hr
                  simp [AllL, rdV] at hr
                  simp [hr, nth_d e20, e21, ← e22, f24, ← e25, e26, e28]
                  intros; first | exact KD.mk | exact KD.mkN
                · intro tm hr
                  simp [AllL, rdV] at hr
                  simp [hr, nth_d e20, e21, ← e22, f24, ← e25, e26, e28]
                  intros; first | exact KD.mk | exact KD.mkN
                · intro tm hr
                  simp [AllL, rdV] at hr
                  simp [hr, nth_d e20, e21, ← e22, f24, ← e25, e26, e28]
                  intros; first | exact KD.mk | exact KD.mkN
                · intro tm hr
                  simp [AllL, rdV] at hr
                  simp [hr, nth_d e20, e21, ← e22, f24, ← e25, e26, e28]
                  intros; first | exact KD.mk | exact KD.mkN
                · intro tm hr
                  simp [AllL, rdV] at hr
                  simp [hr, nth_d e20, e21, ← e22, f24, ← e25, e26, e28]
                  intros
                  refine xcall_plain en_r1_Digits (s_r1_Digits e27) rfl ⟨.same rfl, trivial⟩ ?_
                  try simp [nth_d e20, e21, ← e22, f24, ← e25, e26, e28]
                  intros; first | exact KD.mk | exact KD.mkN
                · intro tm hr
                  simp [AllL, rdV] at hr
                  simp [hr, nth_d e20, e21, ← e22, f24, ← e25, e26, e28]
                  intros
                  refine xcall_plain en_r1_Digits (s_r1_Digits e27) rfl ⟨.same rfl, trivial⟩ ?_
                  try simp [nth_d e20, e21, ← e22, f24, ← e25, e26, e28]
                  intros; first | exact KD.mk | exact KD.mkN
              · rfl
              · simp [tmD, putD, nth_d e20, e21, ← e22, f24, ← e25, e26, e28]; rfl
              · simp [nth_d e20, e21, ← e22, f24, ← e25, e26, e28]
                intros; rfl
              apply AW.step
              · simp
                intros; rfl
              refine AW.block ?_
              replace h := ltE h; obtain ⟨v29, e29, h⟩ := h
              apply AW.step
              · simp [← e29]
                intros; rfl
              cases v29 with
              | true =>
                replace h := iteT rfl h
                refine AW.cond_true (by simp) ?_
                replace h := bnE h; obtain ⟨v30, e30, h⟩ := h
                apply AW.last
                · simp [e30]
                  intros; rfl
                obtain rfl := Option.some.inj h
                refine nP_i ?_
                refine Weak.mixN [some 0, some 1, some 2] hn0 (by decide) ?_ ?_ rfl
                all_goals first | (simp [inv_cons, inv_nil, pickOb, lvs_encU1]; done) | rfl
              | false =>
                replace h := iteF rfl h
                refine AW.cond_false (by simp) ?_
                replace h := ltE h; obtain ⟨v31, e31, h⟩ := h
                apply AW.step
                · simp [← e31]
                  intros; rfl
                cases v31 with
                | true =>
                  replace h := iteT rfl h
                  refine AW.cond_true (by simp) ?_
                  replace h := ltE h; obtain ⟨v32, e32, h⟩ := h
                  replace h := bnE h; obtain ⟨v33, e33, h⟩ := h
                  replace h := bnE h; obtain ⟨v34, e34, h⟩ := h
                  apply AW.drawnR (V := [_, _, _, _, _, _, _, _, _, _]) mixed [⟨[0], [], [(5, none)], false⟩, ⟨[0], [0], [(67, some 0)], false⟩, ⟨[0], [], [(7, none)], false⟩, ⟨[0], [], [(0, none)], false⟩, ⟨[0], [], [(6, none)], false⟩, ⟨[0], [3, 4], [(70, some 3), (71, some 4)], false⟩, ⟨[0], [3, 4, 5], [(72, some 5)], false⟩, ⟨[0], [3, 4, 5, 6], [(73, some 6)], false⟩, ⟨[0], [3, 4, 5, 6, 7], [(74, some 7)], false⟩, ⟨[0], [3, 4, 5, 6, 7, 8], [(75, some 8)], false⟩, ⟨[], [0, 1, 2, 3, 4, 5, 6, 7, 8, 9], [], false⟩, ⟨[], [0, 1, 2, 3, 4, 5, 6, 7, 8, 9, 10], [], false⟩, ⟨[], [0, 1, 2, 3, 4, 5, 6, 7, 8, 9, 10, 11], [], false⟩] 10 (by kernel_rfl) (by kernel_rfl)
                  · refine ⟨?_, ?_, ?_, ?_, ?_, ?_, ?_, ?_, ?_, ?_, trivial⟩
                    · intro tm hr
                      simp [AllL, rdV] at hr
                      simp [hr, nth_d e20, ← e25, ← e32]
                      intros; first | exact KD.mk | exact KD.mkN
                    · intro tm hr
                      simp [AllL, rdV] at hr
                      simp [hr, nth_d e20, ← e25, ← e32]
                      intros; first | exact KD.mk | exact KD.mkN
                    · intro tm hr
                      simp [AllL, rdV] at hr
                      simp [hr, nth_d e20, ← e25, ← e32]
                      intros; first | exact KD.mk | exact KD.mkN
                    · intro tm hr
                      simp [AllL, rdV] at hr
                      simp [hr, nth_d e20, ← e25, ← e32]
                      intros; first | exact KD.mk | exact KD.mkN
                    · intro tm hr
                      simp [AllL, rdV] at hr
                      simp [hr, nth_d e20, ← e25, ← e32]
                      intros; first | exact KD.mk | exact KD.mkN
                    · intro tm hr
                      simp [AllL, rdV] at hr
                      simp [hr, nth_d e20, ← e25, ← e32]
                      intros; first | exact KD.mk | exact KD.mkN
                    · intro tm hr
                      simp [AllL, rdV] at hr
                      simp [hr, nth_d e20, ← e25, ← e32]
                      intros; first | exact KD.mk | exact KD.mkN
                    · intro tm hr
                      simp [AllL, rdV] at hr
                      simp [hr, nth_d e20, ← e25, ← e32]
                      intros; first | exact KD.mk | exact KD.mkN
                    · intro tm hr
                      simp [AllL, rdV] at hr
                      simp [hr, nth_d e20, ← e25, ← e32]
                      intros; first | exact KD.mk | exact KD.mkN
                    · intro tm hr
                      simp [AllL, rdV] at hr
                      simp [hr, nth_d e20, ← e25, ← e32]
                      intros
                      refine xcall_plain en_r1_Digits (s_r1_Digits e33) rfl ⟨.same rfl, trivial⟩ ?_
                      try simp [nth_d e20, ← e25, ← e32]
                      intros; first | exact KD.mk | exact KD.mkN
                  · rfl
                  · simp [tmD, putD, nth_d e20, ← e25, ← e32]; rfl
                  · simp [nth_d e20, ← e25, ← e32]
                    intros
                    refine xcall_plain en_r5_HSet (s_r5_HSet e34) rfl ⟨.same rfl, .same rfl, .same rfl, trivial⟩ ?_
                    try simp [nth_d e20, ← e25, ← e32]
                    intros; rfl
                  obtain rfl := Option.some.inj h
                  refine nP_i ?_
                  refine Weak.mixN [some 0, some 1, some 2] hn0 (by decide) ?_ ?_ rfl
                  all_goals first | (simp [inv_cons, inv_nil, pickOb, lvs_encU1]; done) | rfl
                | false =>
                  replace h := iteF rfl h
                  refine AW.cond_false (by simp) ?_
                  replace h := ltE h; obtain ⟨v35, e35, h⟩ := h
                  apply AW.step
                  · simp [← e35]
                    intros; rfl
                  cases v35 with
                  | true =>
                    replace h := iteT rfl h
                    refine AW.cond_true (by simp) ?_
                    replace h := chkE h; obtain ⟨e36, h⟩ := h
                    replace h := ltE h; obtain ⟨v37, e37, h⟩ := h
                    apply AW.last
                    · simp [← encS_append, ← e37, app_len1 e37]
                      intros
                      refine xrow_own ?_
                      try simp [← encS_append, ← e37, app_len1 e37]
                      intros
                      refine xapp_pushN (acc := encS y11.2.2.2) (ys := encS [v28]) (cap := none) (k := 1) tb_el32 tb_ti9 (by simp) (by simp [encS, lvs]) (encS_sz _) (by simp) (by simp) (by simpa using (room_d e36).1) ?_
                      try simp [← encS_append, ← e37, app_len1 e37]
                      intros; rfl
                    obtain rfl := Option.some.inj h
                    refine nP_i ?_
                    refine Weak.mixN [some 0, some 1, some 5] hn0 (by decide) ?_ ?_ rfl
                    all_goals first | (simp [inv_cons, inv_nil, pickOb, lvs_encS1, lvs_encU1]; done) | rfl
                  | false =>
                    replace h := iteF rfl h
                    refine AW.cond_false (by simp) ?_
                    replace h := chkE h; obtain ⟨e38, h⟩ := h
                    replace h := bnE h; obtain ⟨v39, e39, h⟩ := h
                    apply AW.last
                    · simp [outR]
                      intros
                      refine xcall_new en_r5_SAdd_tf (s_r5_SAdd_tf e39) rfl (by simp) ⟨.rowd (by simp) rfl (by omega) (encS_sz _) (by simp) (by first | exact (room_d e38).2 | simpa using (room_d e38).2 | simp), .same rfl, trivial⟩ ?_
                      try simp [outR]
                      intros; rfl
                    obtain rfl := Option.some.inj h
                    refine nP_i ?_
                    refine Weak.mixN [some 0, some 1, some 4] hn0 (by decide) ?_ ?_ rfl
                    all_goals first | (simp [inv_cons, inv_nil, pickOb, lvs_encU1]; done) | rfl
            · rintro e s hp
              obtain ⟨rfl, hw⟩ := hp
              refine ⟨_, hw, ?_⟩
              try simp only [sp_l, sp_r, Post.seq, Post.block, Nat.reduceEqDiff, reduceIte, Nat.zero_ne_one, Nat.one_ne_zero]
              replace h := ltE h; obtain ⟨v40, e40, h⟩ := h
              apply AW.last
              · simp [← e40]
                intros; rfl
              obtain rfl := Option.some.inj h
              refine nP_i ?_
              refine Weak.mixN [some 0, some 1, some 2] hn0 (by decide) ?_ ?_ rfl
              all_goals first | (simp [inv_cons, inv_nil, pickOb]; done) | rfl
          | false =>
            replace h := iteF rfl h
            refine AW.cond_false (by simp) ?_
            refine AW.exit ?_
            try simp only [sp_l, sp_r, Post.seq, Post.block, Nat.reduceEqDiff, reduceIte, Nat.zero_ne_one, Nat.one_ne_zero]
            obtain rfl := Option.some.inj h
            refine xP_i ?_
            refine Weak.mixN [some 0, some 1, some 2] hn0 (by decide) ?_ ?_ rfl
            all_goals first | (simp [inv_cons, inv_nil, pickOb]; done) | rfl
      · rintro e s hp
        obtain ⟨rfl, hw⟩ := hp
        refine ⟨_, hw, ?_⟩
        try simp only [sp_l, sp_r, Post.seq, Post.block, Nat.reduceEqDiff, reduceIte, Nat.zero_ne_one, Nat.one_ne_zero]
        refine AW.seq ?_
        replace h := bnE h; obtain ⟨y41, g41, h⟩ := h
        refine AW.flow (p := fun gh ls => (nP (cx := cx) (fun q => (⟨[(0, .l (.d false 1 (encU a0))), (4, .l (.p 0 0)), (5, .l (.p 1 0)), (94, .l (.s (.bool q)))], [some ⟨34, 5, false, none, [.s (.int .i64 0), .s (.string ⟨#[]⟩), .s (.slice none 0 0), .s (.slice none 0 0), .s (.int .i64 0)]⟩, some ⟨34, 5, false, none, [.s (.int .i64 v6), .s (.string y12.1), .d false 2 (encField y12.2.1), .r 2 1 0 y12.2.2.length, .s (.int .i64 y7)]⟩, some ⟨9, 1, true, none, lvs (encS y12.2.2)⟩], 104, gh, ls⟩ : St))) y41) ?_ ?_
        · replace h := g41; clear g41
          replace h := ltE h; obtain ⟨v42, e42, h⟩ := h
          replace h := ltE h; obtain ⟨v43, e43, h⟩ := h
          cases v43 with
          | true =>
            replace h := iteT rfl h
            replace h := ltE h; obtain ⟨v44, e44, h⟩ := h
            apply AW.last
            · simp [lenI_cast e42, ← e43, ← e44]
              intros; rfl
            obtain rfl := Option.some.inj h
            refine nP_i ?_
            refine Weak.mixN [some 0, some 1, some 2] hn0 (by decide) ?_ ?_ rfl
            all_goals first | (simp [inv_cons, inv_nil, pickOb]; done) | rfl
          | false =>
            replace h := iteF rfl h
            apply AW.last
            · simp [lenI_cast e42, ← e43]
              intros; rfl
            obtain rfl := Option.some.inj h
            refine nP_i ?_
            refine Weak.mixN [some 0, some 1, some 2] hn0 (by decide) ?_ ?_ rfl
            all_goals first | (simp [inv_cons, inv_nil, pickOb]; done) | rfl
        · rintro e s hp
          obtain ⟨rfl, hw⟩ := hp
          refine ⟨_, hw, ?_⟩
          try simp only [sp_l, sp_r, Post.seq, Post.block, Nat.reduceEqDiff, reduceIte, Nat.zero_ne_one, Nat.one_ne_zero]
          replace h := ltE h; obtain ⟨v45, e45, h⟩ := h
          rw [← e45]
          cases v45 with
          | true =>
            replace h := iteT rfl h
            refine AW.cond_true (by simp) ?_
            replace h := bnE h; obtain ⟨v46, e46, h⟩ := h
            replace h := ltE h; obtain ⟨v47, e47, h⟩ := h
            replace h := bnE h; obtain ⟨v48, e48, h⟩ := h
            apply AW.drawnP (V := [_, _, _, _, _, _, _]) mixed [⟨[0], [], [(0, none)], false⟩, ⟨[0], [0], [(95, some 0)], false⟩, ⟨[0], [0, 1], [(96, some 1)], false⟩, ⟨[0], [0, 1, 2], [(97, some 2)], false⟩, ⟨[0], [0, 1, 2, 3], [(98, some 3)], false⟩, ⟨[0], [], [(5, none)], false⟩, ⟨[0], [5], [(100, some 5)], false⟩, ⟨[], [0, 1, 2, 3, 4, 5, 6], [], false⟩, ⟨[], [0, 1, 2, 3, 4, 5, 6, 7], [], false⟩] 7 (by kernel_rfl) (by kernel_rfl)
            · refine ⟨?_, ?_, ?_, ?_, ?_, ?_, ?_, trivial⟩
              · intro tm hr
                simp [AllL, rdV] at hr
                simp [hr, (show a0[0]? = some v46 from (nth_d e46).2), ← e47]
                intros; first | exact KD.mk | exact KD.mkN
              · intro tm hr
                simp [AllL, rdV] at hr
                simp [hr, (show a0[0]? = some v46 from (nth_d e46).2), ← e47]
                intros; first | exact KD.mk | exact KD.mkN
              · intro tm hr
                simp [AllL, rdV] at hr
                simp [hr, (show a0[0]? = some v46 from (nth_d e46).2), ← e47]
                intros; first | exact KD.mk | exact KD.mkN
              · intro tm hr
                simp [AllL, rdV] at hr
                simp [hr, (show a0[0]? = some v46 from (nth_d e46).2), ← e47]
                intros; first | exact KD.mk | exact KD.mkN
              · intro tm hr
                simp [AllL, rdV] at hr
                simp [hr, (show a0[0]? = some v46 from (nth_d e46).2), ← e47]
                intros
                refine xcall_plain en_r1_Digits (s_r1_Digits e48) rfl ⟨.same rfl, trivial⟩ ?_
                try simp [(show a0[0]? = some v46 from (nth_d e46).2), ← e47]
                intros; first | exact KD.mk | exact KD.mkN
              · intro tm hr
                simp [AllL, rdV] at hr
                simp [hr, (show a0[0]? = some v46 from (nth_d e46).2), ← e47]
                intros; first | exact KD.mk | exact KD.mkN
              · intro tm hr
                simp [AllL, rdV] at hr
                simp [hr, (show a0[0]? = some v46 from (nth_d e46).2), ← e47]
                intros; first | exact KD.mk | exact KD.mkN
            · rfl
            · simp [tmD, putD, (show a0[0]? = some v46 from (nth_d e46).2), ← e47]; rfl
            · simp [(show a0[0]? = some v46 from (nth_d e46).2), ← e47]
              intros; rfl
            refine AW.nilCellD 0 2 2 rfl rfl rfl rfl ?_
            refine AW.nilCellD 0 3 1 rfl rfl rfl rfl ?_
            obtain rfl := Option.some.inj h
            refine AW.ret ?_
            refine Left.plain hnb (by simp [Try.f68, resV, resC, comp]; rfl) rfl rfl ?_
            simp
          | false =>
            replace h := iteF rfl h
            refine AW.cond_false (by simp) ?_
            refine AW.skip ?_
            try simp only [sp_l, sp_r, Post.seq, Post.block, Nat.reduceEqDiff, reduceIte, Nat.zero_ne_one, Nat.one_ne_zero]
            try simp only [sp_l, sp_r, Post.seq, Post.block, Nat.reduceEqDiff, reduceIte, Nat.zero_ne_one, Nat.one_ne_zero]
            apply AW.step
            · simp
              intros; rfl
            replace h := chkE h; obtain ⟨e49, h⟩ := h
            refine AW.frzRow 2 (ty := 9) (cap := none) (sz := 1) (es := encS y12.2.2) (by simp) (by omega) (encS_sz _) (by first | exact (room_d e49).2 | simpa using (room_d e49).2 | simp) (by simp [Tm.frz, AV.frz, LV.frz]; rfl) (by simp [Ob.frz, LV.frz]; rfl) rfl ?_
            obtain rfl := Option.some.inj h
            refine AW.ret ?_
            refine Left.plain hnb (by simp [Try.f68, resV, resC, comp]; rfl) rfl rfl ?_
            simp
theorem en_l5_Make : Enters Try.prog 68 := enters Try.func68 (by kernel_rfl) rfl
def l11_Effects_sh (n : Nat) (a0 : List Int) : Option (List Effect) :=
bn (iter n (fun (y1 : Int × List Effect) =>
bn (lt (addI .i64 y1.1 3) fun v5 =>
lt (lenI a0) fun v6 =>
lt (ltI v5 v6) fun v7 =>
ite' v7 (lt (lenI y1.2) fun v8 =>
lt (ltI v8 40) fun v9 =>
some (v9)) (some (false))) fun (y4 : Bool) =>
lt (y4) fun v10 =>
ite' v10 (bn (nth a0 y1.1) fun v11 =>
bn (l11_Key_sh n v11) fun v12 =>
lt (addI .i64 y1.1 1) fun v13 =>
bn (nth a0 v13) fun v14 =>
bn (remI .u8 v14 4) fun v15 =>
lt (eqI v15 0) fun v16 =>
bn (lt (notB v16) fun v18 =>
ite' v18 (lt (addI .i64 y1.1 4) fun v19 =>
bn (seglh a0 v13 v19) fun v20 =>
lt (addI .i64 y1.1 2) fun v22 =>
bn (nth a0 v22) fun v23 =>
bn (l5_Make_sh n v20 v23) fun v24 =>
some ((v24.kind, v24.s, v24.f, v24.l, v24.exp))) (some ((0, ⟨#[]⟩, [], [], 0)))) fun (y17 : Int × ByteArray × List Field × List ByteArray × Int) =>
chk (room (y1.2.length + 1) 104) <|
lt (y1.2 ++ [(⟨v12, v16, (⟨y17.1, y17.2.1, y17.2.2.1, y17.2.2.2.1, y17.2.2.2.2⟩ : Item)⟩ : Effect)]) fun v26 =>
lt (addI .i64 y1.1 4) fun v27 =>
some (.inl (v27, v26))) (some (.inr y1.2))) (0, [])) fun (y2 : List Effect) =>
chk (room y2.length 1) <|
some y2
set_option maxRecDepth 8000 in
set_option maxHeartbeats 8000000 in
theorem s_l11_Effects {n : Nat} {a0 : List Int} {r : List Effect} (h : l11_Effects_sh n a0 = some r) : Sound Try.prog 16 [.l (.d false 1 (encU a0))] [] (.l (.d false 7 (encEffect r))) [] := by
  unfold l11_Effects_sh at h
  refine Sound.of_aw (fn := Try.f16) (c := _) Try.func16 rfl (by simp [Try.f16]) fun cx hG hnb => ?_
  rw [show Try.f16.ntmps = 52 from rfl]
  have hn0 : cx.nb = 0 := hnb
  simp only [st0_mk, initTm, List.map_cons, List.map_nil]
  apply AW.step
  · simp
    intros; rfl
  apply AW.step
  · simp
    intros; rfl
  refine AW.seq ?_
  apply AW.step
  · simp
    intros; rfl
  refine AW.block ?_
  replace h := bnE h; obtain ⟨y2, g2, h⟩ := h
  refine AW.iterP g2 (mk := fun gh ls q => (⟨[(0, .l (.d false 1 (encU a0))), (3, .l (.r 0 7 0 q.2.length)), (4, .l (.s (.int .i64 q.1)))], [some ⟨36, 7, true, none, lvs (encEffect q.2)⟩], 52, gh, ls⟩ : St)) (N := fun gh ls => (xP 0 (cx := cx) (fun q => (⟨[(3, .l (.r 0 7 0 q.length))], [some ⟨36, 7, true, none, lvs (encEffect q)⟩], 52, gh, ls⟩ : St)))) ?_ noX ?_ ?_
  · refine W.nilRow 3 36 7 0 (by simp) rfl rfl ?_
    refine Weak.mixN [some 0] hn0 (by decide) ?_ ?_ rfl
    all_goals first | (simp [inv_cons, inv_nil, pickOb]; done) | rfl
  · clear h; intro y1 y3 h
    refine AW.seq ?_
    replace h := bnE h; obtain ⟨y4, g4, h⟩ := h
    refine AW.flow (p := fun gh ls => (nP (cx := cx) (fun q => (⟨[(0, .l (.d false 1 (encU a0))), (3, .l (.r 0 7 0 y1.2.length)), (4, .l (.s (.int .i64 y1.1))), (15, .l (.s (.bool q)))], [some ⟨36, 7, true, none, lvs (encEffect y1.2)⟩], 52, gh, ls⟩ : St))) y4) ?_ ?_
    · replace h := g4; clear g4
      replace h := ltE h; obtain ⟨v5, e5, h⟩ := h
      replace h := ltE h; obtain ⟨v6, e6, h⟩ := h
      replace h := ltE h; obtain ⟨v7, e7, h⟩ := h
      cases v7 with
      | true =>
        replace h := iteT rfl h
        replace h := ltE h; obtain ⟨v8, e8, h⟩ := h
        replace h := ltE h; obtain ⟨v9, e9, h⟩ := h
        apply AW.last
        · simp [← e5, lenI_cast e6, ← e7, lenI_cast e8, ← e9]
          intros; rfl
        obtain rfl := Option.some.inj h
        refine nP_i ?_
        refine Weak.mixN [some 0] hn0 (by decide) ?_ ?_ rfl
        all_goals first | (simp [inv_cons, inv_nil, pickOb]; done) | rfl
      | false =>
        replace h := iteF rfl h
        apply AW.last
        · simp [← e5, lenI_cast e6, ← e7]
          intros; rfl
        obtain rfl := Option.some.inj h
        refine nP_i ?_
        refine Weak.mixN [some 0] hn0 (by decide) ?_ ?_ rfl
        all_goals first | (simp [inv_cons, inv_nil, pickOb]; done) | rfl
    · rintro e s hp
      obtain ⟨rfl, hw⟩ := hp
      refine ⟨_, hw, ?_⟩
      try simp only [sp_l, sp_r, Post.seq, Post.block, Nat.reduceEqDiff, reduceIte, Nat.zero_ne_one, Nat.one_ne_zero]
      replace h := ltE h; obtain ⟨v10, e10, h⟩ := h
      rw [← e10]
      cases v10 with
      | true =>
        replace h := iteT rfl h
        refine AW.cond_true (by simp) ?_
        refine AW.skip ?_
        try simp only [sp_l, sp_r, Post.seq, Post.block, Nat.reduceEqDiff, reduceIte, Nat.zero_ne_one, Nat.one_ne_zero]
        try simp only [sp_l, sp_r, Post.seq, Post.block, Nat.reduceEqDiff, reduceIte, Nat.zero_ne_one, Nat.one_ne_zero]
        refine AW.seq ?_
        refine AW.block ?_
        replace h := bnE h; obtain ⟨v11, e11, h⟩ := h
        replace h := bnE h; obtain ⟨v12, e12, h⟩ := h
        replace h := ltE h; obtain ⟨v13, e13, h⟩ := h
        replace h := bnE h; obtain ⟨v14, e14, h⟩ := h
        replace h := bnE h; obtain ⟨v15, e15, h⟩ := h
        replace h := ltE h; obtain ⟨v16, e16, h⟩ := h
        apply AW.drawnE (V := [_, _, _, _, _, _, _, _, _, _, _, _, _, _]) (M := [[some ⟨36, 7, true, none, lvs (encEffect y1.2)⟩], [some ⟨36, 7, true, none, lvs (encEffect y1.2)⟩, some ⟨36, 7, false, none, [.s (.string ⟨#[]⟩), .s (.bool false), .s (.int .i64 0), .s (.string ⟨#[]⟩), .s (.slice none 0 0), .s (.slice none 0 0), .s (.int .i64 0)]⟩]]) mixed [⟨[0, 1], [], [(0, none)], false⟩, ⟨[0, 1], [], [(4, none)], false⟩, ⟨[0, 1], [0, 1], [(18, some 0), (19, some 1)], false⟩, ⟨[0, 1], [0, 1, 2], [(20, some 2)], false⟩, ⟨[0, 1], [0, 1, 2, 3], [(21, some 3)], false⟩, ⟨[0, 1], [], [(0, none)], false⟩, ⟨[0, 1], [], [(4, none)], false⟩, ⟨[0, 1], [6], [(24, some 6)], false⟩, ⟨[0, 1], [5, 6, 7], [(23, some 5), (25, some 7)], false⟩, ⟨[0, 1], [5, 6, 7, 8], [(26, some 8)], false⟩, ⟨[0, 1], [5, 6, 7, 8, 9], [(27, some 9)], false⟩, ⟨[0, 1], [5, 6, 7, 8, 9, 10], [(28, some 10)], false⟩, ⟨[0, 1], [0, 1, 2, 3, 4, 5, 6, 7, 8, 9, 10, 11], [(22, some 4), (29, some 11)], false⟩, ⟨[0], [], [], true⟩, ⟨[], [0, 1, 2, 3, 4, 5, 6, 7, 8, 9, 10, 11, 12, 13], [], false⟩] 14 1 (by kernel_rfl) (by kernel_rfl)
        · rfl
        · refine ⟨⟨?_, ?_⟩, ⟨?_, ?_⟩, ⟨?_, ?_⟩, ⟨?_, ?_⟩, ⟨?_, ?_⟩, ⟨?_, ?_⟩, ⟨?_, ?_⟩, ⟨?_, ?_⟩, ⟨?_, ?_⟩, ⟨?_, ?_⟩, ⟨?_, ?_⟩, ⟨?_, ?_⟩, ⟨?_, ?_⟩, ?_, trivial⟩
          · intro tm hr
            simp [AllL, rdV] at hr
            simp [hr, nth_d e11, ← e13, nth_d e14, e15, ← e16]
            intros; first | exact KD.mk | exact KD.mkN
          · intro tm hr
            simp [AllL, rdV] at hr
            simp [hr, nth_d e11, ← e13, nth_d e14, e15, ← e16]
            intros; first | exact KD.mk | exact KD.mkN
          · intro tm hr
            simp [AllL, rdV] at hr
            simp [hr, nth_d e11, ← e13, nth_d e14, e15, ← e16]
            intros; first | exact KD.mk | exact KD.mkN
          · intro tm hr
            simp [AllL, rdV] at hr
            simp [hr, nth_d e11, ← e13, nth_d e14, e15, ← e16]
            intros; first | exact KD.mk | exact KD.mkN
          · intro tm hr
            simp [AllL, rdV] at hr
            simp [hr, nth_d e11, ← e13, nth_d e14, e15, ← e16]
            intros; first | exact KD.mk | exact KD.mkN
          · intro tm hr
            simp [AllL, rdV] at hr
            simp [hr, nth_d e11, ← e13, nth_d e14, e15, ← e16]
            intros; first | exact KD.mk | exact KD.mkN
          · intro tm hr
            simp [AllL, rdV] at hr
            simp [hr, nth_d e11, ← e13, nth_d e14, e15, ← e16]
            intros; first | exact KD.mk | exact KD.mkN
          · intro tm hr
            simp [AllL, rdV] at hr
            simp [hr, nth_d e11, ← e13, nth_d e14, e15, ← e16]
            intros; first | exact KD.mk | exact KD.mkN
          · intro tm hr
            simp [AllL, rdV] at hr
            simp [hr, nth_d e11, ← e13, nth_d e14, e15, ← e16]
            intros
            refine xcall_plain en_l11_Key (s_l11_Key e12) rfl ⟨.same rfl, trivial⟩ ?_
            try simp [nth_d e11, ← e13, nth_d e14, e15, ← e16]
            intros; first | exact KD.mk | exact KD.mkN
          · intro tm hr
            simp [AllL, rdV] at hr
            simp [hr, nth_d e11, ← e13, nth_d e14, e15, ← e16]
            intros
            refine xcall_plain en_l11_Key (s_l11_Key e12) rfl ⟨.same rfl, trivial⟩ ?_
            try simp [nth_d e11, ← e13, nth_d e14, e15, ← e16]
            intros; first | exact KD.mk | exact KD.mkN
          · intro tm hr
            simp [AllL, rdV] at hr
            simp [hr, nth_d e11, ← e13, nth_d e14, e15, ← e16]
            intros; first | exact KD.mk | exact KD.mkN
          · intro tm hr
            simp [AllL, rdV] at hr
            simp [hr, nth_d e11, ← e13, nth_d e14, e15, ← e16]
            intros; first | exact KD.mk | exact KD.mkN
          · intro tm hr
            simp [AllL, rdV] at hr
            simp [hr, nth_d e11, ← e13, nth_d e14, e15, ← e16]
            intros; first | exact KD.mk | exact KD.mkN
          · intro tm hr
            simp [AllL, rdV] at hr
            simp [hr, nth_d e11, ← e13, nth_d e14, e15, ← e16]
            intros; first | exact KD.mk | exact KD.mkN
          · intro tm hr
            simp [AllL, rdV] at hr
            simp [hr, nth_d e11, ← e13, nth_d e14, e15, ← e16]
            intros; first | exact KD.mk | exact KD.mkN
          · intro tm hr
            simp [AllL, rdV] at hr
            simp [hr, nth_d e11, ← e13, nth_d e14, e15, ← e16]
            intros; first | exact KD.mk | exact KD.mkN
          · intro tm hr
            simp [AllL, rdV] at hr
            simp [hr, nth_d e11, ← e13, nth_d e14, e15, ← e16]
            intros; first | exact KD.mk | exact KD.mkN
          · intro tm hr
            simp [AllL, rdV] at hr
            simp [hr, nth_d e11, ← e13, nth_d e14, e15, ← e16]
            intros; first | exact KD.mk | exact KD.mkN
          · intro tm hr
            simp [AllL, rdV] at hr
            simp [hr, nth_d e11, ← e13, nth_d e14, e15, ← e16]
            intros; first | exact KD.mk | exact KD.mkN
          · intro tm hr
            simp [AllL, rdV] at hr
            simp [hr, nth_d e11, ← e13, nth_d e14, e15, ← e16]
            intros; first | exact KD.mk | exact KD.mkN
          · intro tm hr
            simp [AllL, rdV] at hr
            simp [hr, nth_d e11, ← e13, nth_d e14, e15, ← e16]
            intros; first | exact KD.mk | exact KD.mkN
          · intro tm hr
            simp [AllL, rdV] at hr
            simp [hr, nth_d e11, ← e13, nth_d e14, e15, ← e16]
            intros; first | exact KD.mk | exact KD.mkN
          · intro tm hr
            simp [AllL, rdV] at hr
            simp [hr, nth_d e11, ← e13, nth_d e14, e15, ← e16]
            intros; first | exact KD.mk | exact KD.mkN
          · intro tm hr
            simp [AllL, rdV] at hr
            simp [hr, nth_d e11, ← e13, nth_d e14, e15, ← e16]
            intros; first | exact KD.mk | exact KD.mkN
          · intro tm hr
            simp [AllL, rdV] at hr
            simp [hr, nth_d e11, ← e13, nth_d e14, e15, ← e16]
            intros; first | exact KD.mk | exact KD.mkN
          · intro tm hr
            simp [AllL, rdV] at hr
            simp [hr, nth_d e11, ← e13, nth_d e14, e15, ← e16]
            intros; first | exact KD.mk | exact KD.mkN
          · intro tm hr
            simp [AllL, rdV] at hr
            simp [hr, nth_d e11, ← e13, nth_d e14, e15, ← e16]
            intros; first | exact KD.mk | exact KD.mkN
        · rfl
        · simp [tmD, putD, nth_d e11, ← e13, nth_d e14, e15, ← e16]; rfl
        · simp [nth_d e11, ← e13, nth_d e14, e15, ← e16]
          intros; rfl
        replace h := bnE h; obtain ⟨y17, g17, h⟩ := h
        refine AW.flow (p := fun gh ls => (nP (cx := cx) (fun q => (⟨[(0, .l (.d false 1 (encU a0))), (3, .l (.r 0 7 0 y1.2.length)), (4, .l (.s (.int .i64 y1.1))), (5, .l (.p 1 0))], [some ⟨36, 7, true, none, lvs (encEffect y1.2)⟩, some ⟨36, 7, false, none, [.s (.string v12), .s (.bool v16), .s (.int .i64 q.1), .s (.string q.2.1), .d false 2 (encField q.2.2.1), .d false 1 (encS q.2.2.2.1), .s (.int .i64 q.2.2.2.2)]⟩], 52, gh, ls⟩ : St))) y17) ?_ ?_
        · replace h := g17; clear g17
          replace h := ltE h; obtain ⟨v18, e18, h⟩ := h
          apply AW.step
          · simp [← e18]
            intros; rfl
          cases v18 with
          | true =>
            replace h := iteT rfl h
            refine AW.cond_true (by simp) ?_
            replace h := ltE h; obtain ⟨v19, e19, h⟩ := h
            replace h := bnE h; obtain ⟨v20, e20, h⟩ := h
            have f21 := encU_seglh e20
            try simp [← e13, ← e19] at f21
            replace h := ltE h; obtain ⟨v22, e22, h⟩ := h
            replace h := bnE h; obtain ⟨v23, e23, h⟩ := h
            replace h := bnE h; obtain ⟨v24, e24, h⟩ := h
            apply AW.drawnR (V := [_, _, _, _, _, _, _, _, _, _, _]) mixed [⟨[0], [], [(0, none)], false⟩, ⟨[0], [], [(4, none)], false⟩, ⟨[0], [1], [(35, some 1)], false⟩, ⟨[0], [], [(4, none)], false⟩, ⟨[0], [3], [(37, some 3)], false⟩, ⟨[0], [0, 1, 2, 3, 4], [(34, some 0), (36, some 2), (38, some 4)], false⟩, ⟨[0], [], [(0, none)], false⟩, ⟨[0], [], [(4, none)], false⟩, ⟨[0], [7], [(41, some 7)], false⟩, ⟨[0], [6, 7, 8], [(40, some 6), (42, some 8)], false⟩, ⟨[0], [6, 7, 8, 9], [(43, some 9)], false⟩, ⟨[], [0, 1, 2, 3, 4, 5, 6, 7, 8, 9, 10], [], false⟩, ⟨[], [0, 1, 2, 3, 4, 5, 6, 7, 8, 9, 10, 11], [], false⟩, ⟨[], [0, 1, 2, 3, 4, 5, 6, 7, 8, 9, 10, 11, 12], [], false⟩] 11 (by kernel_rfl) (by kernel_rfl)
            · refine ⟨?_, ?_, ?_, ?_, ?_, ?_, ?_, ?_, ?_, ?_, ?_, trivial⟩
              · intro tm hr
                simp [AllL, rdV] at hr
                simp [hr, ← e13, ← e19, f21, ← e22, nth_d e23]
                intros; first | exact KD.mk | exact KD.mkN
              · intro tm hr
                simp [AllL, rdV] at hr
                simp [hr, ← e13, ← e19, f21, ← e22, nth_d e23]
                intros; first | exact KD.mk | exact KD.mkN
              · intro tm hr
                simp [AllL, rdV] at hr
                simp [hr, ← e13, ← e19, f21, ← e22, nth_d e23]
                intros; first | exact KD.mk | exact KD.mkN
              · intro tm hr
                simp [AllL, rdV] at hr
                simp [hr, ← e13, ← e19, f21, ← e22, nth_d e23]
                intros; first | exact KD.mk | exact KD.mkN
              · intro tm hr
                simp [AllL, rdV] at hr
                simp [hr, ← e13, ← e19, f21, ← e22, nth_d e23]
                intros; first | exact KD.mk | exact KD.mkN
              · intro tm hr
                simp [AllL, rdV] at hr
                simp [hr, ← e13, ← e19, f21, ← e22, nth_d e23]
                intros; first | exact KD.mk | exact KD.mkN
              · intro tm hr
                simp [AllL, rdV] at hr
                simp [hr, ← e13, ← e19, f21, ← e22, nth_d e23]
                intros; first | exact KD.mk | exact KD.mkN
              · intro tm hr
                simp [AllL, rdV] at hr
                simp [hr, ← e13, ← e19, f21, ← e22, nth_d e23]
                intros; first | exact KD.mk | exact KD.mkN
              · intro tm hr
                simp [AllL, rdV] at hr
                simp [hr, ← e13, ← e19, f21, ← e22, nth_d e23]
                intros; first | exact KD.mk | exact KD.mkN
              · intro tm hr
                simp [AllL, rdV] at hr
                simp [hr, ← e13, ← e19, f21, ← e22, nth_d e23]
                intros; first | exact KD.mk | exact KD.mkN
              · intro tm hr
                simp [AllL, rdV] at hr
                simp [hr, ← e13, ← e19, f21, ← e22, nth_d e23]
                intros; first | exact KD.mk | exact KD.mkN
            · rfl
            · simp [tmD, putD, ← e13, ← e19, f21, ← e22, nth_d e23]; rfl
            · simp [← e13, ← e19, f21, ← e22, nth_d e23]
              intros
              refine xcall_plain en_l5_Make (s_l5_Make e24) rfl ⟨.same rfl, .same rfl, trivial⟩ ?_
              try simp [← e13, ← e19, f21, ← e22, nth_d e23]
              intros; rfl
            obtain rfl := Option.some.inj h
            refine nP_i ?_
            refine Weak.mixN [some 0, some 1] hn0 (by decide) ?_ ?_ rfl
            all_goals first | (simp [inv_cons, inv_nil, pickOb]; done) | rfl
          | false =>
            replace h := iteF rfl h
            refine AW.cond_false (by simp) ?_
            refine AW.skip ?_
            try simp only [sp_l, sp_r, Post.seq, Post.block, Nat.reduceEqDiff, reduceIte, Nat.zero_ne_one, Nat.one_ne_zero]
            obtain rfl := Option.some.inj h
            refine nP_i ?_
            refine W.nilCellD 1 4 2 rfl rfl rfl rfl ?_
            refine W.nilCellD 1 5 1 rfl rfl rfl rfl ?_
            refine Weak.mixN [some 0, some 1] hn0 (by decide) ?_ ?_ rfl
            all_goals first | (simp [inv_cons, inv_nil, pickOb]; done) | rfl
        · rintro e s hp
          obtain ⟨rfl, hw⟩ := hp
          refine ⟨_, hw, ?_⟩
          try simp only [sp_l, sp_r, Post.seq, Post.block, Nat.reduceEqDiff, reduceIte, Nat.zero_ne_one, Nat.one_ne_zero]
          replace h := chkE h; obtain ⟨e25, h⟩ := h
          replace h := ltE h; obtain ⟨v26, e26, h⟩ := h
          apply AW.last
          · simp [← encEffect_append, ← e26, app_len1 e26]
            intros
            refine xrow_own ?_
            try simp [← encEffect_append, ← e26, app_len1 e26]
            intros
            refine xapp_pushN (acc := encEffect y1.2) (ys := encEffect [(⟨v12, v16, (⟨y17.1, y17.2.1, y17.2.2.1, y17.2.2.2.1, y17.2.2.2.2⟩ : Item)⟩ : Effect)]) (cap := none) (k := 1) tb_el24 tb_ti36 (by simp) (by simp [encEffect, lvs]) (encEffect_sz _) (by simp) (by simp) (by simpa using (room_d e25).1) ?_
            try simp [← encEffect_append, ← e26, app_len1 e26]
            intros; rfl
          try simp only [sp_l, sp_r, Post.seq, Post.block, Nat.reduceEqDiff, reduceIte, Nat.zero_ne_one, Nat.one_ne_zero]
          replace h := ltE h; obtain ⟨v27, e27, h⟩ := h
          apply AW.last
          · simp [← e27]
            intros; rfl
          obtain rfl := Option.some.inj h
          refine nP_i ?_
          refine Weak.mixN [some 3] hn0 (by decide) ?_ ?_ rfl
          all_goals first | (simp [inv_cons, inv_nil, pickOb, lvs_encEffect1]; done) | rfl
      | false =>
        replace h := iteF rfl h
        refine AW.cond_false (by simp) ?_
        refine AW.exit ?_
        try simp only [sp_l, sp_r, Post.seq, Post.block, Nat.reduceEqDiff, reduceIte, Nat.zero_ne_one, Nat.one_ne_zero]
        obtain rfl := Option.some.inj h
        refine xP_i ?_
        refine Weak.mixN [some 0] hn0 (by decide) ?_ ?_ rfl
        all_goals first | (simp [inv_cons, inv_nil, pickOb]; done) | rfl
  · rintro e s hp
    obtain ⟨rfl, hw⟩ := hp
    refine ⟨_, hw, ?_⟩
    try simp only [sp_l, sp_r, Post.seq, Post.block, Nat.reduceEqDiff, reduceIte, Nat.zero_ne_one, Nat.one_ne_zero]
    apply AW.step
    · simp
      intros; rfl
    replace h := chkE h; obtain ⟨e28, h⟩ := h
    refine AW.frzRow 0 (ty := 36) (cap := none) (sz := 7) (es := encEffect y2) (by simp) (by omega) (encEffect_sz _) (by first | exact (room_d e28).2 | simpa using (room_d e28).2 | simp) (by simp [Tm.frz, AV.frz, LV.frz]; rfl) (by simp [Ob.frz, LV.frz]; rfl) rfl ?_
    obtain rfl := Option.some.inj h
    refine AW.ret ?_
    refine Left.plain hnb (by simp [Try.f16, resV, resC, comp]; rfl) rfl rfl ?_
    simp
theorem en_l11_Effects : Enters Try.prog 16 := enters Try.func16 (by kernel_rfl) rfl
def r5_SameFields_sh (n : Nat) (a0 : List Field) (a1 : List Field) : Option Bool :=
lt (lenI a0) fun v1 =>
lt (lenI a1) fun v2 =>
lt (neI v1 v2) fun v3 =>
ite' v3 (some false) (bn (iter n (fun (y4 : Int) =>
lt (lenI a0) fun v7 =>
lt (ltI y4 v7) fun v8 =>
ite' v8 (bn (nth a0 y4) fun v9 =>
bn (nth a1 y4) fun v10 =>
lt (notB (andB (eqS v9.name v10.name) (andB (eqS v9.val v10.val) true))) fun v11 =>
ite' v11 (some (.inr (.inr false))) (lt (addI .i64 y4 1) fun v12 =>
some (.inl v12))) (some (.inr (.inl ())))) 0) fun (y5 : Unit ⊕ Bool) =>
sm y5 (fun y13 => some true) (fun y14 => some y14))
set_option maxRecDepth 8000 in
set_option maxHeartbeats 8000000 in
theorem s_r5_SameFields {n : Nat} {a0 : List Field} {a1 : List Field} {r : Bool} (h : r5_SameFields_sh n a0 a1 = some r) : Sound Try.prog 23 [.l (.d false 2 (encField a0)), .l (.d false 2 (encField a1))] [] (.l (.s (.bool r))) [] := by
  unfold r5_SameFields_sh at h
  refine Sound.of_aw (fn := Try.f23) (c := _) Try.func23 rfl (by simp [Try.f23]) fun cx hG hnb => ?_
  rw [show Try.f23.ntmps = 26 from rfl]
  have hn0 : cx.nb = 0 := hnb
  simp only [st0_mk, initTm, List.map_cons, List.map_nil]
  apply AW.step
  · simp
    intros; rfl
  refine AW.seq ?_
  replace h := ltE h; obtain ⟨v1, e1, h⟩ := h
  replace h := ltE h; obtain ⟨v2, e2, h⟩ := h
  replace h := ltE h; obtain ⟨v3, e3, h⟩ := h
  apply AW.step
  · simp [lenI_cast e1, lenI_cast e2, ← e3]
    intros; rfl
  cases v3 with
  | true =>
    replace h := iteT rfl h
    refine AW.cond_true (by simp) ?_
    apply AW.step
    · simp
      intros; rfl
    obtain rfl := Option.some.inj h
    refine AW.ret ?_
    refine Left.plain hnb (by simp [Try.f23, resV, resC, comp]; rfl) rfl rfl ?_
    simp
  | false =>
    replace h := iteF rfl h
    refine AW.cond_false (by simp) ?_
    refine AW.skip ?_
    try simp only [sp_l, sp_r, Post.seq, Post.block, Nat.reduceEqDiff, reduceIte, Nat.zero_ne_one, Nat.one_ne_zero]
    try simp only [sp_l, sp_r, Post.seq, Post.block, Nat.reduceEqDiff, reduceIte, Nat.zero_ne_one, Nat.one_ne_zero]
    refine AW.seq ?_
    apply AW.step
    · simp
      intros; rfl
    refine AW.block ?_
    replace h := bnE h; obtain ⟨y5, g5, h⟩ := h
    refine AW.iterP g5 (mk := fun gh ls q => (⟨[(0, .l (.d false 2 (encField a0))), (1, .l (.d false 2 (encField a1))), (5, .l (.s (.int .i64 q)))], [], 26, gh, ls⟩ : St)) (N := fun gh ls => (sp (xP 0 (cx := cx) (fun _ => (⟨[], [], 26, gh, ls⟩ : St))) (rP (cx := cx) (P := Try.prog) Try.f23 (fun q => .l (.s (.bool q))) (fun q => [])))) ?_ (noS noX noR) ?_ ?_
    · refine Weak.mixN [] hn0 (by decide) ?_ ?_ rfl
      all_goals first | (simp [inv_cons, inv_nil, pickOb]; done) | rfl
    · clear h; intro y4 y6 h
      refine AW.seq ?_
      replace h := ltE h; obtain ⟨v7, e7, h⟩ := h
      replace h := ltE h; obtain ⟨v8, e8, h⟩ := h
      apply AW.step
      · simp [lenI_cast e7, ← e8]
        intros; rfl
      cases v8 with
      | true =>
        replace h := iteT rfl h
        refine AW.cond_true (by simp) ?_
        refine AW.skip ?_
        try simp only [sp_l, sp_r, Post.seq, Post.block, Nat.reduceEqDiff, reduceIte, Nat.zero_ne_one, Nat.one_ne_zero]
        try simp only [sp_l, sp_r, Post.seq, Post.block, Nat.reduceEqDiff, reduceIte, Nat.zero_ne_one, Nat.one_ne_zero]
        refine AW.seq ?_
        refine AW.block ?_
        replace h := bnE h; obtain ⟨v9, e9, h⟩ := h
        replace h := bnE h; obtain ⟨v10, e10, h⟩ := h
        replace h := ltE h; obtain ⟨v11, e11, h⟩ := h
        apply AW.drawnP (V := [_, _, _, _, _, _, _, _]) mixed [⟨[0], [], [(0, none)], false⟩, ⟨[0], [], [(5, none)], false⟩, ⟨[0], [0, 1], [(17, some 0), (18, some 1)], false⟩, ⟨[0], [0, 1, 2], [(19, some 2)], false⟩, ⟨[0], [], [(1, none)], false⟩, ⟨[0], [], [(5, none)], false⟩, ⟨[0], [4, 5], [(21, some 4), (22, some 5)], false⟩, ⟨[0], [4, 5, 6], [(23, some 6)], false⟩, ⟨[], [0, 1, 2, 3, 4, 5, 6, 7], [], false⟩] 8 (by kernel_rfl) (by kernel_rfl)
        · refine ⟨?_, ?_, ?_, ?_, ?_, ?_, ?_, ?_, trivial⟩
          · intro tm hr
            simp [AllL, rdV] at hr
            simp [hr, nth_d e9, nth_d e10, ← e11]
            intros; first | exact KD.mk | exact KD.mkN
          · intro tm hr
            simp [AllL, rdV] at hr
            simp [hr, nth_d e9, nth_d e10, ← e11]
            intros; first | exact KD.mk | exact KD.mkN
          · intro tm hr
            simp [AllL, rdV] at hr
            simp [hr, nth_d e9, nth_d e10, ← e11]
            intros; first | exact KD.mk | exact KD.mkN
          · intro tm hr
            simp [AllL, rdV] at hr
            simp [hr, nth_d e9, nth_d e10, ← e11]
            intros; first | exact KD.mk | exact KD.mkN
          · intro tm hr
            simp [AllL, rdV] at hr
            simp [hr, nth_d e9, nth_d e10, ← e11]
            intros; first | exact KD.mk | exact KD.mkN
          · intro tm hr
            simp [AllL, rdV] at hr
            simp [hr, nth_d e9, nth_d e10, ← e11]
            intros; first | exact KD.mk | exact KD.mkN
          · intro tm hr
            simp [AllL, rdV] at hr
            simp [hr, nth_d e9, nth_d e10, ← e11]
            intros; first | exact KD.mk | exact KD.mkN
          · intro tm hr
            simp [AllL, rdV] at hr
            simp [hr, nth_d e9, nth_d e10, ← e11]
            intros; first | exact KD.mk | exact KD.mkN
        · rfl
        · simp [tmD, putD, nth_d e9, nth_d e10, ← e11]; rfl
        · simp [nth_d e9, nth_d e10, ← e11]
          intros; rfl
        cases v11 with
        | true =>
          replace h := iteT rfl h
          refine AW.cond_true (by simp) ?_
          apply AW.step
          · simp
            intros; rfl
          obtain rfl := Option.some.inj h
          refine AW.ret ?_
          try simp only [sp_l, sp_r, Post.seq, Post.block, Nat.reduceEqDiff, reduceIte, Nat.zero_ne_one, Nat.one_ne_zero]
          refine rP_i ?_
          refine Left.plain hnb (by simp [Try.f23, resV, resC, comp]; rfl) rfl rfl ?_
          simp
        | false =>
          replace h := iteF rfl h
          refine AW.cond_false (by simp) ?_
          refine AW.skip ?_
          try simp only [sp_l, sp_r, Post.seq, Post.block, Nat.reduceEqDiff, reduceIte, Nat.zero_ne_one, Nat.one_ne_zero]
          try simp only [sp_l, sp_r, Post.seq, Post.block, Nat.reduceEqDiff, reduceIte, Nat.zero_ne_one, Nat.one_ne_zero]
          replace h := ltE h; obtain ⟨v12, e12, h⟩ := h
          apply AW.last
          · simp [← e12]
            intros; rfl
          obtain rfl := Option.some.inj h
          refine nP_i ?_
          refine Weak.mixN [] hn0 (by decide) ?_ ?_ rfl
          all_goals first | (simp [inv_cons, inv_nil, pickOb]; done) | rfl
      | false =>
        replace h := iteF rfl h
        refine AW.cond_false (by simp) ?_
        refine AW.exit ?_
        try simp only [sp_l, sp_r, Post.seq, Post.block, Nat.reduceEqDiff, reduceIte, Nat.zero_ne_one, Nat.one_ne_zero]
        obtain rfl := Option.some.inj h
        try simp only [sp_l, sp_r]
        refine xP_i ?_
        refine Weak.mixN [] hn0 (by decide) ?_ ?_ rfl
        all_goals first | (simp [inv_cons, inv_nil, pickOb]; done) | rfl
    · rintro e s hp
      rcases y5 with y13 | y14
      · replace h := smL h
        obtain ⟨rfl, hw⟩ := hp
        refine ⟨_, hw, ?_⟩
        try simp only [sp_l, sp_r, Post.seq, Post.block, Nat.reduceEqDiff, reduceIte, Nat.zero_ne_one, Nat.one_ne_zero]
        apply AW.step
        · simp
          intros; rfl
        obtain rfl := Option.some.inj h
        refine AW.ret ?_
        refine Left.plain hnb (by simp [Try.f23, resV, resC, comp]; rfl) rfl rfl ?_
        simp
      · replace h := smR h
        obtain ⟨rfl, hl⟩ := hp
        refine ⟨_, Weak.refl _, ?_⟩
        obtain rfl := Option.some.inj h
        exact hl
theorem en_r5_SameFields : Enters Try.prog 23 := enters Try.func23 (by kernel_rfl) rfl
def r1_Texts_sh (n : Nat) (a0 : List ByteArray) (a1 : List ByteArray) : Option Bool :=
lt (lenI a0) fun v1 =>
lt (lenI a1) fun v2 =>
lt (neI v1 v2) fun v3 =>
ite' v3 (some false) (bn (iter n (fun (y4 : Int) =>
lt (lenI a0) fun v7 =>
lt (ltI y4 v7) fun v8 =>
ite' v8 (bn (nth a0 y4) fun v9 =>
bn (nth a1 y4) fun v10 =>
lt (neS v9 v10) fun v11 =>
ite' v11 (some (.inr (.inr false))) (lt (addI .i64 y4 1) fun v12 =>
some (.inl v12))) (some (.inr (.inl ())))) 0) fun (y5 : Unit ⊕ Bool) =>
sm y5 (fun y13 => some true) (fun y14 => some y14))
set_option maxRecDepth 8000 in
set_option maxHeartbeats 8000000 in
theorem s_r1_Texts {n : Nat} {a0 : List ByteArray} {a1 : List ByteArray} {r : Bool} (h : r1_Texts_sh n a0 a1 = some r) : Sound Try.prog 31 [.l (.d false 1 (encS a0)), .l (.d false 1 (encS a1))] [] (.l (.s (.bool r))) [] := by
  unfold r1_Texts_sh at h
  refine Sound.of_aw (fn := Try.f31) (c := _) Try.func31 rfl (by simp [Try.f31]) fun cx hG hnb => ?_
  rw [show Try.f31.ntmps = 26 from rfl]
  have hn0 : cx.nb = 0 := hnb
  simp only [st0_mk, initTm, List.map_cons, List.map_nil]
  apply AW.step
  · simp
    intros; rfl
  refine AW.seq ?_
  replace h := ltE h; obtain ⟨v1, e1, h⟩ := h
  replace h := ltE h; obtain ⟨v2, e2, h⟩ := h
  replace h := ltE h; obtain ⟨v3, e3, h⟩ := h
  apply AW.step
  · simp [lenI_cast e1, lenI_cast e2, ← e3]
    intros; rfl
  cases v3 with
  | true =>
    replace h := iteT rfl h
    refine AW.cond_true (by simp) ?_
    apply AW.step
    · simp
      intros; rfl
    obtain rfl := Option.some.inj h
    refine AW.ret ?_
    refine Left.plain hnb (by simp [Try.f31, resV, resC, comp]; rfl) rfl rfl ?_
    simp
  | false =>
    replace h := iteF rfl h
    refine AW.cond_false (by simp) ?_
    refine AW.skip ?_
    try simp only [sp_l, sp_r, Post.seq, Post.block, Nat.reduceEqDiff, reduceIte, Nat.zero_ne_one, Nat.one_ne_zero]
    try simp only [sp_l, sp_r, Post.seq, Post.block, Nat.reduceEqDiff, reduceIte, Nat.zero_ne_one, Nat.one_ne_zero]
    refine AW.seq ?_
    apply AW.step
    · simp
      intros; rfl
    refine AW.block ?_
    replace h := bnE h; obtain ⟨y5, g5, h⟩ := h
    refine AW.iterP g5 (mk := fun gh ls q => (⟨[(0, .l (.d false 1 (encS a0))), (1, .l (.d false 1 (encS a1))), (5, .l (.s (.int .i64 q)))], [], 26, gh, ls⟩ : St)) (N := fun gh ls => (sp (xP 0 (cx := cx) (fun _ => (⟨[], [], 26, gh, ls⟩ : St))) (rP (cx := cx) (P := Try.prog) Try.f31 (fun q => .l (.s (.bool q))) (fun q => [])))) ?_ (noS noX noR) ?_ ?_
    · refine Weak.mixN [] hn0 (by decide) ?_ ?_ rfl
      all_goals first | (simp [inv_cons, inv_nil, pickOb]; done) | rfl
    · clear h; intro y4 y6 h
      refine AW.seq ?_
      replace h := ltE h; obtain ⟨v7, e7, h⟩ := h
      replace h := ltE h; obtain ⟨v8, e8, h⟩ := h
      apply AW.step
      · simp [lenI_cast e7, ← e8]
        intros; rfl
      cases v8 with
      | true =>
        replace h := iteT rfl h
        refine AW.cond_true (by simp) ?_
        refine AW.skip ?_
        try simp only [sp_l, sp_r, Post.seq, Post.block, Nat.reduceEqDiff, reduceIte, Nat.zero_ne_one, Nat.one_ne_zero]
        try simp only [sp_l, sp_r, Post.seq, Post.block, Nat.reduceEqDiff, reduceIte, Nat.zero_ne_one, Nat.one_ne_zero]
        refine AW.seq ?_
        refine AW.block ?_
        replace h := bnE h; obtain ⟨v9, e9, h⟩ := h
        replace h := bnE h; obtain ⟨v10, e10, h⟩ := h
        replace h := ltE h; obtain ⟨v11, e11, h⟩ := h
        apply AW.drawnP (V := [_, _, _, _, _, _, _, _]) mixed [⟨[0], [], [(0, none)], false⟩, ⟨[0], [], [(5, none)], false⟩, ⟨[0], [0, 1], [(17, some 0), (18, some 1)], false⟩, ⟨[0], [0, 1, 2], [(19, some 2)], false⟩, ⟨[0], [], [(1, none)], false⟩, ⟨[0], [], [(5, none)], false⟩, ⟨[0], [4, 5], [(21, some 4), (22, some 5)], false⟩, ⟨[0], [4, 5, 6], [(23, some 6)], false⟩, ⟨[], [0, 1, 2, 3, 4, 5, 6, 7], [], false⟩] 8 (by kernel_rfl) (by kernel_rfl)
        · refine ⟨?_, ?_, ?_, ?_, ?_, ?_, ?_, ?_, trivial⟩
          · intro tm hr
            simp [AllL, rdV] at hr
            simp [hr, nth_d e9, nth_d e10, ← e11]
            intros; first | exact KD.mk | exact KD.mkN
          · intro tm hr
            simp [AllL, rdV] at hr
            simp [hr, nth_d e9, nth_d e10, ← e11]
            intros; first | exact KD.mk | exact KD.mkN
          · intro tm hr
            simp [AllL, rdV] at hr
            simp [hr, nth_d e9, nth_d e10, ← e11]
            intros; first | exact KD.mk | exact KD.mkN
          · intro tm hr
            simp [AllL, rdV] at hr
            simp [hr, nth_d e9, nth_d e10, ← e11]
            intros; first | exact KD.mk | exact KD.mkN
          · intro tm hr
            simp [AllL, rdV] at hr
            simp [hr, nth_d e9, nth_d e10, ← e11]
            intros; first | exact KD.mk | exact KD.mkN
          · intro tm hr
            simp [AllL, rdV] at hr
            simp [hr, nth_d e9, nth_d e10, ← e11]
            intros; first | exact KD.mk | exact KD.mkN
          · intro tm hr
            simp [AllL, rdV] at hr
            simp [hr, nth_d e9, nth_d e10, ← e11]
            intros; first | exact KD.mk | exact KD.mkN
          · intro tm hr
            simp [AllL, rdV] at hr
            simp [hr, nth_d e9, nth_d e10, ← e11]
            intros; first | exact KD.mk | exact KD.mkN
        · rfl
        · simp [tmD, putD, nth_d e9, nth_d e10, ← e11]; rfl
        · simp [nth_d e9, nth_d e10, ← e11]
          intros; rfl
        cases v11 with
        | true =>
          replace h := iteT rfl h
          refine AW.cond_true (by simp) ?_
          apply AW.step
          · simp
            intros; rfl
          obtain rfl := Option.some.inj h
          refine AW.ret ?_
          try simp only [sp_l, sp_r, Post.seq, Post.block, Nat.reduceEqDiff, reduceIte, Nat.zero_ne_one, Nat.one_ne_zero]
          refine rP_i ?_
          refine Left.plain hnb (by simp [Try.f31, resV, resC, comp]; rfl) rfl rfl ?_
          simp
        | false =>
          replace h := iteF rfl h
          refine AW.cond_false (by simp) ?_
          refine AW.skip ?_
          try simp only [sp_l, sp_r, Post.seq, Post.block, Nat.reduceEqDiff, reduceIte, Nat.zero_ne_one, Nat.one_ne_zero]
          try simp only [sp_l, sp_r, Post.seq, Post.block, Nat.reduceEqDiff, reduceIte, Nat.zero_ne_one, Nat.one_ne_zero]
          replace h := ltE h; obtain ⟨v12, e12, h⟩ := h
          apply AW.last
          · simp [← e12]
            intros; rfl
          obtain rfl := Option.some.inj h
          refine nP_i ?_
          refine Weak.mixN [] hn0 (by decide) ?_ ?_ rfl
          all_goals first | (simp [inv_cons, inv_nil, pickOb]; done) | rfl
      | false =>
        replace h := iteF rfl h
        refine AW.cond_false (by simp) ?_
        refine AW.exit ?_
        try simp only [sp_l, sp_r, Post.seq, Post.block, Nat.reduceEqDiff, reduceIte, Nat.zero_ne_one, Nat.one_ne_zero]
        obtain rfl := Option.some.inj h
        try simp only [sp_l, sp_r]
        refine xP_i ?_
        refine Weak.mixN [] hn0 (by decide) ?_ ?_ rfl
        all_goals first | (simp [inv_cons, inv_nil, pickOb]; done) | rfl
    · rintro e s hp
      rcases y5 with y13 | y14
      · replace h := smL h
        obtain ⟨rfl, hw⟩ := hp
        refine ⟨_, hw, ?_⟩
        try simp only [sp_l, sp_r, Post.seq, Post.block, Nat.reduceEqDiff, reduceIte, Nat.zero_ne_one, Nat.one_ne_zero]
        apply AW.step
        · simp
          intros; rfl
        obtain rfl := Option.some.inj h
        refine AW.ret ?_
        refine Left.plain hnb (by simp [Try.f31, resV, resC, comp]; rfl) rfl rfl ?_
        simp
      · replace h := smR h
        obtain ⟨rfl, hl⟩ := hp
        refine ⟨_, Weak.refl _, ?_⟩
        obtain rfl := Option.some.inj h
        exact hl
theorem en_r1_Texts : Enters Try.prog 31 := enters Try.func31 (by kernel_rfl) rfl
def r5_SameItem_sh (n : Nat) (a0 : Item) (a1 : Item) : Option Bool :=
bn (lt (eqI a0.kind a1.kind) fun v2 =>
ite' v2 (lt (eqS a0.s a1.s) fun v3 =>
ite' v3 (lt (eqI a0.exp a1.exp) fun v4 =>
ite' v4 (bn (r5_SameFields_sh n a0.f a1.f) fun v5 =>
ite' v5 (bn (r1_Texts_sh n a0.l a1.l) fun v6 =>
some (v6)) (some (false))) (some (false))) (some (false))) (some (false))) fun (y1 : Bool) =>
some y1
set_option maxRecDepth 8000 in
set_option maxHeartbeats 8000000 in
theorem s_r5_SameItem {n : Nat} {a0 : Item} {a1 : Item} {r : Bool} (h : r5_SameItem_sh n a0 a1 = some r) : Sound Try.prog 58 [.g [.s (.int .i64 a0.kind), .s (.string a0.s), .d false 2 (encField a0.f), .d false 1 (encS a0.l), .s (.int .i64 a0.exp)], .g [.s (.int .i64 a1.kind), .s (.string a1.s), .d false 2 (encField a1.f), .d false 1 (encS a1.l), .s (.int .i64 a1.exp)]] [] (.l (.s (.bool r))) [] := by
  unfold r5_SameItem_sh at h
  refine Sound.of_aw (fn := Try.f58) (c := _) Try.func58 rfl (by simp [Try.f58]) fun cx hG hnb => ?_
  rw [show Try.f58.ntmps = 38 from rfl]
  have hn0 : cx.nb = 0 := hnb
  simp only [st0_mk, initTm, List.map_cons, List.map_nil]
  apply AW.step
  · simp
    intros; rfl
  replace h := bnE h; obtain ⟨y1, g1, h⟩ := h
  refine AW.flow (p := fun gh ls => (nP (cx := cx) (fun q => (⟨[(4, .l (.s (.bool q)))], [], 38, gh, ls⟩ : St))) y1) ?_ ?_
  · replace h := g1; clear g1
    replace h := ltE h; obtain ⟨v2, e2, h⟩ := h
    cases v2 with
    | true =>
      replace h := iteT rfl h
      replace h := ltE h; obtain ⟨v3, e3, h⟩ := h
      cases v3 with
      | true =>
        replace h := iteT rfl h
        replace h := ltE h; obtain ⟨v4, e4, h⟩ := h
        cases v4 with
        | true =>
          replace h := iteT rfl h
          replace h := bnE h; obtain ⟨v5, e5, h⟩ := h
          cases v5 with
          | true =>
            replace h := iteT rfl h
            replace h := bnE h; obtain ⟨v6, e6, h⟩ := h
            apply AW.last
            · simp [← e2, ← e3, ← e4]
              intros
              refine xcall_plain en_r5_SameFields (s_r5_SameFields e5) rfl ⟨.same rfl, .same rfl, trivial⟩ ?_
              try simp [← e2, ← e3, ← e4]
              intros
              refine xcall_plain en_r1_Texts (s_r1_Texts e6) rfl ⟨.same rfl, .same rfl, trivial⟩ ?_
              try simp [← e2, ← e3, ← e4]
              intros; rfl
            obtain rfl := Option.some.inj h
            refine nP_i ?_
            refine Weak.mixN [] hn0 (by decide) ?_ ?_ rfl
            all_goals first | (simp [inv_cons, inv_nil, pickOb]; done) | rfl
          | false =>
            replace h := iteF rfl h
            apply AW.last
            · simp [← e2, ← e3, ← e4]
              intros
              refine xcall_plain en_r5_SameFields (s_r5_SameFields e5) rfl ⟨.same rfl, .same rfl, trivial⟩ ?_
              try simp [← e2, ← e3, ← e4]
              intros; rfl
            obtain rfl := Option.some.inj h
            refine nP_i ?_
            refine Weak.mixN [] hn0 (by decide) ?_ ?_ rfl
            all_goals first | (simp [inv_cons, inv_nil, pickOb]; done) | rfl
        | false =>
          replace h := iteF rfl h
          apply AW.last
          · simp [← e2, ← e3, ← e4]
            intros; rfl
          obtain rfl := Option.some.inj h
          refine nP_i ?_
          refine Weak.mixN [] hn0 (by decide) ?_ ?_ rfl
          all_goals first | (simp [inv_cons, inv_nil, pickOb]; done) | rfl
      | false =>
        replace h := iteF rfl h
        apply AW.last
        · simp [← e2, ← e3]
          intros; rfl
        obtain rfl := Option.some.inj h
        refine nP_i ?_
        refine Weak.mixN [] hn0 (by decide) ?_ ?_ rfl
        all_goals first | (simp [inv_cons, inv_nil, pickOb]; done) | rfl
    | false =>
      replace h := iteF rfl h
      apply AW.last
      · simp [← e2]
        intros; rfl
      obtain rfl := Option.some.inj h
      refine nP_i ?_
      refine Weak.mixN [] hn0 (by decide) ?_ ?_ rfl
      all_goals first | (simp [inv_cons, inv_nil, pickOb]; done) | rfl
  · rintro e s hp
    obtain ⟨rfl, hw⟩ := hp
    refine ⟨_, hw, ?_⟩
    try simp only [sp_l, sp_r, Post.seq, Post.block, Nat.reduceEqDiff, reduceIte, Nat.zero_ne_one, Nat.one_ne_zero]
    obtain rfl := Option.some.inj h
    refine AW.ret ?_
    refine Left.plain hnb (by simp [Try.f58, resV, resC, comp]; rfl) rfl rfl ?_
    simp
theorem en_r5_SameItem : Enters Try.prog 58 := enters Try.func58 (by kernel_rfl) rfl
end Go.Proofs.Ytlkhfdccapkcdaa

/- Plain laws: comparisons of what is alike, feeds. -/
namespace Go.Proofs.Ytlkhfdccapkcdaa
open Go Go.RowKit
set_option linter.unusedVariables false
set_option linter.unusedSimpArgs false
@[simp] theorem eqS_self (a : ByteArray) : eqS a a = true := by simp [eqS]
@[simp] theorem neS_self (a : ByteArray) : neS a a = false := by simp [neS]
@[simp] theorem eqI_self (a : Int) : eqI a a = true := by simp [eqI]
@[simp] theorem neI_self (a : Int) : neI a a = false := by simp [neI]
@[simp] theorem eqB_self (a : Bool) : eqB a a = true := by simp [eqB]
@[simp] theorem neB_self (a : Bool) : neB a a = false := by simp [neB]
@[simp] theorem andB_tt : andB true true = true := rfl
theorem ltI_t {a b : Int} (h : a < b) : ltI a b = true := by simp [ltI, h]
theorem ltI_f {a b : Int} (h : ¬ a < b) : ltI a b = false := by simp [ltI]; omega
/-- An item of a size that goes through. -/
def okI (i : Item) : Prop := i.f.length ≤ 4398046511104 ∧ i.l.length ≤ 8796093022208
theorem item_Copy_ok (i : Item) (h : okI i) : item_Copy_sh big i = some i := by
  unfold item_Copy_sh
  have h1 := h.1
  have h2 := h.2
  rw [chk_small (by omega) (by omega), chk_small (by omega) (by omega), chk_room (by omega) (by omega), chk_room (by omega) (by omega)]
theorem r_eqF_refl (l : List Field) (h : l.length ≤ 10000000000000) : r5_SameFields_sh big l l = some true := by
  unfold r5_SameFields_sh
  simp only [lt_eq, bn_some, ite_t, ite_f, sm_inl, sm_inr, lenI_eq, Option.some.injEq, neI_self]
  refine bn_run (.inl ()) (fun i => (i : Int)) l.length (by unfold big; omega) rfl (fun i hi => ?_) ?_ ?_
  rotate_left 2
  · rfl
  · rw [ltI_t (by omega)]
    simp only [lt_eq, bn_some, ite_t, ite_f, sm_inl, sm_inr, lenI_eq, Option.some.injEq, nth_some hi, eqS_self, andB_tt, notB_t]
    rw [addI_64 (by omega) (by omega)]
    rfl
  · rw [ltI_f (by omega)]; rfl
theorem r_eqT_refl (l : List ByteArray) (h : l.length ≤ 10000000000000) : r1_Texts_sh big l l = some true := by
  unfold r1_Texts_sh
  simp only [lt_eq, bn_some, ite_t, ite_f, sm_inl, sm_inr, lenI_eq, Option.some.injEq, neI_self]
  refine bn_run (.inl ()) (fun i => (i : Int)) l.length (by unfold big; omega) rfl (fun i hi => ?_) ?_ ?_
  rotate_left 2
  · rfl
  · rw [ltI_t (by omega)]
    simp only [lt_eq, bn_some, ite_t, ite_f, sm_inl, sm_inr, lenI_eq, Option.some.injEq, nth_some hi, neS_self]
    rw [addI_64 (by omega) (by omega)]
    rfl
  · rw [ltI_f (by omega)]; rfl
theorem r_SameItem_refl (i : Item) (h : okI i) : r5_SameItem_sh big i i = some true := by
  unfold r5_SameItem_sh
  simp only [lt_eq, bn_some, ite_t, ite_f, sm_inl, sm_inr, lenI_eq, Option.some.injEq, eqI_self, eqS_self, r_eqF_refl i.f (by have := h.1; omega), r_eqT_refl i.l (by have := h.2; omega)]
def okE (l : List Effect) : Prop := l.length ≤ 1000000000 ∧ ∀ e ∈ l, okI e.item
def lastN (l : List Effect) : List Effect := l.drop (l.length - 64)
theorem okE.drop {l : List Effect} (h : okE l) (k : Nat) : okE (l.drop k) := ⟨by have := h.1; simp; omega, fun e he => h.2 e (List.mem_of_mem_drop he)⟩
end Go.Proofs.Ytlkhfdccapkcdaa

/- Plain laws: the effects that numbers tell. -/
namespace Go.Proofs.Ytlkhfdccapkcdaa
open Go Go.RowKit
set_option linter.unusedVariables false
set_option linter.unusedSimpArgs false
theorem remI_pos {k : IntKind} {a b : Int} (h : 0 ≤ a) (hb : 0 < b) : remI k a b = some (a % b) := by
  have : ¬ b = 0 := by omega
  simp only [remI, ne_eq, this, not_false_eq_true, if_true, Int.tmod_eq_emod_of_nonneg h]
theorem quoI_u64 {a b : Int} (h : 0 ≤ a) (h2 : a < 18446744073709551616) (hb : 0 < b) : quoI .u64 a b = some (a / b) := by
  have hne : ¬ b = 0 := by omega
  have h3 : a / b ≤ a := Int.ediv_le_self b h
  have h4 : 0 ≤ a / b := Int.ediv_nonneg h (by omega)
  simp only [quoI, ne_eq, hne, not_false_eq_true, if_true, Int.tdiv_eq_ediv_of_nonneg h, wrap_u64]
  rw [Int.emod_eq_of_lt h4 (by omega)]
theorem quoI_64 {a b : Int} (h : 0 ≤ a) (h2 : a < 9223372036854775808) (hb : 0 < b) : quoI .i64 a b = some (a / b) := by
  have hne : ¬ b = 0 := by omega
  have h3 : a / b ≤ a := Int.ediv_le_self b h
  have h4 : 0 ≤ a / b := Int.ediv_nonneg h (by omega)
  simp only [quoI, ne_eq, hne, not_false_eq_true, if_true, Int.tdiv_eq_ediv_of_nonneg h]
  rw [wrap64 (by omega) (by omega)]
theorem catS_ok {a b : ByteArray} (h : a.size + b.size ≤ 9223372036854775807) : catS a b = some (a ++ b) := by simp [catS, h]
theorem strL1 (x : Int) : (strL [x]).size = 1 := rfl
theorem Rn.cat {β : Type} {a b : ByteArray} {k : ByteArray → Option β} {Q : β → Prop} (h : a.size + b.size ≤ 9223372036854775807) (hk : Rn (k (a ++ b)) Q) : Rn (Go.Proofs.Ytlkhfdccapkcdaa.bn (catS a b) k) Q := Rn.bnE (catS_ok h) hk
theorem Digits_ok (a : Int) (h : -9223372036854775808 ≤ a) (h2 : a ≤ 9223372036854775807) : Rn (r1_Digits_sh big a) fun s => s.size ≤ 30 := by
  unfold r1_Digits_sh
  refine Rn.lt (Rn.bn (P := fun v : Int => 0 ≤ v ∧ v < 18446744073709551616) ?_ fun v hv => ?_)
  · refine Rn.lt (Rn.ite (fun _ => Rn.lt (Rn.some ?_)) (fun _ => Rn.some ?_)) <;> simp only [negI, cvI, wrap_u64] <;> omega
  refine Rn.bn (P := fun b : Int × ByteArray => 0 ≤ b.1 ∧ b.2.size ≤ 20) (Rn.iter _ (fun k a => 0 ≤ a.1 ∧ a.1 < 18446744073709551616 ∧ a.1 < 10 ^ (20 - k) ∧ a.2.size = k) 20 (by unfold big; omega) ⟨hv.1, hv.2, by simp only; omega, rfl⟩ fun k a hk hI => ?_) fun b hb => ?_
  · obtain ⟨i1, i2, i3, i4⟩ := hI
    refine Rn.lt (Rn.ite (fun hg => ?_) (fun hg => Rn.some ⟨i1, by simp only; omega⟩))
    have hg : 10 ≤ a.1 := by simpa [geI] using hg
    have hk2 : k < 20 := by
      apply Nat.lt_of_not_le
      intro hk3
      have : 20 - k = 0 := by omega
      rw [this] at i3
      simp at i3
      omega
    refine Rn.bnE (remI_pos i1 (by omega)) (Rn.lt (Rn.lt (Rn.lt (Rn.cat ?_ (Rn.bnE (quoI_u64 i1 i2 (by omega)) (Rn.some ⟨hk2, ?_, ?_, ?_, ?_⟩))))))
    · rw [strL1]; omega
    · simp only; omega
    · simp only; omega
    · have e : 20 - k = (20 - (k + 1)) + 1 := by omega
      rw [e, Int.pow_succ] at i3
      simp only
      omega
    · simp [strL1, i4]; omega
  · refine Rn.lt (Rn.lt (Rn.lt (Rn.cat ?_ (Rn.lt (Rn.ite (fun _ => Rn.cat ?_ (Rn.some ?_)) (fun _ => Rn.some ?_))))))
    · rw [strL1]; omega
    · have e1 : (⟨#[45]⟩ : ByteArray).size = 1 := rfl
      simp only [ByteArray.size_append, strL1, e1]; omega
    · have e1 : (⟨#[45]⟩ : ByteArray).size = 1 := rfl
      simp only [ByteArray.size_append, strL1, e1]; omega
    · simp [strL1]; omega
theorem Key_ok (a : Int) (h : 0 ≤ a) (h2 : a ≤ 255) : Rn (l11_Key_sh big a) fun _ => True := by
  unfold l11_Key_sh
  refine Rn.bnE (remI_pos h (by omega)) (Rn.lt (Rn.lt (Rn.cat ?_ (Rn.cat ?_ (Rn.lt ?_)))))
  · rw [strL1]; decide
  · rw [ByteArray.size_append, strL1]; decide
  rw [cvI_64 (by omega) (by omega)]
  refine Rn.bnE (quoI_64 h (by omega) (by omega)) (Rn.bnE (remI_pos (by omega) (by omega)) (Rn.bn (Digits_ok _ (by omega) (by omega)) fun s hs => Rn.cat ?_ (Rn.some trivial)))
  have e1 : (⟨#[123]⟩ : ByteArray).size = 1 := rfl
  have e2 : (⟨#[125]⟩ : ByteArray).size = 1 := rfl
  simp only [ByteArray.size_append, strL1, e1, e2]
  omega
theorem HSet_ok (l : List Field) (x y : ByteArray) (h : l.length ≤ 100) : Rn (r5_HSet_sh big l x y) fun m => m.length ≤ l.length + 1 := by
  unfold r5_HSet_sh
  refine Rn.bn (P := fun b : Bool × List Field => b.2.length + (if b.1 then 0 else 1) ≤ l.length + 1)
    (Rn.iter _ (fun k a => a.2.1 = (k : Int) ∧ a.2.2.length + (if a.1 then 0 else 1) ≤ k + 1) l.length (by unfold big; omega) ⟨rfl, by simp⟩ fun k a hk hI => ?_) fun b hb => ?_
  · obtain ⟨d, i, m⟩ := a
    obtain ⟨rfl, i2⟩ := hI
    simp only at i2
    refine Rn.lt (Rn.lt (Rn.ite (fun hg => ?_) (fun hg => Rn.some ?_)))
    · have hk2 : k < l.length := by
        have : ((k : Int) < (l.length : Int)) := by simpa [ltI, lenI] using hg
        omega
      refine Rn.bn (P := fun b : Bool × List Field => b.2.length + (if b.1 then 0 else 1) ≤ k + 2) ?_ fun b hb => ?_
      · refine Rn.bn (P := fun b : Bool × List Field => b.2.length + (if b.1 then 0 else 1) ≤ k + 1) ?_ fun b hb => ?_
        · refine Rn.bn (P := fun b : Bool => b = true → d = false) ?_ fun b hb => ?_
          · refine Rn.lt (Rn.ite (fun hd => Rn.bnE (nth_some hk2) (Rn.lt (Rn.some fun _ => ?_))) (fun hd => Rn.some (by simp)))
            simpa [notB] using hd
          · refine Rn.lt (Rn.ite (fun hd => Rn.room ?_ ?_ (Rn.lt (Rn.some ?_))) (fun hd => Rn.some i2))
            · simp only; split at i2 <;> omega
            · simp only; split at i2 <;> omega
            · rw [hb hd] at i2
              simpa using i2
        · refine Rn.bnE (nth_some hk2) (Rn.lt (Rn.ite (fun hd => Rn.room ?_ ?_ (Rn.lt (Rn.some ?_))) (fun hd => Rn.some ?_)))
          · split at hb <;> omega
          · split at hb <;> omega
          · simp only [List.length_append, List.length_cons, List.length_nil]
            omega
          · simp only; omega
      · refine Rn.lt (Rn.some ⟨hk2, ?_, ?_⟩)
        · simp only; rw [addI_64 (by omega) (by omega)]; omega
        · simpa using hb
    · simp only
      split at i2 <;> simp_all <;> omega
  · refine Rn.bn (P := fun m : List Field => m.length ≤ l.length + 1) ?_ fun m hm => Rn.room (by omega) (by omega) (Rn.some hm)
    refine Rn.lt (Rn.ite (fun hd => Rn.room ?_ ?_ (Rn.lt (Rn.some ?_))) (fun hd => Rn.some ?_))
    · split at hb <;> omega
    · split at hb <;> omega
    · have : b.1 = false := by simpa [notB] using hd
      rw [this] at hb
      simpa using hb
    · split at hb <;> omega
theorem SHas_ok (l : List ByteArray) (x : ByteArray) (h : l.length ≤ 1000000000) : Rn (r5_SHas_tf_sh big l x) fun _ => True := by
  unfold r5_SHas_tf_sh
  refine Rn.bn (P := fun _ => True) (Rn.iter _ (fun k a => a = (k : Int)) l.length (by unfold big; omega) rfl fun k a hk hI => ?_) fun b _ => Rn.sm (fun _ _ => Rn.some trivial) (fun _ _ => Rn.some trivial)
  subst hI
  refine Rn.lt (Rn.lt (Rn.ite (fun hg => ?_) (fun hg => Rn.some trivial)))
  have hk2 : k < l.length := by
    have : ((k : Int) < (l.length : Int)) := by simpa [ltI, lenI] using hg
    omega
  refine Rn.bnE (nth_some hk2) (Rn.lt (Rn.ite (fun _ => Rn.some trivial) (fun _ => Rn.lt (Rn.some ⟨hk2, ?_⟩))))
  rw [addI_64 (by omega) (by omega)]; omega
theorem SAdd_ok (l : List ByteArray) (x : ByteArray) (h : l.length ≤ 1000000000) : Rn (r5_SAdd_tf_sh big l x) fun m => m.length ≤ l.length + 1 := by
  unfold r5_SAdd_tf_sh
  refine Rn.bn (SHas_ok l x h) fun v _ => Rn.ite (fun _ => Rn.room (by omega) (by omega) (Rn.some (by omega))) (fun _ => ?_)
  refine Rn.bn (P := fun i : Int => ∃ k : Nat, k ≤ l.length ∧ i = k) (Rn.iter _ (fun k a => a = (k : Int)) l.length (by unfold big; omega) rfl fun k a hk hI => ?_) fun b hb => ?_
  · subst hI
    refine Rn.bn (P := fun b : Bool => b = true → k < l.length) ?_ fun b hb => Rn.lt (Rn.ite (fun hd => Rn.lt (Rn.some ⟨hb hd, ?_⟩)) (fun _ => Rn.some ⟨k, hk, rfl⟩))
    · refine Rn.lt (Rn.lt (Rn.ite (fun hg => ?_) (fun _ => Rn.some (by simp))))
      have hk2 : k < l.length := by
        have : ((k : Int) < (l.length : Int)) := by simpa [ltI, lenI] using hg
        omega
      exact Rn.bnE (nth_some hk2) (Rn.lt (Rn.some fun _ => hk2))
    · have := hb hd
      rw [addI_64 (by omega) (by omega)]; omega
  · obtain ⟨k, hk, rfl⟩ := hb
    refine Rn.bnE (segh_nat hk) (Rn.room ?_ ?_ (Rn.room ?_ ?_ (Rn.lt (Rn.bnE (segl_nat hk) (Rn.room ?_ ?_ (Rn.lt (Rn.some ?_)))))))
    all_goals simp only [List.length_append, List.length_cons, List.length_nil, List.length_take, List.length_drop]
    all_goals omega
end Go.Proofs.Ytlkhfdccapkcdaa

/- Plain laws: items and effects that numbers tell. -/
namespace Go.Proofs.Ytlkhfdccapkcdaa
open Go Go.RowKit
set_option linter.unusedVariables false
set_option linter.unusedSimpArgs false
def u8s (l : List Int) : Prop := ∀ x ∈ l, 0 ≤ x ∧ x ≤ 255
theorem ltI_d {a b : Int} (h : ltI a b = true) : a < b := by simpa [ltI] using h
theorem ltI_n {a b : Int} (h : ltI a b = false) : b ≤ a := by simpa [ltI] using h
theorem eqI_n {a b : Int} (h : eqI a b = false) : a ≠ b := by simpa [eqI] using h
theorem Make_ok (l : List Int) (x : Int) (hl : u8s l) (hx : 0 ≤ x) (hx2 : x ≤ 255) : Rn (l5_Make_sh big l x) fun i => i.f.length ≤ 9 ∧ i.l.length ≤ 9 := by
  unfold l5_Make_sh
  refine Rn.lt (Rn.lt (Rn.ite (fun _ => Rn.some ⟨by simp, by simp⟩) (fun hne => ?_)))
  have h0 : 0 < l.length := by
    have := eqI_n hne
    simp only [lenI] at this
    omega
  have hb0 := hl _ (List.getElem_mem h0)
  refine Rn.bnE (nth_some (i := 0) h0) (Rn.lt ?_)
  rw [cvI_64 (by omega) (by omega)]
  refine Rn.bnE (remI_pos hb0.1 (by omega)) (Rn.lt (Rn.bn (P := fun _ => True) ?_ fun v _ => ?_))
  · refine Rn.bnE (remI_pos hx (by omega)) (Rn.lt (Rn.ite (fun _ => Rn.lt (Rn.some trivial)) (fun _ => Rn.some trivial)))
  generalize addI .i64 1 (l[0] % 4) = kd
  refine Rn.bn (P := fun b : ByteArray × List Field × List ByteArray => b.2.1.length ≤ 9 ∧ b.2.2.length ≤ 9)
    (Rn.iter _ (fun k a => a.1 = ((k + 1 : Nat) : Int) ∧ a.2.1.size ≤ 40 * k ∧ a.2.2.1.length ≤ k ∧ a.2.2.2.length ≤ k) 8 (by unfold big; omega) ⟨rfl, Nat.le_refl _, by simp, by simp⟩ fun k a hk hI => ?_) fun b hb => ?_
  · obtain ⟨i, s, f, m⟩ := a
    obtain ⟨rfl, i2, i3, i4⟩ := hI
    simp only at i2 i3 i4
    refine Rn.bn (P := fun b : Bool => b = true → k < 8 ∧ k + 1 < l.length) ?_ fun b hb => Rn.lt (Rn.ite (fun hd => ?_) (fun _ => Rn.some ⟨by simp only; omega, by simp only; omega⟩))
    · refine Rn.lt (Rn.lt (Rn.ite (fun hg => Rn.lt (Rn.some fun hg2 => ?_)) (fun _ => Rn.some (by simp))))
      have h1 := ltI_d hg
      have h2 := ltI_d hg2
      simp only [lenI] at h1 h2
      omega
    · obtain ⟨hk8, hkl⟩ := hb hd
      have hb1 := hl _ (List.getElem_mem hkl)
      refine Rn.bn (P := fun b : ByteArray × List Field × List ByteArray => b.1.size ≤ 40 * (k + 1) ∧ b.2.1.length ≤ k + 1 ∧ b.2.2.length ≤ k + 1) ?_ fun b hb => Rn.lt (Rn.some ⟨hk8, ?_, hb⟩)
      · refine Rn.bnE (nth_some hkl) (Rn.bnE (remI_pos hb1.1 (by omega)) (Rn.lt (Rn.lt (Rn.lt ?_))))
        rw [cvI_64 (by omega) (by omega)]
        refine Rn.bnE (remI_pos hb1.1 (by omega)) ?_
        refine Rn.bn (Digits_ok _ (by omega) (by omega)) fun d hd => ?_
        refine Rn.cat (by rw [strL1]; omega) ?_
        have hw : ∀ x : Int, (strL [x] ++ d).size ≤ 31 := fun x => by
          rw [ByteArray.size_append, strL1]; omega
        have hw := hw (addI .u8 97 (l[k + 1] % 5))
        revert hw
        generalize strL [addI .u8 97 (l[k + 1] % 5)] ++ d = w
        intro hw
        refine Rn.lt ?_
        refine Rn.ite (fun _ => ?_) (fun _ => ?_)
        · refine Rn.cat (by simp only; omega) (Rn.some ⟨?_, ?_, ?_⟩)
          · rw [ByteArray.size_append]; simp only; omega
          · simp only; omega
          · simp only; omega
        refine Rn.lt ?_
        refine Rn.ite (fun _ => ?_) (fun _ => ?_)
        · refine Rn.lt ?_
          rw [subI_64 (by omega) (by omega)]
          refine Rn.bn (Digits_ok _ (by omega) (by omega)) fun e he => ?_
          refine Rn.bn (HSet_ok _ _ _ (by simp only; omega)) fun z hz => ?_
          refine Rn.some ⟨?_, ?_, ?_⟩
          · simp only; omega
          · simp only at hz ⊢; omega
          · simp only; omega
        refine Rn.lt ?_
        refine Rn.ite (fun _ => ?_) (fun _ => ?_)
        · refine Rn.room (by simp only; omega) (by simp only; omega) (Rn.lt (Rn.some ⟨?_, ?_, ?_⟩))
          · simp only; omega
          · simp only; omega
          · simp only [List.length_append, List.length_cons, List.length_nil]; omega
        · refine Rn.room (by simp only; omega) (by simp only; omega) ?_
          refine Rn.bn (SAdd_ok _ _ (by simp only; omega)) fun z hz => ?_
          refine Rn.some ⟨?_, ?_, ?_⟩
          · simp only; omega
          · simp only; omega
          · simp only at hz ⊢; omega
      · show addI .i64 ((k + 1 : Nat) : Int) 1 = _
        rw [addI_64 (by omega) (by omega)]; omega
  · refine Rn.bn (P := fun _ => True) ?_ fun c _ => ?_
    rotate_left
    · refine Rn.lt (Rn.ite (fun _ => ?_) (fun _ => Rn.room (by omega) (by omega) (Rn.some hb)))
      refine Rn.bnE (nth_some (i := 0) h0) (Rn.lt ?_)
      rw [cvI_64 (by omega) (by omega)]
      exact Rn.bn (Digits_ok _ (by omega) (by omega)) fun d hd => Rn.some ⟨by simp, by simp⟩
    · exact Rn.lt (Rn.lt (Rn.ite (fun _ => Rn.lt (Rn.some trivial)) (fun _ => Rn.some trivial)))
theorem u8s.seg {l : List Int} (h : u8s l) (i j : Nat) : u8s ((l.drop i).take j) := fun x hx => h x (List.mem_of_mem_drop (List.mem_of_mem_take hx))
end Go.Proofs.Ytlkhfdccapkcdaa

/- Plain law: feeds keep the last of what was added. -/
namespace Go.Proofs.Ytlkhfdccapkcdaa
open Go Go.RowKit
set_option linter.unusedVariables false
set_option linter.unusedSimpArgs false
theorem okE.lastN {l : List Effect} (h : okE l) : okE (lastN l) := h.drop _
def allR (l : List Effect) (i : Nat) : List Effect := (List.replicate i l).flatten
def fdOf (off : Int) (b : List Effect) : Feed := ⟨⟨0, 0⟩, off, b, ⟨0, 0⟩, 0⟩
end Go.Proofs.Ytlkhfdccapkcdaa

/- Plain laws: spaces that rise, what an effect makes of one. -/
namespace Go.Proofs.Ytlkhfdccapkcdaa
open Go Go.RowKit
set_option linter.unusedVariables false
set_option linter.unusedSimpArgs false
section
variable {α β γ σ : Type}
/-- Rounds over a list. -/
theorem bn_fold {f : α → Option (α ⊕ β)} {a0 : α} {k : β → Option γ} {r : Option γ} {δ : Type} (l : List δ) (g : σ → δ → σ) (mk : Nat → σ → α) (s0 : σ) (b : β) (hl : l.length ≤ 140737488355328) (h0 : a0 = mk 0 s0)
    (h : ∀ i (hi : i < l.length) a, a = (l.take i).foldl g s0 → f (mk i a) = some (.inl (mk (i + 1) (g a l[i])))) (he : f (mk l.length (l.foldl g s0)) = some (.inr b)) (hk : k b = r) : bn (iter big f a0) k = r := by
  refine bn_run b (fun i => mk i ((l.take i).foldl g s0)) l.length (by unfold big; omega) h0 (fun i hi => ?_) ?_ hk
  · rw [h i hi _ rfl, ← List.take_append_getElem hi, List.foldl_append]
    rfl
  · rw [List.take_length]; exact he
/-- Where a name stands among what rises. -/
theorem shapeG {key : α → ByteArray} (name : ByteArray) : ∀ l : List α, l.Pairwise (fun a b => slt (key a) (key b) = true) → ∃ A B C, l = A ++ B ++ C ∧ (∀ a ∈ A, slt (key a) name = true) ∧ (∀ c ∈ C, slt name (key c) = true) ∧ (B = [] ∨ ∃ x, B = [x] ∧ key x = name)
  | [], _ => ⟨[], [], [], rfl, by simp, by simp, .inl rfl⟩
  | a :: l, h => by
    obtain ⟨h1, h2⟩ := List.pairwise_cons.1 h
    cases hs : slt (key a) name
    · rcases (slt_or _ _).1 hs with e | e
      · exact ⟨[], [a], l, rfl, by simp, fun c hc => e ▸ h1 c hc, .inr ⟨a, rfl, e⟩⟩
      · refine ⟨[], [], a :: l, rfl, by simp, fun c hc => ?_, .inl rfl⟩
        rcases List.mem_cons.1 hc with rfl | hc
        · exact e
        · exact slt_trans e (h1 c hc)
    · obtain ⟨A, B, C, rfl, h3, h4, h5⟩ := shapeG name l h2
      exact ⟨a :: A, B, C, rfl, fun x hx => by rcases List.mem_cons.1 hx with rfl | hx; exact hs; exact h3 x hx, h4, h5⟩
theorem Rn.eq {m : Option α} {v : α} (h : Rn m (· = v)) : m = Option.some v := by
  obtain ⟨w, h1, rfl⟩ := h
  exact h1
end
def SrtP (l : List Pair) : Prop := l.Pairwise (fun a b => slt a.key b.key = true)
def newP (e : Effect) : List Pair := if e.gone then [] else [⟨e.key, e.item⟩]
def applyP (l : List Pair) (e : Effect) : List Pair := l.filter (fun p => slt p.key e.key) ++ newP e ++ l.filter (fun p => slt e.key p.key)
theorem filtP_all {α : Type} {p : α → Bool} {l : List α} (h : ∀ a ∈ l, p a = true) : l.filter p = l := List.filter_eq_self.2 h
theorem filtP_no {α : Type} {p : α → Bool} {l : List α} (h : ∀ a ∈ l, p a = false) : l.filter p = [] := List.filter_eq_nil_iff.2 fun a ha => by simp [h a ha]
theorem applyP_shape {A B C : List Pair} {e : Effect} (hA : ∀ a ∈ A, slt a.key e.key = true) (hC : ∀ c ∈ C, slt e.key c.key = true) (hB : B = [] ∨ ∃ x, B = [x] ∧ x.key = e.key) : applyP (A ++ B ++ C) e = A ++ newP e ++ C := by
  have hB1 : ∀ b ∈ B, slt b.key e.key = false := fun b hb => by
    rcases hB with rfl | ⟨x, rfl, hx⟩
    · simp at hb
    · simp at hb; subst hb; rw [hx]; exact slt_irrefl _
  have hB2 : ∀ b ∈ B, slt e.key b.key = false := fun b hb => by
    rcases hB with rfl | ⟨x, rfl, hx⟩
    · simp at hb
    · simp at hb; subst hb; rw [hx]; exact slt_irrefl _
  unfold applyP
  rw [List.filter_append, List.filter_append, List.filter_append, List.filter_append, filtP_all hA, filtP_no hB1, filtP_no (fun c hc => slt_asymm (hC c hc)), filtP_no (fun a ha => slt_asymm (hA a ha)), filtP_no hB2, filtP_all hC]
  simp
theorem applyP_srt {l : List Pair} (h : SrtP l) (e : Effect) : SrtP (applyP l e) := by
  unfold SrtP applyP newP
  have h1 : SrtP (l.filter (fun p => slt p.key e.key)) := List.Pairwise.filter _ h
  have h2 : SrtP (l.filter (fun p => slt e.key p.key)) := List.Pairwise.filter _ h
  refine List.pairwise_append.2 ⟨List.pairwise_append.2 ⟨h1, ?_, fun a ha b hb => ?_⟩, h2, fun a ha b hb => ?_⟩
  · split <;> simp
  · split at hb
    · simp at hb
    · simp at hb; subst hb; exact (List.mem_filter.1 ha).2
  · have hb2 := (List.mem_filter.1 hb).2
    rcases List.mem_append.1 ha with ha | ha
    · exact slt_trans (List.mem_filter.1 ha).2 hb2
    · split at ha
      · simp at ha
      · simp at ha; subst ha; exact hb2
theorem applyP_len (l : List Pair) (e : Effect) (h : SrtP l) : (applyP l e).length ≤ l.length + 1 := by
  obtain ⟨A, B, C, rfl, hA, hC, hB⟩ := shapeG (key := Pair.key) e.key l h
  rw [applyP_shape hA hC hB]
  have : (newP e).length ≤ 1 := by unfold newP; split <;> simp
  simp; omega
def okP (l : List Pair) : Prop := ∀ p ∈ l, okI p.item
theorem applyP_ok {l : List Pair} {e : Effect} (h : okP l) (he : okI e.item) : okP (applyP l e) := by
  intro p hp
  unfold applyP newP at hp
  rcases List.mem_append.1 hp with hp | hp
  · rcases List.mem_append.1 hp with hp | hp
    · exact h p (List.mem_filter.1 hp).1
    · split at hp
      · simp at hp
      · simp at hp; subst hp; exact he
  · exact h p (List.mem_filter.1 hp).1
/-! ### The document's -/
def stepP (e : Effect) (a : Bool × List Pair) (x : Pair) : Bool × List Pair :=
  let a1 := if a.1 = false ∧ slt x.key e.key = false then (true, a.2 ++ [⟨e.key, e.item⟩]) else a
  if x.key = e.key then a1 else (a1.1, a1.2 ++ [x])
theorem stepP_len (e : Effect) (a : Bool × List Pair) (x : Pair) : (stepP e a x).2.length ≤ a.2.length + 2 := by
  unfold stepP
  dsimp only
  split <;> split <;> simp <;> omega
theorem foldP_len (e : Effect) : ∀ (l : List Pair) (a : Bool × List Pair), (l.foldl (stepP e) a).2.length ≤ a.2.length + 2 * l.length
  | [], a => by simp
  | x :: l, a => by
    have h1 := foldP_len e l (stepP e a x)
    have h2 := stepP_len e a x
    simp only [List.foldl_cons, List.length_cons]
    omega
theorem foldP_low {e : Effect} : ∀ (A : List Pair) (d : Bool) (out : List Pair), (∀ a ∈ A, slt a.key e.key = true) → A.foldl (stepP e) (d, out) = (d, out ++ A)
  | [], d, out, _ => by simp
  | a :: A, d, out, h => by
    have h1 := h a (by simp)
    have e1 : stepP e (d, out) a = (d, out ++ [a]) := by simp [stepP, h1, slt_ne h1]
    rw [List.foldl_cons, e1, foldP_low A d (out ++ [a]) fun b hb => h b (by simp [hb])]
    simp
theorem foldP_high {e : Effect} : ∀ (A : List Pair) (out : List Pair), (∀ a ∈ A, slt e.key a.key = true) → A.foldl (stepP e) (true, out) = (true, out ++ A)
  | [], out, _ => by simp
  | a :: A, out, h => by
    have h1 := h a (by simp)
    have hne : ¬ a.key = e.key := fun h => slt_ne h1 h.symm
    have e1 : stepP e (true, out) a = (true, out ++ [a]) := by simp [stepP, hne]
    rw [List.foldl_cons, e1, foldP_high A (out ++ [a]) fun b hb => h b (by simp [hb])]
    simp
theorem foldP_all {e : Effect} {l : List Pair} (h : SrtP l) : (bif (l.foldl (stepP e) (e.gone, [])).1 then (l.foldl (stepP e) (e.gone, [])).2 else (l.foldl (stepP e) (e.gone, [])).2 ++ [⟨e.key, e.item⟩]) = applyP l e := by
  obtain ⟨A, B, C, rfl, hA, hC, hB⟩ := shapeG (key := Pair.key) e.key l h
  rw [applyP_shape hA hC hB, List.foldl_append, List.foldl_append, foldP_low A _ _ hA]
  cases hg : e.gone
  · rcases hB with rfl | ⟨x, rfl, hx⟩
    · cases C with
      | nil => simp [newP, hg]
      | cons c C =>
        have h1 := hC c (by simp)
        have hne : ¬ c.key = e.key := fun h => slt_ne h1 h.symm
        have e1 : stepP e (false, [] ++ A) c = (true, A ++ [⟨e.key, e.item⟩, c]) := by simp [stepP, slt_asymm h1, hne]
        rw [List.foldl_nil, List.foldl_cons, e1, foldP_high C _ fun b hb => hC b (by simp [hb])]
        simp [newP, hg]
    · have e1 : stepP e (false, [] ++ A) x = (true, A ++ [⟨e.key, e.item⟩]) := by simp [stepP, hx, slt_irrefl]
      rw [List.foldl_cons, List.foldl_nil, e1, foldP_high C _ hC]
      simp [newP, hg]
  · rcases hB with rfl | ⟨x, rfl, hx⟩
    · rw [List.foldl_nil, foldP_high C _ hC]
      simp [newP, hg]
    · have e1 : stepP e (true, [] ++ A) x = (true, A) := by simp [stepP, hx]
      rw [List.foldl_cons, List.foldl_nil, e1, foldP_high C _ hC]
      simp [newP, hg]
theorem r_apply_ok (l : List Pair) (e : Effect) (h : SrtP l) (hl : l.length ≤ 100000000) : r5_apply_sh big l e = some (applyP l e) := by
  unfold r5_apply_sh
  refine bn_fold l (stepP e) (fun i a => (a.1, (i : Int), a.2)) (e.gone, []) (l.foldl (stepP e) (e.gone, [])) (by omega) rfl (fun i hi a ha => ?_) ?_ ?_
  · have hlen : a.2.length ≤ 2 * i := by
      have := foldP_len e (l.take i) (e.gone, [])
      rw [← ha] at this
      simp at this
      omega
    simp only [lt_eq, bn_some, ite_t, ite_f, sm_inl, sm_inr, lenI_eq, Option.some.injEq]
    rw [ltI_t (by omega)]
    simp only [lt_eq, bn_some, ite_t, ite_f, sm_inl, sm_inr, lenI_eq, Option.some.injEq, nth_some hi]
    have e2 : (ite' (ite' (notB a.1) (some (geS l[i].key e.key)) (some false)).get! (some (true, a.2 ++ [(⟨e.key, e.item⟩ : Pair)])) (some (a.1, a.2))) = some (if a.1 = false ∧ slt l[i].key e.key = false then (true, a.2 ++ [⟨e.key, e.item⟩]) else a) := by
      cases h1 : a.1 <;> cases h2 : slt l[i].key e.key <;> simp [notB, geS, h1, h2, ite'] <;> (rw [← h1])
    rw [chk_room (by omega) (by omega)]
    have e3 : ite' (notB a.1) (some (geS l[i].key e.key)) (some false) = some (ite' (notB a.1) (some (geS l[i].key e.key)) (some false)).get! := by
      cases a.1 <;> rfl
    rw [e3]
    simp only [lt_eq, bn_some, ite_t, ite_f, sm_inl, sm_inr, lenI_eq, Option.some.injEq]
    rw [e2]
    simp only [lt_eq, bn_some, ite_t, ite_f, sm_inl, sm_inr, lenI_eq, Option.some.injEq]
    rw [addI_64 (by omega) (by omega)]
    unfold stepP
    dsimp only
    generalize hq : (if a.1 = false ∧ slt l[i].key e.key = false then (true, a.2 ++ [(⟨e.key, e.item⟩ : Pair)]) else a) = q
    have hq2 : q.2.length ≤ 2 * i + 1 := by
      rw [← hq]
      split
      · simp only [List.length_append, List.length_cons, List.length_nil]; omega
      · omega
    by_cases hk : l[i].key = e.key
    · rw [hk, neS_self]
      simp [ite_f, bn_some]
    · rw [show neS l[i].key e.key = true by simp [neS, hk], if_neg hk, ite_t, chk_room (by omega) (by omega)]
      simp only [lt_eq, bn_some, ite_t, ite_f, sm_inl, sm_inr, lenI_eq, Option.some.injEq]
      simp
  · simp only [lt_eq, bn_some, ite_t, ite_f, sm_inl, sm_inr, lenI_eq, Option.some.injEq]
    rw [ltI_f (by omega)]
    rfl
  · have hlen : (l.foldl (stepP e) (e.gone, [])).2.length ≤ 2 * l.length := by
      have := foldP_len e l (e.gone, [])
      simp at this
      omega
    have hA := foldP_all (e := e) h
    have hn := applyP_len l e h
    simp only [lt_eq, bn_some, ite_t, ite_f, sm_inl, sm_inr, lenI_eq, Option.some.injEq]
    rw [chk_room (by omega) (by omega)]
    revert hA
    cases (l.foldl (stepP e) (e.gone, [])).1 <;> intro hA <;> simp at hA <;> rw [hA] <;> simp [notB, ite', bn_some] <;> rw [chk_room (by omega) (by omega)]
end Go.Proofs.Ytlkhfdccapkcdaa

/- Plain laws: the program's space. -/
namespace Go.Proofs.Ytlkhfdccapkcdaa
open Go Go.RowKit
set_option linter.unusedVariables false
set_option linter.unusedSimpArgs false
theorem shr1 {x : Int} (h : 0 ≤ x) : shrI .u64 x 1 = some (x / 2) := by
  simp [shrI, IntKind.bits, Int.fdiv_eq_ediv_of_nonneg]
theorem cvU_64 {a : Int} (h : 0 ≤ a) (h2 : a < 18446744073709551616) : cvI .u64 a = a := by
  simp only [cvI, wrap_u64]; omega
theorem find_ok (A B C : List Pair) (k : ByteArray) (hA : ∀ a ∈ A, slt a.key k = true) (hC : ∀ c ∈ C, slt k c.key = true) (hB : B = [] ∨ ∃ x, B = [x] ∧ x.key = k) (hl : (A ++ B ++ C).length ≤ 1000000000) :
    slices_BinarySearchFunc_string_sh big (A ++ B ++ C) k = some ((A.length : Int), !B.isEmpty) := by
  have hget : ∀ i x, (A ++ B ++ C)[i]? = some x → slt x.key k = decide (i < A.length) := fun i x hx => by
    rw [List.append_assoc] at hx
    by_cases h : i < A.length
    · rw [List.getElem?_append_left h] at hx
      simp only [h, decide_true]
      exact hA _ (List.mem_of_getElem? hx)
    · rw [List.getElem?_append_right (by omega)] at hx
      simp only [h, decide_false]
      rcases List.mem_append.1 (List.mem_of_getElem? hx) with hm | hm
      · rcases hB with rfl | ⟨y, rfl, hy⟩
        · simp at hm
        · simp at hm; rw [hm, hy]; exact slt_irrefl _
      · exact slt_asymm (hC _ hm)
  have hB2 : (A ++ B ++ C)[A.length]? = (B ++ C)[0]? := by rw [List.append_assoc, List.getElem?_append_right (Nat.le_refl _), Nat.sub_self]
  have hAL : A.length ≤ (A ++ B ++ C).length := by simp
  generalize A ++ B ++ C = L at hget hB2 hl hAL ⊢
  refine Rn.eq ?_
  unfold slices_BinarySearchFunc_string_sh
  refine Rn.lt (Rn.bn (P := fun i => i = (A.length : Int)) (Rn.iter _ (fun q a => ∃ lo hi : Nat, a = ((lo : Int), (hi : Int)) ∧ lo ≤ A.length ∧ A.length ≤ hi ∧ hi ≤ L.length ∧ hi - lo < 2 ^ (48 - q)) 48 (by unfold big; omega) ⟨0, L.length, rfl, by omega, hAL, Nat.le_refl _, by omega⟩ fun q a hq hI => ?_) fun i hi => ?_)
  · obtain ⟨lo, hi, rfl, h1, h2, h3, h4⟩ := hI
    refine Rn.lt (Rn.ite (fun hg => ?_) (fun hg => Rn.some ?_))
    · have hg := ltI_d hg
      simp only at hg
      have hq2 : q < 48 := by
        apply Nat.lt_of_not_le
        intro h
        have : 48 - q = 0 := by omega
        rw [this] at h4
        omega
      have e48 : 48 - q = (48 - (q + 1)) + 1 := by omega
      rw [e48, Nat.pow_succ] at h4
      refine Rn.lt (Rn.lt ?_)
      rw [addI_64 (by simp only; omega) (by simp only; omega), cvU_64 (by simp only; omega) (by simp only; omega)]
      refine Rn.bnE (shr1 (by simp only; omega)) (Rn.lt ?_)
      rw [cvI_64 (by simp only; omega) (by simp only; omega)]
      have em : ((lo : Int) + (hi : Int)) / 2 = (((lo + hi) / 2 : Nat) : Int) := by omega
      simp only
      rw [em]
      have hm : (lo + hi) / 2 < L.length := by omega
      have hge := hget _ _ (List.getElem?_eq_getElem hm)
      refine Rn.bnE (nth_some hm) (Rn.bnE (v := cmpB L[(lo + hi) / 2].key k) rfl (Rn.lt (Rn.ite (fun hc => Rn.lt (Rn.some ⟨hq2, (lo + hi) / 2 + 1, hi, ?_, ?_⟩)) (fun hc => Rn.some ⟨hq2, lo, (lo + hi) / 2, rfl, ?_⟩))))
      · rw [addI_64 (by omega) (by omega)]
        exact congrArg (·, (hi : Int)) (by omega)
      · rw [(cmpB_lt _ _).1 (ltI_d hc)] at hge
        have := of_decide_eq_true hge.symm
        refine ⟨?_, h2, h3, ?_⟩ <;> omega
      · have hc2 : slt L[(lo + hi) / 2].key k = false := by
          cases h : slt L[(lo + hi) / 2].key k
          · rfl
          · have := (cmpB_lt _ _).2 h
            have := ltI_n hc
            omega
        rw [hc2] at hge
        have := of_decide_eq_false hge.symm
        refine ⟨h1, ?_, ?_, ?_⟩ <;> omega
    · have hg := ltI_n hg
      simp only at hg ⊢
      omega
  · subst hi
    refine Rn.bn (P := fun b => b = !B.isEmpty) ?_ fun b hb => Rn.some (by rw [hb])
    refine Rn.lt (Rn.ite (fun hg => ?_) (fun hg => Rn.some ?_))
    · have hg := ltI_d hg
      simp only [lenI] at hg
      have hm : A.length < L.length := by omega
      refine Rn.bnE (nth_some hm) (Rn.bnE (v := cmpB L[A.length].key k) rfl (Rn.lt (Rn.some ?_)))
      rw [List.getElem?_eq_getElem hm] at hB2
      rcases hB with rfl | ⟨y, rfl, hy⟩
      · have hc := hC L[A.length] (List.mem_of_getElem? (by simpa using hB2.symm))
        have hne : ¬ cmpB L[A.length].key k = 0 := fun h => slt_ne hc ((cmpB_eq _ _).1 h).symm
        simp [eqI, hne]
      · simp at hB2
        rw [hB2, hy]
        simp [eqI, (cmpB_eq k k).2 rfl]
    · have hg := ltI_n hg
      simp only [lenI] at hg
      have e : L[A.length]? = none := List.getElem?_eq_none (by omega)
      rw [e] at hB2
      rcases hB with rfl | ⟨y, rfl, hy⟩
      · rfl
      · simp at hB2
theorem find_ok2 (A B C : List Pair) (k : ByteArray) (hA : ∀ a ∈ A, slt a.key k = true) (hC : ∀ c ∈ C, slt k c.key = true) (hB : B = [] ∨ ∃ x, B = [x] ∧ x.key = k) (hl : (A ++ B ++ C).length ≤ 1000000000) :
    space_find_tf_sh big (A ++ B ++ C) k = some ((A.length : Int), !B.isEmpty) := by
  have := find_ok A B C k hA hC hB hl
  unfold space_find_tf_sh
  rw [show slices_BinarySearchFunc_string_tfk121_sh big (A ++ B ++ C) k = slices_BinarySearchFunc_string_sh big (A ++ B ++ C) k from rfl, this]
  rfl
theorem find_ok1 (A B C : List Pair) (k : ByteArray) (hA : ∀ a ∈ A, slt a.key k = true) (hC : ∀ c ∈ C, slt k c.key = true) (hB : B = [] ∨ ∃ x, B = [x] ∧ x.key = k) (hl : (A ++ B ++ C).length ≤ 1000000000) :
    space_find_sh big (A ++ B ++ C) k = some ((A.length : Int), !B.isEmpty) := by
  unfold space_find_sh
  rw [find_ok A B C k hA hC hB hl]
  rfl
theorem foldA_inv : ∀ (es : List Effect) (l : List Pair), SrtP l → okP l → (∀ e ∈ es, okI e.item) → SrtP (es.foldl applyP l) ∧ okP (es.foldl applyP l) ∧ (es.foldl applyP l).length ≤ l.length + es.length
  | [], l, h1, h2, _ => ⟨h1, h2, by simp⟩
  | e :: es, l, h1, h2, h3 => by
    obtain ⟨g1, g2, g3⟩ := foldA_inv es (applyP l e) (applyP_srt h1 e) (applyP_ok h2 (h3 e (by simp))) fun x hx => h3 x (by simp [hx])
    have := applyP_len l e h1
    exact ⟨g1, g2, by simp only [List.foldl_cons, List.length_cons]; omega⟩
theorem space_Apply_ok (l : List Pair) (es : List Effect) (h : SrtP l) (h2 : okP l) (he : ∀ e ∈ es, okI e.item) (hl : l.length + es.length ≤ 100000000) : space_Apply_sh big l es = some (es.foldl applyP l) := by
  unfold space_Apply_sh
  rw [chk_small (by omega) (by omega)]
  simp only [lt_eq, bn_some, ite_t, ite_f, sm_inl, sm_inr, lenI_eq, Option.some.injEq]
  refine bn_run l (fun i => ((i : Int), l)) l.length (by unfold big; omega) rfl (fun i hi => ?_) ?_ ?_
  · simp only [lt_eq, bn_some, ite_t, ite_f, sm_inl, sm_inr, lenI_eq, Option.some.injEq]
    rw [ltI_t (by omega), nth_some hi]
    simp only [lt_eq, bn_some, ite_t, ite_f, sm_inl, sm_inr, lenI_eq, Option.some.injEq]
    rw [item_Copy_ok _ (h2 _ (List.getElem_mem hi))]
    simp only [lt_eq, bn_some, ite_t, ite_f, sm_inl, sm_inr, lenI_eq, Option.some.injEq]
    rw [addI_64 (by omega) (by omega)]
    have e : l.set i { key := l[i].key, item := l[i].item } = l := List.set_getElem_self hi
    simp [e]
  · simp only [lt_eq, bn_some, ite_t, ite_f, sm_inl, sm_inr, lenI_eq, Option.some.injEq]
    rw [ltI_f (by omega)]
    rfl
  refine bn_fold es applyP (fun i a => ((i : Int), a)) l (es.foldl applyP l) (by omega) rfl (fun i hi a ha => ?_) ?_ ?_
  · obtain ⟨g1, g2, g3⟩ := foldA_inv (es.take i) l h h2 fun x hx => he x (List.mem_of_mem_take hx)
    rw [← ha] at g1 g2 g3
    have hal : a.length ≤ 100000000 := by rw [List.length_take] at g3; omega
    have hok := he _ (List.getElem_mem hi)
    simp only [lt_eq, bn_some, ite_t, ite_f, sm_inl, sm_inr, lenI_eq, Option.some.injEq]
    rw [ltI_t (by omega), nth_some hi]
    simp only [lt_eq, bn_some, ite_t, ite_f, sm_inl, sm_inr, lenI_eq, Option.some.injEq]
    rw [chk_room (by omega) (by omega)]
    obtain ⟨A, B, C, e, hA, hC, hB⟩ := shapeG (key := Pair.key) es[i].key a g1
    have hap : applyP a es[i] = A ++ newP es[i] ++ C := by rw [e]; exact applyP_shape hA hC hB
    have hf : space_find_tf_sh big a es[i].key = some ((A.length : Int), !B.isEmpty) := by rw [e]; exact find_ok2 A B C _ hA hC hB (by rw [← e]; omega)
    rw [hf, hap]
    simp only [lt_eq, bn_some, ite_t, ite_f, sm_inl, sm_inr, lenI_eq, Option.some.injEq]
    rw [addI_64 (a := (i : Int)) (by omega) (by omega)]
    have hlen : A.length + B.length + C.length = a.length := by rw [e]; simp; omega
    rcases hB with rfl | ⟨x, rfl, hx⟩
    · simp only [List.isEmpty_nil, Bool.not_true, lt_eq, bn_some, ite_t, ite_f, sm_inl, sm_inr, lenI_eq, Option.some.injEq]
      cases hg : es[i].gone
      · simp only [notB_f, lt_eq, bn_some, ite_t, ite_f, sm_inl, sm_inr, lenI_eq, Option.some.injEq]
        rw [item_Copy_ok _ hok]
        simp only [lt_eq, bn_some, ite_t, ite_f, sm_inl, sm_inr, lenI_eq, Option.some.injEq]
        rw [chk_t (by simp [insB]; simp at hlen; omega)]
        have e1 : insL a A.length ⟨es[i].key, es[i].item⟩ = A ++ newP es[i] ++ C := by rw [e]; simp [insL, newP, hg]
        simp [e1, bn_some]
      · simp only [notB_t, lt_eq, bn_some, ite_t, ite_f, sm_inl, sm_inr, lenI_eq, Option.some.injEq]
        rw [e]
        simp [newP, hg]
    · simp only [List.isEmpty_cons, Bool.not_false, lt_eq, bn_some, ite_t, ite_f, sm_inl, sm_inr, lenI_eq, Option.some.injEq]
      have hn : (A ++ [x] ++ C)[A.length]? = some x := by simp
      cases hg : es[i].gone
      · simp only [lt_eq, bn_some, ite_t, ite_f, sm_inl, sm_inr, lenI_eq, Option.some.injEq]
        rw [item_Copy_ok _ hok]
        simp only [lt_eq, bn_some, ite_t, ite_f, sm_inl, sm_inr, lenI_eq, Option.some.injEq]
        rw [nth_nat, e, hn]
        have e1 : (A ++ [x] ++ C).set A.length ⟨x.key, es[i].item⟩ = A ++ newP es[i] ++ C := by simp [newP, hg, hx]
        simp [e1, bn_some, lt_eq]
        simp [newP, hg, hx]
      · simp only [lt_eq, bn_some, ite_t, ite_f, sm_inl, sm_inr, lenI_eq, Option.some.injEq]
        rw [addI_64 (by omega) (by omega), chk_t (by simp [delB]; simp at hlen; omega)]
        have e1 : delL a A.length = A ++ newP es[i] ++ C := by rw [e]; simp [delL, newP, hg]
        simp [e1, bn_some]
  · simp only [lt_eq, bn_some, ite_t, ite_f, sm_inl, sm_inr, lenI_eq, Option.some.injEq]
    rw [ltI_f (by omega)]
    rfl
  · obtain ⟨g1, g2, g3⟩ := foldA_inv es l h h2 he
    rw [chk_room (by omega) (by omega)]
theorem r_Apply_ok (l : List Pair) (es : List Effect) (h : SrtP l) (h2 : okP l) (he : ∀ e ∈ es, okI e.item) (hl : l.length + es.length ≤ 100000000) : r5_Apply_sh big l es = some (es.foldl applyP l) := by
  unfold r5_Apply_sh
  rw [chk_room (by omega) (by omega), chk_room (by omega) (by omega)]
  refine bn_fold es applyP (fun i a => (a, (i : Int))) l (es.foldl applyP l) (by omega) rfl (fun i hi a ha => ?_) ?_ rfl
  · obtain ⟨g1, g2, g3⟩ := foldA_inv (es.take i) l h h2 fun x hx => he x (List.mem_of_mem_take hx)
    rw [← ha] at g1 g2 g3
    rw [List.length_take] at g3
    simp only [lt_eq, bn_some, ite_t, ite_f, sm_inl, sm_inr, lenI_eq, Option.some.injEq]
    rw [ltI_t (by omega), nth_some hi]
    simp only [lt_eq, bn_some, ite_t, ite_f, sm_inl, sm_inr, lenI_eq, Option.some.injEq]
    rw [r_apply_ok _ _ g1 (by omega)]
    simp only [lt_eq, bn_some, ite_t, ite_f, sm_inl, sm_inr, lenI_eq, Option.some.injEq]
    rw [addI_64 (by omega) (by omega)]
    rfl
  · simp only [lt_eq, bn_some, ite_t, ite_f, sm_inl, sm_inr, lenI_eq, Option.some.injEq]
    rw [ltI_f (by omega)]
    rfl
end Go.Proofs.Ytlkhfdccapkcdaa

/- Walks, printed: l15_Make, r13_SameClaims, r1_Ints, r19_SameMsg, r13_SameFeed, r5_SameSpace -/
namespace Go.Proofs.Ytlkhfdccapkcdaa
open Go Go.RowKit
set_option linter.unusedVariables false
set_option linter.unusedSimpArgs false
end Go.Proofs.Ytlkhfdccapkcdaa

/- Plain laws: feeds, answers, what is got. -/
namespace Go.Proofs.Ytlkhfdccapkcdaa
open Go Go.RowKit
set_option linter.unusedVariables false
set_option linter.unusedSimpArgs false
theorem ite_or (b c : Bool) : ite' b (some true) (some c) = some (b || c) := by cases b <;> rfl
def addF (f : Feed) (l : List Effect) : Feed := { f with off := addI .i64 f.off l.length, back := lastN (f.back ++ l) }
def allP (l : List Pair) : List Effect := l.map fun p => ⟨p.key, false, p.item⟩
def goesF (f : Feed) (rid : Rid) (off : Int) : Bool := (decide (rid = f.rid) || (decide (rid = f.prev) && decide (off ≤ f.upto))) && (decide (off ≤ f.off) && decide (f.off - f.back.length ≤ off))
def ansF (f : Feed) (db : List Pair) (rid : Rid) (off : Int) : Msg :=
  bif goesF f rid off then ⟨5, 0, 0, 0, [], [], 0, 0, 0, f.rid, rid, off, (f.back.drop (off - (f.off - f.back.length)).toNat).take 16⟩ else ⟨6, 0, 0, 0, [], [], 0, 0, 0, f.rid, ⟨0, 0⟩, f.off, allP db⟩
/-- A feed that may be. -/
def okF (f : Feed) : Prop := okE f.back ∧ f.back.length ≤ 64 ∧ (f.back.length : Int) ≤ f.off ∧ f.off ≤ 9223372036854775807
theorem okE.take {l : List Effect} (h : okE l) (k : Nat) : okE (l.take k) := ⟨by have := h.1; simp; omega, fun e he => h.2 e (List.mem_of_mem_take he)⟩
end Go.Proofs.Ytlkhfdccapkcdaa

/- Plain laws: what is got; feeds made by numbers. -/
namespace Go.Proofs.Ytlkhfdccapkcdaa
open Go Go.RowKit
set_option linter.unusedVariables false
set_option linter.unusedSimpArgs false
def newerF (f : Feed) (m : Msg) : Bool := !decide (m.rid.node = f.rid.node) || (decide (f.rid.epoch < m.rid.epoch) || (decide (m.rid = f.rid) && decide (f.off < m.off)))
def nextF (f : Feed) (m : Msg) : Bool := decide (m.kind = 5) && (decide (m.prev = f.rid) && decide (m.off = f.off))
def gotF (f : Feed) (db : List Pair) (m : Msg) : Feed × List Pair × Bool :=
  bif nextF f m then (addF (bif decide (m.rid = f.rid) then f else { f with rid := m.rid, prev := f.rid, upto := f.off }) m.effects, m.effects.foldl applyP db, true)
  else bif decide (m.kind = 6) && newerF f m then (⟨m.rid, m.off, [], ⟨0, 0⟩, 0⟩, m.effects.foldl applyP [], true) else (f, db, false)
theorem addF_nil (f : Feed) (h : f.back.length ≤ 64) (h2 : -9223372036854775808 ≤ f.off) (h3 : f.off ≤ 9223372036854775807) : addF f [] = f := by
  unfold addF lastN
  rw [addI_64 (by simp; omega) (by simp; omega), List.append_nil, show f.back.length - 64 = 0 by omega, List.drop_zero]
  simp
/-! ### What is alike -/
end Go.Proofs.Ytlkhfdccapkcdaa

/- Plain law: feeds made by numbers. -/
namespace Go.Proofs.Ytlkhfdccapkcdaa
open Go Go.RowKit
set_option linter.unusedVariables false
set_option linter.unusedSimpArgs false
end Go.Proofs.Ytlkhfdccapkcdaa

/- Plain laws: effects by numbers, one by one. -/
namespace Go.Proofs.Ytlkhfdccapkcdaa
open Go Go.RowKit
set_option linter.unusedVariables false
set_option linter.unusedSimpArgs false
/-- The effect that the numbers from 4 i on tell. -/
def effAt (l : List Int) (i : Nat) : Option Effect :=
  bn (nth l ((4 * i : Nat) : Int)) fun v11 => bn (l11_Key_sh big v11) fun v12 => bn (nth l ((4 * i + 1 : Nat) : Int)) fun v14 => bn (remI .u8 v14 4) fun v15 =>
  bn (ite' (notB (eqI v15 0)) (bn (seglh l ((4 * i + 1 : Nat) : Int) ((4 * i + 4 : Nat) : Int)) fun v20 => bn (nth l ((4 * i + 2 : Nat) : Int)) fun v23 => bn (l5_Make_sh big v20 v23) fun v24 => some ((v24.kind, v24.s, v24.f, v24.l, v24.exp))) (some ((0, ⟨#[]⟩, [], [], 0)))) fun (y17 : Int × ByteArray × List Field × List ByteArray × Int) =>
  some (⟨v12, eqI v15 0, (⟨y17.1, y17.2.1, y17.2.2.1, y17.2.2.2.1, y17.2.2.2.2⟩ : Item)⟩ : Effect)
theorem effAt_ok (l : List Int) (hl : u8s l) (i : Nat) (h : 4 * i + 3 < l.length) (hlen : l.length ≤ 1000000000) : Rn (effAt l i) fun e => okI e.item := by
  have hb0 := hl _ (List.getElem_mem (show 4 * i < l.length by omega))
  have hb1 := hl _ (List.getElem_mem (show 4 * i + 1 < l.length by omega))
  have hb2 := hl _ (List.getElem_mem (show 4 * i + 2 < l.length by omega))
  unfold effAt
  refine Rn.bnE (nth_some (show 4 * i < l.length by omega)) (Rn.bn (Key_ok _ hb0.1 hb0.2) fun key _ => Rn.bnE (nth_some (show 4 * i + 1 < l.length by omega)) (Rn.bnE (remI_pos hb1.1 (by omega)) (Rn.bn (P := fun b : Int × ByteArray × List Field × List ByteArray × Int => b.2.2.1.length ≤ 9 ∧ b.2.2.2.1.length ≤ 9) ?_ fun b hb => Rn.some ?_)))
  · refine Rn.ite (fun _ => ?_) (fun _ => Rn.some ⟨by simp, by simp⟩)
    exact Rn.bnE (seglh_nat (by omega) (by omega)) (Rn.bnE (nth_some (show 4 * i + 2 < l.length by omega)) (Rn.bn (Make_ok _ _ (hl.seg _ _) hb2.1 hb2.2) fun it hit => Rn.some hit))
  · exact ⟨by simp only; omega, by simp only; omega⟩
theorem Effects_told (l : List Int) (hl : u8s l) (h : l.length ≤ 1000000000) : Rn (l11_Effects_sh big l) fun m => m.length = min 40 (l.length / 4) ∧ (∀ i, i < m.length → effAt l i = m[i]?) ∧ ∀ e ∈ m, okI e.item := by
  unfold l11_Effects_sh
  refine Rn.bn (P := fun m : List Effect => m.length = min 40 (l.length / 4) ∧ (∀ i, i < m.length → effAt l i = m[i]?) ∧ ∀ e ∈ m, okI e.item)
    (Rn.iter _ (fun k a => a.1 = ((4 * k : Nat) : Int) ∧ a.2.length = k ∧ 4 * k ≤ l.length ∧ (∀ i, i < k → effAt l i = a.2[i]?) ∧ ∀ e ∈ a.2, okI e.item) 40 (by unfold big; omega) ⟨rfl, rfl, by omega, by simp, by simp⟩ fun k a hk hI => ?_) fun m hm => Rn.room (by omega) (by omega) (Rn.some hm)
  obtain ⟨i, m⟩ := a
  obtain ⟨rfl, i2, i5, i6, i3⟩ := hI
  simp only at i2 i3 i6
  refine Rn.bn (P := fun b : Bool => (b = true → k < 40 ∧ 4 * k + 3 < l.length) ∧ (b = false → k = min 40 (l.length / 4))) ?_ fun b hb => Rn.lt (Rn.ite (fun hd => ?_) (fun hd => Rn.some ⟨by simp only [i2]; exact hb.2 hd, by simp only [i2]; exact i6, i3⟩))
  · refine Rn.lt ?_
    rw [addI_64 (by simp only; omega) (by simp only; omega)]
    refine Rn.lt (Rn.lt (Rn.ite (fun hg => Rn.lt (Rn.lt (Rn.some ?_))) (fun hg => Rn.some ?_)))
    · have h1 := ltI_d hg
      simp only [lenI] at h1
      refine ⟨fun h2 => ?_, fun h2 => ?_⟩
      · have h2 := ltI_d h2
        simp only [lenI, i2] at h2
        omega
      · have h2 := ltI_n h2
        simp only [lenI, i2] at h2
        omega
    · have h1 := ltI_n hg
      simp only [lenI] at h1
      exact ⟨fun h => by simp at h, fun _ => by omega⟩
  · obtain ⟨h40, h4⟩ := hb.1 hd
    obtain ⟨e, he, hok⟩ := effAt_ok l hl k h4 h
    have he' := he
    unfold effAt at he
    rw [show addI .i64 ((4 * k : Nat) : Int) 1 = ((4 * k + 1 : Nat) : Int) by rw [addI_64 (by omega) (by omega)]; omega, show addI .i64 ((4 * k : Nat) : Int) 4 = ((4 * k + 4 : Nat) : Int) by rw [addI_64 (by omega) (by omega)]; omega, show addI .i64 ((4 * k : Nat) : Int) 2 = ((4 * k + 2 : Nat) : Int) by rw [addI_64 (by omega) (by omega)]; omega]
    obtain ⟨w1, e1, he⟩ := bnE he
    obtain ⟨w2, e2, he⟩ := bnE he
    obtain ⟨w3, e3, he⟩ := bnE he
    obtain ⟨w4, e4, he⟩ := bnE he
    obtain ⟨w5, e5, he⟩ := bnE he
    have heq := Option.some.inj he
    clear he
    subst heq
    refine Rn.bnE e1 (Rn.bnE e2 (Rn.lt (Rn.bnE e3 (Rn.bnE e4 (Rn.lt (Rn.bnE (v := w5) e5 (Rn.room ?_ ?_ (Rn.lt (Rn.lt (Rn.some ⟨h40, ?_, ?_, by omega, ?_, ?_⟩))))))))))
    · simp only; omega
    · simp only; omega
    · simp only; omega
    · simp [i2]
    · intro i hi
      show effAt l i = (m ++ [_])[i]?
      by_cases hik : i < k
      · rw [i6 i hik, List.getElem?_append_left (by omega)]
      · have : i = k := by omega
        subst this
        rw [he', List.getElem?_append_right (by omega), i2, Nat.sub_self]
        rfl
    · intro x hx
      rcases List.mem_append.1 hx with hx | hx
      · exact i3 x hx
      · simp only [List.mem_singleton] at hx
        rw [hx]
        exact hok
end Go.Proofs.Ytlkhfdccapkcdaa

/- Plain law: a replica comes to have all. -/
namespace Go.Proofs.Ytlkhfdccapkcdaa
open Go Go.RowKit
set_option linter.unusedVariables false
set_option linter.unusedSimpArgs false
def mkF (r : Int) (l : List Effect) : Feed := ⟨⟨r % 4, r / 64⟩, l.length, l, ⟨0, 0⟩, 0⟩
def dbOf (l : List Effect) : List Pair := l.foldl applyP []
theorem dbOf_ok {l : List Effect} (h : ∀ e ∈ l, okI e.item) : SrtP (dbOf l) ∧ okP (dbOf l) ∧ (dbOf l).length ≤ l.length := by
  obtain ⟨g1, g2, g3⟩ := foldA_inv l [] .nil (by simp [okP]) h
  exact ⟨g1, g2, by simp at g3; exact g3⟩
def harm (fr : Rid) (o : Nat) (m : Msg) : Prop := m.rid = fr ∧ okE m.effects ∧ m.effects.length ≤ 100 ∧ ((m.kind = 5 ∧ (m.prev ≠ fr ∨ m.off < o ∨ m.effects = [])) ∨ (m.kind = 6 ∧ m.off ≤ o))
theorem harm.mono {fr : Rid} {o o' : Nat} {m : Msg} (h : harm fr o m) (ho : o ≤ o') : harm fr o' m := by
  obtain ⟨h1, h2, h3, h4⟩ := h
  refine ⟨h1, h2, h3, ?_⟩
  rcases h4 with ⟨a, b | b | b⟩ | ⟨a, b⟩
  · exact .inl ⟨a, .inl b⟩
  · exact .inl ⟨a, .inr (.inl (by omega))⟩
  · exact .inl ⟨a, .inr (.inr b)⟩
  · exact .inr ⟨a, by omega⟩
theorem harm.got {g : Feed} {own : List Pair} {o : Nat} {m : Msg} (h : harm g.rid o m) (ho : g.off = o) (hb : g.back.length ≤ 64) (hs : o ≤ 1000000) : (gotF g own m).1 = g ∧ (gotF g own m).2.1 = own := by
  obtain ⟨h1, h2, h3, h4⟩ := h
  unfold gotF
  cases hn : nextF g m
  · have hw : (decide (m.kind = 6) && newerF g m) = false := by
      rcases h4 with ⟨a, b⟩ | ⟨a, b⟩
      · simp [a]
      · simp only [newerF, h1, ho]
        have : ¬ (o : Int) < m.off := by omega
        simp [this]
    rw [hw]
    exact ⟨rfl, rfl⟩
  · have he : m.effects = [] := by
      simp only [nextF, Bool.and_eq_true, decide_eq_true_eq] at hn
      obtain ⟨n1, n2, n3⟩ := hn
      rcases h4 with ⟨a, b | b | b⟩ | ⟨a, b⟩
      · exact absurd n2 b
      · omega
      · exact b
      · omega
    rw [he, show decide (m.rid = g.rid) = true by simp [h1]]
    exact ⟨addF_nil g hb (by omega) (by omega), rfl⟩
/-- Where a replica is ahead of round i. -/
def At (r other : Int) (l : List Effect) (k i : Nat) (g : Feed) (own : List Pair) (sent : List Msg) : Prop :=
  sent.length = i ∧ okE g.back ∧ g.back.length ≤ 64 ∧ ((i = 0 ∧ g.rid ≠ (mkF r l).rid ∧ g = mkF other (l.take k) ∧ own = dbOf (l.take k)) ∨
  ∃ o : Nat, g.rid = (mkF r l).rid ∧ g.off = o ∧ o ≤ l.length ∧ min l.length (16 * i) ≤ o ∧ own = dbOf (l.take o) ∧ ∀ m ∈ sent, harm (mkF r l).rid o m)
end Go.Proofs.Ytlkhfdccapkcdaa

/- Walks, printed: r5_bare, r5_MayItem, r5_MayEffect, r5_MayEffects, r13_MayFeed, r5_MaySpace -/
namespace Go.Proofs.Ytlkhfdccapkcdaa
open Go Go.RowKit
set_option linter.unusedVariables false
set_option linter.unusedSimpArgs false
end Go.Proofs.Ytlkhfdccapkcdaa

/- Walks, printed: l5_Great, l11_Heavy, l15_great, l11_Great -/
namespace Go.Proofs.Ytlkhfdccapkcdaa
open Go Go.RowKit
set_option linter.unusedVariables false
set_option linter.unusedSimpArgs false
end Go.Proofs.Ytlkhfdccapkcdaa

/- Plain laws: what may be, what is great. -/
namespace Go.Proofs.Ytlkhfdccapkcdaa
open Go Go.RowKit
set_option linter.unusedVariables false
set_option linter.unusedSimpArgs false
theorem gtI_n {a b : Int} (h : gtI a b = false) : a ≤ b := by simpa [gtI] using h
end Go.Proofs.Ytlkhfdccapkcdaa

/- Plain laws: whether two spaces are one, what is at a key. -/
namespace Go.Proofs.Ytlkhfdccapkcdaa
open Go Go.RowKit
set_option linter.unusedVariables false
set_option linter.unusedSimpArgs false
/-- What is at a key. -/
def rawP (l : List Pair) (k : ByteArray) : Option Item := (l.find? fun p => decide (p.key = k)).map fun p => p.item
def noI : Item := ⟨0, ⟨#[]⟩, [], [], 0⟩
theorem rawP_shape {A B C : List Pair} {k : ByteArray} (hA : ∀ a ∈ A, slt a.key k = true) (hC : ∀ c ∈ C, slt k c.key = true) (hB : B = [] ∨ ∃ x, B = [x] ∧ x.key = k) : rawP (A ++ B ++ C) k = (B.head?).map fun p => p.item := by
  have h1 : A.find? (fun p => decide (p.key = k)) = none := List.find?_eq_none.2 fun p hp => by simpa using slt_ne (hA p hp)
  have h2 : C.find? (fun p => decide (p.key = k)) = none := List.find?_eq_none.2 fun p hp => by simpa using fun e => slt_ne (hC p hp) e.symm
  unfold rawP
  rw [List.find?_append, List.find?_append, h1, h2]
  rcases hB with rfl | ⟨x, rfl, hx⟩
  · rfl
  · simp [hx]
theorem space_Raw_ok (l : List Pair) (k : ByteArray) (h : SrtP l) (ho : okP l) (hl : l.length ≤ 1000000000) : space_Raw_sh big l k = some ((rawP l k).getD noI, (rawP l k).isSome) := by
  obtain ⟨A, B, C, rfl, hA, hC, hB⟩ := shapeG (key := Pair.key) k l h
  unfold space_Raw_sh
  rw [find_ok1 A B C k hA hC hB hl, rawP_shape hA hC hB]
  rcases hB with rfl | ⟨x, rfl, hx⟩
  · rfl
  · have hn : (A ++ [x] ++ C)[A.length]? = some x := by simp
    simp only [lt_eq, bn_some, ite_t, ite_f, sm_inl, sm_inr, lenI_eq, Option.some.injEq, List.isEmpty_cons, Bool.not_false, notB_t, nth_nat, hn]
    rw [item_Copy_ok _ (ho x (by simp))]
    rfl
def alive (i : Item) (now : Int) : Bool := decide (i.exp = 0) || decide (now < i.exp)
def getP (l : List Pair) (k : ByteArray) (now : Int) : Option Item := bif alive ((rawP l k).getD noI) now then rawP l k else none
theorem item_Alive_ok (i : Item) (now : Int) : item_Alive_sh big i now = some (alive i now) := by
  unfold item_Alive_sh
  simp only [lt_eq, bn_some, ite_or]
  rfl
theorem space_Get_ok (l : List Pair) (k : ByteArray) (now : Int) (h : SrtP l) (ho : okP l) (hl : l.length ≤ 1000000000) : space_Get_sh big l k now = some ((getP l k now).getD noI, (getP l k now).isSome) := by
  unfold space_Get_sh getP
  rw [space_Raw_ok l k h ho hl]
  simp only [lt_eq, bn_some, ite_t, ite_f, sm_inl, sm_inr, lenI_eq, Option.some.injEq]
  cases h1 : rawP l k
  · cases alive ((none : Option Item).getD noI) now <;> rfl
  · simp only [Option.isSome_some, Option.getD_some, notB_t, lt_eq, bn_some, ite_t, ite_f, sm_inl, sm_inr, lenI_eq, Option.some.injEq, item_Alive_ok]
    rename_i v
    cases h2 : alive v now <;> rfl
theorem okI_no : okI noI := ⟨by simp [noI], by simp [noI]⟩
end Go.Proofs.Ytlkhfdccapkcdaa

/- Plain laws: the program's slot is the document's. -/
namespace Go.Proofs.Ytlkhfdccapkcdaa
open Go Go.RowKit
set_option linter.unusedVariables false
set_option linter.unusedSimpArgs false
theorem ltT {a b : Int} (h : a < b) : ltI a b = true := by simp [ltI, h]
theorem ltF {a b : Int} (h : ¬ a < b) : ltI a b = false := by simp [ltI]; omega
/-! ### The first of a byte -/
theorem indexByte_spec (c : UInt8) : ∀ l : List UInt8, (Lib.indexByte l c = -1 ∧ ∀ b ∈ l, b ≠ c) ∨ ∃ i : Nat, Lib.indexByte l c = i ∧ ∃ hi : i < l.length, l[i] = c ∧ ∀ j (hj : j < i), l[j] ≠ c
  | [] => .inl ⟨rfl, by simp⟩
  | b :: l => by
    by_cases h : b = c
    · refine .inr ⟨0, ?_, by simp, h, fun j hj => by omega⟩
      unfold Lib.indexByte
      simp [h]
    · rcases indexByte_spec c l with ⟨h1, h2⟩ | ⟨i, h1, hi, h2, h3⟩
      · refine .inl ⟨?_, fun x hx => ?_⟩
        · unfold Lib.indexByte
          simp [h, h1]
        · rcases List.mem_cons.1 hx with rfl | hx
          · exact h
          · exact h2 x hx
      · refine .inr ⟨i + 1, ?_, by simp; omega, by simpa using h2, fun j hj => ?_⟩
        · unfold Lib.indexByte
          have : ¬ ((i : Int) = -1) := by omega
          simp [h, h1, this]
        · cases j with
          | zero => exact h
          | succ j => simpa using h3 j (by omega)
theorem bAt_list {s : ByteArray} {i : Nat} (h : i < s.size) : bAt s i = ((s.data.toList[i]'(by simpa using h)).toNat : Int) := by
  unfold bAt
  rw [dif_pos h]
  rfl
theorem byte_inj {a : UInt8} {c : Nat} (hc : c < 256) : ((a.toNat : Int) = (c : Int)) ↔ a = (c : Int).toNat.toUInt8 := by
  have e : ((c : Int).toNat.toUInt8).toNat = c := by simp; omega
  constructor
  · intro h
    apply UInt8.toNat_inj.1
    rw [e]
    omega
  · rintro rfl
    rw [e]
theorem idxB_spec (s : ByteArray) (c : Int) (hc0 : 0 ≤ c) (hc : c < 256) : (idxB s c = -1 ∧ ∀ i, i < s.size → bAt s i ≠ c) ∨ ∃ i : Nat, idxB s c = i ∧ i < s.size ∧ bAt s i = c ∧ ∀ j, j < i → bAt s j ≠ c := by
  obtain ⟨c, rfl⟩ : ∃ n : Nat, c = n := ⟨c.toNat, by omega⟩
  have hc : c < 256 := by omega
  have hlen : s.data.toList.length = s.size := by simp
  rcases indexByte_spec ((c : Int).toNat.toUInt8) s.data.toList with ⟨h1, h2⟩ | ⟨i, h1, hi, h2, h3⟩
  · refine .inl ⟨h1, fun i hi => ?_⟩
    rw [bAt_list hi, Ne, byte_inj hc]
    exact h2 _ (List.getElem_mem _)
  · refine .inr ⟨i, h1, by omega, ?_, fun j hj => ?_⟩
    · rw [bAt_list (by omega), byte_inj hc]
      exact h2
    · rw [bAt_list (by omega), Ne, byte_inj hc]
      exact h3 j hj
/-! ### The tag -/
theorem Index_ok (s : ByteArray) : stringslite_Index_sh big s = some (idxB s 123) := by
  unfold stringslite_Index_sh
  by_cases h : (⟨#[123]⟩ : ByteArray) = s
  · subst h
    rfl
  · simp only [lt_eq, eqS, decide_eq_false h, ite_f]
    rfl
theorem Index_fx_ok (s : ByteArray) : stringslite_Index_fx_sh big s = some (idxB s 125) := by
  unfold stringslite_Index_fx_sh
  by_cases h : (⟨#[125]⟩ : ByteArray) = s
  · subst h
    rfl
  · simp only [lt_eq, eqS, decide_eq_false h, ite_f]
    rfl
theorem geT {a b : Int} (h : b ≤ a) : geI a b = true := by simp [geI, h]
theorem geF {a b : Int} (h : ¬ b ≤ a) : geI a b = false := by simp [geI]; omega
theorem Cut_no (s : ByteArray) (h : idxB s 123 = -1) : strings_Cut_sh big s = some (s, ⟨#[]⟩, false) := by
  unfold strings_Cut_sh stringslite_Cut_sh
  rw [Index_ok, h]
  rfl
theorem Cut_fx_no (s : ByteArray) (h : idxB s 125 = -1) : strings_Cut_fx_sh big s = some (s, ⟨#[]⟩, false) := by
  unfold strings_Cut_fx_sh stringslite_Cut_fx_sh
  rw [Index_fx_ok, h]
  rfl
theorem Cut_at (s : ByteArray) (i : Nat) (h : idxB s 123 = i) (hi : i < s.size) (hs : s.size ≤ 1000000000000) : strings_Cut_sh big s = some (s.extract 0 i, s.extract (i + 1) s.size, true) := by
  unfold strings_Cut_sh stringslite_Cut_sh
  rw [Index_ok, h]
  have e1 : segSh s (i : Int) = some (s.extract 0 i) := by
    unfold segSh
    rw [if_pos (by omega)]
    rfl
  have e2 : segSl s ((i : Int) + 1) = some (s.extract (i + 1) s.size) := by
    unfold segSl
    rw [if_pos (by omega)]
    rfl
  simp only [lt_eq, bn_some, ite_t, ite_f, sm_inl, sm_inr, lenI_eq, Option.some.injEq]
  rw [geT (by omega), addI_64 (by omega) (by omega), e1, e2]
  rfl
theorem Cut_fx_at (s : ByteArray) (i : Nat) (h : idxB s 125 = i) (hi : i < s.size) (hs : s.size ≤ 1000000000000) : strings_Cut_fx_sh big s = some (s.extract 0 i, s.extract (i + 1) s.size, true) := by
  unfold strings_Cut_fx_sh stringslite_Cut_fx_sh
  rw [Index_fx_ok, h]
  have e1 : segSh s (i : Int) = some (s.extract 0 i) := by
    unfold segSh
    rw [if_pos (by omega)]
    rfl
  have e2 : segSl s ((i : Int) + 1) = some (s.extract (i + 1) s.size) := by
    unfold segSl
    rw [if_pos (by omega)]
    rfl
  simp only [lt_eq, bn_some, ite_t, ite_f, sm_inl, sm_inr, lenI_eq, Option.some.injEq]
  rw [geT (by omega), addI_64 (by omega) (by omega), e1, e2]
  rfl
theorem bAt_extract {s : ByteArray} {a j : Nat} (h : a + j < s.size) : bAt (s.extract a s.size) j = bAt s (a + j) := by
  have h2 : j < (s.extract a s.size).size := by rw [ByteArray.size_extract]; omega
  unfold bAt
  rw [dif_pos h2, dif_pos h, ByteArray.getElem_extract]
theorem atS_ok {s : ByteArray} {i : Nat} (h : i < s.size) : atS s (i : Int) = some (bAt s i) := by
  unfold atS
  rw [if_pos (by omega)]
  rfl
theorem neT {a b : Int} (h : a ≠ b) : neI a b = true := by simp [neI, h]
theorem eqF' {a b : Int} (h : a ≠ b) : eqI a b = false := by simp [eqI, h]
theorem Tag_ok (s : ByteArray) (hs : s.size ≤ 1000000000000) : ∃ t : ByteArray, r1_Tag_sh big s = some t ∧ slot_Tag_sh big s = some t ∧ t.size ≤ s.size := by
  rcases idxB_spec s 123 (by omega) (by omega) with ⟨h1, h2⟩ | ⟨i, h1, h2, h3, h4⟩
  · refine ⟨s, ?_, ?_, Nat.le_refl _⟩
    · unfold r1_Tag_sh
      refine bn_run (.inl ()) (fun i => (i : Int)) s.size (by unfold big; omega) rfl (fun i hi => ?_) ?_ rfl
      · simp only [lt_eq]
        rw [ltT (by simp only [lenS]; omega), atS_ok hi]
        simp only [lt_eq, bn_some, ite_t, ite_f, sm_inl, sm_inr, lenI_eq, Option.some.injEq]
        rw [neT (h2 i hi), ite_t, addI_64 (by omega) (by omega)]
        rfl
      · simp only [lt_eq]
        rw [ltF (by simp only [lenS]; omega)]
        rfl
    · unfold slot_Tag_sh
      rw [Cut_no s h1]
      rfl
  have hstep : ∀ q, q < i → ∀ {γ : Type} (x : Option (Int ⊕ γ)) (y : Option (Int ⊕ γ)), ite' (ltI (q : Int) (lenS s)) (bn (atS s (q : Int)) fun v6 => ite' (neI v6 123) (some (.inl (addI .i64 (q : Int) 1))) x) y = some (.inl ((q + 1 : Nat) : Int)) := fun q hq γ x y => by
    rw [ltT (by simp only [lenS]; omega), atS_ok (by omega)]
    simp only [lt_eq, bn_some, ite_t, ite_f, sm_inl, sm_inr, lenI_eq, Option.some.injEq]
    rw [neT (h4 q hq), ite_t, addI_64 (by omega) (by omega)]
    rfl
  have hsz : (s.extract (i + 1) s.size).size = s.size - (i + 1) := by rw [ByteArray.size_extract]; omega
  rcases idxB_spec (s.extract (i + 1) s.size) 125 (by omega) (by omega) with ⟨k1, k2⟩ | ⟨j, k1, k2, k3, k4⟩
  · have k2 : ∀ q, i + 1 + q < s.size → bAt s (i + 1 + q) ≠ 125 := fun q hq => by
      have := k2 q (by omega)
      rwa [bAt_extract hq] at this
    refine ⟨s, ?_, ?_, Nat.le_refl _⟩
    · unfold r1_Tag_sh
      refine bn_run (.inr s) (fun i => (i : Int)) i (by unfold big; omega) rfl (fun q hq => hstep q hq _ _) ?_ rfl
      simp only [lt_eq]
      rw [ltT (by simp only [lenS]; omega), atS_ok h2]
      simp only [lt_eq, bn_some, ite_t, ite_f, sm_inl, sm_inr, lenI_eq, Option.some.injEq, h3]
      rw [show neI (123 : Int) 123 = false by rfl, ite_f]
      refine bn_run (.inl ()) (fun q => ((i + 1 + q : Nat) : Int)) (s.size - (i + 1)) (by unfold big; omega) (by rw [addI_64 (by omega) (by omega)]; omega) (fun q hq => ?_) ?_ rfl
      · rw [ltT (by simp only [lenS]; omega), atS_ok (by omega)]
        simp only [lt_eq, bn_some, ite_t, ite_f, sm_inl, sm_inr, lenI_eq, Option.some.injEq]
        rw [eqF' (k2 q (by omega)), ite_f, addI_64 (by omega) (by omega)]
        rfl
      · rw [ltF (by simp only [lenS]; omega)]
        rfl
    · unfold slot_Tag_sh
      rw [Cut_at s i h1 h2 hs]
      simp only [lt_eq, bn_some, ite_t, ite_f, sm_inl, sm_inr, lenI_eq, Option.some.injEq]
      rw [Cut_fx_no _ k1]
      rfl
  · have hj : i + 1 + j < s.size := by omega
    have k3 : bAt s (i + 1 + j) = 125 := by rwa [bAt_extract hj] at k3
    have k4 : ∀ q, q < j → bAt s (i + 1 + q) ≠ 125 := fun q hq => by
      have := k4 q hq
      rwa [bAt_extract (by omega)] at this
    have hex : (s.extract (i + 1) s.size).extract 0 j = s.extract (i + 1) (i + 1 + j) := by
      rw [ByteArray.extract_extract]
      congr 1
      omega
    have hez : (s.extract (i + 1) (i + 1 + j)).size = j := by rw [ByteArray.size_extract]; omega
    have hslot : slot_Tag_sh big s = some (bif decide (j = 0) then s else s.extract (i + 1) (i + 1 + j)) := by
      unfold slot_Tag_sh
      rw [Cut_at s i h1 h2 hs]
      simp only [lt_eq, bn_some, ite_t, ite_f, sm_inl, sm_inr, lenI_eq, Option.some.injEq]
      rw [Cut_fx_at _ j k1 k2 (by omega)]
      simp only [lt_eq, bn_some, ite_t, ite_f, sm_inl, sm_inr, lenI_eq, Option.some.injEq, hex]
      by_cases h0 : j = 0
      · have : s.extract (i + 1) (i + 1 + j) = ⟨#[]⟩ := by
          apply ByteArray.ext
          apply Array.eq_empty_of_size_eq_zero
          exact hez.trans h0
        rw [this, show neS (⟨#[]⟩ : ByteArray) ⟨#[]⟩ = false by rfl, decide_eq_true h0]
        rfl
      · have : s.extract (i + 1) (i + 1 + j) ≠ ⟨#[]⟩ := fun h => by
          rw [h] at hez
          exact h0 hez.symm
        rw [show neS (s.extract (i + 1) (i + 1 + j)) ⟨#[]⟩ = true by simp [neS, this], decide_eq_false h0]
        rfl
    have hr1 : r1_Tag_sh big s = some (bif decide (j = 0) then s else s.extract (i + 1) (i + 1 + j)) := by
      unfold r1_Tag_sh
      refine bn_run (.inr (bif decide (j = 0) then s else s.extract (i + 1) (i + 1 + j))) (fun i => (i : Int)) i (by unfold big; omega) rfl (fun q hq => hstep q hq _ _) ?_ rfl
      simp only [lt_eq]
      rw [ltT (by simp only [lenS]; omega), atS_ok h2]
      simp only [lt_eq, bn_some, ite_t, ite_f, sm_inl, sm_inr, lenI_eq, Option.some.injEq, h3]
      rw [show neI (123 : Int) 123 = false by rfl, ite_f]
      refine bn_run (.inr (bif decide (j = 0) then s else s.extract (i + 1) (i + 1 + j))) (fun q => ((i + 1 + q : Nat) : Int)) j (by unfold big; omega) (by rw [addI_64 (by omega) (by omega)]; omega) (fun q hq => ?_) ?_ rfl
      · rw [ltT (by simp only [lenS]; omega), atS_ok (by omega)]
        simp only [lt_eq, bn_some, ite_t, ite_f, sm_inl, sm_inr, lenI_eq, Option.some.injEq]
        rw [eqF' (k4 q hq), ite_f, addI_64 (by omega) (by omega)]
        rfl
      · rw [ltT (by simp only [lenS]; omega), atS_ok hj]
        simp only [lt_eq, bn_some, ite_t, ite_f, sm_inl, sm_inr, lenI_eq, Option.some.injEq, k3]
        rw [show eqI (125 : Int) 125 = true by rfl, ite_t, addI_64 (by omega) (by omega)]
        by_cases h0 : j = 0
        · rw [show eqI ((i + 1 + j : Nat) : Int) ((i : Int) + 1) = true by simp [eqI]; omega, decide_eq_true h0]
          rfl
        · rw [eqF' (by omega), decide_eq_false h0, ite_f]
          have : segSlh s ((i : Int) + 1) ((i + 1 + j : Nat) : Int) = some (s.extract (i + 1) (i + 1 + j)) := by
            unfold segSlh segS
            rw [if_pos (by omega)]
            rfl
          rw [this]
          rfl
    refine ⟨_, hr1, hslot, ?_⟩
    cases decide (j = 0)
    · simp only [cond_false]; omega
    · exact Nat.le_refl _
/-! ### The check sum -/
theorem xorI_64 {x y : Nat} (hx : x < 2 ^ 62) (hy : y < 2 ^ 62) : xorI .i64 (x : Int) (y : Int) = ((x ^^^ y : Nat) : Int) := by
  have h := Nat.xor_lt_two_pow hx hy
  show IntKind.i64.wrap ((BitVec.ofInt 64 (x : Int) ^^^ BitVec.ofInt 64 (y : Int)).toNat : Int) = _
  simp only [BitVec.ofInt_natCast, BitVec.toNat_xor, BitVec.toNat_ofNat]
  rw [Nat.mod_eq_of_lt (show x < 2 ^ 64 by omega), Nat.mod_eq_of_lt (show y < 2 ^ 64 by omega), wrap64 (by omega) (by omega)]
theorem wrapU16 (a : Int) : IntKind.u16.wrap a = a % 65536 := by simp [IntKind.wrap, IntKind.bits, IntKind.signed]
theorem xorI_16 {x y : Nat} (hx : x < 2 ^ 16) (hy : y < 2 ^ 16) : xorI .u16 (x : Int) (y : Int) = ((x ^^^ y : Nat) : Int) := by
  have h := Nat.xor_lt_two_pow hx hy
  show IntKind.u16.wrap ((BitVec.ofInt 16 (x : Int) ^^^ BitVec.ofInt 16 (y : Int)).toNat : Int) = _
  simp only [BitVec.ofInt_natCast, BitVec.toNat_xor, BitVec.toNat_ofNat]
  rw [Nat.mod_eq_of_lt hx, Nat.mod_eq_of_lt hy, wrapU16]
  omega
theorem andI_16 {x : Nat} (hx : x < 2 ^ 62) : andI .i64 (x : Int) 65535 = ((x % 65536 : Nat) : Int) := by
  have e : (65535 : Int) = ((65535 : Nat) : Int) := rfl
  rw [e]
  show IntKind.i64.wrap ((BitVec.ofInt 64 (x : Int) &&& BitVec.ofInt 64 ((65535 : Nat) : Int)).toNat : Int) = _
  simp only [BitVec.ofInt_natCast, BitVec.toNat_and, BitVec.toNat_ofNat]
  rw [Nat.mod_eq_of_lt (show x < 2 ^ 64 by omega), show 65535 % 2 ^ 64 = 2 ^ 16 - 1 by rfl, Nat.and_two_pow_sub_one_eq_mod, wrap64 (by omega) (by omega)]
/-- One bit. -/
def bit1 (c : Nat) : Nat := if 32768 ≤ c then (2 * c ^^^ 4129) % 65536 else 2 * c
theorem bit1_lt {c : Nat} (h : c < 65536) : bit1 c < 65536 := by unfold bit1; split <;> omega
def bits : Nat → Nat → Nat
  | 0, c => c
  | k + 1, c => bit1 (bits k c)
theorem bits_lt {c : Nat} (h : c < 65536) : ∀ k, bits k c < 65536
  | 0 => h
  | k + 1 => bit1_lt (bits_lt h k)
def byteN (s : ByteArray) (i : Nat) : Nat := (bAt s i).toNat
theorem bAt_byte (s : ByteArray) (i : Nat) : bAt s i = (byteN s i : Int) ∧ byteN s i < 256 := by
  unfold byteN bAt
  split
  · rename_i h
    have := (s[i]'h).toNat_lt
    omega
  · exact ⟨rfl, by simp⟩
def crcN (s : ByteArray) : Nat → Nat
  | 0 => 0
  | i + 1 => bits 8 (crcN s i ^^^ byteN s i * 256)
theorem crcN_lt (s : ByteArray) : ∀ i, crcN s i < 65536
  | 0 => by simp [crcN]
  | i + 1 => by
    have h1 := crcN_lt s i
    have h2 := (bAt_byte s i).2
    exact bits_lt (Nat.xor_lt_two_pow (n := 16) (by omega) (by omega)) 8
theorem r1_Crc_ok (s : ByteArray) (hs : s.size ≤ 1000000000000) : r1_Crc_sh big s = some (crcN s s.size : Int) := by
  unfold r1_Crc_sh
  refine bn_run (crcN s s.size : Int) (fun i => ((crcN s i : Int), (i : Int))) s.size (by unfold big; omega) rfl (fun i hi => ?_) ?_ rfl
  · simp only [lt_eq]
    rw [ltT (by simp only [lenS]; omega), atS_ok hi]
    obtain ⟨b1, b2⟩ := bAt_byte s i
    have hc := crcN_lt s i
    rw [b1]
    simp only [lt_eq, bn_some, ite_t, ite_f, sm_inl, sm_inr, lenI_eq, Option.some.injEq]
    rw [cvI_64 (by omega) (by omega)]
    have e1 : shlI .i64 (byteN s i : Int) 8 = some ((byteN s i * 256 : Nat) : Int) := by
      unfold shlI
      rw [if_pos (by omega)]
      simp only [IntKind.bits, show min (8 : Int).toNat 64 = 8 by rfl]
      rw [wrap64 (by omega) (by omega)]
      congr 1
    rw [e1]
    simp only [bn_some]
    rw [xorI_64 (by omega) (by omega)]
    have hx : crcN s i ^^^ byteN s i * 256 < 65536 := Nat.xor_lt_two_pow (n := 16) (by omega) (by omega)
    have hcs : crcN s (i + 1) = bits 8 (crcN s i ^^^ byteN s i * 256) := rfl
    rw [hcs]
    clear hcs
    generalize crcN s i ^^^ byteN s i * 256 = x at hx ⊢
    refine bn_run (bits 8 x : Int) (fun k => ((bits k x : Int), (k : Int))) 8 (by unfold big; omega) rfl (fun k hk => ?_) ?_ ?_
    · simp only
      rw [ltT (by omega), ite_t]
      have hb := bits_lt hx k
      have e2 : shlI .i64 (bits k x : Int) 1 = some ((2 * bits k x : Nat) : Int) := by
        unfold shlI
        rw [if_pos (by omega)]
        simp only [IntKind.bits, show min (1 : Int).toNat 64 = 1 by rfl]
        rw [wrap64 (by omega) (by omega)]
        congr 1
        omega
      rw [e2]
      simp only [bn_some]
      have e3 : ite' (geI ((2 * bits k x : Nat) : Int) 65536) (some (andI .i64 (xorI .i64 ((2 * bits k x : Nat) : Int) 4129) 65535)) (some ((2 * bits k x : Nat) : Int)) = some (bit1 (bits k x) : Int) := by
        unfold bit1
        by_cases h : 32768 ≤ bits k x
        · rw [geT (by omega), if_pos h, ite_t, show (4129 : Int) = ((4129 : Nat) : Int) by rfl, xorI_64 (by omega) (by omega)]
          have h2 : 2 * bits k x ^^^ 4129 < 2 ^ 17 := Nat.xor_lt_two_pow (by omega) (by omega)
          rw [andI_16 (by omega)]
        · rw [geF (by omega), if_neg h, ite_f]
      rw [e3]
      simp only [bn_some]
      rw [addI_64 (by omega) (by omega)]
      rfl
    · simp only
      rw [ltF (by omega)]
      rfl
    · rw [addI_64 (by omega) (by omega)]
      rfl
  · simp only [lt_eq]
    rw [ltF (by simp only [lenS]; omega)]
    rfl
theorem bytesI_len (s : ByteArray) : (bytesI s).length = s.size := by simp [bytesI]
theorem bytesI_get (s : ByteArray) (i : Nat) (h : i < (bytesI s).length) : (bytesI s)[i] = bAt s i := by
  rw [bAt_list (by rw [bytesI_len] at h; exact h)]
  simp [bytesI]
theorem slot_Crc_ok (s : ByteArray) (hs : s.size ≤ 1000000000000) : slot_Crc_sh big (bytesI s) = some (crcN s s.size : Int) := by
  unfold slot_Crc_sh
  have hl := bytesI_len s
  simp only [lt_eq]
  refine bn_run (crcN s s.size : Int) (fun i => ((crcN s i : Int), (i : Int))) s.size (by unfold big; omega) rfl (fun i hi => ?_) ?_ ?_
  · simp only
    rw [ltT (by simp only [lenI]; omega), nth_some (by omega), bytesI_get]
    obtain ⟨b1, b2⟩ := bAt_byte s i
    have hc := crcN_lt s i
    rw [b1]
    simp only [lt_eq, bn_some, ite_t, ite_f, sm_inl, sm_inr, lenI_eq, Option.some.injEq]
    have e0 : cvI .u16 (byteN s i : Int) = (byteN s i : Int) := by unfold cvI; rw [wrapU16]; omega
    rw [e0]
    have e1 : shlI .u16 (byteN s i : Int) 8 = some ((byteN s i * 256 : Nat) : Int) := by
      unfold shlI
      rw [if_pos (by omega)]
      simp only [IntKind.bits, show min (8 : Int).toNat 16 = 8 by rfl]
      rw [wrapU16]
      congr 1
      omega
    rw [e1]
    simp only [bn_some]
    rw [xorI_16 (by omega) (by omega)]
    have hx : crcN s i ^^^ byteN s i * 256 < 65536 := Nat.xor_lt_two_pow (n := 16) (by omega) (by omega)
    have hcs : crcN s (i + 1) = bits 8 (crcN s i ^^^ byteN s i * 256) := rfl
    rw [hcs]
    clear hcs
    generalize crcN s i ^^^ byteN s i * 256 = x at hx ⊢
    refine bn_run (bits 8 x : Int) (fun k => ((bits k x : Int), (k : Int))) 8 (by unfold big; omega) rfl (fun k hk => ?_) ?_ ?_
    · simp only
      rw [ltT (by omega), ite_t]
      have hb := bits_lt hx k
      have e2 : shlI .u16 (bits k x : Int) 1 = some ((2 * bits k x % 65536 : Nat) : Int) := by
        unfold shlI
        rw [if_pos (by omega)]
        simp only [IntKind.bits, show min (1 : Int).toNat 16 = 1 by rfl]
        rw [wrapU16]
        congr 1
        omega
      have e4 : shrI .u16 (bits k x : Int) 15 = some ((bits k x / 32768 : Nat) : Int) := by
        unfold shrI
        rw [if_pos (by omega)]
        simp only [IntKind.bits, show min (15 : Int).toNat 16 = 15 by rfl]
        rw [Int.fdiv_eq_ediv_of_nonneg _ (by omega)]
        rfl
      rw [e2, e4]
      simp only [bn_some]
      have e5 : mulI .u16 4129 ((bits k x / 32768 : Nat) : Int) = ((4129 * (bits k x / 32768) : Nat) : Int) := by
        unfold mulI
        rw [wrapU16]
        omega
      rw [e5, xorI_16 (by omega) (by omega)]
      have e3 : (2 * bits k x % 65536) ^^^ (4129 * (bits k x / 32768)) = bit1 (bits k x) := by
        unfold bit1
        by_cases h : 32768 ≤ bits k x
        · rw [if_pos h, show bits k x / 32768 = 1 by omega]
          have := @Nat.xor_mod_two_pow (2 * bits k x) 4129 16
          rw [show (2 : Nat) ^ 16 = 65536 by rfl] at this
          rw [this]
        · rw [if_neg h, show bits k x / 32768 = 0 by omega, Nat.mod_eq_of_lt (by omega), Nat.mul_zero, Nat.xor_zero]
      rw [e3, addI_64 (by omega) (by omega)]
      rfl
    · simp only
      rw [ltF (by omega)]
      rfl
    · rw [addI_64 (by omega) (by omega)]
      rfl
  · simp only
    rw [ltF (by simp only [lenI]; omega)]
    rfl
  · have hc := crcN_lt s s.size
    rw [cvI_64 (by omega) (by omega)]
/-- A key's slot. -/
def slotOf (k : ByteArray) : Int := (r1_Slot_sh big k).getD 0
theorem slot_ok (k : ByteArray) (h : k.size ≤ 1000000000000) : r1_Slot_sh big k = some (slotOf k) ∧ slot_Of_sh big k = some (slotOf k) := by
  obtain ⟨t, h1, h2, h3⟩ := Tag_ok k h
  have hc := crcN_lt t t.size
  have e : remI .i64 (crcN t t.size : Int) 16384 = some (((crcN t t.size) % 16384 : Nat) : Int) := by
    simp [remI, Int.tmod_eq_emod_of_nonneg]
  have e1 : r1_Slot_sh big k = some (((crcN t t.size) % 16384 : Nat) : Int) := by
    unfold r1_Slot_sh
    rw [h1]
    simp only [bn_some]
    rw [r1_Crc_ok t (by omega)]
    simp only [bn_some]
    rw [e]
    rfl
  have e2 : slot_Of_sh big k = some (((crcN t t.size) % 16384 : Nat) : Int) := by
    unfold slot_Of_sh
    rw [h2]
    simp only [bn_some]
    rw [chk_room (by omega) (by omega)]
    simp only [lt_eq]
    rw [slot_Crc_ok t (by omega)]
    simp only [bn_some]
    rw [e]
    rfl
  unfold slotOf
  rw [e1, e2]
  exact ⟨rfl, rfl⟩
/-- The keys of a slot. -/
def inP (l : List Pair) (s : Int) : List ByteArray := (l.filter fun p => decide (slotOf p.key = s)).map fun p => p.key
theorem inP_take (l : List Pair) (s : Int) (i : Nat) (hi : i < l.length) : inP (l.take (i + 1)) s = bif decide (slotOf l[i].key = s) then inP (l.take i) s ++ [l[i].key] else inP (l.take i) s := by
  rw [← List.take_append_getElem hi]
  unfold inP
  rw [List.filter_append, List.map_append]
  by_cases h : slotOf l[i].key = s
  · simp [h]
  · simp [h]
theorem inP_len (l : List Pair) (s : Int) : (inP l s).length ≤ l.length := by
  unfold inP
  rw [List.length_map]
  exact List.length_filter_le _ _
theorem space_In_ok (l : List Pair) (s : Int) (hl : l.length ≤ 1000000000) (hk : ∀ p ∈ l, p.key.size ≤ 1000000000000) : space_In_sh big l s = some (inP l s) := by
  unfold space_In_sh space_keys_sh slices_Collect_string_sh slices_AppendSeq_string_sh
  have hlen := inP_len l s
  simp only [lt_eq, bn_some, ite_t, ite_f, sm_inl, sm_inr, lenI_eq, Option.some.injEq]
  have e : ∀ x : Option (List ByteArray), x = some (inP l s) → (bn (bn (bn x fun y4 => some y4) fun y1 => chk (room y1.length 1) (some y1)) fun v1 => some v1) = some (inP l s) := by
    rintro x rfl
    simp only [lt_eq, bn_some, ite_t, ite_f, sm_inl, sm_inr, lenI_eq, Option.some.injEq]
    rw [chk_room (by omega) (by omega)]
    rfl
  refine (congrArg (fun x => bn x fun v2 => some v2) (e _ ?_)).trans rfl
  refine iter_run (fun i => ((i : Int), inP (l.take i) s)) l.length (by unfold big; omega) rfl (fun i hi => ?_) ?_
  · have hn := inP_len (l.take i) s
    rw [List.length_take] at hn
    simp only [lt_eq, bn_some, ite_t, ite_f, sm_inl, sm_inr, lenI_eq, Option.some.injEq]
    rw [ltT (by omega), nth_some hi]
    simp only [lt_eq, bn_some, ite_t, ite_f, sm_inl, sm_inr, lenI_eq, Option.some.injEq]
    rw [(slot_ok _ (hk _ (List.getElem_mem hi))).2]
    simp only [lt_eq, bn_some, ite_t, ite_f, sm_inl, sm_inr, lenI_eq, Option.some.injEq]
    rw [chk_room (by omega) (by omega), addI_64 (by omega) (by omega), inP_take l s i hi]
    unfold eqI
    cases decide (slotOf l[i].key = s) <;> rfl
  · simp only [lt_eq, bn_some, ite_t, ite_f, sm_inl, sm_inr, lenI_eq, Option.some.injEq]
    rw [ltF (by omega), List.take_length]
    rfl
end Go.Proofs.Ytlkhfdccapkcdaa

/- Walks, printed: l11_Make, l11_awake, l11_SpaceSlots -/
namespace Go.Proofs.Ytlkhfdccapkcdaa
open Go Go.RowKit
set_option linter.unusedVariables false
set_option linter.unusedSimpArgs false
def l11_Make_sh (n : Nat) (a0 : List Int) : Option (List Pair) :=
bn (l11_Effects_sh n a0) fun v1 =>
bn (r5_Apply_sh n [] v1) fun v2 =>
some v2
set_option maxRecDepth 8000 in
set_option maxHeartbeats 8000000 in
theorem s_l11_Make {n : Nat} {a0 : List Int} {r : List Pair} (h : l11_Make_sh n a0 = some r) : Sound Try.prog 51 [.l (.d false 1 (encU a0))] [] (.l (.d false 6 (encPair r))) [] := by
  unfold l11_Make_sh at h
  refine Sound.of_aw (fn := Try.f51) (c := _) Try.func51 rfl (by simp [Try.f51]) fun cx hG hnb => ?_
  rw [show Try.f51.ntmps = 6 from rfl]
  have hn0 : cx.nb = 0 := hnb
  simp only [st0_mk, initTm, List.map_cons, List.map_nil]
  apply AW.step
  · simp
    intros; rfl
  replace h := bnE h; obtain ⟨v1, e1, h⟩ := h
  replace h := bnE h; obtain ⟨v2, e2, h⟩ := h
  apply AW.step
  · simp
    intros
    refine xcall_plain en_l11_Effects (s_l11_Effects e1) rfl ⟨.same rfl, trivial⟩ ?_
    try simp
    intros
    refine xcall_plain en_r5_Apply (s_r5_Apply e2) rfl ⟨.nil _ _, .same rfl, trivial⟩ ?_
    try simp
    intros; rfl
  obtain rfl := Option.some.inj h
  refine AW.ret ?_
  refine Left.plain hnb (by simp [Try.f51, resV, resC, comp]; rfl) rfl rfl ?_
  simp
theorem en_l11_Make : Enters Try.prog 51 := enters Try.func51 (by kernel_rfl) rfl
def l11_awake_sh (n : Nat)  : Option Bool :=
bn (space_Apply_sh n [] [(⟨⟨#[97]⟩, false, (⟨1, ⟨#[]⟩, [], [], 0⟩ : Item)⟩ : Effect)]) fun v1 =>
bn (bn (space_In_sh n [] 0) fun v3 =>
lt (lenI v3) fun v4 =>
lt (eqI v4 0) fun v5 =>
ite' v5 (lt (lenI v1) fun v6 =>
lt (eqI v6 1) fun v7 =>
ite' v7 (bn (r1_Slot_sh n ⟨#[97]⟩) fun v8 =>
bn (space_In_sh n v1 v8) fun v9 =>
lt (lenI v9) fun v10 =>
lt (eqI v10 1) fun v11 =>
some (v11)) (some (false))) (some (false))) fun (y2 : Bool) =>
some y2
set_option maxRecDepth 8000 in
set_option maxHeartbeats 8000000 in
theorem s_l11_awake {n : Nat}  {r : Bool} (h : l11_awake_sh n  = some r) : Sound Try.prog 50 [] [] (.l (.s (.bool r))) [] := by
  unfold l11_awake_sh at h
  refine Sound.of_aw (fn := Try.f50) (c := _) Try.func50 rfl (by simp [Try.f50]) fun cx hG hnb => ?_
  rw [show Try.f50.ntmps = 21 from rfl]
  have hn0 : cx.nb = 0 := hnb
  simp only [st0_mk, initTm, List.map_cons, List.map_nil]
  apply AW.step
  · simp
    intros; rfl
  replace h := bnE h; obtain ⟨v1, e1, h⟩ := h
  apply AW.step
  · simp
    intros
    refine xrow_data (es := encEffect [(⟨⟨#[97]⟩, false, (⟨1, ⟨#[]⟩, [], [], 0⟩ : Item)⟩ : Effect)]) (by simp [encEffect, lvs, All2]) (encEffect_sz _) (by omega) (by simp) ?_
    try simp
    intros
    refine xcall_plain en_space_Apply (s_space_Apply e1) rfl ⟨.nil _ _, .same rfl, trivial⟩ ?_
    try simp
    intros; rfl
  replace h := bnE h; obtain ⟨y2, g2, h⟩ := h
  refine AW.flow (p := fun gh ls => (nP (cx := cx) (fun q => (⟨[(0, .l (.s (.bool q)))], [], 21, gh, ls⟩ : St))) y2) ?_ ?_
  · replace h := g2; clear g2
    replace h := bnE h; obtain ⟨v3, e3, h⟩ := h
    replace h := ltE h; obtain ⟨v4, e4, h⟩ := h
    replace h := ltE h; obtain ⟨v5, e5, h⟩ := h
    cases v5 with
    | true =>
      replace h := iteT rfl h
      replace h := ltE h; obtain ⟨v6, e6, h⟩ := h
      replace h := ltE h; obtain ⟨v7, e7, h⟩ := h
      cases v7 with
      | true =>
        replace h := iteT rfl h
        replace h := bnE h; obtain ⟨v8, e8, h⟩ := h
        replace h := bnE h; obtain ⟨v9, e9, h⟩ := h
        replace h := ltE h; obtain ⟨v10, e10, h⟩ := h
        replace h := ltE h; obtain ⟨v11, e11, h⟩ := h
        apply AW.last
        · simp [lenI_cast e4, ← e5, lenI_cast e6, ← e7, lenI_cast e10, ← e11]
          intros
          refine xcall_plain en_space_In (s_space_In e3) rfl ⟨.nil _ _, .same rfl, trivial⟩ ?_
          try simp [lenI_cast e4, ← e5, lenI_cast e6, ← e7, lenI_cast e10, ← e11]
          intros
          refine xcall_plain en_r1_Slot (s_r1_Slot e8) rfl ⟨.same rfl, trivial⟩ ?_
          try simp [lenI_cast e4, ← e5, lenI_cast e6, ← e7, lenI_cast e10, ← e11]
          intros
          refine xcall_plain en_space_In (s_space_In e9) rfl ⟨.same rfl, .same rfl, trivial⟩ ?_
          try simp [lenI_cast e4, ← e5, lenI_cast e6, ← e7, lenI_cast e10, ← e11]
          intros; rfl
        obtain rfl := Option.some.inj h
        refine nP_i ?_
        refine Weak.mixN [] hn0 (by decide) ?_ ?_ rfl
        all_goals first | (simp [inv_cons, inv_nil, pickOb]; done) | rfl
      | false =>
        replace h := iteF rfl h
        apply AW.last
        · simp [lenI_cast e4, ← e5, lenI_cast e6, ← e7]
          intros
          refine xcall_plain en_space_In (s_space_In e3) rfl ⟨.nil _ _, .same rfl, trivial⟩ ?_
          try simp [lenI_cast e4, ← e5, lenI_cast e6, ← e7]
          intros; rfl
        obtain rfl := Option.some.inj h
        refine nP_i ?_
        refine Weak.mixN [] hn0 (by decide) ?_ ?_ rfl
        all_goals first | (simp [inv_cons, inv_nil, pickOb]; done) | rfl
    | false =>
      replace h := iteF rfl h
      apply AW.last
      · simp [lenI_cast e4, ← e5]
        intros
        refine xcall_plain en_space_In (s_space_In e3) rfl ⟨.nil _ _, .same rfl, trivial⟩ ?_
        try simp [lenI_cast e4, ← e5]
        intros; rfl
      obtain rfl := Option.some.inj h
      refine nP_i ?_
      refine Weak.mixN [] hn0 (by decide) ?_ ?_ rfl
      all_goals first | (simp [inv_cons, inv_nil, pickOb]; done) | rfl
  · rintro e s hp
    obtain ⟨rfl, hw⟩ := hp
    refine ⟨_, hw, ?_⟩
    try simp only [sp_l, sp_r, Post.seq, Post.block, Nat.reduceEqDiff, reduceIte, Nat.zero_ne_one, Nat.one_ne_zero]
    obtain rfl := Option.some.inj h
    refine AW.ret ?_
    refine Left.plain hnb (by simp [Try.f50, resV, resC, comp]; rfl) rfl rfl ?_
    simp
theorem en_l11_awake : Enters Try.prog 50 := enters Try.func50 (by kernel_rfl) rfl
end Go.Proofs.Ytlkhfdccapkcdaa

/- Walks, printed: l11_SpaceDead -/
namespace Go.Proofs.Ytlkhfdccapkcdaa
open Go Go.RowKit
set_option linter.unusedVariables false
set_option linter.unusedSimpArgs false
def l11_SpaceDead_sh (n : Nat) (a0 : List Int) (a1 : ByteArray) (a2 : Int) (a3 : Int) : Option Bool :=
bn (lt (lenI a0) fun v2 =>
lt (gtI v2 100) fun v3 =>
ite' v3 (some (true)) (lt (lenS a1) fun v4 =>
lt (gtI v4 40) fun v5 =>
some (v5))) fun (y1 : Bool) =>
lt (y1) fun v6 =>
ite' v6 (bn (l11_awake_sh n) fun v7 =>
some v7) (lt (cvI .i64 a2) fun v8 =>
lt (addI .i64 1 v8) fun v9 =>
bn (l11_Make_sh n a0) fun v10 =>
bn (space_Apply_sh n v10 [(⟨a1, false, (⟨1, ⟨#[118]⟩, [], [], v9⟩ : Item)⟩ : Effect)]) fun v11 =>
lt (cvI .i64 a3) fun v12 =>
bn (space_Get_sh n v11 a1 v12) fun v13 =>
bn (space_Raw_sh n v11 a1) fun v14 =>
bn (r1_Slot_sh n a1) fun v15 =>
bn (space_In_sh n v11 v15) fun v16 =>
bn (space_Apply_sh n v11 [(⟨a1, true, (⟨0, ⟨#[]⟩, [], [], 0⟩ : Item)⟩ : Effect)]) fun v17 =>
bn (space_Raw_sh n v17 a1) fun v18 =>
bn (lt (leI a3 a2) fun v20 =>
lt (eqB v13.2 v20) fun v21 =>
ite' v21 (lt (v13.2) fun v22 =>
ite' v22 (lt (v14.2) fun v23 =>
ite' v23 (bn (r5_SHas_sh n v16 a1) fun v24 =>
ite' v24 (lt (notB v18.2) fun v25 =>
ite' v25 (lt (lenI v17) fun v26 =>
lt (lenI v11) fun v27 =>
lt (subI .i64 v27 1) fun v28 =>
lt (eqI v26 v28) fun v29 =>
ite' v29 (bn (r1_Slot_sh n a1) fun v30 =>
bn (space_In_sh n v17 v30) fun v31 =>
bn (r5_SHas_sh n v31 a1) fun v32 =>
lt (notB v32) fun v33 =>
ite' v33 (bn (l11_awake_sh n) fun v34 =>
some (v34)) (some (false))) (some (false))) (some (false))) (some (false))) (some (false))) (bn (r5_SameItem_sh n v13.1 (⟨0, ⟨#[]⟩, [], [], 0⟩ : Item)) fun v35 =>
ite' v35 (lt (v14.2) fun v36 =>
ite' v36 (bn (r5_SHas_sh n v16 a1) fun v37 =>
ite' v37 (lt (notB v18.2) fun v38 =>
ite' v38 (lt (lenI v17) fun v39 =>
lt (lenI v11) fun v40 =>
lt (subI .i64 v40 1) fun v41 =>
lt (eqI v39 v41) fun v42 =>
ite' v42 (bn (r1_Slot_sh n a1) fun v43 =>
bn (space_In_sh n v17 v43) fun v44 =>
bn (r5_SHas_sh n v44 a1) fun v45 =>
lt (notB v45) fun v46 =>
ite' v46 (bn (l11_awake_sh n) fun v47 =>
some (v47)) (some (false))) (some (false))) (some (false))) (some (false))) (some (false))) (some (false)))) (some (false))) fun (y19 : Bool) =>
some y19)
set_option maxRecDepth 8000 in
set_option maxHeartbeats 8000000 in
theorem s_l11_SpaceDead {n : Nat} {a0 : List Int} {a1 : ByteArray} {a2 : Int} {a3 : Int} {r : Bool} (h : l11_SpaceDead_sh n a0 a1 a2 a3 = some r) : Sound Try.prog 11 [.l (.d false 1 (encU a0)), .l (.s (.string a1)), .l (.s (.int .u8 a2)), .l (.s (.int .u8 a3))] [] (.l (.s (.bool r))) [] := by
  unfold l11_SpaceDead_sh at h
  refine Sound.of_aw (fn := Try.f11) (c := _) Try.func11 rfl (by simp [Try.f11]) fun cx hG hnb => ?_
  rw [show Try.f11.ntmps = 113 from rfl]
  have hn0 : cx.nb = 0 := hnb
  simp only [st0_mk, initTm, List.map_cons, List.map_nil]
  apply AW.step
  · simp
    intros; rfl
  refine AW.seq ?_
  replace h := bnE h; obtain ⟨y1, g1, h⟩ := h
  refine AW.flow (p := fun gh ls => (nP (cx := cx) (fun q => (⟨[(0, .l (.d false 1 (encU a0))), (1, .l (.s (.string a1))), (2, .l (.s (.int .u8 a2))), (3, .l (.s (.int .u8 a3))), (26, .l (.s (.bool q)))], [], 113, gh, ls⟩ : St))) y1) ?_ ?_
  · replace h := g1; clear g1
    replace h := ltE h; obtain ⟨v2, e2, h⟩ := h
    replace h := ltE h; obtain ⟨v3, e3, h⟩ := h
    cases v3 with
    | true =>
      replace h := iteT rfl h
      apply AW.last
      · simp [lenI_cast e2, ← e3]
        intros; rfl
      obtain rfl := Option.some.inj h
      refine nP_i ?_
      refine Weak.mixN [] hn0 (by decide) ?_ ?_ rfl
      all_goals first | (simp [inv_cons, inv_nil, pickOb]; done) | rfl
    | false =>
      replace h := iteF rfl h
      replace h := ltE h; obtain ⟨v4, e4, h⟩ := h
      replace h := ltE h; obtain ⟨v5, e5, h⟩ := h
      apply AW.last
      · simp [lenI_cast e2, ← e3, ← e4, ← e5]
        intros; rfl
      obtain rfl := Option.some.inj h
      refine nP_i ?_
      refine Weak.mixN [] hn0 (by decide) ?_ ?_ rfl
      all_goals first | (simp [inv_cons, inv_nil, pickOb]; done) | rfl
  · rintro e s hp
    obtain ⟨rfl, hw⟩ := hp
    refine ⟨_, hw, ?_⟩
    try simp only [sp_l, sp_r, Post.seq, Post.block, Nat.reduceEqDiff, reduceIte, Nat.zero_ne_one, Nat.one_ne_zero]
    replace h := ltE h; obtain ⟨v6, e6, h⟩ := h
    rw [← e6]
    cases v6 with
    | true =>
      replace h := iteT rfl h
      refine AW.cond_true (by simp) ?_
      replace h := bnE h; obtain ⟨v7, e7, h⟩ := h
      apply AW.step
      · simp
        intros
        refine xcall_plain en_l11_awake (s_l11_awake e7) rfl trivial ?_
        try simp
        intros; rfl
      obtain rfl := Option.some.inj h
      refine AW.ret ?_
      refine Left.plain hnb (by simp [Try.f11, resV, resC, comp]; rfl) rfl rfl ?_
      simp
    | false =>
      replace h := iteF rfl h
      refine AW.cond_false (by simp) ?_
      refine AW.skip ?_
      try simp only [sp_l, sp_r, Post.seq, Post.block, Nat.reduceEqDiff, reduceIte, Nat.zero_ne_one, Nat.one_ne_zero]
      try simp only [sp_l, sp_r, Post.seq, Post.block, Nat.reduceEqDiff, reduceIte, Nat.zero_ne_one, Nat.one_ne_zero]
      replace h := ltE h; obtain ⟨v8, e8, h⟩ := h
      replace h := ltE h; obtain ⟨v9, e9, h⟩ := h
      apply AW.step
      · simp [← e8, ← e9]
        intros; rfl
      replace h := bnE h; obtain ⟨v10, e10, h⟩ := h
      replace h := bnE h; obtain ⟨v11, e11, h⟩ := h
      apply AW.drawnE (V := [_, _, _, _]) (M := [[some ⟨36, 7, false, none, [.s (.string a1), .s (.bool false), .s (.int .i64 1), .s (.string ⟨#[118]⟩), .s (.slice none 0 0), .s (.slice none 0 0), .s (.int .i64 v9)]⟩], [some ⟨36, 7, false, none, [.s (.string a1), .s (.bool false), .s (.int .i64 1), .s (.string ⟨#[118]⟩), .s (.slice none 0 0), .s (.slice none 0 0), .s (.int .i64 v9)]⟩, none]]) mixed [⟨[0, 1], [], [(0, none)], false⟩, ⟨[0, 1], [0], [(34, some 0)], false⟩, ⟨[0], [], [(9, none)], false⟩, ⟨[0], [2], [(36, some 2)], true⟩, ⟨[], [0, 1, 2, 3], [], false⟩, ⟨[], [0, 1, 2, 3, 4], [], false⟩] 4 1 (by kernel_rfl) (by kernel_rfl)
      · rfl
      · refine ⟨⟨?_, ?_⟩, ⟨?_, ?_⟩, ?_, ?_, trivial⟩
        · intro tm hr
          simp [AllL, rdV] at hr
          simp [hr]
          intros; first | exact KD.mk | exact KD.mkN
        · intro tm hr
          simp [AllL, rdV] at hr
          simp [hr]
          intros; first | exact KD.mk | exact KD.mkN
        · intro tm hr
          simp [AllL, rdV] at hr
          simp [hr]
          intros
          refine xcall_plain en_l11_Make (s_l11_Make e10) rfl ⟨.same rfl, trivial⟩ ?_
          try simp []
          intros; first | exact KD.mk | exact KD.mkN
        · intro tm hr
          simp [AllL, rdV] at hr
          simp [hr]
          intros
          refine xcall_plain en_l11_Make (s_l11_Make e10) rfl ⟨.same rfl, trivial⟩ ?_
          try simp []
          intros; first | exact KD.mk | exact KD.mkN
        · intro tm hr
          simp [AllL, rdV] at hr
          simp [hr]
          intros; first | exact KD.mk | exact KD.mkN
        · intro tm hr
          simp [AllL, rdV] at hr
          simp [hr]
          intros
          refine xrow_data (es := encEffect [(⟨a1, false, (⟨1, ⟨#[118]⟩, [], [], v9⟩ : Item)⟩ : Effect)]) (by simp [encEffect, lvs, All2]) (encEffect_sz _) (by omega) (by simp) ?_
          try simp []
          intros; first | exact KD.mk | exact KD.mkN
      · rfl
      · simp [tmD, putD]; rfl
      · simp
        intros
        refine xcall_plain en_space_Apply (s_space_Apply e11) rfl ⟨.same rfl, .same rfl, trivial⟩ ?_
        try simp []
        intros; rfl
      replace h := ltE h; obtain ⟨v12, e12, h⟩ := h
      replace h := bnE h; obtain ⟨v13, e13, h⟩ := h
      apply AW.step
      · simp [← e12]
        intros
        refine xcall_plain en_space_Get (s_space_Get e13) rfl ⟨.same rfl, .same rfl, .same rfl, trivial⟩ ?_
        try simp [← e12]
        intros; rfl
      replace h := bnE h; obtain ⟨v14, e14, h⟩ := h
      apply AW.step
      · simp
        intros
        refine xcall_plain en_space_Raw (s_space_Raw e14) rfl ⟨.same rfl, .same rfl, trivial⟩ ?_
        try simp
        intros; rfl
      replace h := bnE h; obtain ⟨v15, e15, h⟩ := h
      replace h := bnE h; obtain ⟨v16, e16, h⟩ := h
      apply AW.step
      · simp
        intros
        refine xcall_plain en_r1_Slot (s_r1_Slot e15) rfl ⟨.same rfl, trivial⟩ ?_
        try simp
        intros
        refine xcall_plain en_space_In (s_space_In e16) rfl ⟨.same rfl, .same rfl, trivial⟩ ?_
        try simp
        intros; rfl
      replace h := bnE h; obtain ⟨v17, e17, h⟩ := h
      apply AW.step
      · simp
        intros
        refine xrow_data (es := encEffect [(⟨a1, true, (⟨0, ⟨#[]⟩, [], [], 0⟩ : Item)⟩ : Effect)]) (by simp [encEffect, lvs, All2]) (encEffect_sz _) (by omega) (by simp) ?_
        try simp
        intros
        refine xcall_plain en_space_Apply (s_space_Apply e17) rfl ⟨.same rfl, .same rfl, trivial⟩ ?_
        try simp
        intros; rfl
      replace h := bnE h; obtain ⟨v18, e18, h⟩ := h
      apply AW.step
      · simp
        intros
        refine xcall_plain en_space_Raw (s_space_Raw e18) rfl ⟨.same rfl, .same rfl, trivial⟩ ?_
        try simp
        intros; rfl
      replace h := bnE h; obtain ⟨y19, g19, h⟩ := h
      refine AW.flow (p := fun gh ls => (nP (cx := cx) (fun q => (⟨[(8, .l (.s (.bool q)))], [], 113, gh, ls⟩ : St))) y19) ?_ ?_
      · replace h := g19; clear g19
        replace h := ltE h; obtain ⟨v20, e20, h⟩ := h
        replace h := ltE h; obtain ⟨v21, e21, h⟩ := h
        cases v21 with
        | true =>
          replace h := iteT rfl h
          replace h := ltE h; obtain ⟨v22, e22, h⟩ := h
          cases v22 with
          | true =>
            replace h := iteT rfl h
            try simp only [← e22] at e21
            replace h := ltE h; obtain ⟨v23, e23, h⟩ := h
            cases v23 with
            | true =>
              replace h := iteT rfl h
              replace h := bnE h; obtain ⟨v24, e24, h⟩ := h
              cases v24 with
              | true =>
                replace h := iteT rfl h
                replace h := ltE h; obtain ⟨v25, e25, h⟩ := h
                cases v25 with
                | true =>
                  replace h := iteT rfl h
                  replace h := ltE h; obtain ⟨v26, e26, h⟩ := h
                  replace h := ltE h; obtain ⟨v27, e27, h⟩ := h
                  replace h := ltE h; obtain ⟨v28, e28, h⟩ := h
                  replace h := ltE h; obtain ⟨v29, e29, h⟩ := h
                  cases v29 with
                  | true =>
                    replace h := iteT rfl h
                    replace h := bnE h; obtain ⟨v30, e30, h⟩ := h
                    replace h := bnE h; obtain ⟨v31, e31, h⟩ := h
                    replace h := bnE h; obtain ⟨v32, e32, h⟩ := h
                    replace h := ltE h; obtain ⟨v33, e33, h⟩ := h
                    cases v33 with
                    | true =>
                      replace h := iteT rfl h
                      replace h := bnE h; obtain ⟨v34, e34, h⟩ := h
                      apply AW.last
                      · simp [← e20, ← e21, ← e22, ← e23, ← e25, lenI_cast e26, lenI_cast e27, ← e28, ← e29, ← e33]
                        intros
                        refine xcall_plain en_r5_SHas (s_r5_SHas e24) rfl ⟨.same rfl, .same rfl, trivial⟩ ?_
                        try simp [← e20, ← e21, ← e22, ← e23, ← e25, lenI_cast e26, lenI_cast e27, ← e28, ← e29, ← e33]
                        intros
                        refine xcall_plain en_r1_Slot (s_r1_Slot e30) rfl ⟨.same rfl, trivial⟩ ?_
                        try simp [← e20, ← e21, ← e22, ← e23, ← e25, lenI_cast e26, lenI_cast e27, ← e28, ← e29, ← e33]
                        intros
                        refine xcall_plain en_space_In (s_space_In e31) rfl ⟨.same rfl, .same rfl, trivial⟩ ?_
                        try simp [← e20, ← e21, ← e22, ← e23, ← e25, lenI_cast e26, lenI_cast e27, ← e28, ← e29, ← e33]
                        intros
                        refine xcall_plain en_r5_SHas (s_r5_SHas e32) rfl ⟨.same rfl, .same rfl, trivial⟩ ?_
                        try simp [← e20, ← e21, ← e22, ← e23, ← e25, lenI_cast e26, lenI_cast e27, ← e28, ← e29, ← e33]
                        intros
                        refine xcall_plain en_l11_awake (s_l11_awake e34) rfl trivial ?_
                        try simp [← e20, ← e21, ← e22, ← e23, ← e25, lenI_cast e26, lenI_cast e27, ← e28, ← e29, ← e33]
                        intros; rfl
                      obtain rfl := Option.some.inj h
                      refine nP_i ?_
                      refine Weak.mixN [] hn0 (by decide) ?_ ?_ rfl
                      all_goals first | (simp [inv_cons, inv_nil, pickOb]; done) | rfl
                    | false =>
                      replace h := iteF rfl h
                      apply AW.last
                      · simp [← e20, ← e21, ← e22, ← e23, ← e25, lenI_cast e26, lenI_cast e27, ← e28, ← e29, ← e33]
                        intros
                        refine xcall_plain en_r5_SHas (s_r5_SHas e24) rfl ⟨.same rfl, .same rfl, trivial⟩ ?_
                        try simp [← e20, ← e21, ← e22, ← e23, ← e25, lenI_cast e26, lenI_cast e27, ← e28, ← e29, ← e33]
                        intros
                        refine xcall_plain en_r1_Slot (s_r1_Slot e30) rfl ⟨.same rfl, trivial⟩ ?_
                        try simp [← e20, ← e21, ← e22, ← e23, ← e25, lenI_cast e26, lenI_cast e27, ← e28, ← e29, ← e33]
                        intros
                        refine xcall_plain en_space_In (s_space_In e31) rfl ⟨.same rfl, .same rfl, trivial⟩ ?_
                        try simp [← e20, ← e21, ← e22, ← e23, ← e25, lenI_cast e26, lenI_cast e27, ← e28, ← e29, ← e33]
                        intros
                        refine xcall_plain en_r5_SHas (s_r5_SHas e32) rfl ⟨.same rfl, .same rfl, trivial⟩ ?_
                        try simp [← e20, ← e21, ← e22, ← e23, ← e25, lenI_cast e26, lenI_cast e27, ← e28, ← e29, ← e33]
                        intros; rfl
                      obtain rfl := Option.some.inj h
                      refine nP_i ?_
                      refine Weak.mixN [] hn0 (by decide) ?_ ?_ rfl
                      all_goals first | (simp [inv_cons, inv_nil, pickOb]; done) | rfl
                  | false =>
                    replace h := iteF rfl h
                    apply AW.last
                    · simp [← e20, ← e21, ← e22, ← e23, ← e25, lenI_cast e26, lenI_cast e27, ← e28, ← e29]
                      intros
                      refine xcall_plain en_r5_SHas (s_r5_SHas e24) rfl ⟨.same rfl, .same rfl, trivial⟩ ?_
                      try simp [← e20, ← e21, ← e22, ← e23, ← e25, lenI_cast e26, lenI_cast e27, ← e28, ← e29]
                      intros; rfl
                    obtain rfl := Option.some.inj h
                    refine nP_i ?_
                    refine Weak.mixN [] hn0 (by decide) ?_ ?_ rfl
                    all_goals first | (simp [inv_cons, inv_nil, pickOb]; done) | rfl
                | false =>
                  replace h := iteF rfl h
                  apply AW.last
                  · simp [← e20, ← e21, ← e22, ← e23, ← e25]
                    intros
                    refine xcall_plain en_r5_SHas (s_r5_SHas e24) rfl ⟨.same rfl, .same rfl, trivial⟩ ?_
                    try simp [← e20, ← e21, ← e22, ← e23, ← e25]
                    intros; rfl
                  obtain rfl := Option.some.inj h
                  refine nP_i ?_
                  refine Weak.mixN [] hn0 (by decide) ?_ ?_ rfl
                  all_goals first | (simp [inv_cons, inv_nil, pickOb]; done) | rfl
              | false =>
                replace h := iteF rfl h
                apply AW.last
                · simp [← e20, ← e21, ← e22, ← e23]
                  intros
                  refine xcall_plain en_r5_SHas (s_r5_SHas e24) rfl ⟨.same rfl, .same rfl, trivial⟩ ?_
                  try simp [← e20, ← e21, ← e22, ← e23]
                  intros; rfl
                obtain rfl := Option.some.inj h
                refine nP_i ?_
                refine Weak.mixN [] hn0 (by decide) ?_ ?_ rfl
                all_goals first | (simp [inv_cons, inv_nil, pickOb]; done) | rfl
            | false =>
              replace h := iteF rfl h
              apply AW.last
              · simp [← e20, ← e21, ← e22, ← e23]
                intros; rfl
              obtain rfl := Option.some.inj h
              refine nP_i ?_
              refine Weak.mixN [] hn0 (by decide) ?_ ?_ rfl
              all_goals first | (simp [inv_cons, inv_nil, pickOb]; done) | rfl
          | false =>
            replace h := iteF rfl h
            try simp only [← e22] at e21
            replace h := bnE h; obtain ⟨v35, e35, h⟩ := h
            cases v35 with
            | true =>
              replace h := iteT rfl h
              replace h := ltE h; obtain ⟨v36, e36, h⟩ := h
              cases v36 with
              | true =>
                replace h := iteT rfl h
                replace h := bnE h; obtain ⟨v37, e37, h⟩ := h
                cases v37 with
                | true =>
                  replace h := iteT rfl h
                  replace h := ltE h; obtain ⟨v38, e38, h⟩ := h
                  cases v38 with
                  | true =>
                    replace h := iteT rfl h
                    replace h := ltE h; obtain ⟨v39, e39, h⟩ := h
                    replace h := ltE h; obtain ⟨v40, e40, h⟩ := h
                    replace h := ltE h; obtain ⟨v41, e41, h⟩ := h
                    replace h := ltE h; obtain ⟨v42, e42, h⟩ := h
                    cases v42 with
                    | true =>
                      replace h := iteT rfl h
                      replace h := bnE h; obtain ⟨v43, e43, h⟩ := h
                      replace h := bnE h; obtain ⟨v44, e44, h⟩ := h
                      replace h := bnE h; obtain ⟨v45, e45, h⟩ := h
                      replace h := ltE h; obtain ⟨v46, e46, h⟩ := h
                      cases v46 with
                      | true =>
                        replace h := iteT rfl h
                        replace h := bnE h; obtain ⟨v47, e47, h⟩ := h
                        apply AW.last
                        · simp [← e20, ← e21, ← e22, ← e36, ← e38, lenI_cast e39, lenI_cast e40, ← e41, ← e42, ← e46]
                          intros
                          refine xcall_plain en_r5_SameItem (s_r5_SameItem e35) rfl ⟨.same rfl, .g ⟨.s _, .s _, .nil _ _, .nil _ _, .s _, trivial⟩, trivial⟩ ?_
                          try simp [← e20, ← e21, ← e22, ← e36, ← e38, lenI_cast e39, lenI_cast e40, ← e41, ← e42, ← e46]
                          intros
                          refine xcall_plain en_r5_SHas (s_r5_SHas e37) rfl ⟨.same rfl, .same rfl, trivial⟩ ?_
                          try simp [← e20, ← e21, ← e22, ← e36, ← e38, lenI_cast e39, lenI_cast e40, ← e41, ← e42, ← e46]
                          intros
                          refine xcall_plain en_r1_Slot (s_r1_Slot e43) rfl ⟨.same rfl, trivial⟩ ?_
                          try simp [← e20, ← e21, ← e22, ← e36, ← e38, lenI_cast e39, lenI_cast e40, ← e41, ← e42, ← e46]
                          intros
                          refine xcall_plain en_space_In (s_space_In e44) rfl ⟨.same rfl, .same rfl, trivial⟩ ?_
                          try simp [← e20, ← e21, ← e22, ← e36, ← e38, lenI_cast e39, lenI_cast e40, ← e41, ← e42, ← e46]
                          intros
                          refine xcall_plain en_r5_SHas (s_r5_SHas e45) rfl ⟨.same rfl, .same rfl, trivial⟩ ?_
                          try simp [← e20, ← e21, ← e22, ← e36, ← e38, lenI_cast e39, lenI_cast e40, ← e41, ← e42, ← e46]
                          intros
                          refine xcall_plain en_l11_awake (s_l11_awake e47) rfl trivial ?_
                          try simp [← e20, ← e21, ← e22, ← e36, ← e38, lenI_cast e39, lenI_cast e40, ← e41, ← e42, ← e46]
                          intros; rfl
                        obtain rfl := Option.some.inj h
                        refine nP_i ?_
                        refine Weak.mixN [] hn0 (by decide) ?_ ?_ rfl
                        all_goals first | (simp [inv_cons, inv_nil, pickOb]; done) | rfl
                      | false =>
                        replace h := iteF rfl h
                        apply AW.last
                        · simp [← e20, ← e21, ← e22, ← e36, ← e38, lenI_cast e39, lenI_cast e40, ← e41, ← e42, ← e46]
                          intros
                          refine xcall_plain en_r5_SameItem (s_r5_SameItem e35) rfl ⟨.same rfl, .g ⟨.s _, .s _, .nil _ _, .nil _ _, .s _, trivial⟩, trivial⟩ ?_
                          try simp [← e20, ← e21, ← e22, ← e36, ← e38, lenI_cast e39, lenI_cast e40, ← e41, ← e42, ← e46]
                          intros
                          refine xcall_plain en_r5_SHas (s_r5_SHas e37) rfl ⟨.same rfl, .same rfl, trivial⟩ ?_
                          try simp [← e20, ← e21, ← e22, ← e36, ← e38, lenI_cast e39, lenI_cast e40, ← e41, ← e42, ← e46]
                          intros
                          refine xcall_plain en_r1_Slot (s_r1_Slot e43) rfl ⟨.same rfl, trivial⟩ ?_
                          try simp [← e20, ← e21, ← e22, ← e36, ← e38, lenI_cast e39, lenI_cast e40, ← e41, ← e42, ← e46]
                          intros
                          refine xcall_plain en_space_In (s_space_In e44) rfl ⟨.same rfl, .same rfl, trivial⟩ ?_
                          try simp [← e20, ← e21, ← e22, ← e36, ← e38, lenI_cast e39, lenI_cast e40, ← e41, ← e42, ← e46]
                          intros
                          refine xcall_plain en_r5_SHas (s_r5_SHas e45) rfl ⟨.same rfl, .same rfl, trivial⟩ ?_
                          try simp [← e20, ← e21, ← e22, ← e36, ← e38, lenI_cast e39, lenI_cast e40, ← e41, ← e42, ← e46]
                          intros; rfl
                        obtain rfl := Option.some.inj h
                        refine nP_i ?_
                        refine Weak.mixN [] hn0 (by decide) ?_ ?_ rfl
                        all_goals first | (simp [inv_cons, inv_nil, pickOb]; done) | rfl
                    | false =>
                      replace h := iteF rfl h
                      apply AW.last
                      · simp [← e20, ← e21, ← e22, ← e36, ← e38, lenI_cast e39, lenI_cast e40, ← e41, ← e42]
                        intros
                        refine xcall_plain en_r5_SameItem (s_r5_SameItem e35) rfl ⟨.same rfl, .g ⟨.s _, .s _, .nil _ _, .nil _ _, .s _, trivial⟩, trivial⟩ ?_
                        try simp [← e20, ← e21, ← e22, ← e36, ← e38, lenI_cast e39, lenI_cast e40, ← e41, ← e42]
                        intros
                        refine xcall_plain en_r5_SHas (s_r5_SHas e37) rfl ⟨.same rfl, .same rfl, trivial⟩ ?_
                        try simp [← e20, ← e21, ← e22, ← e36, ← e38, lenI_cast e39, lenI_cast e40, ← e41, ← e42]
                        intros; rfl
                      obtain rfl := Option.some.inj h
                      refine nP_i ?_
                      refine Weak.mixN [] hn0 (by decide) ?_ ?_ rfl
                      all_goals first | (simp [inv_cons, inv_nil, pickOb]; done) | rfl
                  | false =>
                    replace h := iteF rfl h
                    apply AW.last
                    · simp [← e20, ← e21, ← e22, ← e36, ← e38]
                      intros
                      refine xcall_plain en_r5_SameItem (s_r5_SameItem e35) rfl ⟨.same rfl, .g ⟨.s _, .s _, .nil _ _, .nil _ _, .s _, trivial⟩, trivial⟩ ?_
                      try simp [← e20, ← e21, ← e22, ← e36, ← e38]
                      intros
                      refine xcall_plain en_r5_SHas (s_r5_SHas e37) rfl ⟨.same rfl, .same rfl, trivial⟩ ?_
                      try simp [← e20, ← e21, ← e22, ← e36, ← e38]
                      intros; rfl
                    obtain rfl := Option.some.inj h
                    refine nP_i ?_
                    refine Weak.mixN [] hn0 (by decide) ?_ ?_ rfl
                    all_goals first | (simp [inv_cons, inv_nil, pickOb]; done) | rfl
                | false =>
                  replace h := iteF rfl h
                  apply AW.last
                  · simp [← e20, ← e21, ← e22, ← e36]
                    intros
                    refine xcall_plain en_r5_SameItem (s_r5_SameItem e35) rfl ⟨.same rfl, .g ⟨.s _, .s _, .nil _ _, .nil _ _, .s _, trivial⟩, trivial⟩ ?_
                    try simp [← e20, ← e21, ← e22, ← e36]
                    intros
                    refine xcall_plain en_r5_SHas (s_r5_SHas e37) rfl ⟨.same rfl, .same rfl, trivial⟩ ?_
                    try simp [← e20, ← e21, ← e22, ← e36]
                    intros; rfl
                  obtain rfl := Option.some.inj h
                  refine nP_i ?_
                  refine Weak.mixN [] hn0 (by decide) ?_ ?_ rfl
                  all_goals first | (simp [inv_cons, inv_nil, pickOb]; done) | rfl
              | false =>
                replace h := iteF rfl h
                apply AW.last
                · simp [← e20, ← e21, ← e22, ← e36]
                  intros
                  refine xcall_plain en_r5_SameItem (s_r5_SameItem e35) rfl ⟨.same rfl, .g ⟨.s _, .s _, .nil _ _, .nil _ _, .s _, trivial⟩, trivial⟩ ?_
                  try simp [← e20, ← e21, ← e22, ← e36]
                  intros; rfl
                obtain rfl := Option.some.inj h
                refine nP_i ?_
                refine Weak.mixN [] hn0 (by decide) ?_ ?_ rfl
                all_goals first | (simp [inv_cons, inv_nil, pickOb]; done) | rfl
            | false =>
              replace h := iteF rfl h
              apply AW.last
              · simp [← e20, ← e21, ← e22]
                intros
                refine xcall_plain en_r5_SameItem (s_r5_SameItem e35) rfl ⟨.same rfl, .g ⟨.s _, .s _, .nil _ _, .nil _ _, .s _, trivial⟩, trivial⟩ ?_
                try simp [← e20, ← e21, ← e22]
                intros; rfl
              obtain rfl := Option.some.inj h
              refine nP_i ?_
              refine Weak.mixN [] hn0 (by decide) ?_ ?_ rfl
              all_goals first | (simp [inv_cons, inv_nil, pickOb]; done) | rfl
        | false =>
          replace h := iteF rfl h
          apply AW.last
          · simp [← e20, ← e21]
            intros; rfl
          obtain rfl := Option.some.inj h
          refine nP_i ?_
          refine Weak.mixN [] hn0 (by decide) ?_ ?_ rfl
          all_goals first | (simp [inv_cons, inv_nil, pickOb]; done) | rfl
      · rintro e s hp
        obtain ⟨rfl, hw⟩ := hp
        refine ⟨_, hw, ?_⟩
        try simp only [sp_l, sp_r, Post.seq, Post.block, Nat.reduceEqDiff, reduceIte, Nat.zero_ne_one, Nat.one_ne_zero]
        obtain rfl := Option.some.inj h
        refine AW.ret ?_
        refine Left.plain hnb (by simp [Try.f11, resV, resC, comp]; rfl) rfl rfl ?_
        simp
end Go.Proofs.Ytlkhfdccapkcdaa

/- Walks, printed: l11_SpaceWhole -/
namespace Go.Proofs.Ytlkhfdccapkcdaa
open Go Go.RowKit
set_option linter.unusedVariables false
set_option linter.unusedSimpArgs false
end Go.Proofs.Ytlkhfdccapkcdaa

/- Plain laws: spaces by numbers, their keys and slots. -/
namespace Go.Proofs.Ytlkhfdccapkcdaa
open Go Go.RowKit
set_option linter.unusedVariables false
set_option linter.unusedSimpArgs false
theorem awake11_ok : l11_awake_sh big = some true := by kernel_rfl
/-! ### Keys by numbers -/
def keyT (j : Nat) : ByteArray := (l11_Key_sh big (j : Int)).getD ⟨#[]⟩
theorem Key_mod (n : Int) (h : 0 ≤ n) (h2 : n ≤ 255) : l11_Key_sh big n = l11_Key_sh big (n % 20) := by
  unfold l11_Key_sh
  rw [remI_pos h (by omega), remI_pos (show 0 ≤ n % 20 by omega) (by omega), cvI_64 (by omega) (by omega), cvI_64 (show -9223372036854775808 ≤ n % 20 by omega) (by omega)]
  simp only [bn_some, lt_eq]
  rw [quoI_64 h (by omega) (by omega), quoI_64 (show 0 ≤ n % 20 by omega) (by omega) (by omega)]
  simp only [bn_some]
  rw [remI_pos (by omega) (by omega), remI_pos (show 0 ≤ n % 20 / 4 by omega) (by omega), show n % 20 % 4 = n % 4 by omega, show n % 20 / 4 % 5 = n / 4 % 5 by omega]
def keysB : Bool := (List.range 20).all fun j => (l11_Key_sh big (j : Int)).isSome && decide ((keyT j).size = 4) && decide (slotOf (keyT j) = slotOf (keyT (j % 4)))
theorem keysB_ok : keysB = true := by kernel_rfl
def slotsB : Bool := (List.range 4).all fun a => (List.range 4).all fun b => decide (a = b) || !decide (slotOf (keyT a) = slotOf (keyT b))
theorem keyT_ok {j : Nat} (h : j < 20) : l11_Key_sh big (j : Int) = some (keyT j) ∧ (keyT j).size = 4 ∧ slotOf (keyT j) = slotOf (keyT (j % 4)) := by
  have h1 := List.all_eq_true.1 keysB_ok j (List.mem_range.2 h)
  simp only [Bool.and_eq_true, decide_eq_true_eq] at h1
  refine ⟨?_, h1.1.2, h1.2⟩
  unfold keyT
  cases h2 : l11_Key_sh big (j : Int) with
  | none => rw [h2] at h1; simp at h1
  | some v => rfl
theorem Key_told (n : Int) (h : 0 ≤ n) (h2 : n ≤ 255) : ∃ j : Nat, j < 20 ∧ (j : Int) = n % 20 ∧ l11_Key_sh big n = some (keyT j) := by
  refine ⟨(n % 20).toNat, by omega, by omega, ?_⟩
  rw [Key_mod n h h2, ← (keyT_ok (show (n % 20).toNat < 20 by omega)).1]
  congr 1
  omega
def keyed (k : ByteArray) : Prop := ∃ j, j < 20 ∧ k = keyT j
theorem effAt_key (l : List Int) (hl : u8s l) (i : Nat) (h : 4 * i + 3 < l.length) (e : Effect) (he : effAt l i = some e) : keyed e.key ∧ (e.gone = true → e.item = noI) := by
  have hb0 := hl _ (List.getElem_mem (show 4 * i < l.length by omega))
  have hb1 := hl _ (List.getElem_mem (show 4 * i + 1 < l.length by omega))
  unfold effAt at he
  rw [nth_some (show 4 * i < l.length by omega), nth_some (show 4 * i + 1 < l.length by omega)] at he
  simp only [bn_some] at he
  obtain ⟨j, hj, -, hk⟩ := Key_told _ hb0.1 hb0.2
  rw [hk, remI_pos hb1.1 (by omega)] at he
  simp only [bn_some] at he
  cases hg : eqI (l[4 * i + 1] % 4) 0
  · rw [hg] at he
    obtain ⟨y, hy, he⟩ := bnE he
    have he := Option.some.inj he
    subst he
    exact ⟨⟨j, hj, rfl⟩, fun h => by simp at h⟩
  · rw [hg] at he
    simp only [notB_t, ite_f, bn_some, Option.some.injEq] at he
    subst he
    exact ⟨⟨j, hj, rfl⟩, fun _ => rfl⟩
/-- Effects by numbers. -/
def okM (m : List Effect) : Prop := m.length ≤ 40 ∧ ∀ e ∈ m, okI e.item ∧ keyed e.key ∧ (e.gone = true → e.item = noI)
theorem Effects_made (l : List Int) (hl : u8s l) (h : l.length ≤ 1000000000) : Rn (l11_Effects_sh big l) okM := by
  refine (Effects_told l hl h).mono fun m hm => ?_
  obtain ⟨h1, h2, h3⟩ := hm
  refine ⟨by omega, fun e he => ⟨h3 e he, ?_⟩⟩
  obtain ⟨i, hi, rfl⟩ := List.getElem_of_mem he
  exact effAt_key l hl i (by omega) _ (by rw [h2 i hi, List.getElem?_eq_getElem hi])
/-! ### What effects make of keys -/
theorem foldA_keys (Q : ByteArray → Prop) : ∀ (es : List Effect) (l : List Pair), (∀ p ∈ l, Q p.key) → (∀ e ∈ es, Q e.key) → ∀ p ∈ es.foldl applyP l, Q p.key
  | [], l, h1, _ => h1
  | e :: es, l, h1, h2 => by
    refine foldA_keys Q es (applyP l e) (fun p hp => ?_) fun x hx => h2 x (by simp [hx])
    unfold applyP newP at hp
    rcases List.mem_append.1 hp with hp | hp
    · rcases List.mem_append.1 hp with hp | hp
      · exact h1 p (List.mem_filter.1 hp).1
      · split at hp
        · simp at hp
        · simp at hp; subst hp; exact h2 e (by simp)
    · exact h1 p (List.mem_filter.1 hp).1
def setO (k : ByteArray) (o : Option Item) (e : Effect) : Option Item := if e.key = k then (if e.gone then none else some e.item) else o
theorem rawP_apply {l : List Pair} (h : SrtP l) (e : Effect) (k : ByteArray) : rawP (applyP l e) k = setO k (rawP l k) e := by
  obtain ⟨A, B, C, rfl, hA, hC, hB⟩ := shapeG (key := Pair.key) e.key l h
  rw [applyP_shape hA hC hB]
  unfold setO
  by_cases hk : e.key = k
  · subst hk
    have hn : newP e = [] ∨ ∃ x, newP e = [x] ∧ x.key = e.key := by
      unfold newP
      split
      · exact .inl rfl
      · exact .inr ⟨_, rfl, rfl⟩
    rw [rawP_shape hA hC hn, if_pos rfl]
    unfold newP
    split <;> rfl
  · rw [if_neg hk]
    have h1 : (newP e).find? (fun p => decide (p.key = k)) = none := List.find?_eq_none.2 fun p hp => by
      unfold newP at hp
      split at hp
      · simp at hp
      · simp at hp; subst hp; simpa using hk
    have h2 : B.find? (fun p => decide (p.key = k)) = none := List.find?_eq_none.2 fun p hp => by
      rcases hB with rfl | ⟨x, rfl, hx⟩
      · simp at hp
      · simp at hp; subst hp; simpa [hx] using hk
    unfold rawP
    simp only [List.find?_append, h1, h2]
theorem rawP_mem {l : List Pair} {k : ByteArray} : (rawP l k).isSome = true ↔ ∃ p ∈ l, p.key = k := by
  unfold rawP
  rw [Option.isSome_map, List.find?_isSome]
  simp
theorem mem_inP {l : List Pair} {s : Int} {k : ByteArray} : k ∈ inP l s ↔ slotOf k = s ∧ ∃ p ∈ l, p.key = k := by
  unfold inP
  simp only [List.mem_map, List.mem_filter, decide_eq_true_eq]
  constructor
  · rintro ⟨p, ⟨h1, h2⟩, rfl⟩
    exact ⟨h2, p, h1, rfl⟩
  · rintro ⟨h1, p, h2, rfl⟩
    exact ⟨p, ⟨h2, h1⟩, rfl⟩
/-- A space by numbers. -/
def okDB (db : List Pair) : Prop := SrtP db ∧ okP db ∧ db.length ≤ 40 ∧ ∀ p ∈ db, keyed p.key
theorem Make_told (ns : List Int) (hu : u8s ns) (h : ns.length ≤ 1000000000) : Rn (l11_Make_sh big ns) okDB := by
  unfold l11_Make_sh
  refine Rn.bn (Effects_made ns hu h) fun m hm => ?_
  obtain ⟨h1, h2⟩ := hm
  have ho : ∀ e ∈ m, okI e.item := fun e he => (h2 e he).1
  refine Rn.bnE (r_Apply_ok [] m .nil (by simp [okP]) ho (by simp; omega)) (Rn.some ?_)
  obtain ⟨g1, g2, g3⟩ := dbOf_ok ho
  exact ⟨g1, g2, by have := g3; unfold dbOf at this; omega, foldA_keys keyed m [] (by simp) fun e he => (h2 e he).2.1⟩
theorem keyed_size {k : ByteArray} (h : keyed k) : k.size = 4 := by
  obtain ⟨j, hj, rfl⟩ := h
  exact (keyT_ok hj).2.1
/-! ### SpaceSlots -/
def cntS (f : Nat → Nat) : Nat → Nat
  | 0 => 0
  | k + 1 => cntS f k + f k
/-! ### SpaceDead -/
def hasS (l : List ByteArray) (x : ByteArray) : Bool := l.any fun y => decide (y = x)
theorem hasS_t {l : List ByteArray} {x : ByteArray} (h : x ∈ l) : hasS l x = true := List.any_eq_true.2 ⟨x, h, by simp⟩
theorem hasS_f {l : List ByteArray} {x : ByteArray} (h : x ∉ l) : hasS l x = false := by
  cases hh : hasS l x
  · rfl
  · obtain ⟨y, h1, h2⟩ := List.any_eq_true.1 hh
    exact absurd (of_decide_eq_true h2 ▸ h1) h
theorem r_SHas_ok (l : List ByteArray) (x : ByteArray) (h : l.length ≤ 1000000000) : r5_SHas_sh big l x = some (hasS l x) := by
  refine Rn.eq ?_
  unfold r5_SHas_sh
  refine Rn.bn (P := fun y => (y = .inl () ∧ x ∉ l) ∨ (y = .inr true ∧ x ∈ l)) (Rn.iter _ (fun q a => a = (q : Int) ∧ ∀ i (h : i < q) (hi : i < l.length), l[i] ≠ x) l.length (by unfold big; omega) ⟨rfl, fun i h => by omega⟩ fun q a hq hI => ?_) fun y hy => ?_
  · obtain ⟨rfl, hI⟩ := hI
    simp only [lt_eq, bn_some, ite_t, ite_f, sm_inl, sm_inr, lenI_eq, Option.some.injEq]
    by_cases hq2 : q < l.length
    · rw [ltI_t (by omega), nth_some hq2]
      simp only [lt_eq, bn_some, ite_t, ite_f, sm_inl, sm_inr, lenI_eq, Option.some.injEq, eqS]
      by_cases hk : l[q] = x
      · rw [decide_eq_true hk]
        exact ⟨_, rfl, .inr ⟨rfl, hk ▸ List.getElem_mem hq2⟩⟩
      · rw [decide_eq_false hk]
        refine ⟨_, rfl, hq2, by rw [addI_64 (by omega) (by omega)]; omega, fun i hi h1 => ?_⟩
        by_cases hiq : i = q
        · subst hiq; exact hk
        · exact hI i (by omega) h1
    · obtain rfl : q = l.length := by omega
      rw [ltI_f (by omega)]
      refine ⟨_, rfl, .inl ⟨rfl, fun hx => ?_⟩⟩
      obtain ⟨i, hi, e⟩ := List.getElem_of_mem hx
      exact hI i hi hi e
  · rcases hy with ⟨rfl, h⟩ | ⟨rfl, h⟩
    · exact ⟨_, rfl, (hasS_f h).symm⟩
    · exact ⟨_, rfl, (hasS_t h).symm⟩
theorem applyP_less {l : List Pair} {k : ByteArray} {it : Item} (h : SrtP l) (hk : (rawP l k).isSome = true) : (applyP l ⟨k, true, it⟩).length + 1 = l.length := by
  obtain ⟨A, B, C, rfl, hA, hC, hB⟩ := shapeG (key := Pair.key) k l h
  rw [applyP_shape (e := ⟨k, true, it⟩) hA hC hB]
  rw [rawP_shape hA hC hB] at hk
  rcases hB with rfl | ⟨x, rfl, hx⟩
  · simp at hk
  · simp [newP]; omega
theorem SpaceDead_ok (ns : List Int) (key : ByteArray) (exp now : Int) (hu : u8s ns) (h1 : 0 ≤ exp ∧ exp ≤ 255) (h2 : 0 ≤ now ∧ now ≤ 255) : l11_SpaceDead_sh big ns key exp now = some true := by
  refine Rn.eq ?_
  unfold l11_SpaceDead_sh
  refine Rn.bn (P := fun b => b = false → ns.length ≤ 100 ∧ key.size ≤ 40) ?_ fun b hb => Rn.lt (Rn.ite (fun _ => Rn.bnE awake11_ok (Rn.some rfl)) (fun hg => ?_))
  · refine Rn.lt (Rn.lt (Rn.ite (fun _ => Rn.some (by simp)) (fun g1 => Rn.lt (Rn.lt (Rn.some fun g2 => ?_)))))
    have g1 := gtI_n g1
    have g2 := gtI_n g2
    simp only [lenI, lenS] at g1 g2
    omega
  obtain ⟨hn, hk⟩ := hb hg
  clear hb hg
  refine Rn.lt (Rn.lt ?_)
  rw [cvI_64 (by omega) (by omega), cvI_64 (by omega) (by omega), addI_64 (by omega) (by omega)]
  refine Rn.bn (Make_told ns hu (by omega)) fun db hdb => ?_
  obtain ⟨d1, d2, d3, d4⟩ := hdb
  have hit : okI ⟨1, ⟨#[118]⟩, [], [], 1 + exp⟩ := ⟨by simp, by simp⟩
  have hap := space_Apply_ok db [⟨key, false, ⟨1, ⟨#[118]⟩, [], [], 1 + exp⟩⟩] d1 d2 (fun e he => by simp at he; subst he; exact hit) (by simp; omega)
  refine Rn.bnE hap (Rn.lt ?_)
  have hr0 := rawP_apply d1 ⟨key, false, ⟨1, ⟨#[118]⟩, [], [], 1 + exp⟩⟩ key
  obtain ⟨f1, f2, f3⟩ := foldA_inv [⟨key, false, ⟨1, ⟨#[118]⟩, [], [], 1 + exp⟩⟩] db d1 d2 (fun e he => by simp at he; subst he; exact hit)
  have hks := foldA_keys (fun k => k.size ≤ 40) [⟨key, false, ⟨1, ⟨#[118]⟩, [], [], 1 + exp⟩⟩] db (fun p hp => by rw [keyed_size (d4 p hp)]; omega) (fun e he => by simp at he; subst he; exact hk)
  simp only [List.foldl_cons, List.foldl_nil, List.length_cons, List.length_nil] at f1 f2 f3 hks ⊢
  clear hap
  generalize applyP db ⟨key, false, ⟨1, ⟨#[118]⟩, [], [], 1 + exp⟩⟩ = m at f1 f2 f3 hks hr0 ⊢
  simp only [setO, if_true] at hr0
  have hr : rawP m key = some ⟨1, ⟨#[118]⟩, [], [], 1 + exp⟩ := by rw [hr0]; rfl
  have hget : getP m key now = bif decide (now ≤ exp) then some ⟨1, ⟨#[118]⟩, [], [], 1 + exp⟩ else none := by
    unfold getP
    rw [hr]
    have : alive ((some (⟨1, ⟨#[118]⟩, [], [], 1 + exp⟩ : Item)).getD noI) now = decide (now ≤ exp) := by
      simp only [alive, Option.getD_some]
      rw [decide_eq_false (show ¬ 1 + exp = 0 by omega), Bool.false_or]
      congr 1
      exact propext ⟨fun h => by omega, fun h => by omega⟩
    rw [this]
  refine Rn.bnE (space_Get_ok m key now f1 f2 (by omega)) (Rn.bnE (space_Raw_ok m key f1 f2 (by omega)) (Rn.bnE (slot_ok key (by omega)).1 (Rn.bnE (space_In_ok m _ (by omega) fun p hp => by have := hks p hp; omega) ?_)))
  have hno : okI ⟨0, ⟨#[]⟩, [], [], 0⟩ := okI_no
  have hap := space_Apply_ok m [⟨key, true, ⟨0, ⟨#[]⟩, [], [], 0⟩⟩] f1 f2 (fun e he => by simp at he; subst he; exact hno) (by simp; omega)
  refine Rn.bnE hap ?_
  have hr2 := rawP_apply f1 ⟨key, true, ⟨0, ⟨#[]⟩, [], [], 0⟩⟩ key
  have hless := applyP_less (k := key) (it := ⟨0, ⟨#[]⟩, [], [], 0⟩) f1 (by rw [hr]; rfl)
  obtain ⟨e1, e2, e3⟩ := foldA_inv [⟨key, true, ⟨0, ⟨#[]⟩, [], [], 0⟩⟩] m f1 f2 (fun e he => by simp at he; subst he; exact hno)
  have hks2 := foldA_keys (fun k => k.size ≤ 40) [⟨key, true, ⟨0, ⟨#[]⟩, [], [], 0⟩⟩] m hks (fun e he => by simp at he; subst he; exact hk)
  simp only [List.foldl_cons, List.foldl_nil, List.length_cons, List.length_nil] at e1 e2 e3 hks2 ⊢
  clear hap
  generalize applyP m ⟨key, true, ⟨0, ⟨#[]⟩, [], [], 0⟩⟩ = g at e1 e2 e3 hks2 hr2 hless ⊢
  simp only [setO, if_true] at hr2
  refine Rn.bnE (space_Raw_ok g key e1 e2 (by omega)) ?_
  rw [hr, hr2, hget]
  have hin : hasS (inP m (slotOf key)) key = true := hasS_t (mem_inP.2 ⟨rfl, rawP_mem.1 (by rw [hr]; rfl)⟩)
  have hout : hasS (inP g (slotOf key)) key = false := hasS_f fun h => by
    have := rawP_mem.2 (mem_inP.1 h).2
    rw [hr2] at this
    simp at this
  have hl1 := inP_len m (slotOf key)
  have hl2 := inP_len g (slotOf key)
  have hlen : eqI (g.length : Int) (subI .i64 (m.length : Int) 1) = true := by
    rw [subI_64 (by omega) (by omega)]
    simp [eqI]
    omega
  refine Rn.bnE (v := true) ?_ (Rn.some rfl)
  rw [r_SHas_ok _ _ (show (inP m (slotOf key)).length ≤ 1000000000 by omega), hin, (slot_ok key (by omega)).1]
  simp only [lt_eq, bn_some]
  rw [space_In_ok g _ (by omega) fun p hp => by have := hks2 p hp; omega]
  simp only [lt_eq, bn_some]
  rw [r_SHas_ok _ _ (show (inP g (slotOf key)).length ≤ 1000000000 by omega), hout]
  simp only [lt_eq, bn_some, ite_t, ite_f, sm_inl, sm_inr, lenI_eq, Option.some.injEq, hlen, Option.isSome_some, Option.isSome_none, notB_f, awake11_ok]
  unfold leI
  cases hd : decide (now ≤ exp)
  · simp only [cond_false, Option.isSome_none, Option.getD_none, eqB_self, lt_eq, bn_some, ite_t, ite_f, sm_inl, sm_inr, lenI_eq, Option.some.injEq]
    rw [show noI = (⟨0, ⟨#[]⟩, [], [], 0⟩ : Item) from rfl, r_SameItem_refl _ hno]
    rfl
  · rfl
/-! ### SpaceWhole -/
end Go.Proofs.Ytlkhfdccapkcdaa

/- What is read as data of the program's structs. -/
namespace Go.Proofs.Ytlkhfdccapkcdaa
open Go Go.RowKit
set_option linter.unusedVariables false
set_option linter.unusedSimpArgs false
set_option linter.constructorNameAsVariable false
set_option maxRecDepth 100000
section
variable {P : Program} {n t : Nat} {ts : List T}
theorem WfT.bool (hu : P.underlying t = some .bool) (h : WfT P (n + 1) t ts) : ∃ b, ts = [.v (.bool b)] := by rw [WfT, hu] at h; exact h
theorem WfT.int {k : IntKind} (hu : P.underlying t = some (.int k)) (h : WfT P (n + 1) t ts) : ∃ i, ts = [.v (.int k i)] ∧ (Lit.int k i).wf = true := by rw [WfT, hu] at h; exact h
theorem WfT.str (hu : P.underlying t = some .string) (h : WfT P (n + 1) t ts) : ∃ s, ts = [.v (.string s)] ∧ s.size ≤ maxLen := by rw [WfT, hu] at h; exact h
theorem WfT.slice {e : Nat} (hu : P.underlying t = some (.slice e)) (h : WfT P (n + 1) t ts) : ∃ es, ts = [.sl (P.cellsOf e) es] ∧ es.length * P.bytesOf e ≤ reachBytes ∧ ∀ x ∈ es, WfT P n e x := by rw [WfT, hu] at h; exact h
theorem WfT.struct {fs : Array Go.Field} (hu : P.underlying t = some (.struct fs)) (h : WfT P (n + 1) t ts) : ∃ ps : List (List T), ts = ps.flatten ∧ All2 (fun p f => WfT P n f p) ps (fs.toList.map (·.type)) := by rw [WfT, hu] at h; exact h
end
theorem All2.cons_r {α β : Type} {R : α → β → Prop} {l : List α} {b : β} {bs : List β} (h : All2 R l (b :: bs)) : ∃ x xs, l = x :: xs ∧ R x b ∧ All2 R xs bs := by
  cases l with
  | nil => exact h.elim
  | cons x xs => exact ⟨x, xs, rfl, h⟩
theorem All2.nil_r {α β : Type} {R : α → β → Prop} {l : List α} (h : All2 R l ([] : List β)) : l = [] := by
  cases l with
  | nil => rfl
  | cons x xs => exact h.elim
def rngI (i : Int) : Prop := -9223372036854775808 ≤ i ∧ i ≤ 9223372036854775807
theorem wf_list {α : Type} {enc : List α → List (List T)} {R : List T → Prop} {rng : α → Prop} (hn : enc [] = []) (hc : ∀ x l, enc (x :: l) = enc [x] ++ enc l) (h1 : ∀ e, R e → ∃ x, enc [x] = [e] ∧ rng x) :
    ∀ es, (∀ x ∈ es, R x) → ∃ l, es = enc l ∧ ∀ x ∈ l, rng x
  | [], _ => ⟨[], hn.symm, fun x h => by cases h⟩
  | e :: es, h => by
    obtain ⟨x, hx, rx⟩ := h1 e (h e (by simp))
    obtain ⟨l, rfl, rl⟩ := wf_list hn hc h1 es fun y hy => h y (by simp [hy])
    refine ⟨x :: l, by rw [hc, hx]; rfl, ?_⟩
    intro y hy
    rcases List.mem_cons.1 hy with rfl | hy
    · exact rx
    · exact rl y hy
/-- Bytes. -/
def rngU (i : Int) : Prop := 0 ≤ i ∧ i ≤ 255
theorem wf_rngU {i : Int} (h : (Lit.int .u8 i).wf = true) : rngU i := by
  have h' := (Bool.and_eq_true _ _ ▸ h : _ ∧ _)
  exact ⟨of_decide_eq_true h'.1, of_decide_eq_true h'.2⟩
theorem wf_U (n : Nat) (e : List T) (h : WfT Try.prog (n + 1) 5 e) : ∃ x : Int, encU [x] = [e] ∧ rngU x := by
  obtain ⟨f, rfl, h2⟩ := WfT.int (t := 5) Try.underlying5 h
  have h' := (Bool.and_eq_true _ _ ▸ h2 : _ ∧ _)
  have h1 := of_decide_eq_true h'.1
  have h2 := of_decide_eq_true h'.2
  exact ⟨f, rfl, h1, h2⟩
theorem wf_Us {n : Nat} {es : List (List T)} (h : ∀ x ∈ es, WfT Try.prog (n + 1) 5 x) : ∃ l : List Int, es = encU l ∧ ∀ x ∈ l, rngU x :=
  wf_list (enc := encU) (R := fun e => WfT Try.prog (n + 1) 5 e) (rng := rngU) rfl (fun _ _ => rfl) (@wf_U n) es h
def rngField (x : Field) : Prop := True
def rngItem (x : Item) : Prop := (rngI x.kind) ∧ (x.f.length ≤ 4398046510976 ∧ ∀ y ∈ x.f, rngField y) ∧ (x.l.length ≤ 8796093021952) ∧ (rngI x.exp)
def rngPair (x : Pair) : Prop := (rngItem x.item)
def rngEffect (x : Effect) : Prop := (rngItem x.item)
def rngRid (x : Rid) : Prop := (rngI x.node) ∧ (rngI x.epoch)
def rngFeed (x : Feed) : Prop := (rngRid x.rid) ∧ (rngI x.off) ∧ (x.back.length ≤ 1353245080300 ∧ ∀ y ∈ x.back, rngEffect y) ∧ (rngRid x.prev) ∧ (rngI x.upto)
def rngClaim (x : Claim) : Prop := (rngI x.frm) ∧ (rngI x.to) ∧ (rngI x.node) ∧ (rngI x.epoch)
def rngMsg (x : Msg) : Prop := (rngI x.kind) ∧ (rngI x.frm) ∧ (rngI x.to) ∧ (rngI x.epoch) ∧ (x.claims.length ≤ 4398046510976 ∧ ∀ y ∈ x.claims, rngClaim y) ∧ (x.nodes.length ≤ 17592186043904 ∧ ∀ y ∈ x.nodes, rngI y) ∧ (rngI x.node) ∧ (rngI x.slot) ∧ (rngI x.num) ∧ (rngRid x.rid) ∧ (rngRid x.prev) ∧ (rngI x.off) ∧ (x.effects.length ≤ 1353245080300 ∧ ∀ y ∈ x.effects, rngEffect y)
end Go.Proofs.Ytlkhfdccapkcdaa

/- What all rows need. -/
namespace Go.Proofs.Ytlkhfdccapkcdaa
open Go Go.RowKit
open Go.ChangeShapes Go.WideShapes Go.ChangeAt Go.RowKit
theorem Try.own : ownKnob Try.prog.godebug = none := by kernel_rfl
theorem Try.laidOut : laidOutB Try.prog = true := by kernel_rfl
end Go.Proofs.Ytlkhfdccapkcdaa

