/- Part 5 of the proof. -/
import Derived.Test.YtlkhfdccapkcdaaPm4
import Derived.Test.YtlkhfdccapkcdaaRows
import Derived.ProofKit
/- Walks, printed: l15_Make, r13_SameClaims, r1_Ints, r19_SameMsg, r13_SameFeed, r5_SameSpace -/
namespace Go.Proofs.Ytlkhfdccapkcdaa
open Go Go.RowKit
set_option linter.unusedVariables false
set_option linter.unusedSimpArgs false
def r5_SameSpace_sh (n : Nat) (a0 : List Pair) (a1 : List Pair) : Option Bool :=
lt (lenI a0) fun v1 =>
lt (lenI a1) fun v2 =>
lt (neI v1 v2) fun v3 =>
ite' v3 (some false) (bn (iter n (fun (y4 : Int) =>
lt (lenI a0) fun v7 =>
lt (ltI y4 v7) fun v8 =>
ite' v8 (bn (bn (nth a0 y4) fun v10 =>
bn (nth a1 y4) fun v11 =>
lt (neS v10.key v11.key) fun v12 =>
ite' v12 (some (true)) (bn (r5_SameItem_sh n v10.item v11.item) fun v13 =>
lt (notB v13) fun v14 =>
some (v14))) fun (y9 : Bool) =>
lt (y9) fun v15 =>
ite' v15 (some (.inr (.inr false))) (lt (addI .i64 y4 1) fun v16 =>
some (.inl v16))) (some (.inr (.inl ())))) 0) fun (y5 : Unit ⊕ Bool) =>
sm y5 (fun y17 => some true) (fun y18 => some y18))
set_option maxRecDepth 8000 in
set_option maxHeartbeats 8000000 in
theorem s_r5_SameSpace {n : Nat} {a0 : List Pair} {a1 : List Pair} {r : Bool} (h : r5_SameSpace_sh n a0 a1 = some r) : Sound Try.prog 42 [.l (.d false 6 (encPair a0)), .l (.d false 6 (encPair a1))] [] (.l (.s (.bool r))) [] := by
  unfold r5_SameSpace_sh at h
  refine Sound.of_aw (fn := Try.f42) (c := _) Try.func42 rfl (by simp [Try.f42]) fun cx hG hnb => ?_
  rw [show Try.f42.ntmps = 42 from rfl]
  have hn0 : cx.nb = 0 := hnb
  simp only [st0_mk, initTm, List.map_cons, List.map_nil]
  apply AW.step
  · simp
    intros; rfl
  refine AW.seq ?_
  replace h := ltE h; obtain ⟨v1, e1, h⟩ := h
  replace h := ltE h; obtain ⟨v2, e2, h⟩ := h
  replace h := ltE h; obtain ⟨v3, e3, h⟩ := h
  apply AW.step
  · simp [lenI_cast e1, lenI_cast e2, ← e3]
    intros; rfl
  cases v3 with
  | true =>
    replace h := iteT rfl h
    refine AW.cond_true (by simp) ?_
    apply AW.step
    · simp
      intros; rfl
    obtain rfl := Option.some.inj h
    refine AW.ret ?_
    refine Left.plain hnb (by simp [Try.f42, resV, resC, comp]; rfl) rfl rfl ?_
    simp
  | false =>
    replace h := iteF rfl h
    refine AW.cond_false (by simp) ?_
    refine AW.skip ?_
    try simp only [sp_l, sp_r, Post.seq, Post.block, Nat.reduceEqDiff, reduceIte, Nat.zero_ne_one, Nat.one_ne_zero]
    try simp only [sp_l, sp_r, Post.seq, Post.block, Nat.reduceEqDiff, reduceIte, Nat.zero_ne_one, Nat.one_ne_zero]
    refine AW.seq ?_
    apply AW.step
    · simp
      intros; rfl
    refine AW.block ?_
    replace h := bnE h; obtain ⟨y5, g5, h⟩ := h
    refine AW.iterP g5 (mk := fun gh ls q => (⟨[(0, .l (.d false 6 (encPair a0))), (1, .l (.d false 6 (encPair a1))), (5, .l (.s (.int .i64 q)))], [], 42, gh, ls⟩ : St)) (N := fun gh ls => (sp (xP 0 (cx := cx) (fun _ => (⟨[], [], 42, gh, ls⟩ : St))) (rP (cx := cx) (P := Try.prog) Try.f42 (fun q => .l (.s (.bool q))) (fun q => [])))) ?_ (noS noX noR) ?_ ?_
    · refine Weak.mixN [] hn0 (by decide) ?_ ?_ rfl
      all_goals first | (simp [inv_cons, inv_nil, pickOb]; done) | rfl
    · clear h; intro y4 y6 h
      refine AW.seq ?_
      replace h := ltE h; obtain ⟨v7, e7, h⟩ := h
      replace h := ltE h; obtain ⟨v8, e8, h⟩ := h
      apply AW.step
      · simp [lenI_cast e7, ← e8]
        intros; rfl
      cases v8 with
      | true =>
        replace h := iteT rfl h
        refine AW.cond_true (by simp) ?_
        refine AW.skip ?_
        try simp only [sp_l, sp_r, Post.seq, Post.block, Nat.reduceEqDiff, reduceIte, Nat.zero_ne_one, Nat.one_ne_zero]
        try simp only [sp_l, sp_r, Post.seq, Post.block, Nat.reduceEqDiff, reduceIte, Nat.zero_ne_one, Nat.one_ne_zero]
        refine AW.seq ?_
        refine AW.block ?_
        replace h := bnE h; obtain ⟨y9, g9, h⟩ := h
        refine AW.flow (p := fun gh ls => (nP (cx := cx) (fun q => (⟨[(0, .l (.d false 6 (encPair a0))), (1, .l (.d false 6 (encPair a1))), (5, .l (.s (.int .i64 y4))), (41, .l (.s (.bool q)))], [], 42, gh, ls⟩ : St))) y9) ?_ ?_
        · replace h := g9; clear g9
          replace h := bnE h; obtain ⟨v10, e10, h⟩ := h
          replace h := bnE h; obtain ⟨v11, e11, h⟩ := h
          replace h := ltE h; obtain ⟨v12, e12, h⟩ := h
          cases v12 with
          | true =>
            replace h := iteT rfl h
            apply AW.drawnR (V := [_, _, _, _, _, _, _, _, _, _, _, _, _, _, _, _, _, _, _, _, _, _]) mixed [⟨[0], [], [(0, none)], false⟩, ⟨[0], [], [(5, none)], false⟩, ⟨[0], [0, 1], [(17, some 0), (18, some 1)], false⟩, ⟨[0], [0, 1, 2], [(19, some 2)], false⟩, ⟨[0], [0, 1, 2, 3], [(20, some 3)], false⟩, ⟨[0], [], [(1, none)], false⟩, ⟨[0], [], [(5, none)], false⟩, ⟨[0], [5, 6], [(22, some 5), (23, some 6)], false⟩, ⟨[0], [5, 6, 7], [(24, some 7)], false⟩, ⟨[0], [5, 6, 7, 8], [(25, some 8)], false⟩, ⟨[0], [0, 1, 2, 3, 4, 5, 6, 7, 8, 9], [(21, some 4), (26, some 9)], false⟩, ⟨[0], [0, 1, 2, 3, 4, 5, 6, 7, 8, 9, 10], [(27, some 10)], false⟩, ⟨[0], [0, 1, 2, 3, 4, 5, 6, 7, 8, 9, 10, 11], [(0, none), (28, some 11)], false⟩, ⟨[0], [0, 1, 2, 3, 4, 5, 6, 7, 8, 9, 10, 11], [(5, none), (28, some 11)], false⟩, ⟨[0], [0, 1, 2, 3, 4, 5, 6, 7, 8, 9, 10, 11, 12, 13], [(28, some 11), (29, some 12), (30, some 13)], false⟩, ⟨[0], [0, 1, 2, 3, 4, 5, 6, 7, 8, 9, 10, 11, 12, 13, 14], [(28, some 11), (31, some 14)], false⟩, ⟨[0], [0, 1, 2, 3, 4, 5, 6, 7, 8, 9, 10, 11, 12, 13, 14, 15], [(28, some 11), (32, some 15)], false⟩, ⟨[0], [0, 1, 2, 3, 4, 5, 6, 7, 8, 9, 10, 11], [(1, none), (28, some 11)], false⟩, ⟨[0], [0, 1, 2, 3, 4, 5, 6, 7, 8, 9, 10, 11], [(5, none), (28, some 11)], false⟩, ⟨[0], [0, 1, 2, 3, 4, 5, 6, 7, 8, 9, 10, 11, 17, 18], [(28, some 11), (34, some 17), (35, some 18)], false⟩, ⟨[0], [0, 1, 2, 3, 4, 5, 6, 7, 8, 9, 10, 11, 17, 18, 19], [(28, some 11), (36, some 19)], false⟩, ⟨[0], [0, 1, 2, 3, 4, 5, 6, 7, 8, 9, 10, 11, 17, 18, 19, 20], [(28, some 11), (37, some 20)], false⟩, ⟨[], [0, 1, 2, 3, 4, 5, 6, 7, 8, 9, 10, 11, 12, 13, 14, 15, 16, 17, 18, 19, 20, 21], [], false⟩, ⟨[], [0, 1, 2, 3, 4, 5, 6, 7, 8, 9, 10, 11, 12, 13, 14, 15, 16, 17, 18, 19, 20, 21, 22], [], false⟩, ⟨[], [0, 1, 2, 3, 4, 5, 6, 7, 8, 9, 10, 11, 12, 13, 14, 15, 16, 17, 18, 19, 20, 21, 22, 23], [], false⟩] 22 (by kernel_rfl) (by kernel_rfl)
            · refine ⟨?_, ?_, ?_, ?_, ?_, ?_, ?_, ?_, ?_, ?_, ?_, ?_, ?_, ?_, ?_, ?_, ?_, ?_, ?_, ?_, ?_, ?_, trivial⟩
              · intro tm hr
                simp [AllL, rdV] at hr
                simp [hr, nth_d e10, nth_d e11, ← e12]
                intros; first | exact KD.mk | exact KD.mkN
              · intro tm hr
                simp [AllL, rdV] at hr
                simp [hr, nth_d e10, nth_d e11, ← e12]
                intros; first | exact KD.mk | exact KD.mkN
              · intro tm hr
                simp [AllL, rdV] at hr
                simp [hr, nth_d e10, nth_d e11, ← e12]
                intros; first | exact KD.mk | exact KD.mkN
              · intro tm hr
                simp [AllL, rdV] at hr
                simp [hr, nth_d e10, nth_d e11, ← e12]
                intros; first | exact KD.mk | exact KD.mkN
              · intro tm hr
                simp [AllL, rdV] at hr
                simp [hr, nth_d e10, nth_d e11, ← e12]
                intros; first | exact KD.mk | exact KD.mkN
              · intro tm hr
                simp [AllL, rdV] at hr
                simp [hr, nth_d e10, nth_d e11, ← e12]
                intros; first | exact KD.mk | exact KD.mkN
              · intro tm hr
                simp [AllL, rdV] at hr
                simp [hr, nth_d e10, nth_d e11, ← e12]
                intros; first | exact KD.mk | exact KD.mkN
              · intro tm hr
                simp [AllL, rdV] at hr
                simp [hr, nth_d e10, nth_d e11, ← e12]
                intros; first | exact KD.mk | exact KD.mkN
              · intro tm hr
                simp [AllL, rdV] at hr
                simp [hr, nth_d e10, nth_d e11, ← e12]
                intros; first | exact KD.mk | exact KD.mkN
              · intro tm hr
                simp [AllL, rdV] at hr
                simp [hr, nth_d e10, nth_d e11, ← e12]
                intros; first | exact KD.mk | exact KD.mkN
              · intro tm hr
                simp [AllL, rdV] at hr
                simp [hr, nth_d e10, nth_d e11, ← e12]
                intros; first | exact KD.mk | exact KD.mkN
              · intro tm hr
                simp [AllL, rdV] at hr
                simp [hr, nth_d e10, nth_d e11, ← e12]
                intros; first | exact KD.mk | exact KD.mkN
              · intro tm hr
                simp [AllL, rdV] at hr
                simp [hr, nth_d e10, nth_d e11, ← e12]
                intros; first | exact KD.mk | exact KD.mkN
              · intro tm hr
                simp [AllL, rdV] at hr
                simp [hr, nth_d e10, nth_d e11, ← e12]
                intros; first | exact KD.mk | exact KD.mkN
              · intro tm hr
                simp [AllL, rdV] at hr
                simp [hr, nth_d e10, nth_d e11, ← e12]
                intros; first | exact KD.mk | exact KD.mkN
              · intro tm hr
                simp [AllL, rdV] at hr
                simp [hr, nth_d e10, nth_d e11, ← e12]
                intros; first | exact KD.mk | exact KD.mkN
              · intro tm hr
                simp [AllL, rdV] at hr
                simp [hr, nth_d e10, nth_d e11, ← e12]
                intros; first | exact KD.mk | exact KD.mkN
              · intro tm hr
                simp [AllL, rdV] at hr
                simp [hr, nth_d e10, nth_d e11, ← e12]
                intros; first | exact KD.mk | exact KD.mkN
              · intro tm hr
                simp [AllL, rdV] at hr
                simp [hr, nth_d e10, nth_d e11, ← e12]
                intros; first | exact KD.mk | exact KD.mkN
              · intro tm hr
                simp [AllL, rdV] at hr
                simp [hr, nth_d e10, nth_d e11, ← e12]
                intros; first | exact KD.mk | exact KD.mkN
              · intro tm hr
                simp [AllL, rdV] at hr
                simp [hr, nth_d e10, nth_d e11, ← e12]
                intros; first | exact KD.mk | exact KD.mkN
              · intro tm hr
                simp [AllL, rdV] at hr
                simp [hr, nth_d e10, nth_d e11, ← e12]
                intros; first | exact KD.mk | exact KD.mkN
            · rfl
            · simp [tmD, putD, nth_d e10, nth_d e11, ← e12]; rfl
            · simp [nth_d e10, nth_d e11, ← e12]
              intros; rfl
            obtain rfl := Option.some.inj h
            refine nP_i ?_
            refine Weak.mixN [] hn0 (by decide) ?_ ?_ rfl
            all_goals first | (simp [inv_cons, inv_nil, pickOb]; done) | rfl
          | false =>
            replace h := iteF rfl h
            replace h := bnE h; obtain ⟨v13, e13, h⟩ := h
            replace h := ltE h; obtain ⟨v14, e14, h⟩ := h
            apply AW.drawnR (V := [_, _, _, _, _, _, _, _, _, _, _, _, _, _, _, _, _, _, _, _, _, _]) mixed [⟨[0], [], [(0, none)], false⟩, ⟨[0], [], [(5, none)], false⟩, ⟨[0], [0, 1], [(17, some 0), (18, some 1)], false⟩, ⟨[0], [0, 1, 2], [(19, some 2)], false⟩, ⟨[0], [0, 1, 2, 3], [(20, some 3)], false⟩, ⟨[0], [], [(1, none)], false⟩, ⟨[0], [], [(5, none)], false⟩, ⟨[0], [5, 6], [(22, some 5), (23, some 6)], false⟩, ⟨[0], [5, 6, 7], [(24, some 7)], false⟩, ⟨[0], [5, 6, 7, 8], [(25, some 8)], false⟩, ⟨[0], [0, 1, 2, 3, 4, 5, 6, 7, 8, 9], [(21, some 4), (26, some 9)], false⟩, ⟨[0], [0, 1, 2, 3, 4, 5, 6, 7, 8, 9, 10], [(27, some 10)], false⟩, ⟨[0], [0, 1, 2, 3, 4, 5, 6, 7, 8, 9, 10, 11], [(0, none), (28, some 11)], false⟩, ⟨[0], [0, 1, 2, 3, 4, 5, 6, 7, 8, 9, 10, 11], [(5, none), (28, some 11)], false⟩, ⟨[0], [0, 1, 2, 3, 4, 5, 6, 7, 8, 9, 10, 11, 12, 13], [(28, some 11), (29, some 12), (30, some 13)], false⟩, ⟨[0], [0, 1, 2, 3, 4, 5, 6, 7, 8, 9, 10, 11, 12, 13, 14], [(28, some 11), (31, some 14)], false⟩, ⟨[0], [0, 1, 2, 3, 4, 5, 6, 7, 8, 9, 10, 11, 12, 13, 14, 15], [(28, some 11), (32, some 15)], false⟩, ⟨[0], [0, 1, 2, 3, 4, 5, 6, 7, 8, 9, 10, 11], [(1, none), (28, some 11)], false⟩, ⟨[0], [0, 1, 2, 3, 4, 5, 6, 7, 8, 9, 10, 11], [(5, none), (28, some 11)], false⟩, ⟨[0], [0, 1, 2, 3, 4, 5, 6, 7, 8, 9, 10, 11, 17, 18], [(28, some 11), (34, some 17), (35, some 18)], false⟩, ⟨[0], [0, 1, 2, 3, 4, 5, 6, 7, 8, 9, 10, 11, 17, 18, 19], [(28, some 11), (36, some 19)], false⟩, ⟨[0], [0, 1, 2, 3, 4, 5, 6, 7, 8, 9, 10, 11, 17, 18, 19, 20], [(28, some 11), (37, some 20)], false⟩, ⟨[], [0, 1, 2, 3, 4, 5, 6, 7, 8, 9, 10, 11, 12, 13, 14, 15, 16, 17, 18, 19, 20, 21], [], false⟩, ⟨[], [0, 1, 2, 3, 4, 5, 6, 7, 8, 9, 10, 11, 12, 13, 14, 15, 16, 17, 18, 19, 20, 21, 22], [], false⟩, ⟨[], [0, 1, 2, 3, 4, 5, 6, 7, 8, 9, 10, 11, 12, 13, 14, 15, 16, 17, 18, 19, 20, 21, 22, 23], [], false⟩] 22 (by kernel_rfl) (by kernel_rfl)
            · refine ⟨?_, ?_, ?_, ?_, ?_, ?_, ?_, ?_, ?_, ?_, ?_, ?_, ?_, ?_, ?_, ?_, ?_, ?_, ?_, ?_, ?_, ?_, trivial⟩
              · intro tm hr
                simp [AllL, rdV] at hr
                simp [hr, nth_d e10, nth_d e11, ← e12, ← e14]
                intros; first | exact KD.mk | exact KD.mkN
              · intro tm hr
                simp [AllL, rdV] at hr
                simp [hr, nth_d e10, nth_d e11, ← e12, ← e14]
                intros; first | exact KD.mk | exact KD.mkN
              · intro tm hr
                simp [AllL, rdV] at hr
                simp [hr, nth_d e10, nth_d e11, ← e12, ← e14]
                intros; first | exact KD.mk | exact KD.mkN
              · intro tm hr
                simp [AllL, rdV] at hr
                simp [hr, nth_d e10, nth_d e11, ← e12, ← e14]
                intros; first | exact KD.mk | exact KD.mkN
              · intro tm hr
                simp [AllL, rdV] at hr
                simp [hr, nth_d e10, nth_d e11, ← e12, ← e14]
                intros; first | exact KD.mk | exact KD.mkN
              · intro tm hr
                simp [AllL, rdV] at hr
                simp [hr, nth_d e10, nth_d e11, ← e12, ← e14]
                intros; first | exact KD.mk | exact KD.mkN
              · intro tm hr
                simp [AllL, rdV] at hr
                simp [hr, nth_d e10, nth_d e11, ← e12, ← e14]
                intros; first | exact KD.mk | exact KD.mkN
              · intro tm hr
                simp [AllL, rdV] at hr
                simp [hr, nth_d e10, nth_d e11, ← e12, ← e14]
                intros; first | exact KD.mk | exact KD.mkN
              · intro tm hr
                simp [AllL, rdV] at hr
                simp [hr, nth_d e10, nth_d e11, ← e12, ← e14]
                intros; first | exact KD.mk | exact KD.mkN
              · intro tm hr
                simp [AllL, rdV] at hr
                simp [hr, nth_d e10, nth_d e11, ← e12, ← e14]
                intros; first | exact KD.mk | exact KD.mkN
              · intro tm hr
                simp [AllL, rdV] at hr
                simp [hr, nth_d e10, nth_d e11, ← e12, ← e14]
                intros; first | exact KD.mk | exact KD.mkN
              · intro tm hr
                simp [AllL, rdV] at hr
                simp [hr, nth_d e10, nth_d e11, ← e12, ← e14]
                intros; first | exact KD.mk | exact KD.mkN
              · intro tm hr
                simp [AllL, rdV] at hr
                simp [hr, nth_d e10, nth_d e11, ← e12, ← e14]
                intros; first | exact KD.mk | exact KD.mkN
              · intro tm hr
                simp [AllL, rdV] at hr
                simp [hr, nth_d e10, nth_d e11, ← e12, ← e14]
                intros; first | exact KD.mk | exact KD.mkN
              · intro tm hr
                simp [AllL, rdV] at hr
                simp [hr, nth_d e10, nth_d e11, ← e12, ← e14]
                intros; first | exact KD.mk | exact KD.mkN
              · intro tm hr
                simp [AllL, rdV] at hr
                simp [hr, nth_d e10, nth_d e11, ← e12, ← e14]
                intros; first | exact KD.mk | exact KD.mkN
              · intro tm hr
                simp [AllL, rdV] at hr
                simp [hr, nth_d e10, nth_d e11, ← e12, ← e14]
                intros; first | exact KD.mk | exact KD.mkN
              · intro tm hr
                simp [AllL, rdV] at hr
                simp [hr, nth_d e10, nth_d e11, ← e12, ← e14]
                intros; first | exact KD.mk | exact KD.mkN
              · intro tm hr
                simp [AllL, rdV] at hr
                simp [hr, nth_d e10, nth_d e11, ← e12, ← e14]
                intros; first | exact KD.mk | exact KD.mkN
              · intro tm hr
                simp [AllL, rdV] at hr
                simp [hr, nth_d e10, nth_d e11, ← e12, ← e14]
                intros; first | exact KD.mk | exact KD.mkN
              · intro tm hr
                simp [AllL, rdV] at hr
                simp [hr, nth_d e10, nth_d e11, ← e12, ← e14]
                intros; first | exact KD.mk | exact KD.mkN
              · intro tm hr
                simp [AllL, rdV] at hr
                simp [hr, nth_d e10, nth_d e11, ← e12, ← e14]
                intros; first | exact KD.mk | exact KD.mkN
            · rfl
            · simp [tmD, putD, nth_d e10, nth_d e11, ← e12, ← e14]; rfl
            · simp [nth_d e10, nth_d e11, ← e12, ← e14]
              intros
              refine xcall_plain en_r5_SameItem (s_r5_SameItem e13) rfl ⟨.same rfl, .same rfl, trivial⟩ ?_
              try simp [nth_d e10, nth_d e11, ← e12, ← e14]
              intros; rfl
            obtain rfl := Option.some.inj h
            refine nP_i ?_
            refine Weak.mixN [] hn0 (by decide) ?_ ?_ rfl
            all_goals first | (simp [inv_cons, inv_nil, pickOb]; done) | rfl
        · rintro e s hp
          obtain ⟨rfl, hw⟩ := hp
          refine ⟨_, hw, ?_⟩
          try simp only [sp_l, sp_r, Post.seq, Post.block, Nat.reduceEqDiff, reduceIte, Nat.zero_ne_one, Nat.one_ne_zero]
          replace h := ltE h; obtain ⟨v15, e15, h⟩ := h
          rw [← e15]
          cases v15 with
          | true =>
            replace h := iteT rfl h
            refine AW.cond_true (by simp) ?_
            apply AW.step
            · simp
              intros; rfl
            obtain rfl := Option.some.inj h
            refine AW.ret ?_
            try simp only [sp_l, sp_r, Post.seq, Post.block, Nat.reduceEqDiff, reduceIte, Nat.zero_ne_one, Nat.one_ne_zero]
            refine rP_i ?_
            refine Left.plain hnb (by simp [Try.f42, resV, resC, comp]; rfl) rfl rfl ?_
            simp
          | false =>
            replace h := iteF rfl h
            refine AW.cond_false (by simp) ?_
            refine AW.skip ?_
            try simp only [sp_l, sp_r, Post.seq, Post.block, Nat.reduceEqDiff, reduceIte, Nat.zero_ne_one, Nat.one_ne_zero]
            try simp only [sp_l, sp_r, Post.seq, Post.block, Nat.reduceEqDiff, reduceIte, Nat.zero_ne_one, Nat.one_ne_zero]
            replace h := ltE h; obtain ⟨v16, e16, h⟩ := h
            apply AW.last
            · simp [← e16]
              intros; rfl
            obtain rfl := Option.some.inj h
            refine nP_i ?_
            refine Weak.mixN [] hn0 (by decide) ?_ ?_ rfl
            all_goals first | (simp [inv_cons, inv_nil, pickOb]; done) | rfl
      | false =>
        replace h := iteF rfl h
        refine AW.cond_false (by simp) ?_
        refine AW.exit ?_
        try simp only [sp_l, sp_r, Post.seq, Post.block, Nat.reduceEqDiff, reduceIte, Nat.zero_ne_one, Nat.one_ne_zero]
        obtain rfl := Option.some.inj h
        try simp only [sp_l, sp_r]
        refine xP_i ?_
        refine Weak.mixN [] hn0 (by decide) ?_ ?_ rfl
        all_goals first | (simp [inv_cons, inv_nil, pickOb]; done) | rfl
    · rintro e s hp
      rcases y5 with y17 | y18
      · replace h := smL h
        obtain ⟨rfl, hw⟩ := hp
        refine ⟨_, hw, ?_⟩
        try simp only [sp_l, sp_r, Post.seq, Post.block, Nat.reduceEqDiff, reduceIte, Nat.zero_ne_one, Nat.one_ne_zero]
        apply AW.step
        · simp
          intros; rfl
        obtain rfl := Option.some.inj h
        refine AW.ret ?_
        refine Left.plain hnb (by simp [Try.f42, resV, resC, comp]; rfl) rfl rfl ?_
        simp
      · replace h := smR h
        obtain ⟨rfl, hl⟩ := hp
        refine ⟨_, Weak.refl _, ?_⟩
        obtain rfl := Option.some.inj h
        exact hl
theorem en_r5_SameSpace : Enters Try.prog 42 := enters Try.func42 (by kernel_rfl) rfl
end Go.Proofs.Ytlkhfdccapkcdaa

/- Plain laws: feeds, answers, what is got. -/
namespace Go.Proofs.Ytlkhfdccapkcdaa
open Go Go.RowKit
set_option linter.unusedVariables false
set_option linter.unusedSimpArgs false
theorem ite_and (b c : Bool) : ite' b (some c) (some false) = some (b && c) := by cases b <;> rfl
theorem ite_or (b c : Bool) : ite' b (some true) (some c) = some (b || c) := by cases b <;> rfl
def addF (f : Feed) (l : List Effect) : Feed := { f with off := addI .i64 f.off l.length, back := lastN (f.back ++ l) }
def allP (l : List Pair) : List Effect := l.map fun p => ⟨p.key, false, p.item⟩
def goesF (f : Feed) (rid : Rid) (off : Int) : Bool := (decide (rid = f.rid) || (decide (rid = f.prev) && decide (off ≤ f.upto))) && (decide (off ≤ f.off) && decide (f.off - f.back.length ≤ off))
def ansF (f : Feed) (db : List Pair) (rid : Rid) (off : Int) : Msg :=
  bif goesF f rid off then ⟨5, 0, 0, 0, [], [], 0, 0, 0, f.rid, rid, off, (f.back.drop (off - (f.off - f.back.length)).toNat).take 16⟩ else ⟨6, 0, 0, 0, [], [], 0, 0, 0, f.rid, ⟨0, 0⟩, f.off, allP db⟩
/-- A feed that may be. -/
def okF (f : Feed) : Prop := okE f.back ∧ f.back.length ≤ 64 ∧ (f.back.length : Int) ≤ f.off ∧ f.off ≤ 9223372036854775807
theorem okE.take {l : List Effect} (h : okE l) (k : Nat) : okE (l.take k) := ⟨by have := h.1; simp; omega, fun e he => h.2 e (List.mem_of_mem_take he)⟩
end Go.Proofs.Ytlkhfdccapkcdaa

/- Plain laws: what is got; feeds made by numbers. -/
namespace Go.Proofs.Ytlkhfdccapkcdaa
open Go Go.RowKit
set_option linter.unusedVariables false
set_option linter.unusedSimpArgs false
def newerF (f : Feed) (m : Msg) : Bool := !decide (m.rid.node = f.rid.node) || (decide (f.rid.epoch < m.rid.epoch) || (decide (m.rid = f.rid) && decide (f.off < m.off)))
def nextF (f : Feed) (m : Msg) : Bool := decide (m.kind = 5) && (decide (m.prev = f.rid) && decide (m.off = f.off))
def gotF (f : Feed) (db : List Pair) (m : Msg) : Feed × List Pair × Bool :=
  bif nextF f m then (addF (bif decide (m.rid = f.rid) then f else { f with rid := m.rid, prev := f.rid, upto := f.off }) m.effects, m.effects.foldl applyP db, true)
  else bif decide (m.kind = 6) && newerF f m then (⟨m.rid, m.off, [], ⟨0, 0⟩, 0⟩, m.effects.foldl applyP [], true) else (f, db, false)
theorem addF_nil (f : Feed) (h : f.back.length ≤ 64) (h2 : -9223372036854775808 ≤ f.off) (h3 : f.off ≤ 9223372036854775807) : addF f [] = f := by
  unfold addF lastN
  rw [addI_64 (by simp; omega) (by simp; omega), List.append_nil, show f.back.length - 64 = 0 by omega, List.drop_zero]
  simp
/-! ### What is alike -/
theorem r_SameSpace_refl (l : List Pair) (h : okP l) (hl : l.length ≤ 1000000000) : r5_SameSpace_sh big l l = some true := by
  unfold r5_SameSpace_sh
  simp only [lt_eq, bn_some, ite_t, ite_f, sm_inl, sm_inr, lenI_eq, Option.some.injEq, neI_self]
  refine bn_run (.inl ()) (fun i => (i : Int)) l.length (by unfold big; omega) rfl (fun i hi => ?_) ?_ rfl
  · rw [ltI_t (by omega)]
    simp only [lt_eq, bn_some, ite_t, ite_f, sm_inl, sm_inr, lenI_eq, Option.some.injEq, nth_some hi, neS_self, r_SameItem_refl _ (h _ (List.getElem_mem hi)), notB_t]
    rw [addI_64 (by omega) (by omega)]
    rfl
  · rw [ltI_f (by omega)]; rfl
end Go.Proofs.Ytlkhfdccapkcdaa

/- Plain law: feeds made by numbers. -/
namespace Go.Proofs.Ytlkhfdccapkcdaa
open Go Go.RowKit
set_option linter.unusedVariables false
set_option linter.unusedSimpArgs false
end Go.Proofs.Ytlkhfdccapkcdaa

/- Plain laws: effects by numbers, one by one. -/
namespace Go.Proofs.Ytlkhfdccapkcdaa
open Go Go.RowKit
set_option linter.unusedVariables false
set_option linter.unusedSimpArgs false
/-- The effect that the numbers from 4 i on tell. -/
def effAt (l : List Int) (i : Nat) : Option Effect :=
  bn (nth l ((4 * i : Nat) : Int)) fun v11 => bn (l11_Key_sh big v11) fun v12 => bn (nth l ((4 * i + 1 : Nat) : Int)) fun v14 => bn (remI .u8 v14 4) fun v15 =>
  bn (ite' (notB (eqI v15 0)) (bn (seglh l ((4 * i + 1 : Nat) : Int) ((4 * i + 4 : Nat) : Int)) fun v20 => bn (nth l ((4 * i + 2 : Nat) : Int)) fun v23 => bn (l5_Make_sh big v20 v23) fun v24 => some ((v24.kind, v24.s, v24.f, v24.l, v24.exp))) (some ((0, ⟨#[]⟩, [], [], 0)))) fun (y17 : Int × ByteArray × List Field × List ByteArray × Int) =>
  some (⟨v12, eqI v15 0, (⟨y17.1, y17.2.1, y17.2.2.1, y17.2.2.2.1, y17.2.2.2.2⟩ : Item)⟩ : Effect)
theorem effAt_ok (l : List Int) (hl : u8s l) (i : Nat) (h : 4 * i + 3 < l.length) (hlen : l.length ≤ 1000000000) : Rn (effAt l i) fun e => okI e.item := by
  have hb0 := hl _ (List.getElem_mem (show 4 * i < l.length by omega))
  have hb1 := hl _ (List.getElem_mem (show 4 * i + 1 < l.length by omega))
  have hb2 := hl _ (List.getElem_mem (show 4 * i + 2 < l.length by omega))
  unfold effAt
  refine Rn.bnE (nth_some (show 4 * i < l.length by omega)) (Rn.bn (Key_ok _ hb0.1 hb0.2) fun key _ => Rn.bnE (nth_some (show 4 * i + 1 < l.length by omega)) (Rn.bnE (remI_pos hb1.1 (by omega)) (Rn.bn (P := fun b : Int × ByteArray × List Field × List ByteArray × Int => b.2.2.1.length ≤ 9 ∧ b.2.2.2.1.length ≤ 9) ?_ fun b hb => Rn.some ?_)))
  · refine Rn.ite (fun _ => ?_) (fun _ => Rn.some ⟨by simp, by simp⟩)
    exact Rn.bnE (seglh_nat (by omega) (by omega)) (Rn.bnE (nth_some (show 4 * i + 2 < l.length by omega)) (Rn.bn (Make_ok _ _ (hl.seg _ _) hb2.1 hb2.2) fun it hit => Rn.some hit))
  · exact ⟨by simp only; omega, by simp only; omega⟩
theorem Effects_told (l : List Int) (hl : u8s l) (h : l.length ≤ 1000000000) : Rn (l11_Effects_sh big l) fun m => m.length = min 40 (l.length / 4) ∧ (∀ i, i < m.length → effAt l i = m[i]?) ∧ ∀ e ∈ m, okI e.item := by
  unfold l11_Effects_sh
  refine Rn.bn (P := fun m : List Effect => m.length = min 40 (l.length / 4) ∧ (∀ i, i < m.length → effAt l i = m[i]?) ∧ ∀ e ∈ m, okI e.item)
    (Rn.iter _ (fun k a => a.1 = ((4 * k : Nat) : Int) ∧ a.2.length = k ∧ 4 * k ≤ l.length ∧ (∀ i, i < k → effAt l i = a.2[i]?) ∧ ∀ e ∈ a.2, okI e.item) 40 (by unfold big; omega) ⟨rfl, rfl, by omega, by simp, by simp⟩ fun k a hk hI => ?_) fun m hm => Rn.room (by omega) (by omega) (Rn.some hm)
  obtain ⟨i, m⟩ := a
  obtain ⟨rfl, i2, i5, i6, i3⟩ := hI
  simp only at i2 i3 i6
  refine Rn.bn (P := fun b : Bool => (b = true → k < 40 ∧ 4 * k + 3 < l.length) ∧ (b = false → k = min 40 (l.length / 4))) ?_ fun b hb => Rn.lt (Rn.ite (fun hd => ?_) (fun hd => Rn.some ⟨by simp only [i2]; exact hb.2 hd, by simp only [i2]; exact i6, i3⟩))
  · refine Rn.lt ?_
    rw [addI_64 (by simp only; omega) (by simp only; omega)]
    refine Rn.lt (Rn.lt (Rn.ite (fun hg => Rn.lt (Rn.lt (Rn.some ?_))) (fun hg => Rn.some ?_)))
    · have h1 := ltI_d hg
      simp only [lenI] at h1
      refine ⟨fun h2 => ?_, fun h2 => ?_⟩
      · have h2 := ltI_d h2
        simp only [lenI, i2] at h2
        omega
      · have h2 := ltI_n h2
        simp only [lenI, i2] at h2
        omega
    · have h1 := ltI_n hg
      simp only [lenI] at h1
      exact ⟨fun h => by simp at h, fun _ => by omega⟩
  · obtain ⟨h40, h4⟩ := hb.1 hd
    obtain ⟨e, he, hok⟩ := effAt_ok l hl k h4 h
    have he' := he
    unfold effAt at he
    rw [show addI .i64 ((4 * k : Nat) : Int) 1 = ((4 * k + 1 : Nat) : Int) by rw [addI_64 (by omega) (by omega)]; omega, show addI .i64 ((4 * k : Nat) : Int) 4 = ((4 * k + 4 : Nat) : Int) by rw [addI_64 (by omega) (by omega)]; omega, show addI .i64 ((4 * k : Nat) : Int) 2 = ((4 * k + 2 : Nat) : Int) by rw [addI_64 (by omega) (by omega)]; omega]
    obtain ⟨w1, e1, he⟩ := bnE he
    obtain ⟨w2, e2, he⟩ := bnE he
    obtain ⟨w3, e3, he⟩ := bnE he
    obtain ⟨w4, e4, he⟩ := bnE he
    obtain ⟨w5, e5, he⟩ := bnE he
    have heq := Option.some.inj he
    clear he
    subst heq
    refine Rn.bnE e1 (Rn.bnE e2 (Rn.lt (Rn.bnE e3 (Rn.bnE e4 (Rn.lt (Rn.bnE (v := w5) e5 (Rn.room ?_ ?_ (Rn.lt (Rn.lt (Rn.some ⟨h40, ?_, ?_, by omega, ?_, ?_⟩))))))))))
    · simp only; omega
    · simp only; omega
    · simp only; omega
    · simp [i2]
    · intro i hi
      show effAt l i = (m ++ [_])[i]?
      by_cases hik : i < k
      · rw [i6 i hik, List.getElem?_append_left (by omega)]
      · have : i = k := by omega
        subst this
        rw [he', List.getElem?_append_right (by omega), i2, Nat.sub_self]
        rfl
    · intro x hx
      rcases List.mem_append.1 hx with hx | hx
      · exact i3 x hx
      · simp only [List.mem_singleton] at hx
        rw [hx]
        exact hok
end Go.Proofs.Ytlkhfdccapkcdaa

/- Plain law: a replica comes to have all. -/
namespace Go.Proofs.Ytlkhfdccapkcdaa
open Go Go.RowKit
set_option linter.unusedVariables false
set_option linter.unusedSimpArgs false
def mkF (r : Int) (l : List Effect) : Feed := ⟨⟨r % 4, r / 64⟩, l.length, l, ⟨0, 0⟩, 0⟩
def dbOf (l : List Effect) : List Pair := l.foldl applyP []
theorem dbOf_ok {l : List Effect} (h : ∀ e ∈ l, okI e.item) : SrtP (dbOf l) ∧ okP (dbOf l) ∧ (dbOf l).length ≤ l.length := by
  obtain ⟨g1, g2, g3⟩ := foldA_inv l [] .nil (by simp [okP]) h
  exact ⟨g1, g2, by simp at g3; exact g3⟩
def harm (fr : Rid) (o : Nat) (m : Msg) : Prop := m.rid = fr ∧ okE m.effects ∧ m.effects.length ≤ 100 ∧ ((m.kind = 5 ∧ (m.prev ≠ fr ∨ m.off < o ∨ m.effects = [])) ∨ (m.kind = 6 ∧ m.off ≤ o))
theorem harm.mono {fr : Rid} {o o' : Nat} {m : Msg} (h : harm fr o m) (ho : o ≤ o') : harm fr o' m := by
  obtain ⟨h1, h2, h3, h4⟩ := h
  refine ⟨h1, h2, h3, ?_⟩
  rcases h4 with ⟨a, b | b | b⟩ | ⟨a, b⟩
  · exact .inl ⟨a, .inl b⟩
  · exact .inl ⟨a, .inr (.inl (by omega))⟩
  · exact .inl ⟨a, .inr (.inr b)⟩
  · exact .inr ⟨a, by omega⟩
theorem harm.got {g : Feed} {own : List Pair} {o : Nat} {m : Msg} (h : harm g.rid o m) (ho : g.off = o) (hb : g.back.length ≤ 64) (hs : o ≤ 1000000) : (gotF g own m).1 = g ∧ (gotF g own m).2.1 = own := by
  obtain ⟨h1, h2, h3, h4⟩ := h
  unfold gotF
  cases hn : nextF g m
  · have hw : (decide (m.kind = 6) && newerF g m) = false := by
      rcases h4 with ⟨a, b⟩ | ⟨a, b⟩
      · simp [a]
      · simp only [newerF, h1, ho]
        have : ¬ (o : Int) < m.off := by omega
        simp [this]
    rw [hw]
    exact ⟨rfl, rfl⟩
  · have he : m.effects = [] := by
      simp only [nextF, Bool.and_eq_true, decide_eq_true_eq] at hn
      obtain ⟨n1, n2, n3⟩ := hn
      rcases h4 with ⟨a, b | b | b⟩ | ⟨a, b⟩
      · exact absurd n2 b
      · omega
      · exact b
      · omega
    rw [he, show decide (m.rid = g.rid) = true by simp [h1]]
    exact ⟨addF_nil g hb (by omega) (by omega), rfl⟩
/-- Where a replica is ahead of round i. -/
def At (r other : Int) (l : List Effect) (k i : Nat) (g : Feed) (own : List Pair) (sent : List Msg) : Prop :=
  sent.length = i ∧ okE g.back ∧ g.back.length ≤ 64 ∧ ((i = 0 ∧ g.rid ≠ (mkF r l).rid ∧ g = mkF other (l.take k) ∧ own = dbOf (l.take k)) ∨
  ∃ o : Nat, g.rid = (mkF r l).rid ∧ g.off = o ∧ o ≤ l.length ∧ min l.length (16 * i) ≤ o ∧ own = dbOf (l.take o) ∧ ∀ m ∈ sent, harm (mkF r l).rid o m)
end Go.Proofs.Ytlkhfdccapkcdaa

/- Walks, printed: r5_bare, r5_MayItem, r5_MayEffect, r5_MayEffects, r13_MayFeed, r5_MaySpace -/
namespace Go.Proofs.Ytlkhfdccapkcdaa
open Go Go.RowKit
set_option linter.unusedVariables false
set_option linter.unusedSimpArgs false
end Go.Proofs.Ytlkhfdccapkcdaa

/- Walks, printed: l5_Great, l11_Heavy, l15_great, l11_Great -/
namespace Go.Proofs.Ytlkhfdccapkcdaa
open Go Go.RowKit
set_option linter.unusedVariables false
set_option linter.unusedSimpArgs false
end Go.Proofs.Ytlkhfdccapkcdaa

/- Plain laws: what may be, what is great. -/
namespace Go.Proofs.Ytlkhfdccapkcdaa
open Go Go.RowKit
set_option linter.unusedVariables false
set_option linter.unusedSimpArgs false
theorem gtI_n {a b : Int} (h : gtI a b = false) : a ≤ b := by simpa [gtI] using h
theorem leI_d {a b : Int} (h : leI a b = true) : a ≤ b := by simpa [leI] using h
theorem geI_d {a b : Int} (h : geI a b = true) : b ≤ a := by simpa [geI] using h
end Go.Proofs.Ytlkhfdccapkcdaa

/- Plain laws: whether two spaces are one, what is at a key. -/
namespace Go.Proofs.Ytlkhfdccapkcdaa
open Go Go.RowKit
set_option linter.unusedVariables false
set_option linter.unusedSimpArgs false
/-- What is at a key. -/
def rawP (l : List Pair) (k : ByteArray) : Option Item := (l.find? fun p => decide (p.key = k)).map fun p => p.item
def noI : Item := ⟨0, ⟨#[]⟩, [], [], 0⟩
theorem rawP_no {l : List Pair} {k : ByteArray} (h : ∀ p ∈ l, p.key ≠ k) : rawP l k = none := by
  unfold rawP
  rw [List.find?_eq_none.2 (fun p hp => by simpa using h p hp)]
  rfl
theorem rawP_at {l : List Pair} {k : ByteArray} {i : Nat} (hi : i < l.length) (h : l[i].key = k) (hb : ∀ j (hj : j < i), l[j].key ≠ k) : rawP l k = some l[i].item := by
  unfold rawP
  rw [List.find?_eq_some_iff_getElem.2 ⟨by simpa using h, i, hi, rfl, fun j hj => by simpa using hb j hj⟩]
  rfl
theorem rawP_shape {A B C : List Pair} {k : ByteArray} (hA : ∀ a ∈ A, slt a.key k = true) (hC : ∀ c ∈ C, slt k c.key = true) (hB : B = [] ∨ ∃ x, B = [x] ∧ x.key = k) : rawP (A ++ B ++ C) k = (B.head?).map fun p => p.item := by
  have h1 : A.find? (fun p => decide (p.key = k)) = none := List.find?_eq_none.2 fun p hp => by simpa using slt_ne (hA p hp)
  have h2 : C.find? (fun p => decide (p.key = k)) = none := List.find?_eq_none.2 fun p hp => by simpa using fun e => slt_ne (hC p hp) e.symm
  unfold rawP
  rw [List.find?_append, List.find?_append, h1, h2]
  rcases hB with rfl | ⟨x, rfl, hx⟩
  · rfl
  · simp [hx]
theorem rawP_ok {l : List Pair} {k : ByteArray} {it : Item} (ho : okP l) (h : rawP l k = some it) : okI it := by
  unfold rawP at h
  obtain ⟨p, hp, rfl⟩ := Option.map_eq_some_iff.1 h
  exact ho p (List.mem_of_find?_eq_some hp)
theorem space_Raw_ok (l : List Pair) (k : ByteArray) (h : SrtP l) (ho : okP l) (hl : l.length ≤ 1000000000) : space_Raw_sh big l k = some ((rawP l k).getD noI, (rawP l k).isSome) := by
  obtain ⟨A, B, C, rfl, hA, hC, hB⟩ := shapeG (key := Pair.key) k l h
  unfold space_Raw_sh
  rw [find_ok1 A B C k hA hC hB hl, rawP_shape hA hC hB]
  rcases hB with rfl | ⟨x, rfl, hx⟩
  · rfl
  · have hn : (A ++ [x] ++ C)[A.length]? = some x := by simp
    simp only [lt_eq, bn_some, ite_t, ite_f, sm_inl, sm_inr, lenI_eq, Option.some.injEq, List.isEmpty_cons, Bool.not_false, notB_t, nth_nat, hn]
    rw [item_Copy_ok _ (ho x (by simp))]
    rfl
theorem r_Raw_ok (l : List Pair) (k : ByteArray) (hl : l.length ≤ 1000000000) : r5_Raw_sh big l k = some ⟨(rawP l k).getD noI, (rawP l k).isSome⟩ := by
  refine Rn.eq ?_
  unfold r5_Raw_sh
  refine Rn.bn (P := fun y => (y = .inl () ∧ rawP l k = none) ∨ (∃ it, y = .inr ⟨it, true⟩ ∧ rawP l k = some it)) (Rn.iter _ (fun q x => x = (q : Int) ∧ ∀ i (h : i < q) (hi : i < l.length), l[i].key ≠ k) l.length (by unfold big; omega) ⟨rfl, fun i h => by omega⟩ fun q x hq hI => ?_) fun y hy => ?_
  · obtain ⟨rfl, hI⟩ := hI
    by_cases hq2 : q < l.length
    · simp only [lt_eq]
      rw [ltI_t (by simp only [lenI]; omega), nth_some hq2]
      simp only [lt_eq, bn_some, ite_t, ite_f, sm_inl, sm_inr, lenI_eq, Option.some.injEq, eqS]
      by_cases hk : l[q].key = k
      · rw [decide_eq_true hk]
        exact ⟨_, rfl, .inr ⟨_, rfl, rawP_at hq2 hk fun j hj => hI j hj (by omega)⟩⟩
      · rw [decide_eq_false hk]
        refine ⟨_, rfl, hq2, by rw [addI_64 (by omega) (by omega)]; omega, fun i hi h1 => ?_⟩
        by_cases hiq : i = q
        · subst hiq; exact hk
        · exact hI i (by omega) h1
    · obtain rfl : q = l.length := by omega
      simp only [lt_eq]
      rw [ltI_f (by simp only [lenI]; omega)]
      refine ⟨_, rfl, .inl ⟨rfl, rawP_no fun p hp => ?_⟩⟩
      obtain ⟨i, hi, rfl⟩ := List.getElem_of_mem hp
      exact hI i hi hi
  · rcases hy with ⟨rfl, h⟩ | ⟨it, rfl, h⟩
    · rw [h]; exact ⟨_, rfl, rfl⟩
    · rw [h]; exact ⟨_, rfl, rfl⟩
def alive (i : Item) (now : Int) : Bool := decide (i.exp = 0) || decide (now < i.exp)
def getP (l : List Pair) (k : ByteArray) (now : Int) : Option Item := bif alive ((rawP l k).getD noI) now then rawP l k else none
theorem item_Alive_ok (i : Item) (now : Int) : item_Alive_sh big i now = some (alive i now) := by
  unfold item_Alive_sh
  simp only [lt_eq, bn_some, ite_or]
  rfl
theorem r_Alive_ok (i : Item) (now : Int) : r5_Alive_sh big i now = some (alive i now) := by
  unfold r5_Alive_sh
  simp only [lt_eq, bn_some, ite_or]
  rfl
theorem space_Get_ok (l : List Pair) (k : ByteArray) (now : Int) (h : SrtP l) (ho : okP l) (hl : l.length ≤ 1000000000) : space_Get_sh big l k now = some ((getP l k now).getD noI, (getP l k now).isSome) := by
  unfold space_Get_sh getP
  rw [space_Raw_ok l k h ho hl]
  simp only [lt_eq, bn_some, ite_t, ite_f, sm_inl, sm_inr, lenI_eq, Option.some.injEq]
  cases h1 : rawP l k
  · cases alive ((none : Option Item).getD noI) now <;> rfl
  · simp only [Option.isSome_some, Option.getD_some, notB_t, lt_eq, bn_some, ite_t, ite_f, sm_inl, sm_inr, lenI_eq, Option.some.injEq, item_Alive_ok]
    rename_i v
    cases h2 : alive v now <;> rfl
theorem r_Get_ok (l : List Pair) (k : ByteArray) (now : Int) (hl : l.length ≤ 1000000000) : r5_Get_sh big l k now = some ⟨(getP l k now).getD noI, (getP l k now).isSome⟩ := by
  unfold r5_Get_sh getP
  rw [r_Raw_ok l k hl]
  simp only [lt_eq, bn_some, ite_t, ite_f, sm_inl, sm_inr, lenI_eq, Option.some.injEq]
  cases h1 : rawP l k
  · cases alive ((none : Option Item).getD noI) now <;> rfl
  · simp only [Option.isSome_some, Option.getD_some, notB_t, lt_eq, bn_some, ite_t, ite_f, sm_inl, sm_inr, lenI_eq, Option.some.injEq, r_Alive_ok]
    rename_i v
    cases h2 : alive v now <;> rfl
theorem getP_ok {l : List Pair} {k : ByteArray} {now : Int} {it : Item} (ho : okP l) (h : getP l k now = some it) : okI it := by
  unfold getP at h
  cases h2 : alive ((rawP l k).getD noI) now
  · rw [h2] at h; simp at h
  · rw [h2] at h; exact rawP_ok ho h
theorem okI_no : okI noI := ⟨by simp [noI], by simp [noI]⟩
theorem okI_getD {o : Option Item} (h : ∀ it, o = some it → okI it) : okI (o.getD noI) := by
  cases o with
  | none => exact okI_no
  | some v => exact h v rfl
end Go.Proofs.Ytlkhfdccapkcdaa

/- Plain laws: the program's slot is the document's. -/
namespace Go.Proofs.Ytlkhfdccapkcdaa
open Go Go.RowKit
set_option linter.unusedVariables false
set_option linter.unusedSimpArgs false
theorem ltT {a b : Int} (h : a < b) : ltI a b = true := by simp [ltI, h]
theorem ltF {a b : Int} (h : ¬ a < b) : ltI a b = false := by simp [ltI]; omega
/-! ### The first of a byte -/
theorem indexByte_spec (c : UInt8) : ∀ l : List UInt8, (Lib.indexByte l c = -1 ∧ ∀ b ∈ l, b ≠ c) ∨ ∃ i : Nat, Lib.indexByte l c = i ∧ ∃ hi : i < l.length, l[i] = c ∧ ∀ j (hj : j < i), l[j] ≠ c
  | [] => .inl ⟨rfl, by simp⟩
  | b :: l => by
    by_cases h : b = c
    · refine .inr ⟨0, ?_, by simp, h, fun j hj => by omega⟩
      unfold Lib.indexByte
      simp [h]
    · rcases indexByte_spec c l with ⟨h1, h2⟩ | ⟨i, h1, hi, h2, h3⟩
      · refine .inl ⟨?_, fun x hx => ?_⟩
        · unfold Lib.indexByte
          simp [h, h1]
        · rcases List.mem_cons.1 hx with rfl | hx
          · exact h
          · exact h2 x hx
      · refine .inr ⟨i + 1, ?_, by simp; omega, by simpa using h2, fun j hj => ?_⟩
        · unfold Lib.indexByte
          have : ¬ ((i : Int) = -1) := by omega
          simp [h, h1, this]
        · cases j with
          | zero => exact h
          | succ j => simpa using h3 j (by omega)
theorem bAt_list {s : ByteArray} {i : Nat} (h : i < s.size) : bAt s i = ((s.data.toList[i]'(by simpa using h)).toNat : Int) := by
  unfold bAt
  rw [dif_pos h]
  rfl
theorem byte_inj {a : UInt8} {c : Nat} (hc : c < 256) : ((a.toNat : Int) = (c : Int)) ↔ a = (c : Int).toNat.toUInt8 := by
  have e : ((c : Int).toNat.toUInt8).toNat = c := by simp; omega
  constructor
  · intro h
    apply UInt8.toNat_inj.1
    rw [e]
    omega
  · rintro rfl
    rw [e]
theorem idxB_spec (s : ByteArray) (c : Int) (hc0 : 0 ≤ c) (hc : c < 256) : (idxB s c = -1 ∧ ∀ i, i < s.size → bAt s i ≠ c) ∨ ∃ i : Nat, idxB s c = i ∧ i < s.size ∧ bAt s i = c ∧ ∀ j, j < i → bAt s j ≠ c := by
  obtain ⟨c, rfl⟩ : ∃ n : Nat, c = n := ⟨c.toNat, by omega⟩
  have hc : c < 256 := by omega
  have hlen : s.data.toList.length = s.size := by simp
  rcases indexByte_spec ((c : Int).toNat.toUInt8) s.data.toList with ⟨h1, h2⟩ | ⟨i, h1, hi, h2, h3⟩
  · refine .inl ⟨h1, fun i hi => ?_⟩
    rw [bAt_list hi, Ne, byte_inj hc]
    exact h2 _ (List.getElem_mem _)
  · refine .inr ⟨i, h1, by omega, ?_, fun j hj => ?_⟩
    · rw [bAt_list (by omega), byte_inj hc]
      exact h2
    · rw [bAt_list (by omega), Ne, byte_inj hc]
      exact h3 j hj
/-! ### The tag -/
theorem Index_ok (s : ByteArray) : stringslite_Index_sh big s = some (idxB s 123) := by
  unfold stringslite_Index_sh
  by_cases h : (⟨#[123]⟩ : ByteArray) = s
  · subst h
    rfl
  · simp only [lt_eq, eqS, decide_eq_false h, ite_f]
    rfl
theorem Index_fx_ok (s : ByteArray) : stringslite_Index_fx_sh big s = some (idxB s 125) := by
  unfold stringslite_Index_fx_sh
  by_cases h : (⟨#[125]⟩ : ByteArray) = s
  · subst h
    rfl
  · simp only [lt_eq, eqS, decide_eq_false h, ite_f]
    rfl
theorem geT {a b : Int} (h : b ≤ a) : geI a b = true := by simp [geI, h]
theorem geF {a b : Int} (h : ¬ b ≤ a) : geI a b = false := by simp [geI]; omega
theorem Cut_no (s : ByteArray) (h : idxB s 123 = -1) : strings_Cut_sh big s = some (s, ⟨#[]⟩, false) := by
  unfold strings_Cut_sh stringslite_Cut_sh
  rw [Index_ok, h]
  rfl
theorem Cut_fx_no (s : ByteArray) (h : idxB s 125 = -1) : strings_Cut_fx_sh big s = some (s, ⟨#[]⟩, false) := by
  unfold strings_Cut_fx_sh stringslite_Cut_fx_sh
  rw [Index_fx_ok, h]
  rfl
theorem Cut_at (s : ByteArray) (i : Nat) (h : idxB s 123 = i) (hi : i < s.size) (hs : s.size ≤ 1000000000000) : strings_Cut_sh big s = some (s.extract 0 i, s.extract (i + 1) s.size, true) := by
  unfold strings_Cut_sh stringslite_Cut_sh
  rw [Index_ok, h]
  have e1 : segSh s (i : Int) = some (s.extract 0 i) := by
    unfold segSh
    rw [if_pos (by omega)]
    rfl
  have e2 : segSl s ((i : Int) + 1) = some (s.extract (i + 1) s.size) := by
    unfold segSl
    rw [if_pos (by omega)]
    rfl
  simp only [lt_eq, bn_some, ite_t, ite_f, sm_inl, sm_inr, lenI_eq, Option.some.injEq]
  rw [geT (by omega), addI_64 (by omega) (by omega), e1, e2]
  rfl
theorem Cut_fx_at (s : ByteArray) (i : Nat) (h : idxB s 125 = i) (hi : i < s.size) (hs : s.size ≤ 1000000000000) : strings_Cut_fx_sh big s = some (s.extract 0 i, s.extract (i + 1) s.size, true) := by
  unfold strings_Cut_fx_sh stringslite_Cut_fx_sh
  rw [Index_fx_ok, h]
  have e1 : segSh s (i : Int) = some (s.extract 0 i) := by
    unfold segSh
    rw [if_pos (by omega)]
    rfl
  have e2 : segSl s ((i : Int) + 1) = some (s.extract (i + 1) s.size) := by
    unfold segSl
    rw [if_pos (by omega)]
    rfl
  simp only [lt_eq, bn_some, ite_t, ite_f, sm_inl, sm_inr, lenI_eq, Option.some.injEq]
  rw [geT (by omega), addI_64 (by omega) (by omega), e1, e2]
  rfl
theorem bAt_extract {s : ByteArray} {a j : Nat} (h : a + j < s.size) : bAt (s.extract a s.size) j = bAt s (a + j) := by
  have h2 : j < (s.extract a s.size).size := by rw [ByteArray.size_extract]; omega
  unfold bAt
  rw [dif_pos h2, dif_pos h, ByteArray.getElem_extract]
theorem atS_ok {s : ByteArray} {i : Nat} (h : i < s.size) : atS s (i : Int) = some (bAt s i) := by
  unfold atS
  rw [if_pos (by omega)]
  rfl
theorem neT {a b : Int} (h : a ≠ b) : neI a b = true := by simp [neI, h]
theorem eqF' {a b : Int} (h : a ≠ b) : eqI a b = false := by simp [eqI, h]
theorem Tag_ok (s : ByteArray) (hs : s.size ≤ 1000000000000) : ∃ t : ByteArray, r1_Tag_sh big s = some t ∧ slot_Tag_sh big s = some t ∧ t.size ≤ s.size := by
  rcases idxB_spec s 123 (by omega) (by omega) with ⟨h1, h2⟩ | ⟨i, h1, h2, h3, h4⟩
  · refine ⟨s, ?_, ?_, Nat.le_refl _⟩
    · unfold r1_Tag_sh
      refine bn_run (.inl ()) (fun i => (i : Int)) s.size (by unfold big; omega) rfl (fun i hi => ?_) ?_ rfl
      · simp only [lt_eq]
        rw [ltT (by simp only [lenS]; omega), atS_ok hi]
        simp only [lt_eq, bn_some, ite_t, ite_f, sm_inl, sm_inr, lenI_eq, Option.some.injEq]
        rw [neT (h2 i hi), ite_t, addI_64 (by omega) (by omega)]
        rfl
      · simp only [lt_eq]
        rw [ltF (by simp only [lenS]; omega)]
        rfl
    · unfold slot_Tag_sh
      rw [Cut_no s h1]
      rfl
  have hstep : ∀ q, q < i → ∀ {γ : Type} (x : Option (Int ⊕ γ)) (y : Option (Int ⊕ γ)), ite' (ltI (q : Int) (lenS s)) (bn (atS s (q : Int)) fun v6 => ite' (neI v6 123) (some (.inl (addI .i64 (q : Int) 1))) x) y = some (.inl ((q + 1 : Nat) : Int)) := fun q hq γ x y => by
    rw [ltT (by simp only [lenS]; omega), atS_ok (by omega)]
    simp only [lt_eq, bn_some, ite_t, ite_f, sm_inl, sm_inr, lenI_eq, Option.some.injEq]
    rw [neT (h4 q hq), ite_t, addI_64 (by omega) (by omega)]
    rfl
  have hsz : (s.extract (i + 1) s.size).size = s.size - (i + 1) := by rw [ByteArray.size_extract]; omega
  rcases idxB_spec (s.extract (i + 1) s.size) 125 (by omega) (by omega) with ⟨k1, k2⟩ | ⟨j, k1, k2, k3, k4⟩
  · have k2 : ∀ q, i + 1 + q < s.size → bAt s (i + 1 + q) ≠ 125 := fun q hq => by
      have := k2 q (by omega)
      rwa [bAt_extract hq] at this
    refine ⟨s, ?_, ?_, Nat.le_refl _⟩
    · unfold r1_Tag_sh
      refine bn_run (.inr s) (fun i => (i : Int)) i (by unfold big; omega) rfl (fun q hq => hstep q hq _ _) ?_ rfl
      simp only [lt_eq]
      rw [ltT (by simp only [lenS]; omega), atS_ok h2]
      simp only [lt_eq, bn_some, ite_t, ite_f, sm_inl, sm_inr, lenI_eq, Option.some.injEq, h3]
      rw [show neI (123 : Int) 123 = false by rfl, ite_f]
      refine bn_run (.inl ()) (fun q => ((i + 1 + q : Nat) : Int)) (s.size - (i + 1)) (by unfold big; omega) (by rw [addI_64 (by omega) (by omega)]; omega) (fun q hq => ?_) ?_ rfl
      · rw [ltT (by simp only [lenS]; omega), atS_ok (by omega)]
        simp only [lt_eq, bn_some, ite_t, ite_f, sm_inl, sm_inr, lenI_eq, Option.some.injEq]
        rw [eqF' (k2 q (by omega)), ite_f, addI_64 (by omega) (by omega)]
        rfl
      · rw [ltF (by simp only [lenS]; omega)]
        rfl
    · unfold slot_Tag_sh
      rw [Cut_at s i h1 h2 hs]
      simp only [lt_eq, bn_some, ite_t, ite_f, sm_inl, sm_inr, lenI_eq, Option.some.injEq]
      rw [Cut_fx_no _ k1]
      rfl
  · have hj : i + 1 + j < s.size := by omega
    have k3 : bAt s (i + 1 + j) = 125 := by rwa [bAt_extract hj] at k3
    have k4 : ∀ q, q < j → bAt s (i + 1 + q) ≠ 125 := fun q hq => by
      have := k4 q hq
      rwa [bAt_extract (by omega)] at this
    have hex : (s.extract (i + 1) s.size).extract 0 j = s.extract (i + 1) (i + 1 + j) := by
      rw [ByteArray.extract_extract]
      congr 1
      omega
    have hez : (s.extract (i + 1) (i + 1 + j)).size = j := by rw [ByteArray.size_extract]; omega
    have hslot : slot_Tag_sh big s = some (bif decide (j = 0) then s else s.extract (i + 1) (i + 1 + j)) := by
      unfold slot_Tag_sh
      rw [Cut_at s i h1 h2 hs]
      simp only [lt_eq, bn_some, ite_t, ite_f, sm_inl, sm_inr, lenI_eq, Option.some.injEq]
      rw [Cut_fx_at _ j k1 k2 (by omega)]
      simp only [lt_eq, bn_some, ite_t, ite_f, sm_inl, sm_inr, lenI_eq, Option.some.injEq, hex]
      by_cases h0 : j = 0
      · have : s.extract (i + 1) (i + 1 + j) = ⟨#[]⟩ := by
          apply ByteArray.ext
          apply Array.eq_empty_of_size_eq_zero
          exact hez.trans h0
        rw [this, show neS (⟨#[]⟩ : ByteArray) ⟨#[]⟩ = false by rfl, decide_eq_true h0]
        rfl
      · have : s.extract (i + 1) (i + 1 + j) ≠ ⟨#[]⟩ := fun h => by
          rw [h] at hez
          exact h0 hez.symm
        rw [show neS (s.extract (i + 1) (i + 1 + j)) ⟨#[]⟩ = true by simp [neS, this], decide_eq_false h0]
        rfl
    have hr1 : r1_Tag_sh big s = some (bif decide (j = 0) then s else s.extract (i + 1) (i + 1 + j)) := by
      unfold r1_Tag_sh
      refine bn_run (.inr (bif decide (j = 0) then s else s.extract (i + 1) (i + 1 + j))) (fun i => (i : Int)) i (by unfold big; omega) rfl (fun q hq => hstep q hq _ _) ?_ rfl
      simp only [lt_eq]
      rw [ltT (by simp only [lenS]; omega), atS_ok h2]
      simp only [lt_eq, bn_some, ite_t, ite_f, sm_inl, sm_inr, lenI_eq, Option.some.injEq, h3]
      rw [show neI (123 : Int) 123 = false by rfl, ite_f]
      refine bn_run (.inr (bif decide (j = 0) then s else s.extract (i + 1) (i + 1 + j))) (fun q => ((i + 1 + q : Nat) : Int)) j (by unfold big; omega) (by rw [addI_64 (by omega) (by omega)]; omega) (fun q hq => ?_) ?_ rfl
      · rw [ltT (by simp only [lenS]; omega), atS_ok (by omega)]
        simp only [lt_eq, bn_some, ite_t, ite_f, sm_inl, sm_inr, lenI_eq, Option.some.injEq]
        rw [eqF' (k4 q hq), ite_f, addI_64 (by omega) (by omega)]
        rfl
      · rw [ltT (by simp only [lenS]; omega), atS_ok hj]
        simp only [lt_eq, bn_some, ite_t, ite_f, sm_inl, sm_inr, lenI_eq, Option.some.injEq, k3]
        rw [show eqI (125 : Int) 125 = true by rfl, ite_t, addI_64 (by omega) (by omega)]
        by_cases h0 : j = 0
        · rw [show eqI ((i + 1 + j : Nat) : Int) ((i : Int) + 1) = true by simp [eqI]; omega, decide_eq_true h0]
          rfl
        · rw [eqF' (by omega), decide_eq_false h0, ite_f]
          have : segSlh s ((i : Int) + 1) ((i + 1 + j : Nat) : Int) = some (s.extract (i + 1) (i + 1 + j)) := by
            unfold segSlh segS
            rw [if_pos (by omega)]
            rfl
          rw [this]
          rfl
    refine ⟨_, hr1, hslot, ?_⟩
    cases decide (j = 0)
    · simp only [cond_false]; omega
    · exact Nat.le_refl _
/-! ### The check sum -/
theorem xorI_64 {x y : Nat} (hx : x < 2 ^ 62) (hy : y < 2 ^ 62) : xorI .i64 (x : Int) (y : Int) = ((x ^^^ y : Nat) : Int) := by
  have h := Nat.xor_lt_two_pow hx hy
  show IntKind.i64.wrap ((BitVec.ofInt 64 (x : Int) ^^^ BitVec.ofInt 64 (y : Int)).toNat : Int) = _
  simp only [BitVec.ofInt_natCast, BitVec.toNat_xor, BitVec.toNat_ofNat]
  rw [Nat.mod_eq_of_lt (show x < 2 ^ 64 by omega), Nat.mod_eq_of_lt (show y < 2 ^ 64 by omega), wrap64 (by omega) (by omega)]
theorem wrapU16 (a : Int) : IntKind.u16.wrap a = a % 65536 := by simp [IntKind.wrap, IntKind.bits, IntKind.signed]
theorem xorI_16 {x y : Nat} (hx : x < 2 ^ 16) (hy : y < 2 ^ 16) : xorI .u16 (x : Int) (y : Int) = ((x ^^^ y : Nat) : Int) := by
  have h := Nat.xor_lt_two_pow hx hy
  show IntKind.u16.wrap ((BitVec.ofInt 16 (x : Int) ^^^ BitVec.ofInt 16 (y : Int)).toNat : Int) = _
  simp only [BitVec.ofInt_natCast, BitVec.toNat_xor, BitVec.toNat_ofNat]
  rw [Nat.mod_eq_of_lt hx, Nat.mod_eq_of_lt hy, wrapU16]
  omega
theorem andI_16 {x : Nat} (hx : x < 2 ^ 62) : andI .i64 (x : Int) 65535 = ((x % 65536 : Nat) : Int) := by
  have e : (65535 : Int) = ((65535 : Nat) : Int) := rfl
  rw [e]
  show IntKind.i64.wrap ((BitVec.ofInt 64 (x : Int) &&& BitVec.ofInt 64 ((65535 : Nat) : Int)).toNat : Int) = _
  simp only [BitVec.ofInt_natCast, BitVec.toNat_and, BitVec.toNat_ofNat]
  rw [Nat.mod_eq_of_lt (show x < 2 ^ 64 by omega), show 65535 % 2 ^ 64 = 2 ^ 16 - 1 by rfl, Nat.and_two_pow_sub_one_eq_mod, wrap64 (by omega) (by omega)]
/-- One bit. -/
def bit1 (c : Nat) : Nat := if 32768 ≤ c then (2 * c ^^^ 4129) % 65536 else 2 * c
theorem bit1_lt {c : Nat} (h : c < 65536) : bit1 c < 65536 := by unfold bit1; split <;> omega
def bits : Nat → Nat → Nat
  | 0, c => c
  | k + 1, c => bit1 (bits k c)
theorem bits_lt {c : Nat} (h : c < 65536) : ∀ k, bits k c < 65536
  | 0 => h
  | k + 1 => bit1_lt (bits_lt h k)
def byteN (s : ByteArray) (i : Nat) : Nat := (bAt s i).toNat
theorem bAt_byte (s : ByteArray) (i : Nat) : bAt s i = (byteN s i : Int) ∧ byteN s i < 256 := by
  unfold byteN bAt
  split
  · rename_i h
    have := (s[i]'h).toNat_lt
    omega
  · exact ⟨rfl, by simp⟩
def crcN (s : ByteArray) : Nat → Nat
  | 0 => 0
  | i + 1 => bits 8 (crcN s i ^^^ byteN s i * 256)
theorem crcN_lt (s : ByteArray) : ∀ i, crcN s i < 65536
  | 0 => by simp [crcN]
  | i + 1 => by
    have h1 := crcN_lt s i
    have h2 := (bAt_byte s i).2
    exact bits_lt (Nat.xor_lt_two_pow (n := 16) (by omega) (by omega)) 8
theorem r1_Crc_ok (s : ByteArray) (hs : s.size ≤ 1000000000000) : r1_Crc_sh big s = some (crcN s s.size : Int) := by
  unfold r1_Crc_sh
  refine bn_run (crcN s s.size : Int) (fun i => ((crcN s i : Int), (i : Int))) s.size (by unfold big; omega) rfl (fun i hi => ?_) ?_ rfl
  · simp only [lt_eq]
    rw [ltT (by simp only [lenS]; omega), atS_ok hi]
    obtain ⟨b1, b2⟩ := bAt_byte s i
    have hc := crcN_lt s i
    rw [b1]
    simp only [lt_eq, bn_some, ite_t, ite_f, sm_inl, sm_inr, lenI_eq, Option.some.injEq]
    rw [cvI_64 (by omega) (by omega)]
    have e1 : shlI .i64 (byteN s i : Int) 8 = some ((byteN s i * 256 : Nat) : Int) := by
      unfold shlI
      rw [if_pos (by omega)]
      simp only [IntKind.bits, show min (8 : Int).toNat 64 = 8 by rfl]
      rw [wrap64 (by omega) (by omega)]
      congr 1
    rw [e1]
    simp only [bn_some]
    rw [xorI_64 (by omega) (by omega)]
    have hx : crcN s i ^^^ byteN s i * 256 < 65536 := Nat.xor_lt_two_pow (n := 16) (by omega) (by omega)
    have hcs : crcN s (i + 1) = bits 8 (crcN s i ^^^ byteN s i * 256) := rfl
    rw [hcs]
    clear hcs
    generalize crcN s i ^^^ byteN s i * 256 = x at hx ⊢
    refine bn_run (bits 8 x : Int) (fun k => ((bits k x : Int), (k : Int))) 8 (by unfold big; omega) rfl (fun k hk => ?_) ?_ ?_
    · simp only
      rw [ltT (by omega), ite_t]
      have hb := bits_lt hx k
      have e2 : shlI .i64 (bits k x : Int) 1 = some ((2 * bits k x : Nat) : Int) := by
        unfold shlI
        rw [if_pos (by omega)]
        simp only [IntKind.bits, show min (1 : Int).toNat 64 = 1 by rfl]
        rw [wrap64 (by omega) (by omega)]
        congr 1
        omega
      rw [e2]
      simp only [bn_some]
      have e3 : ite' (geI ((2 * bits k x : Nat) : Int) 65536) (some (andI .i64 (xorI .i64 ((2 * bits k x : Nat) : Int) 4129) 65535)) (some ((2 * bits k x : Nat) : Int)) = some (bit1 (bits k x) : Int) := by
        unfold bit1
        by_cases h : 32768 ≤ bits k x
        · rw [geT (by omega), if_pos h, ite_t, show (4129 : Int) = ((4129 : Nat) : Int) by rfl, xorI_64 (by omega) (by omega)]
          have h2 : 2 * bits k x ^^^ 4129 < 2 ^ 17 := Nat.xor_lt_two_pow (by omega) (by omega)
          rw [andI_16 (by omega)]
        · rw [geF (by omega), if_neg h, ite_f]
      rw [e3]
      simp only [bn_some]
      rw [addI_64 (by omega) (by omega)]
      rfl
    · simp only
      rw [ltF (by omega)]
      rfl
    · rw [addI_64 (by omega) (by omega)]
      rfl
  · simp only [lt_eq]
    rw [ltF (by simp only [lenS]; omega)]
    rfl
theorem bytesI_len (s : ByteArray) : (bytesI s).length = s.size := by simp [bytesI]
theorem bytesI_get (s : ByteArray) (i : Nat) (h : i < (bytesI s).length) : (bytesI s)[i] = bAt s i := by
  rw [bAt_list (by rw [bytesI_len] at h; exact h)]
  simp [bytesI]
theorem slot_Crc_ok (s : ByteArray) (hs : s.size ≤ 1000000000000) : slot_Crc_sh big (bytesI s) = some (crcN s s.size : Int) := by
  unfold slot_Crc_sh
  have hl := bytesI_len s
  simp only [lt_eq]
  refine bn_run (crcN s s.size : Int) (fun i => ((crcN s i : Int), (i : Int))) s.size (by unfold big; omega) rfl (fun i hi => ?_) ?_ ?_
  · simp only
    rw [ltT (by simp only [lenI]; omega), nth_some (by omega), bytesI_get]
    obtain ⟨b1, b2⟩ := bAt_byte s i
    have hc := crcN_lt s i
    rw [b1]
    simp only [lt_eq, bn_some, ite_t, ite_f, sm_inl, sm_inr, lenI_eq, Option.some.injEq]
    have e0 : cvI .u16 (byteN s i : Int) = (byteN s i : Int) := by unfold cvI; rw [wrapU16]; omega
    rw [e0]
    have e1 : shlI .u16 (byteN s i : Int) 8 = some ((byteN s i * 256 : Nat) : Int) := by
      unfold shlI
      rw [if_pos (by omega)]
      simp only [IntKind.bits, show min (8 : Int).toNat 16 = 8 by rfl]
      rw [wrapU16]
      congr 1
      omega
    rw [e1]
    simp only [bn_some]
    rw [xorI_16 (by omega) (by omega)]
    have hx : crcN s i ^^^ byteN s i * 256 < 65536 := Nat.xor_lt_two_pow (n := 16) (by omega) (by omega)
    have hcs : crcN s (i + 1) = bits 8 (crcN s i ^^^ byteN s i * 256) := rfl
    rw [hcs]
    clear hcs
    generalize crcN s i ^^^ byteN s i * 256 = x at hx ⊢
    refine bn_run (bits 8 x : Int) (fun k => ((bits k x : Int), (k : Int))) 8 (by unfold big; omega) rfl (fun k hk => ?_) ?_ ?_
    · simp only
      rw [ltT (by omega), ite_t]
      have hb := bits_lt hx k
      have e2 : shlI .u16 (bits k x : Int) 1 = some ((2 * bits k x % 65536 : Nat) : Int) := by
        unfold shlI
        rw [if_pos (by omega)]
        simp only [IntKind.bits, show min (1 : Int).toNat 16 = 1 by rfl]
        rw [wrapU16]
        congr 1
        omega
      have e4 : shrI .u16 (bits k x : Int) 15 = some ((bits k x / 32768 : Nat) : Int) := by
        unfold shrI
        rw [if_pos (by omega)]
        simp only [IntKind.bits, show min (15 : Int).toNat 16 = 15 by rfl]
        rw [Int.fdiv_eq_ediv_of_nonneg _ (by omega)]
        rfl
      rw [e2, e4]
      simp only [bn_some]
      have e5 : mulI .u16 4129 ((bits k x / 32768 : Nat) : Int) = ((4129 * (bits k x / 32768) : Nat) : Int) := by
        unfold mulI
        rw [wrapU16]
        omega
      rw [e5, xorI_16 (by omega) (by omega)]
      have e3 : (2 * bits k x % 65536) ^^^ (4129 * (bits k x / 32768)) = bit1 (bits k x) := by
        unfold bit1
        by_cases h : 32768 ≤ bits k x
        · rw [if_pos h, show bits k x / 32768 = 1 by omega]
          have := @Nat.xor_mod_two_pow (2 * bits k x) 4129 16
          rw [show (2 : Nat) ^ 16 = 65536 by rfl] at this
          rw [this]
        · rw [if_neg h, show bits k x / 32768 = 0 by omega, Nat.mod_eq_of_lt (by omega), Nat.mul_zero, Nat.xor_zero]
      rw [e3, addI_64 (by omega) (by omega)]
      rfl
    · simp only
      rw [ltF (by omega)]
      rfl
    · rw [addI_64 (by omega) (by omega)]
      rfl
  · simp only
    rw [ltF (by simp only [lenI]; omega)]
    rfl
  · have hc := crcN_lt s s.size
    rw [cvI_64 (by omega) (by omega)]
/-- A key's slot. -/
def slotOf (k : ByteArray) : Int := (r1_Slot_sh big k).getD 0
theorem slot_ok (k : ByteArray) (h : k.size ≤ 1000000000000) : r1_Slot_sh big k = some (slotOf k) ∧ slot_Of_sh big k = some (slotOf k) := by
  obtain ⟨t, h1, h2, h3⟩ := Tag_ok k h
  have hc := crcN_lt t t.size
  have e : remI .i64 (crcN t t.size : Int) 16384 = some (((crcN t t.size) % 16384 : Nat) : Int) := by
    simp [remI, Int.tmod_eq_emod_of_nonneg]
  have e1 : r1_Slot_sh big k = some (((crcN t t.size) % 16384 : Nat) : Int) := by
    unfold r1_Slot_sh
    rw [h1]
    simp only [bn_some]
    rw [r1_Crc_ok t (by omega)]
    simp only [bn_some]
    rw [e]
    rfl
  have e2 : slot_Of_sh big k = some (((crcN t t.size) % 16384 : Nat) : Int) := by
    unfold slot_Of_sh
    rw [h2]
    simp only [bn_some]
    rw [chk_room (by omega) (by omega)]
    simp only [lt_eq]
    rw [slot_Crc_ok t (by omega)]
    simp only [bn_some]
    rw [e]
    rfl
  unfold slotOf
  rw [e1, e2]
  exact ⟨rfl, rfl⟩
/-- The keys of a slot. -/
def inP (l : List Pair) (s : Int) : List ByteArray := (l.filter fun p => decide (slotOf p.key = s)).map fun p => p.key
theorem inP_take (l : List Pair) (s : Int) (i : Nat) (hi : i < l.length) : inP (l.take (i + 1)) s = bif decide (slotOf l[i].key = s) then inP (l.take i) s ++ [l[i].key] else inP (l.take i) s := by
  rw [← List.take_append_getElem hi]
  unfold inP
  rw [List.filter_append, List.map_append]
  by_cases h : slotOf l[i].key = s
  · simp [h]
  · simp [h]
theorem inP_len (l : List Pair) (s : Int) : (inP l s).length ≤ l.length := by
  unfold inP
  rw [List.length_map]
  exact List.length_filter_le _ _
theorem r_In_ok (l : List Pair) (s : Int) (hl : l.length ≤ 1000000000) (hk : ∀ p ∈ l, p.key.size ≤ 1000000000000) : r5_In_sh big l s = some (inP l s) := by
  unfold r5_In_sh
  have hlen := inP_len l s
  refine bn_run (inP l s) (fun i => ((i : Int), inP (l.take i) s)) l.length (by unfold big; omega) rfl (fun i hi => ?_) ?_ ?_
  · have hn := inP_len (l.take i) s
    rw [List.length_take] at hn
    simp only [lt_eq, bn_some, ite_t, ite_f, sm_inl, sm_inr, lenI_eq, Option.some.injEq]
    rw [ltT (by omega), nth_some hi]
    simp only [lt_eq, bn_some, ite_t, ite_f, sm_inl, sm_inr, lenI_eq, Option.some.injEq]
    rw [(slot_ok _ (hk _ (List.getElem_mem hi))).1]
    simp only [lt_eq, bn_some, ite_t, ite_f, sm_inl, sm_inr, lenI_eq, Option.some.injEq]
    rw [chk_room (by omega) (by omega), addI_64 (by omega) (by omega), inP_take l s i hi]
    unfold eqI
    cases decide (slotOf l[i].key = s) <;> rfl
  · simp only [lt_eq, bn_some, ite_t, ite_f, sm_inl, sm_inr, lenI_eq, Option.some.injEq]
    rw [ltF (by omega), List.take_length]
    rfl
  · rw [chk_room (by omega) (by omega)]
theorem space_In_ok (l : List Pair) (s : Int) (hl : l.length ≤ 1000000000) (hk : ∀ p ∈ l, p.key.size ≤ 1000000000000) : space_In_sh big l s = some (inP l s) := by
  unfold space_In_sh space_keys_sh slices_Collect_string_sh slices_AppendSeq_string_sh
  have hlen := inP_len l s
  simp only [lt_eq, bn_some, ite_t, ite_f, sm_inl, sm_inr, lenI_eq, Option.some.injEq]
  have e : ∀ x : Option (List ByteArray), x = some (inP l s) → (bn (bn (bn x fun y4 => some y4) fun y1 => chk (room y1.length 1) (some y1)) fun v1 => some v1) = some (inP l s) := by
    rintro x rfl
    simp only [lt_eq, bn_some, ite_t, ite_f, sm_inl, sm_inr, lenI_eq, Option.some.injEq]
    rw [chk_room (by omega) (by omega)]
    rfl
  refine (congrArg (fun x => bn x fun v2 => some v2) (e _ ?_)).trans rfl
  refine iter_run (fun i => ((i : Int), inP (l.take i) s)) l.length (by unfold big; omega) rfl (fun i hi => ?_) ?_
  · have hn := inP_len (l.take i) s
    rw [List.length_take] at hn
    simp only [lt_eq, bn_some, ite_t, ite_f, sm_inl, sm_inr, lenI_eq, Option.some.injEq]
    rw [ltT (by omega), nth_some hi]
    simp only [lt_eq, bn_some, ite_t, ite_f, sm_inl, sm_inr, lenI_eq, Option.some.injEq]
    rw [(slot_ok _ (hk _ (List.getElem_mem hi))).2]
    simp only [lt_eq, bn_some, ite_t, ite_f, sm_inl, sm_inr, lenI_eq, Option.some.injEq]
    rw [chk_room (by omega) (by omega), addI_64 (by omega) (by omega), inP_take l s i hi]
    unfold eqI
    cases decide (slotOf l[i].key = s) <;> rfl
  · simp only [lt_eq, bn_some, ite_t, ite_f, sm_inl, sm_inr, lenI_eq, Option.some.injEq]
    rw [ltF (by omega), List.take_length]
    rfl
end Go.Proofs.Ytlkhfdccapkcdaa

/- Walks, printed: l11_Make, l11_awake, l11_SpaceSlots -/
namespace Go.Proofs.Ytlkhfdccapkcdaa
open Go Go.RowKit
set_option linter.unusedVariables false
set_option linter.unusedSimpArgs false
def l11_Make_sh (n : Nat) (a0 : List Int) : Option (List Pair) :=
bn (l11_Effects_sh n a0) fun v1 =>
bn (r5_Apply_sh n [] v1) fun v2 =>
some v2
set_option maxRecDepth 8000 in
set_option maxHeartbeats 8000000 in
theorem s_l11_Make {n : Nat} {a0 : List Int} {r : List Pair} (h : l11_Make_sh n a0 = some r) : Sound Try.prog 51 [.l (.d false 1 (encU a0))] [] (.l (.d false 6 (encPair r))) [] := by
  unfold l11_Make_sh at h
  refine Sound.of_aw (fn := Try.f51) (c := _) Try.func51 rfl (by simp [Try.f51]) fun cx hG hnb => ?_
  rw [show Try.f51.ntmps = 6 from rfl]
  have hn0 : cx.nb = 0 := hnb
  simp only [st0_mk, initTm, List.map_cons, List.map_nil]
  apply AW.step
  · simp
    intros; rfl
  replace h := bnE h; obtain ⟨v1, e1, h⟩ := h
  replace h := bnE h; obtain ⟨v2, e2, h⟩ := h
  apply AW.step
  · simp
    intros
    refine xcall_plain en_l11_Effects (s_l11_Effects e1) rfl ⟨.same rfl, trivial⟩ ?_
    try simp
    intros
    refine xcall_plain en_r5_Apply (s_r5_Apply e2) rfl ⟨.nil _ _, .same rfl, trivial⟩ ?_
    try simp
    intros; rfl
  obtain rfl := Option.some.inj h
  refine AW.ret ?_
  refine Left.plain hnb (by simp [Try.f51, resV, resC, comp]; rfl) rfl rfl ?_
  simp
theorem en_l11_Make : Enters Try.prog 51 := enters Try.func51 (by kernel_rfl) rfl
def l11_awake_sh (n : Nat)  : Option Bool :=
bn (space_Apply_sh n [] [(⟨⟨#[97]⟩, false, (⟨1, ⟨#[]⟩, [], [], 0⟩ : Item)⟩ : Effect)]) fun v1 =>
bn (bn (space_In_sh n [] 0) fun v3 =>
lt (lenI v3) fun v4 =>
lt (eqI v4 0) fun v5 =>
ite' v5 (lt (lenI v1) fun v6 =>
lt (eqI v6 1) fun v7 =>
ite' v7 (bn (r1_Slot_sh n ⟨#[97]⟩) fun v8 =>
bn (space_In_sh n v1 v8) fun v9 =>
lt (lenI v9) fun v10 =>
lt (eqI v10 1) fun v11 =>
some (v11)) (some (false))) (some (false))) fun (y2 : Bool) =>
some y2
set_option maxRecDepth 8000 in
set_option maxHeartbeats 8000000 in
theorem s_l11_awake {n : Nat}  {r : Bool} (h : l11_awake_sh n  = some r) : Sound Try.prog 50 [] [] (.l (.s (.bool r))) [] := by
  unfold l11_awake_sh at h
  refine Sound.of_aw (fn := Try.f50) (c := _) Try.func50 rfl (by simp [Try.f50]) fun cx hG hnb => ?_
  rw [show Try.f50.ntmps = 21 from rfl]
  have hn0 : cx.nb = 0 := hnb
  simp only [st0_mk, initTm, List.map_cons, List.map_nil]
  apply AW.step
  · simp
    intros; rfl
  replace h := bnE h; obtain ⟨v1, e1, h⟩ := h
  apply AW.step
  · simp
    intros
    refine xrow_data (es := encEffect [(⟨⟨#[97]⟩, false, (⟨1, ⟨#[]⟩, [], [], 0⟩ : Item)⟩ : Effect)]) (by simp [encEffect, lvs, All2]) (encEffect_sz _) (by omega) (by simp) ?_
    try simp
    intros
    refine xcall_plain en_space_Apply (s_space_Apply e1) rfl ⟨.nil _ _, .same rfl, trivial⟩ ?_
    try simp
    intros; rfl
  replace h := bnE h; obtain ⟨y2, g2, h⟩ := h
  refine AW.flow (p := fun gh ls => (nP (cx := cx) (fun q => (⟨[(0, .l (.s (.bool q)))], [], 21, gh, ls⟩ : St))) y2) ?_ ?_
  · replace h := g2; clear g2
    replace h := bnE h; obtain ⟨v3, e3, h⟩ := h
    replace h := ltE h; obtain ⟨v4, e4, h⟩ := h
    replace h := ltE h; obtain ⟨v5, e5, h⟩ := h
    cases v5 with
    | true =>
      replace h := iteT rfl h
      replace h := ltE h; obtain ⟨v6, e6, h⟩ := h
      replace h := ltE h; obtain ⟨v7, e7, h⟩ := h
      cases v7 with
      | true =>
        replace h := iteT rfl h
        replace h := bnE h; obtain ⟨v8, e8, h⟩ := h
        replace h := bnE h; obtain ⟨v9, e9, h⟩ := h
        replace h := ltE h; obtain ⟨v10, e10, h⟩ := h
        replace h := ltE h; obtain ⟨v11, e11, h⟩ := h
        apply AW.last
        · simp [lenI_cast e4, ← e5, lenI_cast e6, ← e7, lenI_cast e10, ← e11]
          intros
          refine xcall_plain en_space_In (s_space_In e3) rfl ⟨.nil _ _, .same rfl, trivial⟩ ?_
          try simp [lenI_cast e4, ← e5, lenI_cast e6, ← e7, lenI_cast e10, ← e11]
          intros
          refine xcall_plain en_r1_Slot (s_r1_Slot e8) rfl ⟨.same rfl, trivial⟩ ?_
          try simp [lenI_cast e4, ← e5, lenI_cast e6, ← e7, lenI_cast e10, ← e11]
          intros
          refine xcall_plain en_space_In (s_space_In e9) rfl ⟨.same rfl, .same rfl, trivial⟩ ?_
          try simp [lenI_cast e4, ← e5, lenI_cast e6, ← e7, lenI_cast e10, ← e11]
          intros; rfl
        obtain rfl := Option.some.inj h
        refine nP_i ?_
        refine Weak.mixN [] hn0 (by decide) ?_ ?_ rfl
        all_goals first | (simp [inv_cons, inv_nil, pickOb]; done) | rfl
      | false =>
        replace h := iteF rfl h
        apply AW.last
        · simp [lenI_cast e4, ← e5, lenI_cast e6, ← e7]
          intros
          refine xcall_plain en_space_In (s_space_In e3) rfl ⟨.nil _ _, .same rfl, trivial⟩ ?_
          try simp [lenI_cast e4, ← e5, lenI_cast e6, ← e7]
          intros; rfl
        obtain rfl := Option.some.inj h
        refine nP_i ?_
        refine Weak.mixN [] hn0 (by decide) ?_ ?_ rfl
        all_goals first | (simp [inv_cons, inv_nil, pickOb]; done) | rfl
    | false =>
      replace h := iteF rfl h
      apply AW.last
      · simp [lenI_cast e4, ← e5]
        intros
        refine xcall_plain en_space_In (s_space_In e3) rfl ⟨.nil _ _, .same rfl, trivial⟩ ?_
        try simp [lenI_cast e4, ← e5]
        intros; rfl
      obtain rfl := Option.some.inj h
      refine nP_i ?_
      refine Weak.mixN [] hn0 (by decide) ?_ ?_ rfl
      all_goals first | (simp [inv_cons, inv_nil, pickOb]; done) | rfl
  · rintro e s hp
    obtain ⟨rfl, hw⟩ := hp
    refine ⟨_, hw, ?_⟩
    try simp only [sp_l, sp_r, Post.seq, Post.block, Nat.reduceEqDiff, reduceIte, Nat.zero_ne_one, Nat.one_ne_zero]
    obtain rfl := Option.some.inj h
    refine AW.ret ?_
    refine Left.plain hnb (by simp [Try.f50, resV, resC, comp]; rfl) rfl rfl ?_
    simp
theorem en_l11_awake : Enters Try.prog 50 := enters Try.func50 (by kernel_rfl) rfl
end Go.Proofs.Ytlkhfdccapkcdaa

/- Walks, printed: l11_SpaceDead -/
namespace Go.Proofs.Ytlkhfdccapkcdaa
open Go Go.RowKit
set_option linter.unusedVariables false
set_option linter.unusedSimpArgs false
end Go.Proofs.Ytlkhfdccapkcdaa

/- Walks, printed: l11_SpaceWhole -/
namespace Go.Proofs.Ytlkhfdccapkcdaa
open Go Go.RowKit
set_option linter.unusedVariables false
set_option linter.unusedSimpArgs false
end Go.Proofs.Ytlkhfdccapkcdaa

/- Plain laws: spaces by numbers, their keys and slots. -/
namespace Go.Proofs.Ytlkhfdccapkcdaa
open Go Go.RowKit
set_option linter.unusedVariables false
set_option linter.unusedSimpArgs false
theorem awake11_ok : l11_awake_sh big = some true := by kernel_rfl
/-! ### Keys by numbers -/
def keyT (j : Nat) : ByteArray := (l11_Key_sh big (j : Int)).getD ⟨#[]⟩
theorem Key_mod (n : Int) (h : 0 ≤ n) (h2 : n ≤ 255) : l11_Key_sh big n = l11_Key_sh big (n % 20) := by
  unfold l11_Key_sh
  rw [remI_pos h (by omega), remI_pos (show 0 ≤ n % 20 by omega) (by omega), cvI_64 (by omega) (by omega), cvI_64 (show -9223372036854775808 ≤ n % 20 by omega) (by omega)]
  simp only [bn_some, lt_eq]
  rw [quoI_64 h (by omega) (by omega), quoI_64 (show 0 ≤ n % 20 by omega) (by omega) (by omega)]
  simp only [bn_some]
  rw [remI_pos (by omega) (by omega), remI_pos (show 0 ≤ n % 20 / 4 by omega) (by omega), show n % 20 % 4 = n % 4 by omega, show n % 20 / 4 % 5 = n / 4 % 5 by omega]
def keysB : Bool := (List.range 20).all fun j => (l11_Key_sh big (j : Int)).isSome && decide ((keyT j).size = 4) && decide (slotOf (keyT j) = slotOf (keyT (j % 4)))
theorem keysB_ok : keysB = true := by kernel_rfl
def slotsB : Bool := (List.range 4).all fun a => (List.range 4).all fun b => decide (a = b) || !decide (slotOf (keyT a) = slotOf (keyT b))
theorem keyT_ok {j : Nat} (h : j < 20) : l11_Key_sh big (j : Int) = some (keyT j) ∧ (keyT j).size = 4 ∧ slotOf (keyT j) = slotOf (keyT (j % 4)) := by
  have h1 := List.all_eq_true.1 keysB_ok j (List.mem_range.2 h)
  simp only [Bool.and_eq_true, decide_eq_true_eq] at h1
  refine ⟨?_, h1.1.2, h1.2⟩
  unfold keyT
  cases h2 : l11_Key_sh big (j : Int) with
  | none => rw [h2] at h1; simp at h1
  | some v => rfl
theorem Key_told (n : Int) (h : 0 ≤ n) (h2 : n ≤ 255) : ∃ j : Nat, j < 20 ∧ (j : Int) = n % 20 ∧ l11_Key_sh big n = some (keyT j) := by
  refine ⟨(n % 20).toNat, by omega, by omega, ?_⟩
  rw [Key_mod n h h2, ← (keyT_ok (show (n % 20).toNat < 20 by omega)).1]
  congr 1
  omega
def keyed (k : ByteArray) : Prop := ∃ j, j < 20 ∧ k = keyT j
theorem effAt_key (l : List Int) (hl : u8s l) (i : Nat) (h : 4 * i + 3 < l.length) (e : Effect) (he : effAt l i = some e) : keyed e.key ∧ (e.gone = true → e.item = noI) := by
  have hb0 := hl _ (List.getElem_mem (show 4 * i < l.length by omega))
  have hb1 := hl _ (List.getElem_mem (show 4 * i + 1 < l.length by omega))
  unfold effAt at he
  rw [nth_some (show 4 * i < l.length by omega), nth_some (show 4 * i + 1 < l.length by omega)] at he
  simp only [bn_some] at he
  obtain ⟨j, hj, -, hk⟩ := Key_told _ hb0.1 hb0.2
  rw [hk, remI_pos hb1.1 (by omega)] at he
  simp only [bn_some] at he
  cases hg : eqI (l[4 * i + 1] % 4) 0
  · rw [hg] at he
    obtain ⟨y, hy, he⟩ := bnE he
    have he := Option.some.inj he
    subst he
    exact ⟨⟨j, hj, rfl⟩, fun h => by simp at h⟩
  · rw [hg] at he
    simp only [notB_t, ite_f, bn_some, Option.some.injEq] at he
    subst he
    exact ⟨⟨j, hj, rfl⟩, fun _ => rfl⟩
/-- Effects by numbers. -/
def okM (m : List Effect) : Prop := m.length ≤ 40 ∧ ∀ e ∈ m, okI e.item ∧ keyed e.key ∧ (e.gone = true → e.item = noI)
theorem Effects_made (l : List Int) (hl : u8s l) (h : l.length ≤ 1000000000) : Rn (l11_Effects_sh big l) okM := by
  refine (Effects_told l hl h).mono fun m hm => ?_
  obtain ⟨h1, h2, h3⟩ := hm
  refine ⟨by omega, fun e he => ⟨h3 e he, ?_⟩⟩
  obtain ⟨i, hi, rfl⟩ := List.getElem_of_mem he
  exact effAt_key l hl i (by omega) _ (by rw [h2 i hi, List.getElem?_eq_getElem hi])
/-! ### What effects make of keys -/
theorem foldA_keys (Q : ByteArray → Prop) : ∀ (es : List Effect) (l : List Pair), (∀ p ∈ l, Q p.key) → (∀ e ∈ es, Q e.key) → ∀ p ∈ es.foldl applyP l, Q p.key
  | [], l, h1, _ => h1
  | e :: es, l, h1, h2 => by
    refine foldA_keys Q es (applyP l e) (fun p hp => ?_) fun x hx => h2 x (by simp [hx])
    unfold applyP newP at hp
    rcases List.mem_append.1 hp with hp | hp
    · rcases List.mem_append.1 hp with hp | hp
      · exact h1 p (List.mem_filter.1 hp).1
      · split at hp
        · simp at hp
        · simp at hp; subst hp; exact h2 e (by simp)
    · exact h1 p (List.mem_filter.1 hp).1
def setO (k : ByteArray) (o : Option Item) (e : Effect) : Option Item := if e.key = k then (if e.gone then none else some e.item) else o
/-- A space by numbers. -/
def okDB (db : List Pair) : Prop := SrtP db ∧ okP db ∧ db.length ≤ 40 ∧ ∀ p ∈ db, keyed p.key
theorem Make_told (ns : List Int) (hu : u8s ns) (h : ns.length ≤ 1000000000) : Rn (l11_Make_sh big ns) okDB := by
  unfold l11_Make_sh
  refine Rn.bn (Effects_made ns hu h) fun m hm => ?_
  obtain ⟨h1, h2⟩ := hm
  have ho : ∀ e ∈ m, okI e.item := fun e he => (h2 e he).1
  refine Rn.bnE (r_Apply_ok [] m .nil (by simp [okP]) ho (by simp; omega)) (Rn.some ?_)
  obtain ⟨g1, g2, g3⟩ := dbOf_ok ho
  exact ⟨g1, g2, by have := g3; unfold dbOf at this; omega, foldA_keys keyed m [] (by simp) fun e he => (h2 e he).2.1⟩
theorem keyed_size {k : ByteArray} (h : keyed k) : k.size = 4 := by
  obtain ⟨j, hj, rfl⟩ := h
  exact (keyT_ok hj).2.1
/-! ### SpaceSlots -/
def cntS (f : Nat → Nat) : Nat → Nat
  | 0 => 0
  | k + 1 => cntS f k + f k
/-! ### SpaceDead -/
def hasS (l : List ByteArray) (x : ByteArray) : Bool := l.any fun y => decide (y = x)
theorem hasS_t {l : List ByteArray} {x : ByteArray} (h : x ∈ l) : hasS l x = true := List.any_eq_true.2 ⟨x, h, by simp⟩
theorem hasS_f {l : List ByteArray} {x : ByteArray} (h : x ∉ l) : hasS l x = false := by
  cases hh : hasS l x
  · rfl
  · obtain ⟨y, h1, h2⟩ := List.any_eq_true.1 hh
    exact absurd (of_decide_eq_true h2 ▸ h1) h
theorem r_SHas_ok (l : List ByteArray) (x : ByteArray) (h : l.length ≤ 1000000000) : r5_SHas_sh big l x = some (hasS l x) := by
  refine Rn.eq ?_
  unfold r5_SHas_sh
  refine Rn.bn (P := fun y => (y = .inl () ∧ x ∉ l) ∨ (y = .inr true ∧ x ∈ l)) (Rn.iter _ (fun q a => a = (q : Int) ∧ ∀ i (h : i < q) (hi : i < l.length), l[i] ≠ x) l.length (by unfold big; omega) ⟨rfl, fun i h => by omega⟩ fun q a hq hI => ?_) fun y hy => ?_
  · obtain ⟨rfl, hI⟩ := hI
    simp only [lt_eq, bn_some, ite_t, ite_f, sm_inl, sm_inr, lenI_eq, Option.some.injEq]
    by_cases hq2 : q < l.length
    · rw [ltI_t (by omega), nth_some hq2]
      simp only [lt_eq, bn_some, ite_t, ite_f, sm_inl, sm_inr, lenI_eq, Option.some.injEq, eqS]
      by_cases hk : l[q] = x
      · rw [decide_eq_true hk]
        exact ⟨_, rfl, .inr ⟨rfl, hk ▸ List.getElem_mem hq2⟩⟩
      · rw [decide_eq_false hk]
        refine ⟨_, rfl, hq2, by rw [addI_64 (by omega) (by omega)]; omega, fun i hi h1 => ?_⟩
        by_cases hiq : i = q
        · subst hiq; exact hk
        · exact hI i (by omega) h1
    · obtain rfl : q = l.length := by omega
      rw [ltI_f (by omega)]
      refine ⟨_, rfl, .inl ⟨rfl, fun hx => ?_⟩⟩
      obtain ⟨i, hi, e⟩ := List.getElem_of_mem hx
      exact hI i hi hi e
  · rcases hy with ⟨rfl, h⟩ | ⟨rfl, h⟩
    · exact ⟨_, rfl, (hasS_f h).symm⟩
    · exact ⟨_, rfl, (hasS_t h).symm⟩
/-! ### SpaceWhole -/
end Go.Proofs.Ytlkhfdccapkcdaa

/- Plain law: any feed. -/
namespace Go.Proofs.Ytlkhfdccapkcdaa
open Go Go.RowKit
set_option linter.unusedVariables false
set_option linter.unusedSimpArgs false
end Go.Proofs.Ytlkhfdccapkcdaa

/- Walks, printed: item_some, item_names, item_rising, slices_Values_string, item_rising_k143, item_shaped, item_texts, item_May, space_May -/
namespace Go.Proofs.Ytlkhfdccapkcdaa
open Go Go.RowKit
set_option linter.unusedVariables false
set_option linter.unusedSimpArgs false
def item_some_sh (n : Nat) (a0 : Int) : Option Bool :=
bn (lt (geI a0 1) fun v2 =>
ite' v2 (lt (leI a0 40) fun v3 =>
some (v3)) (some (false))) fun (y1 : Bool) =>
some y1
set_option maxRecDepth 8000 in
set_option maxHeartbeats 8000000 in
theorem s_item_some {n : Nat} {a0 : Int} {r : Bool} (h : item_some_sh n a0 = some r) : Sound Try.prog 133 [.l (.s (.int .i64 a0))] [] (.l (.s (.bool r))) [] := by
  unfold item_some_sh at h
  refine Sound.of_aw (fn := Try.f133) (c := _) Try.func133 rfl (by simp [Try.f133]) fun cx hG hnb => ?_
  rw [show Try.f133.ntmps = 9 from rfl]
  have hn0 : cx.nb = 0 := hnb
  simp only [st0_mk, initTm, List.map_cons, List.map_nil]
  apply AW.step
  · simp
    intros; rfl
  replace h := bnE h; obtain ⟨y1, g1, h⟩ := h
  refine AW.flow (p := fun gh ls => (nP (cx := cx) (fun q => (⟨[(2, .l (.s (.bool q)))], [], 9, gh, ls⟩ : St))) y1) ?_ ?_
  · replace h := g1; clear g1
    replace h := ltE h; obtain ⟨v2, e2, h⟩ := h
    cases v2 with
    | true =>
      replace h := iteT rfl h
      replace h := ltE h; obtain ⟨v3, e3, h⟩ := h
      apply AW.last
      · simp [← e2, ← e3]
        intros; rfl
      obtain rfl := Option.some.inj h
      refine nP_i ?_
      refine Weak.mixN [] hn0 (by decide) ?_ ?_ rfl
      all_goals first | (simp [inv_cons, inv_nil, pickOb]; done) | rfl
    | false =>
      replace h := iteF rfl h
      apply AW.last
      · simp [← e2]
        intros; rfl
      obtain rfl := Option.some.inj h
      refine nP_i ?_
      refine Weak.mixN [] hn0 (by decide) ?_ ?_ rfl
      all_goals first | (simp [inv_cons, inv_nil, pickOb]; done) | rfl
  · rintro e s hp
    obtain ⟨rfl, hw⟩ := hp
    refine ⟨_, hw, ?_⟩
    try simp only [sp_l, sp_r, Post.seq, Post.block, Nat.reduceEqDiff, reduceIte, Nat.zero_ne_one, Nat.one_ne_zero]
    obtain rfl := Option.some.inj h
    refine AW.ret ?_
    refine Left.plain hnb (by simp [Try.f133, resV, resC, comp]; rfl) rfl rfl ?_
    simp
theorem en_item_some : Enters Try.prog 133 := enters Try.func133 (by kernel_rfl) rfl
def item_names_sh (n : Nat) (a0 : List Field) : Option (List Field) :=
some a0
set_option maxRecDepth 8000 in
set_option maxHeartbeats 8000000 in
theorem s_item_names {n : Nat} {a0 : List Field} {r : List Field} (h : item_names_sh n a0 = some r) : Sound Try.prog 135 [.l (.d false 2 (encField a0))] [] (.l (.f 142 [0])) [some ⟨31, 1, false, none, [.d false 2 (encField r)]⟩] := by
  unfold item_names_sh at h
  refine Sound.of_aw (fn := Try.f135) (c := _) Try.func135 rfl (by simp [Try.f135]) fun cx hG hnb => ?_
  rw [show Try.f135.ntmps = 4 from rfl]
  have hn0 : cx.nb = 0 := hnb
  simp only [st0_mk, initTm, List.map_cons, List.map_nil]
  apply AW.step
  · simp
    intros; rfl
  apply AW.step
  · simp
    intros; rfl
  obtain rfl := Option.some.inj h
  refine AW.ret ?_
  refine Left.of (av := _) (by simp [Try.f135, resV, resC, comp]; rfl) ?_
  exact LeftV.mix 0 [some 0] hn0 rfl (by decide) rfl (by simp [pickOb, inv_cons, inv_nil]) (by simp [inv_cons, inv_nil])
theorem en_item_names : Enters Try.prog 135 := enters Try.func135 (by kernel_rfl) rfl
def item_rising_sh (n : Nat) (b0_0 : List Field) : Option Bool :=
bn (lt (lenI b0_0) fun v2 =>
bn (iter n (fun (y3 : Int × Bool × ByteArray) =>
lt (ltI y3.1 v2) fun v6 =>
ite' v6 (bn (nth b0_0 y3.1) fun v7 =>
bn (bn (lt (notB y3.2.1) fun v10 =>
ite' v10 (lt (leS v7.name y3.2.2) fun v11 =>
some (v11)) (some (false))) fun (y9 : Bool) =>
lt (y9) fun v12 =>
ite' v12 (some (.inr ())) (some (.inl ()))) fun (y8 : Unit ⊕ Unit) =>
sm y8 (fun y13 => lt (addI .i64 y3.1 1) fun v15 =>
some (.inl (v15, false, v7.name))) (fun y14 => some (.inr (.inr (y3.2.1, y3.2.2))))) (some (.inr (.inl (y3.2.1, y3.2.2))))) (0, true, ⟨#[]⟩)) fun (y4 : (Bool × ByteArray) ⊕ (Bool × ByteArray)) =>
sm y4 (fun y16 => some (.inl ())) (fun y17 => some (.inr false))) fun (y1 : Unit ⊕ Bool) =>
sm y1 (fun y18 => some true) (fun y19 => some y19)
set_option maxRecDepth 8000 in
set_option maxHeartbeats 8000000 in
theorem s_item_rising {n : Nat} {b0_0 : List Field} {r : Bool} (h : item_rising_sh n b0_0 = some r) : Sound Try.prog 134 [.l (.f 142 [0])] [⟨31, 1, false, none, [.d false 2 (encField b0_0)]⟩] (.l (.s (.bool r))) [some ⟨31, 1, false, none, [.d false 2 (encField b0_0)]⟩] := by
  unfold item_rising_sh at h
  refine Sound.of_aw (fn := Try.f134) (c := _) Try.func134 rfl (by simp [Try.f134]) fun cx hG hnb => ?_
  rw [show Try.f134.ntmps = 16 from rfl]
  have hn0 : cx.nb = 1 := hnb
  simp only [st0_mk, initTm, List.map_cons, List.map_nil]
  apply AW.step
  · simp
    intros; rfl
  apply AW.step
  · simp
    intros; rfl
  replace h := bnE h; obtain ⟨y1, g1, h⟩ := h
  refine AW.flow (p := fun gh ls => (sp (nP (cx := cx) (fun _ => (⟨[(2, .l (.p 1 0))], [some ⟨31, 1, false, none, [.d false 2 (encField b0_0)]⟩, some ⟨4, 1, false, none, [.s (.bool false)]⟩], 16, gh, ls⟩ : St))) (rP (cx := cx) (P := Try.prog) Try.f134 (fun q => .l (.s (.bool q))) (fun q => [some ⟨31, 1, false, none, [.d false 2 (encField b0_0)]⟩]))) y1) ?_ ?_
  · replace h := g1; clear g1
    apply AW.step
    · simp
      intros; rfl
    refine AW.block ?_
    refine AW.weak (Weak.keep [(2, .l (.p 1 0)), (3, .l (.p 2 0)), (4, .l (.p 3 0)), (6, .l (.f 142 [0]))] (by simp)) ?_
    refine AW.rangeG rfl Try.func142 (by kernel_rfl) rfl (by decide) rfl rfl fun cxI1 yl1 hnI1 hY1 => ?_
    have hnJ1 : cxI1.nb = 1 := hnI1.trans hn0
    simp only [initTm, List.map_cons, List.map_nil]
    replace h := ltE h; obtain ⟨v2, e2, h⟩ := h
    apply AW.step
    · simp [lenI_cast e2]
      intros; rfl
    refine AW.block ?_
    replace h := bnE h; obtain ⟨y4, g4, h⟩ := h
    refine AW.iterP g4 (mk := fun gh ls q => (⟨[(0, .l (.s (.func (.yield yl1) #[] #[]))), (5, .l (.d false 2 (encField b0_0))), (6, .l (.s (.int .i64 v2))), (7, .l (.s (.int .i64 q.1)))], [some ⟨31, 1, false, none, [.d false 2 (encField b0_0)]⟩, some ⟨4, 1, false, none, [.s (.bool false)]⟩, some ⟨4, 1, false, none, [.s (.bool q.2.1)]⟩, some ⟨9, 1, false, none, [.s (.string q.2.2)]⟩], 17, gh, ls⟩ : St)) (N := fun gh ls => (sp (xP 0 (cx := cxI1) (fun q => (⟨[], [some ⟨31, 1, false, none, [.d false 2 (encField b0_0)]⟩, some ⟨4, 1, false, none, [.s (.bool false)]⟩, some ⟨4, 1, false, none, [.s (.bool q.1)]⟩, some ⟨9, 1, false, none, [.s (.string q.2)]⟩], 17, gh, ls⟩ : St))) (tP (cx := cxI1) (fun q => (⟨[], [some ⟨31, 1, false, none, [.d false 2 (encField b0_0)]⟩, some ⟨4, 1, false, none, [.s (.bool false)]⟩, some ⟨4, 1, false, none, [.s (.bool q.1)]⟩, some ⟨9, 1, false, none, [.s (.string q.2)]⟩], 17, gh, some .ret⟩ : St))))) ?_ (noS noX noT) ?_ ?_
    · refine Weak.mixB 1 [some 0, some 1, some 2, some 3] hnJ1 (by decide) (by decide) ?_ ?_ ?_
      all_goals first | (simp [inv_cons, inv_nil, pickOb]; done) | rfl
    · clear h; intro y3 y5 h
      replace h := ltE h; obtain ⟨v6, e6, h⟩ := h
      apply AW.step
      · simp [← e6]
        intros; rfl
      refine AW.seq ?_
      cases v6 with
      | true =>
        replace h := iteT rfl h
        refine AW.cond_true (by simp) ?_
        refine AW.skip ?_
        try simp only [sp_l, sp_r, Post.seq, Post.block, Nat.reduceEqDiff, reduceIte, Nat.zero_ne_one, Nat.one_ne_zero]
        try simp only [sp_l, sp_r, Post.seq, Post.block, Nat.reduceEqDiff, reduceIte, Nat.zero_ne_one, Nat.one_ne_zero]
        refine AW.seq ?_
        refine AW.block ?_
        replace h := bnE h; obtain ⟨v7, e7, h⟩ := h
        apply AW.step
        · simp [nth_d e7]
          intros; rfl
        refine AW.stepYK ?_
        apply xopsY.yield hY1 0 3 rfl rfl rfl (by decide)
        · simp
          intros; rfl
        · rfl
        · first | trivial | simp
        · rfl
        · rfl
        · simp [puts]; rfl
        intro cxR1 hnR1
        have hnS1 : cxR1.nb = 1 := hnR1.trans hnJ1
        apply AW.last
        · simp
          intros; rfl
        refine ⟨rfl, ?_⟩
        replace h := bnE h; obtain ⟨y8, g8, h⟩ := h
        refine AW.flowR (p := fun gh ls => (sp (nP (cx := cxR1) (fun _ => (⟨[], [some ⟨31, 1, false, none, [.d false 2 (encField b0_0)]⟩, some ⟨4, 1, false, none, [.s (.bool false)]⟩, some ⟨4, 1, false, none, [.s (.bool false)]⟩, some ⟨9, 1, false, none, [.s (.string v7.name)]⟩, some ⟨105, 2, false, none, [.s (.string v7.name), .s (.string v7.val)]⟩], 16, gh, ls⟩ : St))) (tP (cx := cxR1) (fun _ => (⟨[], [some ⟨31, 1, false, none, [.d false 2 (encField b0_0)]⟩, some ⟨4, 1, false, none, [.s (.bool false)]⟩, some ⟨4, 1, false, none, [.s (.bool y3.2.1)]⟩, some ⟨9, 1, false, none, [.s (.string y3.2.2)]⟩, some ⟨105, 2, false, none, [.s (.string v7.name), .s (.string v7.val)]⟩], 16, gh, ls⟩ : St)))) y8) ?_ ?_
        · replace h := g8; clear g8
          refine AW.block ?_
          refine AW.seq ?_
          replace h := bnE h; obtain ⟨y9, g9, h⟩ := h
          refine AW.flow (p := fun gh ls => (nP (cx := cxR1) (fun q => (⟨[(2, .l (.p 1 0)), (3, .l (.p 2 0)), (4, .l (.p 3 0)), (5, .l (.s (.string v7.name))), (6, .l (.f 142 [0])), (14, .l (.s (.bool q)))], [some ⟨31, 1, false, none, [.d false 2 (encField b0_0)]⟩, some ⟨4, 1, false, none, [.s (.bool false)]⟩, some ⟨4, 1, false, none, [.s (.bool y3.2.1)]⟩, some ⟨9, 1, false, none, [.s (.string y3.2.2)]⟩, some ⟨105, 2, false, none, [.s (.string v7.name), .s (.string v7.val)]⟩], 16, gh, ls⟩ : St))) y9) ?_ ?_
          · replace h := g9; clear g9
            replace h := ltE h; obtain ⟨v10, e10, h⟩ := h
            cases v10 with
            | true =>
              replace h := iteT rfl h
              replace h := ltE h; obtain ⟨v11, e11, h⟩ := h
              apply AW.last
              · simp [← e10, ← e11]
                intros; rfl
              obtain rfl := Option.some.inj h
              refine nP_i ?_
              refine Weak.mixB 1 [some 0, some 1, some 2, some 3, some 4] hnS1 (by decide) (by decide) ?_ ?_ ?_
              all_goals first | (simp [inv_cons, inv_nil, pickOb]; done) | rfl
            | false =>
              replace h := iteF rfl h
              apply AW.last
              · simp [← e10]
                intros; rfl
              obtain rfl := Option.some.inj h
              refine nP_i ?_
              refine Weak.mixB 1 [some 0, some 1, some 2, some 3, some 4] hnS1 (by decide) (by decide) ?_ ?_ ?_
              all_goals first | (simp [inv_cons, inv_nil, pickOb]; done) | rfl
          · rintro e s hp
            obtain ⟨rfl, hw⟩ := hp
            refine ⟨_, hw, ?_⟩
            try simp only [sp_l, sp_r, Post.seq, Post.block, Nat.reduceEqDiff, reduceIte, Nat.zero_ne_one, Nat.one_ne_zero]
            replace h := ltE h; obtain ⟨v12, e12, h⟩ := h
            rw [← e12]
            cases v12 with
            | true =>
              replace h := iteT rfl h
              refine AW.cond_true (by simp) ?_
              apply AW.step
              · simp
                intros; rfl
              obtain rfl := Option.some.inj h
              refine AW.ret ?_
              try simp only [sp_l, sp_r, Post.seq, Post.block, Nat.reduceEqDiff, reduceIte, Nat.zero_ne_one, Nat.one_ne_zero]
              try simp only [sp_l, sp_r]
              refine tP_i ?_
              refine Weak.mixB 1 [some 0, some 1, some 2, some 3, some 4] hnS1 (by decide) (by decide) ?_ ?_ ?_
              all_goals first | (simp [inv_cons, inv_nil, pickOb]; done) | rfl
            | false =>
              replace h := iteF rfl h
              refine AW.cond_false (by simp) ?_
              refine AW.skip ?_
              try simp only [sp_l, sp_r, Post.seq, Post.block, Nat.reduceEqDiff, reduceIte, Nat.zero_ne_one, Nat.one_ne_zero]
              try simp only [sp_l, sp_r, Post.seq, Post.block, Nat.reduceEqDiff, reduceIte, Nat.zero_ne_one, Nat.one_ne_zero]
              apply AW.last
              · simp
                intros; rfl
              obtain rfl := Option.some.inj h
              try simp only [sp_l, sp_r]
              refine nP_i ?_
              refine Weak.mixB 1 [some 0, some 1, some 2, some 3, some 4] hnS1 (by decide) (by decide) ?_ ?_ ?_
              all_goals first | (simp [inv_cons, inv_nil, pickOb]; done) | rfl
        · rintro e s hp
          rcases y8 with y13 | y14
          · replace h := smL h
            obtain ⟨rfl, hw⟩ := hp
            refine ⟨_, hw, ?_⟩
            try simp only [sp_l, sp_r, Post.seq, Post.block, Nat.reduceEqDiff, reduceIte, Nat.zero_ne_one, Nat.one_ne_zero]
            refine ⟨_, _, rfl, ?_⟩
            refine xops_Y _ _ _ rfl ?_
            simp [puts]
            try intros
            unfold KK
            refine AW.cond_false (by simp) ?_
            refine AW.skip ?_
            try simp only [sp_l, sp_r, Post.seq, Post.block, Nat.reduceEqDiff, reduceIte, Nat.zero_ne_one, Nat.one_ne_zero]
            try simp only [sp_l, sp_r, Post.seq, Post.block, Nat.reduceEqDiff, reduceIte, Nat.zero_ne_one, Nat.one_ne_zero]
            replace h := ltE h; obtain ⟨v15, e15, h⟩ := h
            apply AW.last
            · simp [← e15]
              intros; rfl
            obtain rfl := Option.some.inj h
            refine nP_i ?_
            refine Weak.mixB 1 [some 0, some 1, some 2, some 3] hnJ1 (by decide) (by decide) ?_ ?_ ?_
            all_goals first | (simp [inv_cons, inv_nil, pickOb]; done) | rfl
          · replace h := smR h
            obtain ⟨rfl, hw⟩ := hp
            refine ⟨_, hw, ?_⟩
            try simp only [sp_l, sp_r, Post.seq, Post.block, Nat.reduceEqDiff, reduceIte, Nat.zero_ne_one, Nat.one_ne_zero]
            refine ⟨_, _, rfl, ?_⟩
            refine xops_Y _ _ _ rfl ?_
            simp [puts]
            try intros
            unfold KK
            refine AW.cond_true (by simp) ?_
            obtain rfl := Option.some.inj h
            refine AW.ret ?_
            try simp only [sp_l, sp_r, Post.seq, Post.block, Nat.reduceEqDiff, reduceIte, Nat.zero_ne_one, Nat.one_ne_zero]
            try simp only [sp_l, sp_r]
            refine tP_i ?_
            refine Weak.mixB 1 [some 0, some 1, some 2, some 3] hnJ1 (by decide) (by decide) ?_ ?_ ?_
            all_goals first | (simp [inv_cons, inv_nil, pickOb]; done) | rfl
      | false =>
        replace h := iteF rfl h
        refine AW.cond_false (by simp) ?_
        refine AW.exit ?_
        try simp only [sp_l, sp_r, Post.seq, Post.block, Nat.reduceEqDiff, reduceIte, Nat.zero_ne_one, Nat.one_ne_zero]
        obtain rfl := Option.some.inj h
        try simp only [sp_l, sp_r]
        refine xP_i ?_
        refine Weak.mixB 1 [some 0, some 1, some 2, some 3] hnJ1 (by decide) (by decide) ?_ ?_ ?_
        all_goals first | (simp [inv_cons, inv_nil, pickOb]; done) | rfl
    · rintro e s hp
      rcases y4 with y16 | y17
      · replace h := smL h
        obtain ⟨rfl, hw⟩ := hp
        refine ⟨_, hw, ?_⟩
        try simp only [sp_l, sp_r, Post.seq, Post.block, Nat.reduceEqDiff, reduceIte, Nat.zero_ne_one, Nat.one_ne_zero]
        refine ⟨_, _, rfl, ?_⟩
        try simp only []
        try simp only [sp_l, sp_r, Post.seq, Post.block, Nat.reduceEqDiff, reduceIte, Nat.zero_ne_one, Nat.one_ne_zero]
        obtain rfl := Option.some.inj h
        try simp only [sp_l, sp_r]
        refine nP_i ?_
        refine Weak.mixB 1 [some 0, some 1] hn0 (by decide) (by decide) ?_ ?_ ?_
        all_goals first | (simp [inv_cons, inv_nil, pickOb]; done) | rfl
      · replace h := smR h
        obtain ⟨rfl, hw⟩ := hp
        refine ⟨_, hw, ?_⟩
        try simp only [sp_l, sp_r, Post.seq, Post.block, Nat.reduceEqDiff, reduceIte, Nat.zero_ne_one, Nat.one_ne_zero]
        refine ⟨_, _, rfl, ?_⟩
        try simp only []
        obtain rfl := Option.some.inj h
        refine AW.ret ?_
        try simp only [sp_l, sp_r, Post.seq, Post.block, Nat.reduceEqDiff, reduceIte, Nat.zero_ne_one, Nat.one_ne_zero]
        refine rP_i ?_
        refine Left.of (av := _) (by simp [Try.f134, resV, resC, comp]; rfl) ?_
        exact LeftV.mix 1 [some 0] hn0 rfl (by decide) rfl (by simp [pickOb, inv_cons, inv_nil]) (by simp [inv_cons, inv_nil])
  · rintro e s hp
    rcases y1 with y18 | y19
    · replace h := smL h
      obtain ⟨rfl, hw⟩ := hp
      refine ⟨_, hw, ?_⟩
      try simp only [sp_l, sp_r, Post.seq, Post.block, Nat.reduceEqDiff, reduceIte, Nat.zero_ne_one, Nat.one_ne_zero]
      apply AW.step
      · simp
        intros; rfl
      obtain rfl := Option.some.inj h
      refine AW.ret ?_
      refine Left.of (av := _) (by simp [Try.f134, resV, resC, comp]; rfl) ?_
      exact LeftV.mix 1 [some 0] hn0 rfl (by decide) rfl (by simp [pickOb, inv_cons, inv_nil]) (by simp [inv_cons, inv_nil])
    · replace h := smR h
      obtain ⟨rfl, hl⟩ := hp
      refine ⟨_, Weak.refl _, ?_⟩
      obtain rfl := Option.some.inj h
      exact hl
theorem en_item_rising : Enters Try.prog 134 := enters Try.func134 (by kernel_rfl) rfl
def slices_Values_string_sh (n : Nat) (a0 : List ByteArray) : Option (List ByteArray) :=
some a0
set_option maxRecDepth 8000 in
set_option maxHeartbeats 8000000 in
theorem s_slices_Values_string {n : Nat} {a0 : List ByteArray} {r : List ByteArray} (h : slices_Values_string_sh n a0 = some r) : Sound Try.prog 136 [.l (.d false 1 (encS a0))] [] (.l (.f 143 [0])) [some ⟨32, 1, false, none, [.d false 1 (encS r)]⟩] := by
  unfold slices_Values_string_sh at h
  refine Sound.of_aw (fn := Try.f136) (c := _) Try.func136 rfl (by simp [Try.f136]) fun cx hG hnb => ?_
  rw [show Try.f136.ntmps = 4 from rfl]
  have hn0 : cx.nb = 0 := hnb
  simp only [st0_mk, initTm, List.map_cons, List.map_nil]
  apply AW.step
  · simp
    intros; rfl
  apply AW.step
  · simp
    intros; rfl
  obtain rfl := Option.some.inj h
  refine AW.ret ?_
  refine Left.of (av := _) (by simp [Try.f136, resV, resC, comp]; rfl) ?_
  exact LeftV.mix 0 [some 0] hn0 rfl (by decide) rfl (by simp [pickOb, inv_cons, inv_nil]) (by simp [inv_cons, inv_nil])
theorem en_slices_Values_string : Enters Try.prog 136 := enters Try.func136 (by kernel_rfl) rfl
def item_rising_k143_sh (n : Nat) (b0_0 : List ByteArray) : Option Bool :=
bn (lt (lenI b0_0) fun v2 =>
bn (iter n (fun (y3 : Int × Bool × ByteArray) =>
lt (ltI y3.1 v2) fun v6 =>
ite' v6 (bn (nth b0_0 y3.1) fun v7 =>
bn (bn (lt (notB y3.2.1) fun v10 =>
ite' v10 (lt (leS v7 y3.2.2) fun v11 =>
some (v11)) (some (false))) fun (y9 : Bool) =>
lt (y9) fun v12 =>
ite' v12 (some (.inr ())) (some (.inl ()))) fun (y8 : Unit ⊕ Unit) =>
sm y8 (fun y13 => lt (addI .i64 y3.1 1) fun v15 =>
some (.inl (v15, false, v7))) (fun y14 => some (.inr (.inr (y3.2.1, y3.2.2))))) (some (.inr (.inl (y3.2.1, y3.2.2))))) (0, true, ⟨#[]⟩)) fun (y4 : (Bool × ByteArray) ⊕ (Bool × ByteArray)) =>
sm y4 (fun y16 => some (.inl ())) (fun y17 => some (.inr false))) fun (y1 : Unit ⊕ Bool) =>
sm y1 (fun y18 => some true) (fun y19 => some y19)
set_option maxRecDepth 8000 in
set_option maxHeartbeats 8000000 in
theorem s_item_rising_k143 {n : Nat} {b0_0 : List ByteArray} {r : Bool} (h : item_rising_k143_sh n b0_0 = some r) : Sound Try.prog 134 [.l (.f 143 [0])] [⟨32, 1, false, none, [.d false 1 (encS b0_0)]⟩] (.l (.s (.bool r))) [some ⟨32, 1, false, none, [.d false 1 (encS b0_0)]⟩] := by
  unfold item_rising_k143_sh at h
  refine Sound.of_aw (fn := Try.f134) (c := _) Try.func134 rfl (by simp [Try.f134]) fun cx hG hnb => ?_
  rw [show Try.f134.ntmps = 16 from rfl]
  have hn0 : cx.nb = 1 := hnb
  simp only [st0_mk, initTm, List.map_cons, List.map_nil]
  apply AW.step
  · simp
    intros; rfl
  apply AW.step
  · simp
    intros; rfl
  replace h := bnE h; obtain ⟨y1, g1, h⟩ := h
  refine AW.flow (p := fun gh ls => (sp (nP (cx := cx) (fun _ => (⟨[(2, .l (.p 1 0))], [some ⟨32, 1, false, none, [.d false 1 (encS b0_0)]⟩, some ⟨4, 1, false, none, [.s (.bool false)]⟩], 16, gh, ls⟩ : St))) (rP (cx := cx) (P := Try.prog) Try.f134 (fun q => .l (.s (.bool q))) (fun q => [some ⟨32, 1, false, none, [.d false 1 (encS b0_0)]⟩]))) y1) ?_ ?_
  · replace h := g1; clear g1
    apply AW.step
    · simp
      intros; rfl
    refine AW.block ?_
    refine AW.weak (Weak.keep [(2, .l (.p 1 0)), (3, .l (.p 2 0)), (4, .l (.p 3 0)), (6, .l (.f 143 [0]))] (by simp)) ?_
    refine AW.rangeG rfl Try.func143 (by kernel_rfl) rfl (by decide) rfl rfl fun cxI1 yl1 hnI1 hY1 => ?_
    have hnJ1 : cxI1.nb = 1 := hnI1.trans hn0
    simp only [initTm, List.map_cons, List.map_nil]
    replace h := ltE h; obtain ⟨v2, e2, h⟩ := h
    apply AW.step
    · simp [lenI_cast e2]
      intros; rfl
    refine AW.block ?_
    replace h := bnE h; obtain ⟨y4, g4, h⟩ := h
    refine AW.iterP g4 (mk := fun gh ls q => (⟨[(0, .l (.s (.func (.yield yl1) #[] #[]))), (5, .l (.d false 1 (encS b0_0))), (6, .l (.s (.int .i64 v2))), (7, .l (.s (.int .i64 q.1)))], [some ⟨32, 1, false, none, [.d false 1 (encS b0_0)]⟩, some ⟨4, 1, false, none, [.s (.bool false)]⟩, some ⟨4, 1, false, none, [.s (.bool q.2.1)]⟩, some ⟨9, 1, false, none, [.s (.string q.2.2)]⟩], 16, gh, ls⟩ : St)) (N := fun gh ls => (sp (xP 0 (cx := cxI1) (fun q => (⟨[], [some ⟨32, 1, false, none, [.d false 1 (encS b0_0)]⟩, some ⟨4, 1, false, none, [.s (.bool false)]⟩, some ⟨4, 1, false, none, [.s (.bool q.1)]⟩, some ⟨9, 1, false, none, [.s (.string q.2)]⟩], 16, gh, ls⟩ : St))) (tP (cx := cxI1) (fun q => (⟨[], [some ⟨32, 1, false, none, [.d false 1 (encS b0_0)]⟩, some ⟨4, 1, false, none, [.s (.bool false)]⟩, some ⟨4, 1, false, none, [.s (.bool q.1)]⟩, some ⟨9, 1, false, none, [.s (.string q.2)]⟩], 16, gh, some .ret⟩ : St))))) ?_ (noS noX noT) ?_ ?_
    · refine Weak.mixB 1 [some 0, some 1, some 2, some 3] hnJ1 (by decide) (by decide) ?_ ?_ ?_
      all_goals first | (simp [inv_cons, inv_nil, pickOb]; done) | rfl
    · clear h; intro y3 y5 h
      replace h := ltE h; obtain ⟨v6, e6, h⟩ := h
      apply AW.step
      · simp [← e6]
        intros; rfl
      refine AW.seq ?_
      cases v6 with
      | true =>
        replace h := iteT rfl h
        refine AW.cond_true (by simp) ?_
        refine AW.skip ?_
        try simp only [sp_l, sp_r, Post.seq, Post.block, Nat.reduceEqDiff, reduceIte, Nat.zero_ne_one, Nat.one_ne_zero]
        try simp only [sp_l, sp_r, Post.seq, Post.block, Nat.reduceEqDiff, reduceIte, Nat.zero_ne_one, Nat.one_ne_zero]
        refine AW.seq ?_
        refine AW.block ?_
        replace h := bnE h; obtain ⟨v7, e7, h⟩ := h
        apply AW.step
        · simp [nth_d e7]
          intros; rfl
        refine AW.stepYK ?_
        apply xopsY.yield hY1 0 2 rfl rfl rfl (by decide)
        · simp
          intros; rfl
        · rfl
        · first | trivial | simp
        · rfl
        · rfl
        · simp [puts]; rfl
        intro cxR1 hnR1
        have hnS1 : cxR1.nb = 1 := hnR1.trans hnJ1
        apply AW.last
        · simp
          intros; rfl
        refine ⟨rfl, ?_⟩
        replace h := bnE h; obtain ⟨y8, g8, h⟩ := h
        refine AW.flowR (p := fun gh ls => (sp (nP (cx := cxR1) (fun _ => (⟨[], [some ⟨32, 1, false, none, [.d false 1 (encS b0_0)]⟩, some ⟨4, 1, false, none, [.s (.bool false)]⟩, some ⟨4, 1, false, none, [.s (.bool false)]⟩, some ⟨9, 1, false, none, [.s (.string v7)]⟩], 16, gh, ls⟩ : St))) (tP (cx := cxR1) (fun _ => (⟨[], [some ⟨32, 1, false, none, [.d false 1 (encS b0_0)]⟩, some ⟨4, 1, false, none, [.s (.bool false)]⟩, some ⟨4, 1, false, none, [.s (.bool y3.2.1)]⟩, some ⟨9, 1, false, none, [.s (.string y3.2.2)]⟩], 16, gh, ls⟩ : St)))) y8) ?_ ?_
        · replace h := g8; clear g8
          refine AW.block ?_
          refine AW.seq ?_
          replace h := bnE h; obtain ⟨y9, g9, h⟩ := h
          refine AW.flow (p := fun gh ls => (nP (cx := cxR1) (fun q => (⟨[(2, .l (.p 1 0)), (3, .l (.p 2 0)), (4, .l (.p 3 0)), (5, .l (.s (.string v7))), (6, .l (.f 143 [0])), (14, .l (.s (.bool q)))], [some ⟨32, 1, false, none, [.d false 1 (encS b0_0)]⟩, some ⟨4, 1, false, none, [.s (.bool false)]⟩, some ⟨4, 1, false, none, [.s (.bool y3.2.1)]⟩, some ⟨9, 1, false, none, [.s (.string y3.2.2)]⟩], 16, gh, ls⟩ : St))) y9) ?_ ?_
          · replace h := g9; clear g9
            replace h := ltE h; obtain ⟨v10, e10, h⟩ := h
            cases v10 with
            | true =>
              replace h := iteT rfl h
              replace h := ltE h; obtain ⟨v11, e11, h⟩ := h
              apply AW.last
              · simp [← e10, ← e11]
                intros; rfl
              obtain rfl := Option.some.inj h
              refine nP_i ?_
              refine Weak.mixB 1 [some 0, some 1, some 2, some 3] hnS1 (by decide) (by decide) ?_ ?_ ?_
              all_goals first | (simp [inv_cons, inv_nil, pickOb]; done) | rfl
            | false =>
              replace h := iteF rfl h
              apply AW.last
              · simp [← e10]
                intros; rfl
              obtain rfl := Option.some.inj h
              refine nP_i ?_
              refine Weak.mixB 1 [some 0, some 1, some 2, some 3] hnS1 (by decide) (by decide) ?_ ?_ ?_
              all_goals first | (simp [inv_cons, inv_nil, pickOb]; done) | rfl
          · rintro e s hp
            obtain ⟨rfl, hw⟩ := hp
            refine ⟨_, hw, ?_⟩
            try simp only [sp_l, sp_r, Post.seq, Post.block, Nat.reduceEqDiff, reduceIte, Nat.zero_ne_one, Nat.one_ne_zero]
            replace h := ltE h; obtain ⟨v12, e12, h⟩ := h
            rw [← e12]
            cases v12 with
            | true =>
              replace h := iteT rfl h
              refine AW.cond_true (by simp) ?_
              apply AW.step
              · simp
                intros; rfl
              obtain rfl := Option.some.inj h
              refine AW.ret ?_
              try simp only [sp_l, sp_r, Post.seq, Post.block, Nat.reduceEqDiff, reduceIte, Nat.zero_ne_one, Nat.one_ne_zero]
              try simp only [sp_l, sp_r]
              refine tP_i ?_
              refine Weak.mixB 1 [some 0, some 1, some 2, some 3] hnS1 (by decide) (by decide) ?_ ?_ ?_
              all_goals first | (simp [inv_cons, inv_nil, pickOb]; done) | rfl
            | false =>
              replace h := iteF rfl h
              refine AW.cond_false (by simp) ?_
              refine AW.skip ?_
              try simp only [sp_l, sp_r, Post.seq, Post.block, Nat.reduceEqDiff, reduceIte, Nat.zero_ne_one, Nat.one_ne_zero]
              try simp only [sp_l, sp_r, Post.seq, Post.block, Nat.reduceEqDiff, reduceIte, Nat.zero_ne_one, Nat.one_ne_zero]
              apply AW.last
              · simp
                intros; rfl
              obtain rfl := Option.some.inj h
              try simp only [sp_l, sp_r]
              refine nP_i ?_
              refine Weak.mixB 1 [some 0, some 1, some 2, some 3] hnS1 (by decide) (by decide) ?_ ?_ ?_
              all_goals first | (simp [inv_cons, inv_nil, pickOb]; done) | rfl
        · rintro e s hp
          rcases y8 with y13 | y14
          · replace h := smL h
            obtain ⟨rfl, hw⟩ := hp
            refine ⟨_, hw, ?_⟩
            try simp only [sp_l, sp_r, Post.seq, Post.block, Nat.reduceEqDiff, reduceIte, Nat.zero_ne_one, Nat.one_ne_zero]
            refine ⟨_, _, rfl, ?_⟩
            refine xops_Y _ _ _ rfl ?_
            simp [puts]
            try intros
            unfold KK
            refine AW.cond_false (by simp) ?_
            refine AW.skip ?_
            try simp only [sp_l, sp_r, Post.seq, Post.block, Nat.reduceEqDiff, reduceIte, Nat.zero_ne_one, Nat.one_ne_zero]
            try simp only [sp_l, sp_r, Post.seq, Post.block, Nat.reduceEqDiff, reduceIte, Nat.zero_ne_one, Nat.one_ne_zero]
            replace h := ltE h; obtain ⟨v15, e15, h⟩ := h
            apply AW.last
            · simp [← e15]
              intros; rfl
            obtain rfl := Option.some.inj h
            refine nP_i ?_
            refine Weak.mixB 1 [some 0, some 1, some 2, some 3] hnJ1 (by decide) (by decide) ?_ ?_ ?_
            all_goals first | (simp [inv_cons, inv_nil, pickOb]; done) | rfl
          · replace h := smR h
            obtain ⟨rfl, hw⟩ := hp
            refine ⟨_, hw, ?_⟩
            try simp only [sp_l, sp_r, Post.seq, Post.block, Nat.reduceEqDiff, reduceIte, Nat.zero_ne_one, Nat.one_ne_zero]
            refine ⟨_, _, rfl, ?_⟩
            refine xops_Y _ _ _ rfl ?_
            simp [puts]
            try intros
            unfold KK
            refine AW.cond_true (by simp) ?_
            obtain rfl := Option.some.inj h
            refine AW.ret ?_
            try simp only [sp_l, sp_r, Post.seq, Post.block, Nat.reduceEqDiff, reduceIte, Nat.zero_ne_one, Nat.one_ne_zero]
            try simp only [sp_l, sp_r]
            refine tP_i ?_
            refine Weak.mixB 1 [some 0, some 1, some 2, some 3] hnJ1 (by decide) (by decide) ?_ ?_ ?_
            all_goals first | (simp [inv_cons, inv_nil, pickOb]; done) | rfl
      | false =>
        replace h := iteF rfl h
        refine AW.cond_false (by simp) ?_
        refine AW.exit ?_
        try simp only [sp_l, sp_r, Post.seq, Post.block, Nat.reduceEqDiff, reduceIte, Nat.zero_ne_one, Nat.one_ne_zero]
        obtain rfl := Option.some.inj h
        try simp only [sp_l, sp_r]
        refine xP_i ?_
        refine Weak.mixB 1 [some 0, some 1, some 2, some 3] hnJ1 (by decide) (by decide) ?_ ?_ ?_
        all_goals first | (simp [inv_cons, inv_nil, pickOb]; done) | rfl
    · rintro e s hp
      rcases y4 with y16 | y17
      · replace h := smL h
        obtain ⟨rfl, hw⟩ := hp
        refine ⟨_, hw, ?_⟩
        try simp only [sp_l, sp_r, Post.seq, Post.block, Nat.reduceEqDiff, reduceIte, Nat.zero_ne_one, Nat.one_ne_zero]
        refine ⟨_, _, rfl, ?_⟩
        try simp only []
        try simp only [sp_l, sp_r, Post.seq, Post.block, Nat.reduceEqDiff, reduceIte, Nat.zero_ne_one, Nat.one_ne_zero]
        obtain rfl := Option.some.inj h
        try simp only [sp_l, sp_r]
        refine nP_i ?_
        refine Weak.mixB 1 [some 0, some 1] hn0 (by decide) (by decide) ?_ ?_ ?_
        all_goals first | (simp [inv_cons, inv_nil, pickOb]; done) | rfl
      · replace h := smR h
        obtain ⟨rfl, hw⟩ := hp
        refine ⟨_, hw, ?_⟩
        try simp only [sp_l, sp_r, Post.seq, Post.block, Nat.reduceEqDiff, reduceIte, Nat.zero_ne_one, Nat.one_ne_zero]
        refine ⟨_, _, rfl, ?_⟩
        try simp only []
        obtain rfl := Option.some.inj h
        refine AW.ret ?_
        try simp only [sp_l, sp_r, Post.seq, Post.block, Nat.reduceEqDiff, reduceIte, Nat.zero_ne_one, Nat.one_ne_zero]
        refine rP_i ?_
        refine Left.of (av := _) (by simp [Try.f134, resV, resC, comp]; rfl) ?_
        exact LeftV.mix 1 [some 0] hn0 rfl (by decide) rfl (by simp [pickOb, inv_cons, inv_nil]) (by simp [inv_cons, inv_nil])
  · rintro e s hp
    rcases y1 with y18 | y19
    · replace h := smL h
      obtain ⟨rfl, hw⟩ := hp
      refine ⟨_, hw, ?_⟩
      try simp only [sp_l, sp_r, Post.seq, Post.block, Nat.reduceEqDiff, reduceIte, Nat.zero_ne_one, Nat.one_ne_zero]
      apply AW.step
      · simp
        intros; rfl
      obtain rfl := Option.some.inj h
      refine AW.ret ?_
      refine Left.of (av := _) (by simp [Try.f134, resV, resC, comp]; rfl) ?_
      exact LeftV.mix 1 [some 0] hn0 rfl (by decide) rfl (by simp [pickOb, inv_cons, inv_nil]) (by simp [inv_cons, inv_nil])
    · replace h := smR h
      obtain ⟨rfl, hl⟩ := hp
      refine ⟨_, Weak.refl _, ?_⟩
      obtain rfl := Option.some.inj h
      exact hl
theorem en_item_rising_k143 : Enters Try.prog 134 := enters Try.func134 (by kernel_rfl) rfl
def item_shaped_sh (n : Nat) (a0 : Item) : Option Bool :=
lt (eqI a0.kind 1) fun v1 =>
ite' v1 (lt (lenI a0.f) fun v2 =>
lt (lenI a0.l) fun v3 =>
lt (addI .i64 v2 v3) fun v4 =>
lt (eqI v4 0) fun v5 =>
some v5) (lt (eqI a0.kind 2) fun v6 =>
ite' v6 (bn (lt (eqS a0.s ⟨#[]⟩) fun v8 =>
ite' v8 (lt (lenI a0.l) fun v9 =>
lt (eqI v9 0) fun v10 =>
ite' v10 (lt (lenI a0.f) fun v11 =>
bn (item_some_sh n v11) fun v12 =>
ite' v12 (bn (item_names_sh n a0.f) fun v13 =>
bn (item_rising_sh n v13) fun v14 =>
some (v14)) (some (false))) (some (false))) (some (false))) fun (y7 : Bool) =>
some y7) (lt (eqI a0.kind 3) fun v15 =>
ite' v15 (bn (lt (eqS a0.s ⟨#[]⟩) fun v17 =>
ite' v17 (lt (lenI a0.f) fun v18 =>
lt (eqI v18 0) fun v19 =>
ite' v19 (lt (lenI a0.l) fun v20 =>
bn (item_some_sh n v20) fun v21 =>
some (v21)) (some (false))) (some (false))) fun (y16 : Bool) =>
some y16) (lt (eqI a0.kind 4) fun v22 =>
ite' v22 (bn (lt (eqS a0.s ⟨#[]⟩) fun v24 =>
ite' v24 (lt (lenI a0.f) fun v25 =>
lt (eqI v25 0) fun v26 =>
ite' v26 (lt (lenI a0.l) fun v27 =>
bn (item_some_sh n v27) fun v28 =>
ite' v28 (bn (slices_Values_string_sh n a0.l) fun v29 =>
bn (item_rising_k143_sh n v29) fun v30 =>
some (v30)) (some (false))) (some (false))) (some (false))) fun (y23 : Bool) =>
some y23) (some false))))
set_option maxRecDepth 8000 in
set_option maxHeartbeats 8000000 in
theorem s_item_shaped {n : Nat} {a0 : Item} {r : Bool} (h : item_shaped_sh n a0 = some r) : Sound Try.prog 125 [.g [.s (.int .i64 a0.kind), .s (.string a0.s), .d false 2 (encField a0.f), .d false 1 (encS a0.l), .s (.int .i64 a0.exp)]] [] (.l (.s (.bool r))) [] := by
  unfold item_shaped_sh at h
  refine Sound.of_aw (fn := Try.f125) (c := _) Try.func125 rfl (by simp [Try.f125]) fun cx hG hnb => ?_
  rw [show Try.f125.ntmps = 78 from rfl]
  have hn0 : cx.nb = 0 := hnb
  simp only [st0_mk, initTm, List.map_cons, List.map_nil]
  apply AW.step
  · simp
    intros; rfl
  refine AW.seq ?_
  apply AW.step
  · simp
    intros; rfl
  refine AW.block ?_
  replace h := ltE h; obtain ⟨v1, e1, h⟩ := h
  apply AW.step
  · simp [← e1]
    intros; rfl
  cases v1 with
  | true =>
    replace h := iteT rfl h
    refine AW.cond_true (by simp) ?_
    replace h := ltE h; obtain ⟨v2, e2, h⟩ := h
    replace h := ltE h; obtain ⟨v3, e3, h⟩ := h
    replace h := ltE h; obtain ⟨v4, e4, h⟩ := h
    replace h := ltE h; obtain ⟨v5, e5, h⟩ := h
    apply AW.step
    · simp [lenI_cast e2, lenI_cast e3, ← e4, ← e5]
      intros; rfl
    obtain rfl := Option.some.inj h
    refine AW.ret ?_
    refine Left.plain hnb (by simp [Try.f125, resV, resC, comp]; rfl) rfl rfl ?_
    simp
  | false =>
    replace h := iteF rfl h
    refine AW.cond_false (by simp) ?_
    replace h := ltE h; obtain ⟨v6, e6, h⟩ := h
    apply AW.step
    · simp [← e6]
      intros; rfl
    cases v6 with
    | true =>
      replace h := iteT rfl h
      refine AW.cond_true (by simp) ?_
      replace h := bnE h; obtain ⟨y7, g7, h⟩ := h
      refine AW.flow (p := fun gh ls => (nP (cx := cx) (fun q => (⟨[(2, .l (.s (.bool q)))], [], 78, gh, ls⟩ : St))) y7) ?_ ?_
      · replace h := g7; clear g7
        replace h := ltE h; obtain ⟨v8, e8, h⟩ := h
        cases v8 with
        | true =>
          replace h := iteT rfl h
          replace h := ltE h; obtain ⟨v9, e9, h⟩ := h
          replace h := ltE h; obtain ⟨v10, e10, h⟩ := h
          cases v10 with
          | true =>
            replace h := iteT rfl h
            replace h := ltE h; obtain ⟨v11, e11, h⟩ := h
            replace h := bnE h; obtain ⟨v12, e12, h⟩ := h
            cases v12 with
            | true =>
              replace h := iteT rfl h
              replace h := bnE h; obtain ⟨v13, e13, h⟩ := h
              replace h := bnE h; obtain ⟨v14, e14, h⟩ := h
              apply AW.last
              · simp [← e8, lenI_cast e9, ← e10, lenI_cast e11]
                intros
                refine xcall_plain en_item_some (s_item_some e12) rfl ⟨.same rfl, trivial⟩ ?_
                try simp [← e8, lenI_cast e9, ← e10, lenI_cast e11]
                intros
                refine xcall_new en_item_names (s_item_names e13) rfl (by simp) ⟨.same rfl, trivial⟩ ?_
                try simp [← e8, lenI_cast e9, ← e10, lenI_cast e11]
                intros
                refine xcall_obs [1] en_item_rising (s_item_rising e14) (by decide) (by simp [pickOb, inv_cons, inv_nil]) rfl rfl (by simp) ⟨.l (.fn (by simp)), trivial⟩ ?_
                try simp [← e8, lenI_cast e9, ← e10, lenI_cast e11]
                intros; rfl
              obtain rfl := Option.some.inj h
              refine nP_i ?_
              refine Weak.mixN [] hn0 (by decide) ?_ ?_ rfl
              all_goals first | (simp [inv_cons, inv_nil, pickOb]; done) | rfl
            | false =>
              replace h := iteF rfl h
              apply AW.last
              · simp [← e8, lenI_cast e9, ← e10, lenI_cast e11]
                intros
                refine xcall_plain en_item_some (s_item_some e12) rfl ⟨.same rfl, trivial⟩ ?_
                try simp [← e8, lenI_cast e9, ← e10, lenI_cast e11]
                intros; rfl
              obtain rfl := Option.some.inj h
              refine nP_i ?_
              refine Weak.mixN [] hn0 (by decide) ?_ ?_ rfl
              all_goals first | (simp [inv_cons, inv_nil, pickOb]; done) | rfl
          | false =>
            replace h := iteF rfl h
            apply AW.last
            · simp [← e8, lenI_cast e9, ← e10]
              intros; rfl
            obtain rfl := Option.some.inj h
            refine nP_i ?_
            refine Weak.mixN [] hn0 (by decide) ?_ ?_ rfl
            all_goals first | (simp [inv_cons, inv_nil, pickOb]; done) | rfl
        | false =>
          replace h := iteF rfl h
          apply AW.last
          · simp [← e8]
            intros; rfl
          obtain rfl := Option.some.inj h
          refine nP_i ?_
          refine Weak.mixN [] hn0 (by decide) ?_ ?_ rfl
          all_goals first | (simp [inv_cons, inv_nil, pickOb]; done) | rfl
      · rintro e s hp
        obtain ⟨rfl, hw⟩ := hp
        refine ⟨_, hw, ?_⟩
        try simp only [sp_l, sp_r, Post.seq, Post.block, Nat.reduceEqDiff, reduceIte, Nat.zero_ne_one, Nat.one_ne_zero]
        obtain rfl := Option.some.inj h
        refine AW.ret ?_
        refine Left.plain hnb (by simp [Try.f125, resV, resC, comp]; rfl) rfl rfl ?_
        simp
    | false =>
      replace h := iteF rfl h
      refine AW.cond_false (by simp) ?_
      replace h := ltE h; obtain ⟨v15, e15, h⟩ := h
      apply AW.step
      · simp [← e15]
        intros; rfl
      cases v15 with
      | true =>
        replace h := iteT rfl h
        refine AW.cond_true (by simp) ?_
        replace h := bnE h; obtain ⟨y16, g16, h⟩ := h
        refine AW.flow (p := fun gh ls => (nP (cx := cx) (fun q => (⟨[(2, .l (.s (.bool q)))], [], 78, gh, ls⟩ : St))) y16) ?_ ?_
        · replace h := g16; clear g16
          replace h := ltE h; obtain ⟨v17, e17, h⟩ := h
          cases v17 with
          | true =>
            replace h := iteT rfl h
            replace h := ltE h; obtain ⟨v18, e18, h⟩ := h
            replace h := ltE h; obtain ⟨v19, e19, h⟩ := h
            cases v19 with
            | true =>
              replace h := iteT rfl h
              replace h := ltE h; obtain ⟨v20, e20, h⟩ := h
              replace h := bnE h; obtain ⟨v21, e21, h⟩ := h
              apply AW.last
              · simp [← e17, lenI_cast e18, ← e19, lenI_cast e20]
                intros
                refine xcall_plain en_item_some (s_item_some e21) rfl ⟨.same rfl, trivial⟩ ?_
                try simp [← e17, lenI_cast e18, ← e19, lenI_cast e20]
                intros; rfl
              obtain rfl := Option.some.inj h
              refine nP_i ?_
              refine Weak.mixN [] hn0 (by decide) ?_ ?_ rfl
              all_goals first | (simp [inv_cons, inv_nil, pickOb]; done) | rfl
            | false =>
              replace h := iteF rfl h
              apply AW.last
              · simp [← e17, lenI_cast e18, ← e19]
                intros; rfl
              obtain rfl := Option.some.inj h
              refine nP_i ?_
              refine Weak.mixN [] hn0 (by decide) ?_ ?_ rfl
              all_goals first | (simp [inv_cons, inv_nil, pickOb]; done) | rfl
          | false =>
            replace h := iteF rfl h
            apply AW.last
            · simp [← e17]
              intros; rfl
            obtain rfl := Option.some.inj h
            refine nP_i ?_
            refine Weak.mixN [] hn0 (by decide) ?_ ?_ rfl
            all_goals first | (simp [inv_cons, inv_nil, pickOb]; done) | rfl
        · rintro e s hp
          obtain ⟨rfl, hw⟩ := hp
          refine ⟨_, hw, ?_⟩
          try simp only [sp_l, sp_r, Post.seq, Post.block, Nat.reduceEqDiff, reduceIte, Nat.zero_ne_one, Nat.one_ne_zero]
          obtain rfl := Option.some.inj h
          refine AW.ret ?_
          refine Left.plain hnb (by simp [Try.f125, resV, resC, comp]; rfl) rfl rfl ?_
          simp
      | false =>
        replace h := iteF rfl h
        refine AW.cond_false (by simp) ?_
        replace h := ltE h; obtain ⟨v22, e22, h⟩ := h
        apply AW.step
        · simp [← e22]
          intros; rfl
        cases v22 with
        | true =>
          replace h := iteT rfl h
          refine AW.cond_true (by simp) ?_
          replace h := bnE h; obtain ⟨y23, g23, h⟩ := h
          refine AW.flow (p := fun gh ls => (nP (cx := cx) (fun q => (⟨[(2, .l (.s (.bool q)))], [], 78, gh, ls⟩ : St))) y23) ?_ ?_
          · replace h := g23; clear g23
            replace h := ltE h; obtain ⟨v24, e24, h⟩ := h
            cases v24 with
            | true =>
              replace h := iteT rfl h
              replace h := ltE h; obtain ⟨v25, e25, h⟩ := h
              replace h := ltE h; obtain ⟨v26, e26, h⟩ := h
              cases v26 with
              | true =>
                replace h := iteT rfl h
                replace h := ltE h; obtain ⟨v27, e27, h⟩ := h
                replace h := bnE h; obtain ⟨v28, e28, h⟩ := h
                cases v28 with
                | true =>
                  replace h := iteT rfl h
                  replace h := bnE h; obtain ⟨v29, e29, h⟩ := h
                  replace h := bnE h; obtain ⟨v30, e30, h⟩ := h
                  apply AW.last
                  · simp [← e24, lenI_cast e25, ← e26, lenI_cast e27]
                    intros
                    refine xcall_plain en_item_some (s_item_some e28) rfl ⟨.same rfl, trivial⟩ ?_
                    try simp [← e24, lenI_cast e25, ← e26, lenI_cast e27]
                    intros
                    refine xcall_new en_slices_Values_string (s_slices_Values_string e29) rfl (by simp) ⟨.same rfl, trivial⟩ ?_
                    try simp [← e24, lenI_cast e25, ← e26, lenI_cast e27]
                    intros
                    refine xcall_obs [1] en_item_rising_k143 (s_item_rising_k143 e30) (by decide) (by simp [pickOb, inv_cons, inv_nil]) rfl rfl (by simp) ⟨.l (.fn (by simp)), trivial⟩ ?_
                    try simp [← e24, lenI_cast e25, ← e26, lenI_cast e27]
                    intros; rfl
                  obtain rfl := Option.some.inj h
                  refine nP_i ?_
                  refine Weak.mixN [] hn0 (by decide) ?_ ?_ rfl
                  all_goals first | (simp [inv_cons, inv_nil, pickOb]; done) | rfl
                | false =>
                  replace h := iteF rfl h
                  apply AW.last
                  · simp [← e24, lenI_cast e25, ← e26, lenI_cast e27]
                    intros
                    refine xcall_plain en_item_some (s_item_some e28) rfl ⟨.same rfl, trivial⟩ ?_
                    try simp [← e24, lenI_cast e25, ← e26, lenI_cast e27]
                    intros; rfl
                  obtain rfl := Option.some.inj h
                  refine nP_i ?_
                  refine Weak.mixN [] hn0 (by decide) ?_ ?_ rfl
                  all_goals first | (simp [inv_cons, inv_nil, pickOb]; done) | rfl
              | false =>
                replace h := iteF rfl h
                apply AW.last
                · simp [← e24, lenI_cast e25, ← e26]
                  intros; rfl
                obtain rfl := Option.some.inj h
                refine nP_i ?_
                refine Weak.mixN [] hn0 (by decide) ?_ ?_ rfl
                all_goals first | (simp [inv_cons, inv_nil, pickOb]; done) | rfl
            | false =>
              replace h := iteF rfl h
              apply AW.last
              · simp [← e24]
                intros; rfl
              obtain rfl := Option.some.inj h
              refine nP_i ?_
              refine Weak.mixN [] hn0 (by decide) ?_ ?_ rfl
              all_goals first | (simp [inv_cons, inv_nil, pickOb]; done) | rfl
          · rintro e s hp
            obtain ⟨rfl, hw⟩ := hp
            refine ⟨_, hw, ?_⟩
            try simp only [sp_l, sp_r, Post.seq, Post.block, Nat.reduceEqDiff, reduceIte, Nat.zero_ne_one, Nat.one_ne_zero]
            obtain rfl := Option.some.inj h
            refine AW.ret ?_
            refine Left.plain hnb (by simp [Try.f125, resV, resC, comp]; rfl) rfl rfl ?_
            simp
        | false =>
          replace h := iteF rfl h
          refine AW.cond_false (by simp) ?_
          refine AW.skip ?_
          try simp only [sp_l, sp_r, Post.seq, Post.block, Nat.reduceEqDiff, reduceIte, Nat.zero_ne_one, Nat.one_ne_zero]
          try simp only [sp_l, sp_r, Post.seq, Post.block, Nat.reduceEqDiff, reduceIte, Nat.zero_ne_one, Nat.one_ne_zero]
          apply AW.step
          · simp
            intros; rfl
          obtain rfl := Option.some.inj h
          refine AW.ret ?_
          refine Left.plain hnb (by simp [Try.f125, resV, resC, comp]; rfl) rfl rfl ?_
          simp
theorem en_item_shaped : Enters Try.prog 125 := enters Try.func125 (by kernel_rfl) rfl
def item_texts_sh (n : Nat) (a0 : Item) : Option Item :=
some a0
set_option maxRecDepth 8000 in
set_option maxHeartbeats 8000000 in
theorem s_item_texts {n : Nat} {a0 : Item} {r : Item} (h : item_texts_sh n a0 = some r) : Sound Try.prog 126 [.g [.s (.int .i64 a0.kind), .s (.string a0.s), .d false 2 (encField a0.f), .d false 1 (encS a0.l), .s (.int .i64 a0.exp)]] [] (.l (.f 137 [0])) [some ⟨34, 5, false, none, [.s (.int .i64 r.kind), .s (.string r.s), .d false 2 (encField r.f), .d false 1 (encS r.l), .s (.int .i64 r.exp)]⟩] := by
  unfold item_texts_sh at h
  refine Sound.of_aw (fn := Try.f126) (c := _) Try.func126 rfl (by simp [Try.f126]) fun cx hG hnb => ?_
  rw [show Try.f126.ntmps = 4 from rfl]
  have hn0 : cx.nb = 0 := hnb
  simp only [st0_mk, initTm, List.map_cons, List.map_nil]
  apply AW.step
  · simp
    intros; rfl
  apply AW.step
  · simp
    intros; rfl
  obtain rfl := Option.some.inj h
  refine AW.ret ?_
  refine Left.of (av := _) (by simp [Try.f126, resV, resC, comp]; rfl) ?_
  exact LeftV.mix 0 [some 0] hn0 rfl (by decide) rfl (by simp [pickOb, inv_cons, inv_nil]) (by simp [inv_cons, inv_nil])
theorem en_item_texts : Enters Try.prog 126 := enters Try.func126 (by kernel_rfl) rfl
def item_May_sh (n : Nat) (a0 : Item) : Option Bool :=
bn (bn (item_shaped_sh n a0) fun v2 =>
lt (notB v2) fun v3 =>
ite' v3 (some (true)) (lt (ltI a0.exp 0) fun v4 =>
ite' v4 (some (true)) (lt (gtI a0.exp 9007199254740992) fun v5 =>
some (v5)))) fun (y1 : Bool) =>
lt (y1) fun v6 =>
ite' v6 (some false) (bn (bn (item_texts_sh n a0) fun v8 =>
bn (lt (lenS v8.s) fun v10 =>
lt (gtI v10 300) fun v11 =>
ite' v11 (some (.inr ())) (some (.inl ()))) fun (y9 : Unit ⊕ Unit) =>
sm y9 (fun y12 => lt (lenI v8.f) fun v14 =>
bn (iter n (fun (y15 : Int) =>
lt (ltI y15 v14) fun v18 =>
ite' v18 (bn (nth v8.f y15) fun v19 =>
bn (lt (lenS v19.name) fun v21 =>
lt (gtI v21 300) fun v22 =>
ite' v22 (some (.inr ())) (some (.inl ()))) fun (y20 : Unit ⊕ Unit) =>
sm y20 (fun y23 => bn (lt (lenS v19.val) fun v26 =>
lt (gtI v26 300) fun v27 =>
ite' v27 (some (.inr ())) (some (.inl ()))) fun (y25 : Unit ⊕ Unit) =>
sm y25 (fun y28 => lt (addI .i64 y15 1) fun v30 =>
some (.inl v30)) (fun y29 => some (.inr (.inr ())))) (fun y24 => some (.inr (.inr ())))) (some (.inr (.inl ())))) 0) fun (y16 : Unit ⊕ Unit) =>
sm y16 (fun y31 => lt (lenI v8.l) fun v33 =>
bn (iter n (fun (y34 : Int) =>
lt (ltI y34 v33) fun v37 =>
ite' v37 (bn (nth v8.l y34) fun v38 =>
bn (lt (lenS v38) fun v40 =>
lt (gtI v40 300) fun v41 =>
ite' v41 (some (.inr ())) (some (.inl ()))) fun (y39 : Unit ⊕ Unit) =>
sm y39 (fun y42 => lt (addI .i64 y34 1) fun v44 =>
some (.inl v44)) (fun y43 => some (.inr (.inr ())))) (some (.inr (.inl ())))) 0) fun (y35 : Unit ⊕ Unit) =>
sm y35 (fun y45 => some (.inl ())) (fun y46 => some (.inr false))) (fun y32 => some (.inr false))) (fun y13 => some (.inr false))) fun (y7 : Unit ⊕ Bool) =>
sm y7 (fun y47 => some true) (fun y48 => some y48))
set_option maxRecDepth 8000 in
set_option maxHeartbeats 8000000 in
theorem s_item_May {n : Nat} {a0 : Item} {r : Bool} (h : item_May_sh n a0 = some r) : Sound Try.prog 102 [.g [.s (.int .i64 a0.kind), .s (.string a0.s), .d false 2 (encField a0.f), .d false 1 (encS a0.l), .s (.int .i64 a0.exp)]] [] (.l (.s (.bool r))) [] := by
  unfold item_May_sh at h
  refine Sound.of_aw (fn := Try.f102) (c := _) Try.func102 rfl (by simp [Try.f102]) fun cx hG hnb => ?_
  rw [show Try.f102.ntmps = 23 from rfl]
  have hn0 : cx.nb = 0 := hnb
  simp only [st0_mk, initTm, List.map_cons, List.map_nil]
  apply AW.step
  · simp
    intros; rfl
  refine AW.seq ?_
  replace h := bnE h; obtain ⟨y1, g1, h⟩ := h
  refine AW.flow (p := fun gh ls => (nP (cx := cx) (fun q => (⟨[(1, .l (.p 0 0)), (2, .l (.p 1 0)), (16, .l (.s (.bool q)))], [some ⟨34, 5, false, none, [.s (.int .i64 a0.kind), .s (.string a0.s), .d false 2 (encField a0.f), .d false 1 (encS a0.l), .s (.int .i64 a0.exp)]⟩, some ⟨4, 1, false, none, [.s (.bool false)]⟩], 23, gh, ls⟩ : St))) y1) ?_ ?_
  · replace h := g1; clear g1
    replace h := bnE h; obtain ⟨v2, e2, h⟩ := h
    replace h := ltE h; obtain ⟨v3, e3, h⟩ := h
    cases v3 with
    | true =>
      replace h := iteT rfl h
      apply AW.last
      · simp [← e3]
        intros
        refine xcall_plain en_item_shaped (s_item_shaped e2) rfl ⟨.same rfl, trivial⟩ ?_
        try simp [← e3]
        intros; rfl
      obtain rfl := Option.some.inj h
      refine nP_i ?_
      refine Weak.mixN [some 0, some 1] hn0 (by decide) ?_ ?_ rfl
      all_goals first | (simp [inv_cons, inv_nil, pickOb]; done) | rfl
    | false =>
      replace h := iteF rfl h
      replace h := ltE h; obtain ⟨v4, e4, h⟩ := h
      cases v4 with
      | true =>
        replace h := iteT rfl h
        apply AW.last
        · simp [← e3, ← e4]
          intros
          refine xcall_plain en_item_shaped (s_item_shaped e2) rfl ⟨.same rfl, trivial⟩ ?_
          try simp [← e3, ← e4]
          intros; rfl
        obtain rfl := Option.some.inj h
        refine nP_i ?_
        refine Weak.mixN [some 0, some 1] hn0 (by decide) ?_ ?_ rfl
        all_goals first | (simp [inv_cons, inv_nil, pickOb]; done) | rfl
      | false =>
        replace h := iteF rfl h
        replace h := ltE h; obtain ⟨v5, e5, h⟩ := h
        apply AW.last
        · simp [← e3, ← e4, ← e5]
          intros
          refine xcall_plain en_item_shaped (s_item_shaped e2) rfl ⟨.same rfl, trivial⟩ ?_
          try simp [← e3, ← e4, ← e5]
          intros; rfl
        obtain rfl := Option.some.inj h
        refine nP_i ?_
        refine Weak.mixN [some 0, some 1] hn0 (by decide) ?_ ?_ rfl
        all_goals first | (simp [inv_cons, inv_nil, pickOb]; done) | rfl
  · rintro e s hp
    obtain ⟨rfl, hw⟩ := hp
    refine ⟨_, hw, ?_⟩
    try simp only [sp_l, sp_r, Post.seq, Post.block, Nat.reduceEqDiff, reduceIte, Nat.zero_ne_one, Nat.one_ne_zero]
    replace h := ltE h; obtain ⟨v6, e6, h⟩ := h
    rw [← e6]
    cases v6 with
    | true =>
      replace h := iteT rfl h
      refine AW.cond_true (by simp) ?_
      apply AW.step
      · simp
        intros; rfl
      obtain rfl := Option.some.inj h
      refine AW.ret ?_
      refine Left.plain hnb (by simp [Try.f102, resV, resC, comp]; rfl) rfl rfl ?_
      simp
    | false =>
      replace h := iteF rfl h
      refine AW.cond_false (by simp) ?_
      refine AW.skip ?_
      try simp only [sp_l, sp_r, Post.seq, Post.block, Nat.reduceEqDiff, reduceIte, Nat.zero_ne_one, Nat.one_ne_zero]
      try simp only [sp_l, sp_r, Post.seq, Post.block, Nat.reduceEqDiff, reduceIte, Nat.zero_ne_one, Nat.one_ne_zero]
      replace h := bnE h; obtain ⟨y7, g7, h⟩ := h
      refine AW.flow (p := fun gh ls => (sp (nP (cx := cx) (fun _ => (⟨[(2, .l (.p 0 0))], [some ⟨4, 1, false, none, [.s (.bool false)]⟩], 23, gh, ls⟩ : St))) (rP (cx := cx) (P := Try.prog) Try.f102 (fun q => .l (.s (.bool q))) (fun q => []))) y7) ?_ ?_
      · replace h := g7; clear g7
        replace h := bnE h; obtain ⟨v8, e8, h⟩ := h
        apply AW.step
        · simp
          intros
          refine xcall_new en_item_texts (s_item_texts e8) rfl (by simp) ⟨.same rfl, trivial⟩ ?_
          try simp
          intros; rfl
        refine AW.block ?_
        refine AW.weak (Weak.keep [(2, .l (.p 1 0)), (18, .l (.f 137 [2]))] (by simp)) ?_
        refine AW.rangeG rfl Try.func137 (by kernel_rfl) rfl (by decide) rfl rfl fun cxI1 yl1 hnI1 hY1 => ?_
        have hnJ1 : cxI1.nb = 0 := hnI1.trans hn0
        simp only [initTm, List.map_cons, List.map_nil]
        refine AW.seq ?_
        refine AW.stepYK ?_
        apply xopsY.yield hY1 0 3 rfl rfl rfl (by decide)
        · simp
          intros; rfl
        · rfl
        · first | trivial | simp
        · rfl
        · rfl
        · simp [puts]; rfl
        intro cxR1 hnR1
        have hnS1 : cxR1.nb = 0 := hnR1.trans hnJ1
        apply AW.last
        · simp
          intros; rfl
        refine ⟨rfl, ?_⟩
        replace h := bnE h; obtain ⟨y9, g9, h⟩ := h
        refine AW.flowR (p := fun gh ls => (sp (nP (cx := cxR1) (fun _ => (⟨[], [some ⟨34, 5, false, none, [.s (.int .i64 a0.kind), .s (.string a0.s), .d false 2 (encField a0.f), .d false 1 (encS a0.l), .s (.int .i64 a0.exp)]⟩, some ⟨4, 1, false, none, [.s (.bool false)]⟩, some ⟨34, 5, false, none, [.s (.int .i64 v8.kind), .s (.string v8.s), .d false 2 (encField v8.f), .d false 1 (encS v8.l), .s (.int .i64 v8.exp)]⟩], 23, gh, ls⟩ : St))) (tP (cx := cxR1) (fun _ => (⟨[], [some ⟨34, 5, false, none, [.s (.int .i64 a0.kind), .s (.string a0.s), .d false 2 (encField a0.f), .d false 1 (encS a0.l), .s (.int .i64 a0.exp)]⟩, some ⟨4, 1, false, none, [.s (.bool false)]⟩, some ⟨34, 5, false, none, [.s (.int .i64 v8.kind), .s (.string v8.s), .d false 2 (encField v8.f), .d false 1 (encS v8.l), .s (.int .i64 v8.exp)]⟩], 23, gh, ls⟩ : St)))) y9) ?_ ?_
        · replace h := g9; clear g9
          refine AW.block ?_
          replace h := ltE h; obtain ⟨v10, e10, h⟩ := h
          replace h := ltE h; obtain ⟨v11, e11, h⟩ := h
          apply AW.step
          · simp [← e10, ← e11]
            intros; rfl
          cases v11 with
          | true =>
            replace h := iteT rfl h
            refine AW.cond_true (by simp) ?_
            apply AW.step
            · simp
              intros; rfl
            obtain rfl := Option.some.inj h
            refine AW.ret ?_
            try simp only [sp_l, sp_r, Post.seq, Post.block, Nat.reduceEqDiff, reduceIte, Nat.zero_ne_one, Nat.one_ne_zero]
            try simp only [sp_l, sp_r]
            refine tP_i ?_
            refine Weak.mixB 0 [some 0, some 1, some 2] hnS1 (by decide) (by decide) ?_ ?_ ?_
            all_goals first | (simp [inv_cons, inv_nil, pickOb]; done) | rfl
          | false =>
            replace h := iteF rfl h
            refine AW.cond_false (by simp) ?_
            refine AW.skip ?_
            try simp only [sp_l, sp_r, Post.seq, Post.block, Nat.reduceEqDiff, reduceIte, Nat.zero_ne_one, Nat.one_ne_zero]
            obtain rfl := Option.some.inj h
            try simp only [sp_l, sp_r]
            refine nP_i ?_
            refine Weak.mixB 0 [some 0, some 1, some 2] hnS1 (by decide) (by decide) ?_ ?_ ?_
            all_goals first | (simp [inv_cons, inv_nil, pickOb]; done) | rfl
        · rintro e s hp
          rcases y9 with y12 | y13
          · replace h := smL h
            obtain ⟨rfl, hw⟩ := hp
            refine ⟨_, hw, ?_⟩
            try simp only [sp_l, sp_r, Post.seq, Post.block, Nat.reduceEqDiff, reduceIte, Nat.zero_ne_one, Nat.one_ne_zero]
            refine ⟨_, _, rfl, ?_⟩
            refine xops_Y _ _ _ rfl ?_
            simp [puts]
            try intros
            unfold KK
            refine AW.cond_false (by simp) ?_
            refine AW.skip ?_
            try simp only [sp_l, sp_r, Post.seq, Post.block, Nat.reduceEqDiff, reduceIte, Nat.zero_ne_one, Nat.one_ne_zero]
            try simp only [sp_l, sp_r, Post.seq, Post.block, Nat.reduceEqDiff, reduceIte, Nat.zero_ne_one, Nat.one_ne_zero]
            refine AW.seq ?_
            replace h := ltE h; obtain ⟨v14, e14, h⟩ := h
            apply AW.step
            · simp [lenI_cast e14]
              intros; rfl
            refine AW.block ?_
            replace h := bnE h; obtain ⟨y16, g16, h⟩ := h
            refine AW.iterP g16 (mk := fun gh ls q => (⟨[(0, .l (.s (.func (.yield yl1) #[] #[]))), (1, .l (.p 2 0)), (13, .l (.d false 2 (encField v8.f))), (14, .l (.s (.int .i64 v14))), (15, .l (.s (.int .i64 q)))], [some ⟨34, 5, false, none, [.s (.int .i64 a0.kind), .s (.string a0.s), .d false 2 (encField a0.f), .d false 1 (encS a0.l), .s (.int .i64 a0.exp)]⟩, some ⟨4, 1, false, none, [.s (.bool false)]⟩, some ⟨34, 5, false, none, [.s (.int .i64 v8.kind), .s (.string v8.s), .d false 2 (encField v8.f), .d false 1 (encS v8.l), .s (.int .i64 v8.exp)]⟩], 44, gh, ls⟩ : St)) (N := fun gh ls => (sp (xP 0 (cx := cxI1) (fun _ => (⟨[(0, .l (.s (.func (.yield yl1) #[] #[]))), (1, .l (.p 2 0))], [some ⟨34, 5, false, none, [.s (.int .i64 a0.kind), .s (.string a0.s), .d false 2 (encField a0.f), .d false 1 (encS a0.l), .s (.int .i64 a0.exp)]⟩, some ⟨4, 1, false, none, [.s (.bool false)]⟩, some ⟨34, 5, false, none, [.s (.int .i64 v8.kind), .s (.string v8.s), .d false 2 (encField v8.f), .d false 1 (encS v8.l), .s (.int .i64 v8.exp)]⟩], 44, gh, ls⟩ : St))) (tP (cx := cxI1) (fun _ => (⟨[], [some ⟨34, 5, false, none, [.s (.int .i64 a0.kind), .s (.string a0.s), .d false 2 (encField a0.f), .d false 1 (encS a0.l), .s (.int .i64 a0.exp)]⟩, some ⟨4, 1, false, none, [.s (.bool false)]⟩, some ⟨34, 5, false, none, [.s (.int .i64 v8.kind), .s (.string v8.s), .d false 2 (encField v8.f), .d false 1 (encS v8.l), .s (.int .i64 v8.exp)]⟩], 44, gh, some .ret⟩ : St))))) ?_ (noS noX noT) ?_ ?_
            · refine Weak.mixB 0 [some 0, some 1, some 2] hnJ1 (by decide) (by decide) ?_ ?_ ?_
              all_goals first | (simp [inv_cons, inv_nil, pickOb]; done) | rfl
            · clear h; intro y15 y17 h
              replace h := ltE h; obtain ⟨v18, e18, h⟩ := h
              apply AW.step
              · simp [← e18]
                intros; rfl
              refine AW.seq ?_
              cases v18 with
              | true =>
                replace h := iteT rfl h
                refine AW.cond_true (by simp) ?_
                refine AW.skip ?_
                try simp only [sp_l, sp_r, Post.seq, Post.block, Nat.reduceEqDiff, reduceIte, Nat.zero_ne_one, Nat.one_ne_zero]
                try simp only [sp_l, sp_r, Post.seq, Post.block, Nat.reduceEqDiff, reduceIte, Nat.zero_ne_one, Nat.one_ne_zero]
                refine AW.seq ?_
                refine AW.block ?_
                replace h := bnE h; obtain ⟨v19, e19, h⟩ := h
                apply AW.step
                · simp [nth_d e19]
                  intros; rfl
                refine AW.stepYK ?_
                apply xopsY.yield hY1 0 3 rfl rfl rfl (by decide)
                · simp
                  intros; rfl
                · rfl
                · first | trivial | simp
                · rfl
                · rfl
                · simp [puts]; rfl
                intro cxR1 hnR1
                have hnS1 : cxR1.nb = 0 := hnR1.trans hnJ1
                apply AW.last
                · simp
                  intros; rfl
                refine ⟨rfl, ?_⟩
                replace h := bnE h; obtain ⟨y20, g20, h⟩ := h
                refine AW.flowR (p := fun gh ls => (sp (nP (cx := cxR1) (fun _ => (⟨[], [some ⟨34, 5, false, none, [.s (.int .i64 a0.kind), .s (.string a0.s), .d false 2 (encField a0.f), .d false 1 (encS a0.l), .s (.int .i64 a0.exp)]⟩, some ⟨4, 1, false, none, [.s (.bool false)]⟩, some ⟨34, 5, false, none, [.s (.int .i64 v8.kind), .s (.string v8.s), .d false 2 (encField v8.f), .d false 1 (encS v8.l), .s (.int .i64 v8.exp)]⟩, some ⟨105, 2, false, none, [.s (.string v19.name), .s (.string v19.val)]⟩], 23, gh, ls⟩ : St))) (tP (cx := cxR1) (fun _ => (⟨[], [some ⟨34, 5, false, none, [.s (.int .i64 a0.kind), .s (.string a0.s), .d false 2 (encField a0.f), .d false 1 (encS a0.l), .s (.int .i64 a0.exp)]⟩, some ⟨4, 1, false, none, [.s (.bool false)]⟩, some ⟨34, 5, false, none, [.s (.int .i64 v8.kind), .s (.string v8.s), .d false 2 (encField v8.f), .d false 1 (encS v8.l), .s (.int .i64 v8.exp)]⟩, some ⟨105, 2, false, none, [.s (.string v19.name), .s (.string v19.val)]⟩], 23, gh, ls⟩ : St)))) y20) ?_ ?_
                · replace h := g20; clear g20
                  refine AW.block ?_
                  replace h := ltE h; obtain ⟨v21, e21, h⟩ := h
                  replace h := ltE h; obtain ⟨v22, e22, h⟩ := h
                  apply AW.step
                  · simp [← e21, ← e22]
                    intros; rfl
                  cases v22 with
                  | true =>
                    replace h := iteT rfl h
                    refine AW.cond_true (by simp) ?_
                    apply AW.step
                    · simp
                      intros; rfl
                    obtain rfl := Option.some.inj h
                    refine AW.ret ?_
                    try simp only [sp_l, sp_r, Post.seq, Post.block, Nat.reduceEqDiff, reduceIte, Nat.zero_ne_one, Nat.one_ne_zero]
                    try simp only [sp_l, sp_r]
                    refine tP_i ?_
                    refine Weak.mixB 0 [some 0, some 1, some 2, some 3] hnS1 (by decide) (by decide) ?_ ?_ ?_
                    all_goals first | (simp [inv_cons, inv_nil, pickOb]; done) | rfl
                  | false =>
                    replace h := iteF rfl h
                    refine AW.cond_false (by simp) ?_
                    refine AW.skip ?_
                    try simp only [sp_l, sp_r, Post.seq, Post.block, Nat.reduceEqDiff, reduceIte, Nat.zero_ne_one, Nat.one_ne_zero]
                    obtain rfl := Option.some.inj h
                    try simp only [sp_l, sp_r]
                    refine nP_i ?_
                    refine Weak.mixB 0 [some 0, some 1, some 2, some 3] hnS1 (by decide) (by decide) ?_ ?_ ?_
                    all_goals first | (simp [inv_cons, inv_nil, pickOb]; done) | rfl
                · rintro e s hp
                  rcases y20 with y23 | y24
                  · replace h := smL h
                    obtain ⟨rfl, hw⟩ := hp
                    refine ⟨_, hw, ?_⟩
                    try simp only [sp_l, sp_r, Post.seq, Post.block, Nat.reduceEqDiff, reduceIte, Nat.zero_ne_one, Nat.one_ne_zero]
                    refine ⟨_, _, rfl, ?_⟩
                    apply xopsY.yield hY1 4 9 rfl rfl rfl (by decide)
                    · simp
                      intros; rfl
                    · rfl
                    · first | trivial | simp
                    · rfl
                    · rfl
                    · simp [puts]; rfl
                    intro cxR1 hnR1
                    have hnS1 : cxR1.nb = 0 := hnR1.trans hnJ1
                    apply AW.last
                    · simp
                      intros; rfl
                    refine ⟨rfl, ?_⟩
                    replace h := bnE h; obtain ⟨y25, g25, h⟩ := h
                    refine AW.flowR (p := fun gh ls => (sp (nP (cx := cxR1) (fun _ => (⟨[], [some ⟨34, 5, false, none, [.s (.int .i64 a0.kind), .s (.string a0.s), .d false 2 (encField a0.f), .d false 1 (encS a0.l), .s (.int .i64 a0.exp)]⟩, some ⟨4, 1, false, none, [.s (.bool false)]⟩, some ⟨34, 5, false, none, [.s (.int .i64 v8.kind), .s (.string v8.s), .d false 2 (encField v8.f), .d false 1 (encS v8.l), .s (.int .i64 v8.exp)]⟩, some ⟨105, 2, false, none, [.s (.string v19.name), .s (.string v19.val)]⟩], 23, gh, ls⟩ : St))) (tP (cx := cxR1) (fun _ => (⟨[], [some ⟨34, 5, false, none, [.s (.int .i64 a0.kind), .s (.string a0.s), .d false 2 (encField a0.f), .d false 1 (encS a0.l), .s (.int .i64 a0.exp)]⟩, some ⟨4, 1, false, none, [.s (.bool false)]⟩, some ⟨34, 5, false, none, [.s (.int .i64 v8.kind), .s (.string v8.s), .d false 2 (encField v8.f), .d false 1 (encS v8.l), .s (.int .i64 v8.exp)]⟩, some ⟨105, 2, false, none, [.s (.string v19.name), .s (.string v19.val)]⟩], 23, gh, ls⟩ : St)))) y25) ?_ ?_
                    · replace h := g25; clear g25
                      refine AW.block ?_
                      replace h := ltE h; obtain ⟨v26, e26, h⟩ := h
                      replace h := ltE h; obtain ⟨v27, e27, h⟩ := h
                      apply AW.step
                      · simp [← e26, ← e27]
                        intros; rfl
                      cases v27 with
                      | true =>
                        replace h := iteT rfl h
                        refine AW.cond_true (by simp) ?_
                        apply AW.step
                        · simp
                          intros; rfl
                        obtain rfl := Option.some.inj h
                        refine AW.ret ?_
                        try simp only [sp_l, sp_r, Post.seq, Post.block, Nat.reduceEqDiff, reduceIte, Nat.zero_ne_one, Nat.one_ne_zero]
                        try simp only [sp_l, sp_r]
                        refine tP_i ?_
                        refine Weak.mixB 0 [some 0, some 1, some 2, some 3] hnS1 (by decide) (by decide) ?_ ?_ ?_
                        all_goals first | (simp [inv_cons, inv_nil, pickOb]; done) | rfl
                      | false =>
                        replace h := iteF rfl h
                        refine AW.cond_false (by simp) ?_
                        refine AW.skip ?_
                        try simp only [sp_l, sp_r, Post.seq, Post.block, Nat.reduceEqDiff, reduceIte, Nat.zero_ne_one, Nat.one_ne_zero]
                        obtain rfl := Option.some.inj h
                        try simp only [sp_l, sp_r]
                        refine nP_i ?_
                        refine Weak.mixB 0 [some 0, some 1, some 2, some 3] hnS1 (by decide) (by decide) ?_ ?_ ?_
                        all_goals first | (simp [inv_cons, inv_nil, pickOb]; done) | rfl
                    · rintro e s hp
                      rcases y25 with y28 | y29
                      · replace h := smL h
                        obtain ⟨rfl, hw⟩ := hp
                        refine ⟨_, hw, ?_⟩
                        try simp only [sp_l, sp_r, Post.seq, Post.block, Nat.reduceEqDiff, reduceIte, Nat.zero_ne_one, Nat.one_ne_zero]
                        refine ⟨_, _, rfl, ?_⟩
                        refine xops_Y _ _ _ rfl ?_
                        simp [puts]
                        try intros
                        unfold KK
                        refine AW.cond_false (by simp) ?_
                        refine AW.skip ?_
                        try simp only [sp_l, sp_r, Post.seq, Post.block, Nat.reduceEqDiff, reduceIte, Nat.zero_ne_one, Nat.one_ne_zero]
                        try simp only [sp_l, sp_r, Post.seq, Post.block, Nat.reduceEqDiff, reduceIte, Nat.zero_ne_one, Nat.one_ne_zero]
                        replace h := ltE h; obtain ⟨v30, e30, h⟩ := h
                        apply AW.last
                        · simp [← e30]
                          intros; rfl
                        obtain rfl := Option.some.inj h
                        refine nP_i ?_
                        refine Weak.mixB 0 [some 0, some 1, some 2] hnJ1 (by decide) (by decide) ?_ ?_ ?_
                        all_goals first | (simp [inv_cons, inv_nil, pickOb]; done) | rfl
                      · replace h := smR h
                        obtain ⟨rfl, hw⟩ := hp
                        refine ⟨_, hw, ?_⟩
                        try simp only [sp_l, sp_r, Post.seq, Post.block, Nat.reduceEqDiff, reduceIte, Nat.zero_ne_one, Nat.one_ne_zero]
                        refine ⟨_, _, rfl, ?_⟩
                        refine xops_Y _ _ _ rfl ?_
                        simp [puts]
                        try intros
                        unfold KK
                        refine AW.cond_true (by simp) ?_
                        obtain rfl := Option.some.inj h
                        refine AW.ret ?_
                        try simp only [sp_l, sp_r, Post.seq, Post.block, Nat.reduceEqDiff, reduceIte, Nat.zero_ne_one, Nat.one_ne_zero]
                        try simp only [sp_l, sp_r]
                        refine tP_i ?_
                        refine Weak.mixB 0 [some 0, some 1, some 2] hnJ1 (by decide) (by decide) ?_ ?_ ?_
                        all_goals first | (simp [inv_cons, inv_nil, pickOb]; done) | rfl
                  · replace h := smR h
                    obtain ⟨rfl, hw⟩ := hp
                    refine ⟨_, hw, ?_⟩
                    try simp only [sp_l, sp_r, Post.seq, Post.block, Nat.reduceEqDiff, reduceIte, Nat.zero_ne_one, Nat.one_ne_zero]
                    refine ⟨_, _, rfl, ?_⟩
                    refine xops_Y _ _ _ rfl ?_
                    simp [puts]
                    try intros
                    unfold KK
                    refine AW.cond_true (by simp) ?_
                    obtain rfl := Option.some.inj h
                    refine AW.ret ?_
                    try simp only [sp_l, sp_r, Post.seq, Post.block, Nat.reduceEqDiff, reduceIte, Nat.zero_ne_one, Nat.one_ne_zero]
                    try simp only [sp_l, sp_r]
                    refine tP_i ?_
                    refine Weak.mixB 0 [some 0, some 1, some 2] hnJ1 (by decide) (by decide) ?_ ?_ ?_
                    all_goals first | (simp [inv_cons, inv_nil, pickOb]; done) | rfl
              | false =>
                replace h := iteF rfl h
                refine AW.cond_false (by simp) ?_
                refine AW.exit ?_
                try simp only [sp_l, sp_r, Post.seq, Post.block, Nat.reduceEqDiff, reduceIte, Nat.zero_ne_one, Nat.one_ne_zero]
                obtain rfl := Option.some.inj h
                try simp only [sp_l, sp_r]
                refine xP_i ?_
                refine Weak.mixB 0 [some 0, some 1, some 2] hnJ1 (by decide) (by decide) ?_ ?_ ?_
                all_goals first | (simp [inv_cons, inv_nil, pickOb]; done) | rfl
            · rintro e s hp
              rcases y16 with y31 | y32
              · replace h := smL h
                obtain ⟨rfl, hw⟩ := hp
                refine ⟨_, hw, ?_⟩
                try simp only [sp_l, sp_r, Post.seq, Post.block, Nat.reduceEqDiff, reduceIte, Nat.zero_ne_one, Nat.one_ne_zero]
                replace h := ltE h; obtain ⟨v33, e33, h⟩ := h
                apply AW.step
                · simp [lenI_cast e33]
                  intros; rfl
                refine AW.block ?_
                replace h := bnE h; obtain ⟨y35, g35, h⟩ := h
                refine AW.iterP g35 (mk := fun gh ls q => (⟨[(0, .l (.s (.func (.yield yl1) #[] #[]))), (33, .l (.d false 1 (encS v8.l))), (34, .l (.s (.int .i64 v33))), (35, .l (.s (.int .i64 q)))], [some ⟨34, 5, false, none, [.s (.int .i64 a0.kind), .s (.string a0.s), .d false 2 (encField a0.f), .d false 1 (encS a0.l), .s (.int .i64 a0.exp)]⟩, some ⟨4, 1, false, none, [.s (.bool false)]⟩, some ⟨34, 5, false, none, [.s (.int .i64 v8.kind), .s (.string v8.s), .d false 2 (encField v8.f), .d false 1 (encS v8.l), .s (.int .i64 v8.exp)]⟩], 44, gh, ls⟩ : St)) (N := fun gh ls => (sp (xP 2 (cx := cxI1) (fun _ => (⟨[], [some ⟨34, 5, false, none, [.s (.int .i64 a0.kind), .s (.string a0.s), .d false 2 (encField a0.f), .d false 1 (encS a0.l), .s (.int .i64 a0.exp)]⟩, some ⟨4, 1, false, none, [.s (.bool false)]⟩, some ⟨34, 5, false, none, [.s (.int .i64 v8.kind), .s (.string v8.s), .d false 2 (encField v8.f), .d false 1 (encS v8.l), .s (.int .i64 v8.exp)]⟩], 44, gh, ls⟩ : St))) (tP (cx := cxI1) (fun _ => (⟨[], [some ⟨34, 5, false, none, [.s (.int .i64 a0.kind), .s (.string a0.s), .d false 2 (encField a0.f), .d false 1 (encS a0.l), .s (.int .i64 a0.exp)]⟩, some ⟨4, 1, false, none, [.s (.bool false)]⟩, some ⟨34, 5, false, none, [.s (.int .i64 v8.kind), .s (.string v8.s), .d false 2 (encField v8.f), .d false 1 (encS v8.l), .s (.int .i64 v8.exp)]⟩], 44, gh, some .ret⟩ : St))))) ?_ (noS noX noT) ?_ ?_
                · refine Weak.mixB 0 [some 0, some 1, some 2] hnJ1 (by decide) (by decide) ?_ ?_ ?_
                  all_goals first | (simp [inv_cons, inv_nil, pickOb]; done) | rfl
                · clear h; intro y34 y36 h
                  replace h := ltE h; obtain ⟨v37, e37, h⟩ := h
                  apply AW.step
                  · simp [← e37]
                    intros; rfl
                  refine AW.seq ?_
                  cases v37 with
                  | true =>
                    replace h := iteT rfl h
                    refine AW.cond_true (by simp) ?_
                    refine AW.skip ?_
                    try simp only [sp_l, sp_r, Post.seq, Post.block, Nat.reduceEqDiff, reduceIte, Nat.zero_ne_one, Nat.one_ne_zero]
                    try simp only [sp_l, sp_r, Post.seq, Post.block, Nat.reduceEqDiff, reduceIte, Nat.zero_ne_one, Nat.one_ne_zero]
                    refine AW.seq ?_
                    refine AW.block ?_
                    replace h := bnE h; obtain ⟨v38, e38, h⟩ := h
                    apply AW.step
                    · simp [nth_d e38]
                      intros; rfl
                    refine AW.stepYK ?_
                    apply xopsY.yield hY1 0 2 rfl rfl rfl (by decide)
                    · simp
                      intros; rfl
                    · rfl
                    · first | trivial | simp
                    · rfl
                    · rfl
                    · simp [puts]; rfl
                    intro cxR1 hnR1
                    have hnS1 : cxR1.nb = 0 := hnR1.trans hnJ1
                    apply AW.last
                    · simp
                      intros; rfl
                    refine ⟨rfl, ?_⟩
                    replace h := bnE h; obtain ⟨y39, g39, h⟩ := h
                    refine AW.flowR (p := fun gh ls => (sp (nP (cx := cxR1) (fun _ => (⟨[], [some ⟨34, 5, false, none, [.s (.int .i64 a0.kind), .s (.string a0.s), .d false 2 (encField a0.f), .d false 1 (encS a0.l), .s (.int .i64 a0.exp)]⟩, some ⟨4, 1, false, none, [.s (.bool false)]⟩, some ⟨34, 5, false, none, [.s (.int .i64 v8.kind), .s (.string v8.s), .d false 2 (encField v8.f), .d false 1 (encS v8.l), .s (.int .i64 v8.exp)]⟩], 23, gh, ls⟩ : St))) (tP (cx := cxR1) (fun _ => (⟨[], [some ⟨34, 5, false, none, [.s (.int .i64 a0.kind), .s (.string a0.s), .d false 2 (encField a0.f), .d false 1 (encS a0.l), .s (.int .i64 a0.exp)]⟩, some ⟨4, 1, false, none, [.s (.bool false)]⟩, some ⟨34, 5, false, none, [.s (.int .i64 v8.kind), .s (.string v8.s), .d false 2 (encField v8.f), .d false 1 (encS v8.l), .s (.int .i64 v8.exp)]⟩], 23, gh, ls⟩ : St)))) y39) ?_ ?_
                    · replace h := g39; clear g39
                      refine AW.block ?_
                      replace h := ltE h; obtain ⟨v40, e40, h⟩ := h
                      replace h := ltE h; obtain ⟨v41, e41, h⟩ := h
                      apply AW.step
                      · simp [← e40, ← e41]
                        intros; rfl
                      cases v41 with
                      | true =>
                        replace h := iteT rfl h
                        refine AW.cond_true (by simp) ?_
                        apply AW.step
                        · simp
                          intros; rfl
                        obtain rfl := Option.some.inj h
                        refine AW.ret ?_
                        try simp only [sp_l, sp_r, Post.seq, Post.block, Nat.reduceEqDiff, reduceIte, Nat.zero_ne_one, Nat.one_ne_zero]
                        try simp only [sp_l, sp_r]
                        refine tP_i ?_
                        refine Weak.mixB 0 [some 0, some 1, some 2] hnS1 (by decide) (by decide) ?_ ?_ ?_
                        all_goals first | (simp [inv_cons, inv_nil, pickOb]; done) | rfl
                      | false =>
                        replace h := iteF rfl h
                        refine AW.cond_false (by simp) ?_
                        refine AW.skip ?_
                        try simp only [sp_l, sp_r, Post.seq, Post.block, Nat.reduceEqDiff, reduceIte, Nat.zero_ne_one, Nat.one_ne_zero]
                        obtain rfl := Option.some.inj h
                        try simp only [sp_l, sp_r]
                        refine nP_i ?_
                        refine Weak.mixB 0 [some 0, some 1, some 2] hnS1 (by decide) (by decide) ?_ ?_ ?_
                        all_goals first | (simp [inv_cons, inv_nil, pickOb]; done) | rfl
                    · rintro e s hp
                      rcases y39 with y42 | y43
                      · replace h := smL h
                        obtain ⟨rfl, hw⟩ := hp
                        refine ⟨_, hw, ?_⟩
                        try simp only [sp_l, sp_r, Post.seq, Post.block, Nat.reduceEqDiff, reduceIte, Nat.zero_ne_one, Nat.one_ne_zero]
                        refine ⟨_, _, rfl, ?_⟩
                        refine xops_Y _ _ _ rfl ?_
                        simp [puts]
                        try intros
                        unfold KK
                        refine AW.cond_false (by simp) ?_
                        refine AW.skip ?_
                        try simp only [sp_l, sp_r, Post.seq, Post.block, Nat.reduceEqDiff, reduceIte, Nat.zero_ne_one, Nat.one_ne_zero]
                        try simp only [sp_l, sp_r, Post.seq, Post.block, Nat.reduceEqDiff, reduceIte, Nat.zero_ne_one, Nat.one_ne_zero]
                        replace h := ltE h; obtain ⟨v44, e44, h⟩ := h
                        apply AW.last
                        · simp [← e44]
                          intros; rfl
                        obtain rfl := Option.some.inj h
                        refine nP_i ?_
                        refine Weak.mixB 0 [some 0, some 1, some 2] hnJ1 (by decide) (by decide) ?_ ?_ ?_
                        all_goals first | (simp [inv_cons, inv_nil, pickOb]; done) | rfl
                      · replace h := smR h
                        obtain ⟨rfl, hw⟩ := hp
                        refine ⟨_, hw, ?_⟩
                        try simp only [sp_l, sp_r, Post.seq, Post.block, Nat.reduceEqDiff, reduceIte, Nat.zero_ne_one, Nat.one_ne_zero]
                        refine ⟨_, _, rfl, ?_⟩
                        refine xops_Y _ _ _ rfl ?_
                        simp [puts]
                        try intros
                        unfold KK
                        refine AW.cond_true (by simp) ?_
                        obtain rfl := Option.some.inj h
                        refine AW.ret ?_
                        try simp only [sp_l, sp_r, Post.seq, Post.block, Nat.reduceEqDiff, reduceIte, Nat.zero_ne_one, Nat.one_ne_zero]
                        try simp only [sp_l, sp_r]
                        refine tP_i ?_
                        refine Weak.mixB 0 [some 0, some 1, some 2] hnJ1 (by decide) (by decide) ?_ ?_ ?_
                        all_goals first | (simp [inv_cons, inv_nil, pickOb]; done) | rfl
                  | false =>
                    replace h := iteF rfl h
                    refine AW.cond_false (by simp) ?_
                    refine AW.exit ?_
                    try simp only [sp_l, sp_r, Post.seq, Post.block, Nat.reduceEqDiff, reduceIte, Nat.zero_ne_one, Nat.one_ne_zero]
                    obtain rfl := Option.some.inj h
                    try simp only [sp_l, sp_r]
                    refine xP_i ?_
                    refine Weak.mixB 0 [some 0, some 1, some 2] hnJ1 (by decide) (by decide) ?_ ?_ ?_
                    all_goals first | (simp [inv_cons, inv_nil, pickOb]; done) | rfl
                · rintro e s hp
                  rcases y35 with y45 | y46
                  · replace h := smL h
                    obtain ⟨rfl, hw⟩ := hp
                    refine ⟨_, hw, ?_⟩
                    try simp only [sp_l, sp_r, Post.seq, Post.block, Nat.reduceEqDiff, reduceIte, Nat.zero_ne_one, Nat.one_ne_zero]
                    refine ⟨_, _, rfl, ?_⟩
                    try simp only []
                    try simp only [sp_l, sp_r, Post.seq, Post.block, Nat.reduceEqDiff, reduceIte, Nat.zero_ne_one, Nat.one_ne_zero]
                    obtain rfl := Option.some.inj h
                    try simp only [sp_l, sp_r]
                    refine nP_i ?_
                    refine Weak.mixN [some 1] hn0 (by decide) ?_ ?_ rfl
                    all_goals first | (simp [inv_cons, inv_nil, pickOb]; done) | rfl
                  · replace h := smR h
                    obtain ⟨rfl, hw⟩ := hp
                    refine ⟨_, hw, ?_⟩
                    try simp only [sp_l, sp_r, Post.seq, Post.block, Nat.reduceEqDiff, reduceIte, Nat.zero_ne_one, Nat.one_ne_zero]
                    refine ⟨_, _, rfl, ?_⟩
                    try simp only []
                    obtain rfl := Option.some.inj h
                    refine AW.ret ?_
                    try simp only [sp_l, sp_r, Post.seq, Post.block, Nat.reduceEqDiff, reduceIte, Nat.zero_ne_one, Nat.one_ne_zero]
                    refine rP_i ?_
                    refine Left.plain hnb (by simp [Try.f102, resV, resC, comp]; rfl) rfl rfl ?_
                    simp
              · replace h := smR h
                obtain ⟨rfl, hw⟩ := hp
                refine ⟨_, hw, ?_⟩
                try simp only [sp_l, sp_r, Post.seq, Post.block, Nat.reduceEqDiff, reduceIte, Nat.zero_ne_one, Nat.one_ne_zero]
                refine ⟨_, _, rfl, ?_⟩
                try simp only []
                obtain rfl := Option.some.inj h
                refine AW.ret ?_
                try simp only [sp_l, sp_r, Post.seq, Post.block, Nat.reduceEqDiff, reduceIte, Nat.zero_ne_one, Nat.one_ne_zero]
                refine rP_i ?_
                refine Left.plain hnb (by simp [Try.f102, resV, resC, comp]; rfl) rfl rfl ?_
                simp
          · replace h := smR h
            obtain ⟨rfl, hw⟩ := hp
            refine ⟨_, hw, ?_⟩
            try simp only [sp_l, sp_r, Post.seq, Post.block, Nat.reduceEqDiff, reduceIte, Nat.zero_ne_one, Nat.one_ne_zero]
            refine ⟨_, _, rfl, ?_⟩
            refine xops_Y _ _ _ rfl ?_
            simp [puts]
            try intros
            unfold KK
            refine AW.cond_true (by simp) ?_
            refine AW.ret ?_
            refine ⟨_, _, rfl, ?_⟩
            try simp only []
            obtain rfl := Option.some.inj h
            refine AW.ret ?_
            try simp only [sp_l, sp_r, Post.seq, Post.block, Nat.reduceEqDiff, reduceIte, Nat.zero_ne_one, Nat.one_ne_zero]
            refine rP_i ?_
            refine Left.plain hnb (by simp [Try.f102, resV, resC, comp]; rfl) rfl rfl ?_
            simp
      · rintro e s hp
        rcases y7 with y47 | y48
        · replace h := smL h
          obtain ⟨rfl, hw⟩ := hp
          refine ⟨_, hw, ?_⟩
          try simp only [sp_l, sp_r, Post.seq, Post.block, Nat.reduceEqDiff, reduceIte, Nat.zero_ne_one, Nat.one_ne_zero]
          apply AW.step
          · simp
            intros; rfl
          obtain rfl := Option.some.inj h
          refine AW.ret ?_
          refine Left.plain hnb (by simp [Try.f102, resV, resC, comp]; rfl) rfl rfl ?_
          simp
        · replace h := smR h
          obtain ⟨rfl, hl⟩ := hp
          refine ⟨_, Weak.refl _, ?_⟩
          obtain rfl := Option.some.inj h
          exact hl
theorem en_item_May : Enters Try.prog 102 := enters Try.func102 (by kernel_rfl) rfl
def space_May_sh (n : Nat) (a0 : List Pair) : Option Bool :=
lt (lenI a0) fun v1 =>
bn (iter n (fun (y2 : Int) =>
lt (ltI y2 v1) fun v5 =>
ite' v5 (bn (nth a0 y2) fun v6 =>
bn (lt (lenS v6.key) fun v8 =>
lt (gtI v8 40) fun v9 =>
ite' v9 (some (true)) (lt (gtI y2 0) fun v10 =>
ite' v10 (lt (subI .i64 y2 1) fun v11 =>
bn (nth a0 v11) fun v12 =>
lt (geS v12.key v6.key) fun v13 =>
ite' v13 (some (true)) (bn (item_May_sh n v6.item) fun v14 =>
lt (notB v14) fun v15 =>
some (v15))) (bn (item_May_sh n v6.item) fun v16 =>
lt (notB v16) fun v17 =>
some (v17)))) fun (y7 : Bool) =>
lt (y7) fun v18 =>
ite' v18 (some (.inr (.inr false))) (lt (addI .i64 y2 1) fun v19 =>
some (.inl v19))) (some (.inr (.inl ())))) 0) fun (y3 : Unit ⊕ Bool) =>
sm y3 (fun y20 => some true) (fun y21 => some y21)
set_option maxRecDepth 8000 in
set_option maxHeartbeats 8000000 in
theorem s_space_May {n : Nat} {a0 : List Pair} {r : Bool} (h : space_May_sh n a0 = some r) : Sound Try.prog 63 [.l (.d false 6 (encPair a0))] [] (.l (.s (.bool r))) [] := by
  unfold space_May_sh at h
  refine Sound.of_aw (fn := Try.f63) (c := _) Try.func63 rfl (by simp [Try.f63]) fun cx hG hnb => ?_
  rw [show Try.f63.ntmps = 38 from rfl]
  have hn0 : cx.nb = 0 := hnb
  simp only [st0_mk, initTm, List.map_cons, List.map_nil]
  apply AW.step
  · simp
    intros; rfl
  refine AW.seq ?_
  replace h := ltE h; obtain ⟨v1, e1, h⟩ := h
  apply AW.step
  · simp [lenI_cast e1]
    intros; rfl
  refine AW.block ?_
  replace h := bnE h; obtain ⟨y3, g3, h⟩ := h
  refine AW.iterP g3 (mk := fun gh ls q => (⟨[(0, .l (.d false 6 (encPair a0))), (5, .l (.d false 6 (encPair a0))), (6, .l (.s (.int .i64 v1))), (7, .l (.s (.int .i64 q)))], [], 38, gh, ls⟩ : St)) (N := fun gh ls => (sp (xP 0 (cx := cx) (fun _ => (⟨[], [], 38, gh, ls⟩ : St))) (rP (cx := cx) (P := Try.prog) Try.f63 (fun q => .l (.s (.bool q))) (fun q => [])))) ?_ (noS noX noR) ?_ ?_
  · refine Weak.mixN [] hn0 (by decide) ?_ ?_ rfl
    all_goals first | (simp [inv_cons, inv_nil, pickOb]; done) | rfl
  · clear h; intro y2 y4 h
    replace h := ltE h; obtain ⟨v5, e5, h⟩ := h
    apply AW.step
    · simp [← e5]
      intros; rfl
    refine AW.seq ?_
    cases v5 with
    | true =>
      replace h := iteT rfl h
      refine AW.cond_true (by simp) ?_
      refine AW.skip ?_
      try simp only [sp_l, sp_r, Post.seq, Post.block, Nat.reduceEqDiff, reduceIte, Nat.zero_ne_one, Nat.one_ne_zero]
      try simp only [sp_l, sp_r, Post.seq, Post.block, Nat.reduceEqDiff, reduceIte, Nat.zero_ne_one, Nat.one_ne_zero]
      refine AW.seq ?_
      refine AW.block ?_
      replace h := bnE h; obtain ⟨v6, e6, h⟩ := h
      apply AW.step
      · simp [nth_d e6]
        intros; rfl
      replace h := bnE h; obtain ⟨y7, g7, h⟩ := h
      refine AW.flow (p := fun gh ls => (nP (cx := cx) (fun q => (⟨[(0, .l (.d false 6 (encPair a0))), (5, .l (.d false 6 (encPair a0))), (6, .l (.s (.int .i64 v1))), (7, .l (.s (.int .i64 y2))), (36, .l (.s (.bool q)))], [], 38, gh, ls⟩ : St))) y7) ?_ ?_
      · replace h := g7; clear g7
        replace h := ltE h; obtain ⟨v8, e8, h⟩ := h
        replace h := ltE h; obtain ⟨v9, e9, h⟩ := h
        cases v9 with
        | true =>
          replace h := iteT rfl h
          apply AW.drawnR (V := [_, _, _, _, _, _, _, _, _, _, _, _, _, _, _, _]) mixed [⟨[0], [], [(4, none)], false⟩, ⟨[0], [0], [(12, some 0)], false⟩, ⟨[0], [0, 1], [(13, some 1)], false⟩, ⟨[0], [0, 1, 2], [(14, some 2)], false⟩, ⟨[0], [0, 1, 2, 3], [(15, some 3)], false⟩, ⟨[0], [0, 1, 2, 3, 4], [(3, none), (16, some 4)], false⟩, ⟨[0], [0, 1, 2, 3, 4, 5], [(16, some 4), (17, some 5)], false⟩, ⟨[0], [0, 1, 2, 3, 4, 5, 6], [(16, some 4), (18, some 6)], false⟩, ⟨[0], [0, 1, 2, 3, 4, 5, 6, 7], [(0, none), (19, some 7)], false⟩, ⟨[0], [0, 1, 2, 3, 4, 5, 6, 7], [(3, none), (19, some 7)], false⟩, ⟨[0], [0, 1, 2, 3, 4, 5, 6, 7, 9], [(19, some 7), (21, some 9)], false⟩, ⟨[0], [0, 1, 2, 3, 4, 5, 6, 7, 8, 9, 10], [(19, some 7), (20, some 8), (22, some 10)], false⟩, ⟨[0], [0, 1, 2, 3, 4, 5, 6, 7, 8, 9, 10, 11], [(19, some 7), (23, some 11)], false⟩, ⟨[0], [0, 1, 2, 3, 4, 5, 6, 7, 8, 9, 10, 11, 12], [(19, some 7), (24, some 12)], false⟩, ⟨[0], [0, 1, 2, 3, 4, 5, 6, 7], [(4, none), (19, some 7)], false⟩, ⟨[0], [0, 1, 2, 3, 4, 5, 6, 7, 14], [(19, some 7), (26, some 14)], false⟩, ⟨[], [0, 1, 2, 3, 4, 5, 6, 7, 8, 9, 10, 11, 12, 13, 14, 15], [], false⟩, ⟨[], [0, 1, 2, 3, 4, 5, 6, 7, 8, 9, 10, 11, 12, 13, 14, 15, 16], [], false⟩, ⟨[], [0, 1, 2, 3, 4, 5, 6, 7, 8, 9, 10, 11, 12, 13, 14, 15, 16, 17], [], false⟩, ⟨[], [0, 1, 2, 3, 4, 5, 6, 7, 8, 9, 10, 11, 12, 13, 14, 15, 16, 17, 18], [], false⟩, ⟨[], [0, 1, 2, 3, 4, 5, 6, 7, 8, 9, 10, 11, 12, 13, 14, 15, 16, 17, 18, 19], [], false⟩, ⟨[], [0, 1, 2, 3, 4, 5, 6, 7, 8, 9, 10, 11, 12, 13, 14, 15, 16, 17, 18, 19, 20], [], false⟩, ⟨[], [0, 1, 2, 3, 4, 5, 6, 7, 8, 9, 10, 11, 12, 13, 14, 15, 16, 17, 18, 19, 20, 21], [], false⟩, ⟨[], [0, 1, 2, 3, 4, 5, 6, 7, 8, 9, 10, 11, 12, 13, 14, 15, 16, 17, 18, 19, 20, 21, 22], [], false⟩, ⟨[], [0, 1, 2, 3, 4, 5, 6, 7, 8, 9, 10, 11, 12, 13, 14, 15, 16, 17, 18, 19, 20, 21, 22, 23], [], false⟩] 16 (by kernel_rfl) (by kernel_rfl)
          · refine ⟨?_, ?_, ?_, ?_, ?_, ?_, ?_, ?_, ?_, ?_, ?_, ?_, ?_, ?_, ?_, ?_, trivial⟩
            · intro tm hr
              simp [AllL, rdV] at hr
              simp [hr, ← e8, ← e9]
              intros; first | exact KD.mk | exact KD.mkN
            · intro tm hr
              simp [AllL, rdV] at hr
              simp [hr, ← e8, ← e9]
              intros; first | exact KD.mk | exact KD.mkN
            · intro tm hr
              simp [AllL, rdV] at hr
              simp [hr, ← e8, ← e9]
              intros; first | exact KD.mk | exact KD.mkN
            · intro tm hr
              simp [AllL, rdV] at hr
              simp [hr, ← e8, ← e9]
              intros; first | exact KD.mk | exact KD.mkN
            · intro tm hr
              simp [AllL, rdV] at hr
              simp [hr, ← e8, ← e9]
              intros; first | exact KD.mk | exact KD.mkN
            · intro tm hr
              simp [AllL, rdV] at hr
              simp [hr, ← e8, ← e9]
              intros; first | exact KD.mk | exact KD.mkN
            · intro tm hr
              simp [AllL, rdV] at hr
              simp [hr, ← e8, ← e9]
              intros; first | exact KD.mk | exact KD.mkN
            · intro tm hr
              simp [AllL, rdV] at hr
              simp [hr, ← e8, ← e9]
              intros; first | exact KD.mk | exact KD.mkN
            · intro tm hr
              simp [AllL, rdV] at hr
              simp [hr, ← e8, ← e9]
              intros; first | exact KD.mk | exact KD.mkN
            · intro tm hr
              simp [AllL, rdV] at hr
              simp [hr, ← e8, ← e9]
              intros; first | exact KD.mk | exact KD.mkN
            · intro tm hr
              simp [AllL, rdV] at hr
              simp [hr, ← e8, ← e9]
              intros; first | exact KD.mk | exact KD.mkN
            · intro tm hr
              simp [AllL, rdV] at hr
              simp [hr, ← e8, ← e9]
              intros; first | exact KD.mk | exact KD.mkN
            · intro tm hr
              simp [AllL, rdV] at hr
              simp [hr, ← e8, ← e9]
              intros; first | exact KD.mk | exact KD.mkN
            · intro tm hr
              simp [AllL, rdV] at hr
              simp [hr, ← e8, ← e9]
              intros; first | exact KD.mk | exact KD.mkN
            · intro tm hr
              simp [AllL, rdV] at hr
              simp [hr, ← e8, ← e9]
              intros; first | exact KD.mk | exact KD.mkN
            · intro tm hr
              simp [AllL, rdV] at hr
              simp [hr, ← e8, ← e9]
              intros; first | exact KD.mk | exact KD.mkN
          · rfl
          · simp [tmD, putD, ← e8, ← e9]; rfl
          · simp [← e8, ← e9]
            intros; rfl
          obtain rfl := Option.some.inj h
          refine nP_i ?_
          refine Weak.mixN [] hn0 (by decide) ?_ ?_ rfl
          all_goals first | (simp [inv_cons, inv_nil, pickOb]; done) | rfl
        | false =>
          replace h := iteF rfl h
          replace h := ltE h; obtain ⟨v10, e10, h⟩ := h
          cases v10 with
          | true =>
            replace h := iteT rfl h
            replace h := ltE h; obtain ⟨v11, e11, h⟩ := h
            replace h := bnE h; obtain ⟨v12, e12, h⟩ := h
            replace h := ltE h; obtain ⟨v13, e13, h⟩ := h
            cases v13 with
            | true =>
              replace h := iteT rfl h
              apply AW.drawnR (V := [_, _, _, _, _, _, _, _, _, _, _, _, _, _, _, _]) mixed [⟨[0], [], [(4, none)], false⟩, ⟨[0], [0], [(12, some 0)], false⟩, ⟨[0], [0, 1], [(13, some 1)], false⟩, ⟨[0], [0, 1, 2], [(14, some 2)], false⟩, ⟨[0], [0, 1, 2, 3], [(15, some 3)], false⟩, ⟨[0], [0, 1, 2, 3, 4], [(3, none), (16, some 4)], false⟩, ⟨[0], [0, 1, 2, 3, 4, 5], [(16, some 4), (17, some 5)], false⟩, ⟨[0], [0, 1, 2, 3, 4, 5, 6], [(16, some 4), (18, some 6)], false⟩, ⟨[0], [0, 1, 2, 3, 4, 5, 6, 7], [(0, none), (19, some 7)], false⟩, ⟨[0], [0, 1, 2, 3, 4, 5, 6, 7], [(3, none), (19, some 7)], false⟩, ⟨[0], [0, 1, 2, 3, 4, 5, 6, 7, 9], [(19, some 7), (21, some 9)], false⟩, ⟨[0], [0, 1, 2, 3, 4, 5, 6, 7, 8, 9, 10], [(19, some 7), (20, some 8), (22, some 10)], false⟩, ⟨[0], [0, 1, 2, 3, 4, 5, 6, 7, 8, 9, 10, 11], [(19, some 7), (23, some 11)], false⟩, ⟨[0], [0, 1, 2, 3, 4, 5, 6, 7, 8, 9, 10, 11, 12], [(19, some 7), (24, some 12)], false⟩, ⟨[0], [0, 1, 2, 3, 4, 5, 6, 7], [(4, none), (19, some 7)], false⟩, ⟨[0], [0, 1, 2, 3, 4, 5, 6, 7, 14], [(19, some 7), (26, some 14)], false⟩, ⟨[], [0, 1, 2, 3, 4, 5, 6, 7, 8, 9, 10, 11, 12, 13, 14, 15], [], false⟩, ⟨[], [0, 1, 2, 3, 4, 5, 6, 7, 8, 9, 10, 11, 12, 13, 14, 15, 16], [], false⟩, ⟨[], [0, 1, 2, 3, 4, 5, 6, 7, 8, 9, 10, 11, 12, 13, 14, 15, 16, 17], [], false⟩, ⟨[], [0, 1, 2, 3, 4, 5, 6, 7, 8, 9, 10, 11, 12, 13, 14, 15, 16, 17, 18], [], false⟩, ⟨[], [0, 1, 2, 3, 4, 5, 6, 7, 8, 9, 10, 11, 12, 13, 14, 15, 16, 17, 18, 19], [], false⟩, ⟨[], [0, 1, 2, 3, 4, 5, 6, 7, 8, 9, 10, 11, 12, 13, 14, 15, 16, 17, 18, 19, 20], [], false⟩, ⟨[], [0, 1, 2, 3, 4, 5, 6, 7, 8, 9, 10, 11, 12, 13, 14, 15, 16, 17, 18, 19, 20, 21], [], false⟩, ⟨[], [0, 1, 2, 3, 4, 5, 6, 7, 8, 9, 10, 11, 12, 13, 14, 15, 16, 17, 18, 19, 20, 21, 22], [], false⟩, ⟨[], [0, 1, 2, 3, 4, 5, 6, 7, 8, 9, 10, 11, 12, 13, 14, 15, 16, 17, 18, 19, 20, 21, 22, 23], [], false⟩] 16 (by kernel_rfl) (by kernel_rfl)
              · refine ⟨?_, ?_, ?_, ?_, ?_, ?_, ?_, ?_, ?_, ?_, ?_, ?_, ?_, ?_, ?_, ?_, trivial⟩
                · intro tm hr
                  simp [AllL, rdV] at hr
                  simp [hr, ← e8, ← e9, ← e10, ← e11, nth_d e12, ← e13]
                  intros; first | exact KD.mk | exact KD.mkN
                · intro tm hr
                  simp [AllL, rdV] at hr
                  simp [hr, ← e8, ← e9, ← e10, ← e11, nth_d e12, ← e13]
                  intros; first | exact KD.mk | exact KD.mkN
                · intro tm hr
                  simp [AllL, rdV] at hr
                  simp [hr, ← e8, ← e9, ← e10, ← e11, nth_d e12, ← e13]
                  intros; first | exact KD.mk | exact KD.mkN
                · intro tm hr
                  simp [AllL, rdV] at hr
                  simp [hr, ← e8, ← e9, ← e10, ← e11, nth_d e12, ← e13]
                  intros; first | exact KD.mk | exact KD.mkN
                · intro tm hr
                  simp [AllL, rdV] at hr
                  simp [hr, ← e8, ← e9, ← e10, ← e11, nth_d e12, ← e13]
                  intros; first | exact KD.mk | exact KD.mkN
                · intro tm hr
                  simp [AllL, rdV] at hr
                  simp [hr, ← e8, ← e9, ← e10, ← e11, nth_d e12, ← e13]
                  intros; first | exact KD.mk | exact KD.mkN
                · intro tm hr
                  simp [AllL, rdV] at hr
                  simp [hr, ← e8, ← e9, ← e10, ← e11, nth_d e12, ← e13]
                  intros; first | exact KD.mk | exact KD.mkN
                · intro tm hr
                  simp [AllL, rdV] at hr
                  simp [hr, ← e8, ← e9, ← e10, ← e11, nth_d e12, ← e13]
                  intros; first | exact KD.mk | exact KD.mkN
                · intro tm hr
                  simp [AllL, rdV] at hr
                  simp [hr, ← e8, ← e9, ← e10, ← e11, nth_d e12, ← e13]
                  intros; first | exact KD.mk | exact KD.mkN
                · intro tm hr
                  simp [AllL, rdV] at hr
                  simp [hr, ← e8, ← e9, ← e10, ← e11, nth_d e12, ← e13]
                  intros; first | exact KD.mk | exact KD.mkN
                · intro tm hr
                  simp [AllL, rdV] at hr
                  simp [hr, ← e8, ← e9, ← e10, ← e11, nth_d e12, ← e13]
                  intros; first | exact KD.mk | exact KD.mkN
                · intro tm hr
                  simp [AllL, rdV] at hr
                  simp [hr, ← e8, ← e9, ← e10, ← e11, nth_d e12, ← e13]
                  intros; first | exact KD.mk | exact KD.mkN
                · intro tm hr
                  simp [AllL, rdV] at hr
                  simp [hr, ← e8, ← e9, ← e10, ← e11, nth_d e12, ← e13]
                  intros; first | exact KD.mk | exact KD.mkN
                · intro tm hr
                  simp [AllL, rdV] at hr
                  simp [hr, ← e8, ← e9, ← e10, ← e11, nth_d e12, ← e13]
                  intros; first | exact KD.mk | exact KD.mkN
                · intro tm hr
                  simp [AllL, rdV] at hr
                  simp [hr, ← e8, ← e9, ← e10, ← e11, nth_d e12, ← e13]
                  intros; first | exact KD.mk | exact KD.mkN
                · intro tm hr
                  simp [AllL, rdV] at hr
                  simp [hr, ← e8, ← e9, ← e10, ← e11, nth_d e12, ← e13]
                  intros; first | exact KD.mk | exact KD.mkN
              · rfl
              · simp [tmD, putD, ← e8, ← e9, ← e10, ← e11, nth_d e12, ← e13]; rfl
              · simp [← e8, ← e9, ← e10, ← e11, nth_d e12, ← e13]
                intros; rfl
              obtain rfl := Option.some.inj h
              refine nP_i ?_
              refine Weak.mixN [] hn0 (by decide) ?_ ?_ rfl
              all_goals first | (simp [inv_cons, inv_nil, pickOb]; done) | rfl
            | false =>
              replace h := iteF rfl h
              replace h := bnE h; obtain ⟨v14, e14, h⟩ := h
              replace h := ltE h; obtain ⟨v15, e15, h⟩ := h
              apply AW.drawnR (V := [_, _, _, _, _, _, _, _, _, _, _, _, _, _, _, _]) mixed [⟨[0], [], [(4, none)], false⟩, ⟨[0], [0], [(12, some 0)], false⟩, ⟨[0], [0, 1], [(13, some 1)], false⟩, ⟨[0], [0, 1, 2], [(14, some 2)], false⟩, ⟨[0], [0, 1, 2, 3], [(15, some 3)], false⟩, ⟨[0], [0, 1, 2, 3, 4], [(3, none), (16, some 4)], false⟩, ⟨[0], [0, 1, 2, 3, 4, 5], [(16, some 4), (17, some 5)], false⟩, ⟨[0], [0, 1, 2, 3, 4, 5, 6], [(16, some 4), (18, some 6)], false⟩, ⟨[0], [0, 1, 2, 3, 4, 5, 6, 7], [(0, none), (19, some 7)], false⟩, ⟨[0], [0, 1, 2, 3, 4, 5, 6, 7], [(3, none), (19, some 7)], false⟩, ⟨[0], [0, 1, 2, 3, 4, 5, 6, 7, 9], [(19, some 7), (21, some 9)], false⟩, ⟨[0], [0, 1, 2, 3, 4, 5, 6, 7, 8, 9, 10], [(19, some 7), (20, some 8), (22, some 10)], false⟩, ⟨[0], [0, 1, 2, 3, 4, 5, 6, 7, 8, 9, 10, 11], [(19, some 7), (23, some 11)], false⟩, ⟨[0], [0, 1, 2, 3, 4, 5, 6, 7, 8, 9, 10, 11, 12], [(19, some 7), (24, some 12)], false⟩, ⟨[0], [0, 1, 2, 3, 4, 5, 6, 7], [(4, none), (19, some 7)], false⟩, ⟨[0], [0, 1, 2, 3, 4, 5, 6, 7, 14], [(19, some 7), (26, some 14)], false⟩, ⟨[], [0, 1, 2, 3, 4, 5, 6, 7, 8, 9, 10, 11, 12, 13, 14, 15], [], false⟩, ⟨[], [0, 1, 2, 3, 4, 5, 6, 7, 8, 9, 10, 11, 12, 13, 14, 15, 16], [], false⟩, ⟨[], [0, 1, 2, 3, 4, 5, 6, 7, 8, 9, 10, 11, 12, 13, 14, 15, 16, 17], [], false⟩, ⟨[], [0, 1, 2, 3, 4, 5, 6, 7, 8, 9, 10, 11, 12, 13, 14, 15, 16, 17, 18], [], false⟩, ⟨[], [0, 1, 2, 3, 4, 5, 6, 7, 8, 9, 10, 11, 12, 13, 14, 15, 16, 17, 18, 19], [], false⟩, ⟨[], [0, 1, 2, 3, 4, 5, 6, 7, 8, 9, 10, 11, 12, 13, 14, 15, 16, 17, 18, 19, 20], [], false⟩, ⟨[], [0, 1, 2, 3, 4, 5, 6, 7, 8, 9, 10, 11, 12, 13, 14, 15, 16, 17, 18, 19, 20, 21], [], false⟩, ⟨[], [0, 1, 2, 3, 4, 5, 6, 7, 8, 9, 10, 11, 12, 13, 14, 15, 16, 17, 18, 19, 20, 21, 22], [], false⟩, ⟨[], [0, 1, 2, 3, 4, 5, 6, 7, 8, 9, 10, 11, 12, 13, 14, 15, 16, 17, 18, 19, 20, 21, 22, 23], [], false⟩] 16 (by kernel_rfl) (by kernel_rfl)
              · refine ⟨?_, ?_, ?_, ?_, ?_, ?_, ?_, ?_, ?_, ?_, ?_, ?_, ?_, ?_, ?_, ?_, trivial⟩
                · intro tm hr
                  simp [AllL, rdV] at hr
                  simp [hr, ← e8, ← e9, ← e10, ← e11, nth_d e12, ← e13, ← e15]
                  intros; first | exact KD.mk | exact KD.mkN
                · intro tm hr
                  simp [AllL, rdV] at hr
                  simp [hr, ← e8, ← e9, ← e10, ← e11, nth_d e12, ← e13, ← e15]
                  intros; first | exact KD.mk | exact KD.mkN
                · intro tm hr
                  simp [AllL, rdV] at hr
                  simp [hr, ← e8, ← e9, ← e10, ← e11, nth_d e12, ← e13, ← e15]
                  intros; first | exact KD.mk | exact KD.mkN
                · intro tm hr
                  simp [AllL, rdV] at hr
                  simp [hr, ← e8, ← e9, ← e10, ← e11, nth_d e12, ← e13, ← e15]
                  intros; first | exact KD.mk | exact KD.mkN
                · intro tm hr
                  simp [AllL, rdV] at hr
                  simp [hr, ← e8, ← e9, ← e10, ← e11, nth_d e12, ← e13, ← e15]
                  intros; first | exact KD.mk | exact KD.mkN
                · intro tm hr
                  simp [AllL, rdV] at hr
                  simp [hr, ← e8, ← e9, ← e10, ← e11, nth_d e12, ← e13, ← e15]
                  intros; first | exact KD.mk | exact KD.mkN
                · intro tm hr
                  simp [AllL, rdV] at hr
                  simp [hr, ← e8, ← e9, ← e10, ← e11, nth_d e12, ← e13, ← e15]
                  intros; first | exact KD.mk | exact KD.mkN
                · intro tm hr
                  simp [AllL, rdV] at hr
                  simp [hr, ← e8, ← e9, ← e10, ← e11, nth_d e12, ← e13, ← e15]
                  intros; first | exact KD.mk | exact KD.mkN
                · intro tm hr
                  simp [AllL, rdV] at hr
                  simp [hr, ← e8, ← e9, ← e10, ← e11, nth_d e12, ← e13, ← e15]
                  intros; first | exact KD.mk | exact KD.mkN
                · intro tm hr
                  simp [AllL, rdV] at hr
                  simp [hr, ← e8, ← e9, ← e10, ← e11, nth_d e12, ← e13, ← e15]
                  intros; first | exact KD.mk | exact KD.mkN
                · intro tm hr
                  simp [AllL, rdV] at hr
                  simp [hr, ← e8, ← e9, ← e10, ← e11, nth_d e12, ← e13, ← e15]
                  intros; first | exact KD.mk | exact KD.mkN
                · intro tm hr
                  simp [AllL, rdV] at hr
                  simp [hr, ← e8, ← e9, ← e10, ← e11, nth_d e12, ← e13, ← e15]
                  intros; first | exact KD.mk | exact KD.mkN
                · intro tm hr
                  simp [AllL, rdV] at hr
                  simp [hr, ← e8, ← e9, ← e10, ← e11, nth_d e12, ← e13, ← e15]
                  intros; first | exact KD.mk | exact KD.mkN
                · intro tm hr
                  simp [AllL, rdV] at hr
                  simp [hr, ← e8, ← e9, ← e10, ← e11, nth_d e12, ← e13, ← e15]
                  intros; first | exact KD.mk | exact KD.mkN
                · intro tm hr
                  simp [AllL, rdV] at hr
                  simp [hr, ← e8, ← e9, ← e10, ← e11, nth_d e12, ← e13, ← e15]
                  intros; first | exact KD.mk | exact KD.mkN
                · intro tm hr
                  simp [AllL, rdV] at hr
                  simp [hr, ← e8, ← e9, ← e10, ← e11, nth_d e12, ← e13, ← e15]
                  intros; first | exact KD.mk | exact KD.mkN
              · rfl
              · simp [tmD, putD, ← e8, ← e9, ← e10, ← e11, nth_d e12, ← e13, ← e15]; rfl
              · simp [← e8, ← e9, ← e10, ← e11, nth_d e12, ← e13, ← e15]
                intros
                refine xcall_plain en_item_May (s_item_May e14) rfl ⟨.same rfl, trivial⟩ ?_
                try simp [← e8, ← e9, ← e10, ← e11, nth_d e12, ← e13, ← e15]
                intros; rfl
              obtain rfl := Option.some.inj h
              refine nP_i ?_
              refine Weak.mixN [] hn0 (by decide) ?_ ?_ rfl
              all_goals first | (simp [inv_cons, inv_nil, pickOb]; done) | rfl
          | false =>
            replace h := iteF rfl h
            replace h := bnE h; obtain ⟨v16, e16, h⟩ := h
            replace h := ltE h; obtain ⟨v17, e17, h⟩ := h
            apply AW.drawnR (V := [_, _, _, _, _, _, _, _, _, _, _, _, _, _, _, _]) mixed [⟨[0], [], [(4, none)], false⟩, ⟨[0], [0], [(12, some 0)], false⟩, ⟨[0], [0, 1], [(13, some 1)], false⟩, ⟨[0], [0, 1, 2], [(14, some 2)], false⟩, ⟨[0], [0, 1, 2, 3], [(15, some 3)], false⟩, ⟨[0], [0, 1, 2, 3, 4], [(3, none), (16, some 4)], false⟩, ⟨[0], [0, 1, 2, 3, 4, 5], [(16, some 4), (17, some 5)], false⟩, ⟨[0], [0, 1, 2, 3, 4, 5, 6], [(16, some 4), (18, some 6)], false⟩, ⟨[0], [0, 1, 2, 3, 4, 5, 6, 7], [(0, none), (19, some 7)], false⟩, ⟨[0], [0, 1, 2, 3, 4, 5, 6, 7], [(3, none), (19, some 7)], false⟩, ⟨[0], [0, 1, 2, 3, 4, 5, 6, 7, 9], [(19, some 7), (21, some 9)], false⟩, ⟨[0], [0, 1, 2, 3, 4, 5, 6, 7, 8, 9, 10], [(19, some 7), (20, some 8), (22, some 10)], false⟩, ⟨[0], [0, 1, 2, 3, 4, 5, 6, 7, 8, 9, 10, 11], [(19, some 7), (23, some 11)], false⟩, ⟨[0], [0, 1, 2, 3, 4, 5, 6, 7, 8, 9, 10, 11, 12], [(19, some 7), (24, some 12)], false⟩, ⟨[0], [0, 1, 2, 3, 4, 5, 6, 7], [(4, none), (19, some 7)], false⟩, ⟨[0], [0, 1, 2, 3, 4, 5, 6, 7, 14], [(19, some 7), (26, some 14)], false⟩, ⟨[], [0, 1, 2, 3, 4, 5, 6, 7, 8, 9, 10, 11, 12, 13, 14, 15], [], false⟩, ⟨[], [0, 1, 2, 3, 4, 5, 6, 7, 8, 9, 10, 11, 12, 13, 14, 15, 16], [], false⟩, ⟨[], [0, 1, 2, 3, 4, 5, 6, 7, 8, 9, 10, 11, 12, 13, 14, 15, 16, 17], [], false⟩, ⟨[], [0, 1, 2, 3, 4, 5, 6, 7, 8, 9, 10, 11, 12, 13, 14, 15, 16, 17, 18], [], false⟩, ⟨[], [0, 1, 2, 3, 4, 5, 6, 7, 8, 9, 10, 11, 12, 13, 14, 15, 16, 17, 18, 19], [], false⟩, ⟨[], [0, 1, 2, 3, 4, 5, 6, 7, 8, 9, 10, 11, 12, 13, 14, 15, 16, 17, 18, 19, 20], [], false⟩, ⟨[], [0, 1, 2, 3, 4, 5, 6, 7, 8, 9, 10, 11, 12, 13, 14, 15, 16, 17, 18, 19, 20, 21], [], false⟩, ⟨[], [0, 1, 2, 3, 4, 5, 6, 7, 8, 9, 10, 11, 12, 13, 14, 15, 16, 17, 18, 19, 20, 21, 22], [], false⟩, ⟨[], [0, 1, 2, 3, 4, 5, 6, 7, 8, 9, 10, 11, 12, 13, 14, 15, 16, 17, 18, 19, 20, 21, 22, 23], [], false⟩] 16 (by kernel_rfl) (by kernel_rfl)
            · refine ⟨?_, ?_, ?_, ?_, ?_, ?_, ?_, ?_, ?_, ?_, ?_, ?_, ?_, ?_, ?_, ?_, trivial⟩
              · intro tm hr
                simp [AllL, rdV] at hr
                simp [hr, ← e8, ← e9, ← e10, ← e17]
                intros; first | exact KD.mk | exact KD.mkN
              · intro tm hr
                simp [AllL, rdV] at hr
                simp [hr, ← e8, ← e9, ← e10, ← e17]
                intros; first | exact KD.mk | exact KD.mkN
              · intro tm hr
                simp [AllL, rdV] at hr
                simp [hr, ← e8, ← e9, ← e10, ← e17]
                intros; first | exact KD.mk | exact KD.mkN
              · intro tm hr
                simp [AllL, rdV] at hr
                simp [hr, ← e8, ← e9, ← e10, ← e17]
                intros; first | exact KD.mk | exact KD.mkN
              · intro tm hr
                simp [AllL, rdV] at hr
                simp [hr, ← e8, ← e9, ← e10, ← e17]
                intros; first | exact KD.mk | exact KD.mkN
              · intro tm hr
                simp [AllL, rdV] at hr
                simp [hr, ← e8, ← e9, ← e10, ← e17]
                intros; first | exact KD.mk | exact KD.mkN
              · intro tm hr
                simp [AllL, rdV] at hr
                simp [hr, ← e8, ← e9, ← e10, ← e17]
                intros; first | exact KD.mk | exact KD.mkN
              · intro tm hr
                simp [AllL, rdV] at hr
                simp [hr, ← e8, ← e9, ← e10, ← e17]
                intros; first | exact KD.mk | exact KD.mkN
              · intro tm hr
                simp [AllL, rdV] at hr
                simp [hr, ← e8, ← e9, ← e10, ← e17]
                intros; first | exact KD.mk | exact KD.mkN
              · intro tm hr
                simp [AllL, rdV] at hr
                simp [hr, ← e8, ← e9, ← e10, ← e17]
                intros; first | exact KD.mk | exact KD.mkN
              · intro tm hr
                simp [AllL, rdV] at hr
                simp [hr, ← e8, ← e9, ← e10, ← e17]
                intros; first | exact KD.mk | exact KD.mkN
              · intro tm hr
                simp [AllL, rdV] at hr
                simp [hr, ← e8, ← e9, ← e10, ← e17]
                intros; first | exact KD.mk | exact KD.mkN
              · intro tm hr
                simp [AllL, rdV] at hr
                simp [hr, ← e8, ← e9, ← e10, ← e17]
                intros; first | exact KD.mk | exact KD.mkN
              · intro tm hr
                simp [AllL, rdV] at hr
                simp [hr, ← e8, ← e9, ← e10, ← e17]
                intros; first | exact KD.mk | exact KD.mkN
              · intro tm hr
                simp [AllL, rdV] at hr
                simp [hr, ← e8, ← e9, ← e10, ← e17]
                intros; first | exact KD.mk | exact KD.mkN
              · intro tm hr
                simp [AllL, rdV] at hr
                simp [hr, ← e8, ← e9, ← e10, ← e17]
                intros; first | exact KD.mk | exact KD.mkN
            · rfl
            · simp [tmD, putD, ← e8, ← e9, ← e10, ← e17]; rfl
            · simp [← e8, ← e9, ← e10, ← e17]
              intros
              refine xcall_plain en_item_May (s_item_May e16) rfl ⟨.same rfl, trivial⟩ ?_
              try simp [← e8, ← e9, ← e10, ← e17]
              intros; rfl
            obtain rfl := Option.some.inj h
            refine nP_i ?_
            refine Weak.mixN [] hn0 (by decide) ?_ ?_ rfl
            all_goals first | (simp [inv_cons, inv_nil, pickOb]; done) | rfl
      · rintro e s hp
        obtain ⟨rfl, hw⟩ := hp
        refine ⟨_, hw, ?_⟩
        try simp only [sp_l, sp_r, Post.seq, Post.block, Nat.reduceEqDiff, reduceIte, Nat.zero_ne_one, Nat.one_ne_zero]
        replace h := ltE h; obtain ⟨v18, e18, h⟩ := h
        rw [← e18]
        cases v18 with
        | true =>
          replace h := iteT rfl h
          refine AW.cond_true (by simp) ?_
          apply AW.step
          · simp
            intros; rfl
          obtain rfl := Option.some.inj h
          refine AW.ret ?_
          try simp only [sp_l, sp_r, Post.seq, Post.block, Nat.reduceEqDiff, reduceIte, Nat.zero_ne_one, Nat.one_ne_zero]
          refine rP_i ?_
          refine Left.plain hnb (by simp [Try.f63, resV, resC, comp]; rfl) rfl rfl ?_
          simp
        | false =>
          replace h := iteF rfl h
          refine AW.cond_false (by simp) ?_
          refine AW.skip ?_
          try simp only [sp_l, sp_r, Post.seq, Post.block, Nat.reduceEqDiff, reduceIte, Nat.zero_ne_one, Nat.one_ne_zero]
          try simp only [sp_l, sp_r, Post.seq, Post.block, Nat.reduceEqDiff, reduceIte, Nat.zero_ne_one, Nat.one_ne_zero]
          replace h := ltE h; obtain ⟨v19, e19, h⟩ := h
          apply AW.last
          · simp [← e19]
            intros; rfl
          obtain rfl := Option.some.inj h
          refine nP_i ?_
          refine Weak.mixN [] hn0 (by decide) ?_ ?_ rfl
          all_goals first | (simp [inv_cons, inv_nil, pickOb]; done) | rfl
    | false =>
      replace h := iteF rfl h
      refine AW.cond_false (by simp) ?_
      refine AW.exit ?_
      try simp only [sp_l, sp_r, Post.seq, Post.block, Nat.reduceEqDiff, reduceIte, Nat.zero_ne_one, Nat.one_ne_zero]
      obtain rfl := Option.some.inj h
      try simp only [sp_l, sp_r]
      refine xP_i ?_
      refine Weak.mixN [] hn0 (by decide) ?_ ?_ rfl
      all_goals first | (simp [inv_cons, inv_nil, pickOb]; done) | rfl
  · rintro e s hp
    rcases y3 with y20 | y21
    · replace h := smL h
      obtain ⟨rfl, hw⟩ := hp
      refine ⟨_, hw, ?_⟩
      try simp only [sp_l, sp_r, Post.seq, Post.block, Nat.reduceEqDiff, reduceIte, Nat.zero_ne_one, Nat.one_ne_zero]
      apply AW.step
      · simp
        intros; rfl
      obtain rfl := Option.some.inj h
      refine AW.ret ?_
      refine Left.plain hnb (by simp [Try.f63, resV, resC, comp]; rfl) rfl rfl ?_
      simp
    · replace h := smR h
      obtain ⟨rfl, hl⟩ := hp
      refine ⟨_, Weak.refl _, ?_⟩
      obtain rfl := Option.some.inj h
      exact hl
theorem en_space_May : Enters Try.prog 63 := enters Try.func63 (by kernel_rfl) rfl
end Go.Proofs.Ytlkhfdccapkcdaa

/- Plain laws: what may be, for the program as for the document. -/
namespace Go.Proofs.Ytlkhfdccapkcdaa
open Go Go.RowKit
set_option linter.unusedVariables false
set_option linter.unusedSimpArgs false
theorem gtT {a b : Int} (h : b < a) : gtI a b = true := decide_eq_true h
theorem gtF {a b : Int} (h : ¬ b < a) : gtI a b = false := decide_eq_false h
theorem gtI_iff {a b : Int} : gtI a b = false ↔ a ≤ b := ⟨gtI_n, fun h => gtF (by omega)⟩
theorem ltI_iff {a b : Int} : ltI a b = false ↔ b ≤ a := ⟨fun h => ltI_n h, fun h => ltI_f (by omega)⟩
theorem leI_iff {a b : Int} : leI a b = true ↔ a ≤ b := ⟨fun h => leI_d h, fun h => decide_eq_true h⟩
theorem geI_iff {a b : Int} : geI a b = true ↔ b ≤ a := ⟨fun h => geI_d h, fun h => decide_eq_true h⟩
theorem gt300_t {s : ByteArray} (h : ¬ s.size ≤ 300) : gtI (lenS s) 300 = true := gtT (by simp only [lenS]; omega)
theorem gt300_f {s : ByteArray} (h : s.size ≤ 300) : gtI (lenS s) 300 = false := gtF (by simp only [lenS]; omega)
theorem gt40_t {s : ByteArray} (h : ¬ s.size ≤ 40) : gtI (lenS s) 40 = true := gtT (by simp only [lenS]; omega)
theorem gt40_f {s : ByteArray} (h : s.size ≤ 40) : gtI (lenS s) 40 = false := gtF (by simp only [lenS]; omega)
/-- Rounds that end at the first place that is not as it should be. -/
theorem allN {ρ : Type} (n : Nat) (hn : n < big) (ok : Nat → Prop) (r : ρ) (f : Int → Option (Int ⊕ (Unit ⊕ ρ))) (h1 : ∀ i, i < n → ok i → f (i : Int) = some (.inl ((i + 1 : Nat) : Int)))
    (h2 : ∀ i, i < n → ¬ ok i → f (i : Int) = some (.inr (.inr r))) (he : f (n : Int) = some (.inr (.inl ()))) : Rn (iter big f 0) fun y => (y = .inl () ∧ ∀ i, i < n → ok i) ∨ (y = .inr r ∧ ∃ i, i < n ∧ ¬ ok i) := by
  refine Rn.iter _ (fun q a => a = (q : Int) ∧ ∀ i, i < q → ok i) n hn ⟨rfl, fun i h => by omega⟩ fun q a hq hI => ?_
  obtain ⟨rfl, hI⟩ := hI
  by_cases hl : q < n
  · by_cases h : ok q
    · rw [h1 q hl h]
      refine ⟨_, rfl, hl, rfl, fun i hi => ?_⟩
      by_cases hiq : i = q
      · subst hiq; exact h
      · exact hI i (by omega)
    · rw [h2 q hl h]
      exact ⟨_, rfl, .inr ⟨rfl, q, hl, h⟩⟩
  · obtain rfl : q = n := by omega
    rw [he]
    exact ⟨_, rfl, .inl ⟨rfl, hI⟩⟩
/-- Rises at a place. -/
def risesAt {α : Type} (key : α → ByteArray) (l : List α) (i : Nat) : Prop := ∀ (h : 0 < i) (hi : i < l.length), slt (key l[i - 1]) (key l[i]) = true
def rises {α : Type} (key : α → ByteArray) (l : List α) : Prop := l.Pairwise fun a b => slt (key a) (key b) = true
theorem rises_iff {α : Type} (key : α → ByteArray) (l : List α) : rises key l ↔ ∀ i, i < l.length → risesAt key l i := by
  constructor
  · intro h i hi h0 hi2
    exact List.pairwise_iff_getElem.1 h (i - 1) i (by omega) hi2 (by omega)
  · intro h
    refine List.pairwise_iff_getElem.2 fun i j hi hj hij => ?_
    obtain ⟨d, rfl⟩ : ∃ d, j = i + 1 + d := ⟨j - (i + 1), by omega⟩
    clear hij
    induction d with
    | zero => exact h (i + 1) hj (by omega) hj
    | succ d ih => exact slt_trans (ih (by omega)) (h (i + 1 + (d + 1)) hj (by omega) hj)
def okFld (x : Field) : Prop := x.name.size ≤ 300 ∧ x.val.size ≤ 300
def shapeI (it : Item) : Prop := (it.kind = 1 ∧ it.f = [] ∧ it.l = []) ∨ (it.kind = 2 ∧ it.s = ⟨#[]⟩ ∧ it.l = [] ∧ it.f ≠ []) ∨ ((it.kind = 3 ∨ it.kind = 4) ∧ it.s = ⟨#[]⟩ ∧ it.f = [] ∧ it.l ≠ [])
def sizesI (it : Item) : Prop := it.s.size ≤ 300 ∧ (∀ x ∈ it.f, okFld x) ∧ ∀ x ∈ it.l, x.size ≤ 300
def mayI (it : Item) : Prop := shapeI it ∧ sizesI it ∧ it.f.length ≤ 40 ∧ it.l.length ≤ 40 ∧ 0 ≤ it.exp ∧ it.exp ≤ 9007199254740992 ∧ rises (fun x : Field => x.name) it.f ∧ (it.kind = 4 → rises (fun x => x) it.l)
theorem len0 {α : Type} (l : List α) : eqI (lenI l) 0 = decide (l = []) := by
  cases l with
  | nil => rfl
  | cons x l => rw [decide_eq_false (by simp)]; exact decide_eq_false (by simp only [lenI, List.length_cons]; omega)
/-! ### The program's -/
theorem risingLoop {α : Type} (key : α → ByteArray) (l : List α) (hl : l.length ≤ 140737488355328) :
    Rn (bn (lt (lenI l) fun v2 => bn (iter big (fun (y3 : Int × Bool × ByteArray) => lt (ltI y3.1 v2) fun v6 => ite' v6 (bn (nth l y3.1) fun v7 => bn (bn (lt (notB y3.2.1) fun v10 => ite' v10 (lt (leS (key v7) y3.2.2) fun v11 => some (v11)) (some (false))) fun (y9 : Bool) => lt (y9) fun v12 => ite' v12 (some (.inr ())) (some (.inl ()))) fun (y8 : Unit ⊕ Unit) =>
      sm y8 (fun y13 => lt (addI .i64 y3.1 1) fun v15 => some (.inl (v15, false, key v7))) (fun y14 => some (.inr (.inr (y3.2.1, y3.2.2))))) (some (.inr (.inl (y3.2.1, y3.2.2))))) (0, true, ⟨#[]⟩)) fun (y4 : (Bool × ByteArray) ⊕ (Bool × ByteArray)) => sm y4 (fun y16 => some (.inl ())) (fun y17 => some (.inr false))) fun (y1 : Unit ⊕ Bool) => sm y1 (fun y18 => some true) (fun y19 => some y19))
      fun b => (b = true ↔ rises key l) := by
  refine Rn.bn (P := fun y => (y = .inl () ∧ rises key l) ∨ (y = .inr false ∧ ¬ rises key l)) ?_ fun y hy => ?_
  · refine Rn.lt (Rn.bn (P := fun y => (∃ z, y = .inl z ∧ rises key l) ∨ (∃ z, y = .inr z ∧ ¬ rises key l)) (Rn.iter _ (fun q a => a.1 = (q : Int) ∧ (a.2.1 = true ↔ q = 0) ∧ (∀ (h : 0 < q) (hq : q - 1 < l.length), a.2.2 = key l[q - 1]) ∧ ∀ i, i < q → risesAt key l i) l.length (by unfold big; omega) ⟨rfl, by simp, fun h => by omega, fun i h => by omega⟩ fun q a hq hI => ?_) fun y hy => ?_)
    · obtain ⟨i, first, ahead⟩ := a
      obtain ⟨rfl, h1, h2, h3⟩ := hI
      simp only at h1 h2
      simp only [lt_eq, bn_some, ite_t, ite_f, sm_inl, sm_inr, lenI_eq, Option.some.injEq]
      by_cases hl2 : q < l.length
      · rw [ltI_t (by omega), nth_some hl2]
        simp only [lt_eq, bn_some, ite_t, ite_f, sm_inl, sm_inr, lenI_eq, Option.some.injEq]
        by_cases hr : risesAt key l q
        · have e : ite' (notB first) (some (leS (key l[q]) ahead)) (some false) = some false := by
            cases first
            · have hq0 : 0 < q := by
                apply Nat.pos_of_ne_zero
                intro h
                simpa using h1.2 h
              rw [h2 hq0 (by omega), notB_f, ite_t]
              simp [leS, hr hq0 hl2]
            · rfl
          rw [e]
          simp only [lt_eq, bn_some, ite_t, ite_f, sm_inl, sm_inr, lenI_eq, Option.some.injEq]
          refine ⟨_, rfl, hl2, ?_, by simp, fun _ _ => by simp, fun i hi => ?_⟩
          · rw [addI_64 (by omega) (by omega)]; omega
          · by_cases hiq : i = q
            · subst hiq; exact hr
            · exact h3 i (by omega)
        · have hq0 : 0 < q := by
            apply Nat.pos_of_ne_zero
            intro h
            exact hr fun h0 => by omega
          have hf : first = false := by
            cases first
            · rfl
            · have := h1.1 rfl
              omega
          subst hf
          have hn : slt (key l[q - 1]) (key l[q]) = false := by
            cases h : slt (key l[q - 1]) (key l[q])
            · rfl
            · exact absurd (fun _ _ => h) hr
          rw [h2 hq0 (by omega), notB_f, ite_t]
          simp only [leS, hn, lt_eq, bn_some, ite_t, ite_f, sm_inl, sm_inr, lenI_eq, Option.some.injEq, Bool.not_false]
          exact ⟨_, rfl, .inr ⟨_, rfl, fun h => hr ((rises_iff key l).1 h q hl2)⟩⟩
      · obtain rfl : q = l.length := by omega
        rw [ltI_f (by omega)]
        exact ⟨_, rfl, .inl ⟨_, rfl, (rises_iff key l).2 h3⟩⟩
    · rcases hy with ⟨z, rfl, h⟩ | ⟨z, rfl, h⟩
      · exact ⟨_, rfl, .inl ⟨rfl, h⟩⟩
      · exact ⟨_, rfl, .inr ⟨rfl, h⟩⟩
  · rcases hy with ⟨rfl, h⟩ | ⟨rfl, h⟩
    · exact ⟨_, rfl, by simp [h]⟩
    · exact ⟨_, rfl, by simp [h]⟩
theorem rising_f (l : List Field) (hl : l.length ≤ 140737488355328) : Rn (item_rising_sh big l) fun b => (b = true ↔ rises (fun x : Field => x.name) l) := risingLoop (fun x : Field => x.name) l hl
theorem rising_l (l : List ByteArray) (hl : l.length ≤ 140737488355328) : Rn (item_rising_k143_sh big l) fun b => (b = true ↔ rises (fun x => x) l) := risingLoop (fun x => x) l hl
def shapeP (it : Item) : Prop := shapeI it ∧ it.f.length ≤ 40 ∧ it.l.length ≤ 40 ∧ rises (fun x : Field => x.name) it.f ∧ (it.kind = 4 → rises (fun x => x) it.l)
theorem some_ok {α : Type} (l : List α) : item_some_sh big (lenI l) = some (decide (l ≠ [] ∧ l.length ≤ 40)) := by
  unfold item_some_sh
  simp only [lt_eq, ite_and, bn_some]
  congr 1
  rw [Bool.eq_iff_iff]
  simp only [Bool.and_eq_true, decide_eq_true_eq, leI_iff, geI_iff, lenI]
  cases l with
  | nil => simp
  | cons x l =>
    simp only [List.length_cons, ne_eq, reduceCtorEq, not_false_eq_true, true_and]
    constructor
    · rintro ⟨-, h⟩
      omega
    · intro h
      omega
theorem rises_nil {α : Type} (key : α → ByteArray) : rises key [] := .nil
theorem shaped_iff (it : Item) (ho : okI it) : Rn (item_shaped_sh big it) fun b => (b = true ↔ shapeP it) := by
  unfold item_shaped_sh
  obtain ⟨o1, o2⟩ := ho
  refine Rn.lt (Rn.ite (fun h1 => ?_) (fun h1 => Rn.lt (Rn.ite (fun h2 => ?_) (fun h2 => Rn.lt (Rn.ite (fun h3 => ?_) (fun h3 => Rn.lt (Rn.ite (fun h4 => ?_) (fun h4 => ?_))))))))
  · have h1 : it.kind = 1 := by simpa [eqI] using h1
    refine Rn.lt (Rn.lt (Rn.lt (Rn.lt (Rn.some ?_))))
    simp only [lenI]
    rw [addI_64 (by omega) (by omega)]
    unfold shapeP shapeI
    simp only [h1, eqI, decide_eq_true_eq]
    constructor
    · intro h
      have hf : it.f = [] := List.length_eq_zero_iff.1 (by omega)
      have hl : it.l = [] := List.length_eq_zero_iff.1 (by omega)
      simp [hf, hl, rises_nil]
    · intro h
      simp at h
      simp [h.1]
  · have h2 : it.kind = 2 := by simpa [eqI] using h2
    refine Rn.bn (P := fun b => (b = true ↔ shapeP it)) ?_ fun b hb => Rn.some hb
    refine Rn.lt (Rn.ite (fun hs => ?_) (fun hs => Rn.some ?_))
    rotate_left
    · have hs : it.s ≠ ⟨#[]⟩ := by simpa [eqS] using hs
      simp [shapeP, shapeI, h2, hs]
    have hs : it.s = ⟨#[]⟩ := by simpa [eqS] using hs
    refine Rn.lt (Rn.lt ?_)
    rw [len0]
    refine Rn.ite (fun hl => ?_) (fun hl => Rn.some ?_)
    rotate_left
    · have hl : it.l ≠ [] := by simpa using hl
      simp [shapeP, shapeI, h2, hl]
    have hl : it.l = [] := by simpa using hl
    refine Rn.lt (Rn.bnE (some_ok it.f) (Rn.ite (fun hf => ?_) (fun hf => Rn.some ?_)))
    rotate_left
    · have hf : ¬ (it.f ≠ [] ∧ it.f.length ≤ 40) := of_decide_eq_false hf
      unfold shapeP shapeI
      simp only [h2, hs, hl]
      constructor
      · intro h; simp at h
      · rintro ⟨h, h', -⟩
        simp at h
        exact absurd ⟨h, h'⟩ hf
    have hf : it.f ≠ [] ∧ it.f.length ≤ 40 := of_decide_eq_true hf
    unfold item_names_sh
    refine Rn.bnE rfl (Rn.bn (rising_f it.f (by omega)) fun b hb => Rn.some (hb.trans ?_))
    unfold shapeP shapeI
    simp [h2, hs, hl, hf.1, hf.2]
  · have h3 : it.kind = 3 := by simpa [eqI] using h3
    refine Rn.bn (P := fun b => (b = true ↔ shapeP it)) ?_ fun b hb => Rn.some hb
    refine Rn.lt (Rn.ite (fun hs => ?_) (fun hs => Rn.some ?_))
    rotate_left
    · have hs : it.s ≠ ⟨#[]⟩ := by simpa [eqS] using hs
      simp [shapeP, shapeI, h3, hs]
    have hs : it.s = ⟨#[]⟩ := by simpa [eqS] using hs
    refine Rn.lt (Rn.lt ?_)
    rw [len0]
    refine Rn.ite (fun hf => ?_) (fun hf => Rn.some ?_)
    rotate_left
    · have hf : it.f ≠ [] := by simpa using hf
      simp [shapeP, shapeI, h3, hf]
    have hf : it.f = [] := by simpa using hf
    refine Rn.lt (Rn.bnE (some_ok it.l) (Rn.some ?_))
    unfold shapeP shapeI
    simp [h3, hs, hf, rises_nil]
  · have h4 : it.kind = 4 := by simpa [eqI] using h4
    refine Rn.bn (P := fun b => (b = true ↔ shapeP it)) ?_ fun b hb => Rn.some hb
    refine Rn.lt (Rn.ite (fun hs => ?_) (fun hs => Rn.some ?_))
    rotate_left
    · have hs : it.s ≠ ⟨#[]⟩ := by simpa [eqS] using hs
      simp [shapeP, shapeI, h4, hs]
    have hs : it.s = ⟨#[]⟩ := by simpa [eqS] using hs
    refine Rn.lt (Rn.lt ?_)
    rw [len0]
    refine Rn.ite (fun hf => ?_) (fun hf => Rn.some ?_)
    rotate_left
    · have hf : it.f ≠ [] := by simpa using hf
      simp [shapeP, shapeI, h4, hf]
    have hf : it.f = [] := by simpa using hf
    refine Rn.lt (Rn.bnE (some_ok it.l) (Rn.ite (fun hl => ?_) (fun hl => Rn.some ?_)))
    rotate_left
    · have hl : ¬ (it.l ≠ [] ∧ it.l.length ≤ 40) := of_decide_eq_false hl
      unfold shapeP shapeI
      simp only [h4, hs, hf]
      constructor
      · intro h; simp at h
      · rintro ⟨h, -, h', -⟩
        simp at h
        exact absurd ⟨h, h'⟩ hl
    have hl : it.l ≠ [] ∧ it.l.length ≤ 40 := of_decide_eq_true hl
    unfold slices_Values_string_sh
    refine Rn.bnE rfl (Rn.bn (rising_l it.l (by omega)) fun b hb => Rn.some (hb.trans ?_))
    unfold shapeP shapeI
    simp [h4, hs, hf, hl.1, hl.2, rises_nil]
  · have h1 : it.kind ≠ 1 := by simpa [eqI] using h1
    have h2 : it.kind ≠ 2 := by simpa [eqI] using h2
    have h3 : it.kind ≠ 3 := by simpa [eqI] using h3
    have h4 : it.kind ≠ 4 := by simpa [eqI] using h4
    refine Rn.some ?_
    simp [shapeP, shapeI, h1, h2, h3, h4]
theorem item_May_iff (it : Item) (ho : okI it) : Rn (item_May_sh big it) fun b => (b = true ↔ mayI it) := by
  unfold item_May_sh
  refine Rn.bn (P := fun b => (b = false ↔ (shapeP it ∧ 0 ≤ it.exp ∧ it.exp ≤ 9007199254740992))) ?_ fun b hb => Rn.lt (Rn.ite (fun hd => Rn.some ?_) (fun hd => ?_))
  · obtain ⟨v, hv, hv2⟩ := shaped_iff it ho
    refine Rn.bnE hv ⟨_, by simp only [lt_eq, ite_or]; rfl, ?_⟩
    cases v
    · have : ¬ shapeP it := fun h => by simpa using hv2.2 h
      simp [notB, this]
    · have : shapeP it := hv2.1 rfl
      simp only [this, notB_t, Bool.false_or, gtI_iff, ltI_iff, Bool.or_eq_false_iff, true_and]
  · have hno : ¬ mayI it := fun h => by
      have := hb.2 ⟨⟨h.1, h.2.2.1, h.2.2.2.1, h.2.2.2.2.2.2⟩, h.2.2.2.2.1, h.2.2.2.2.2.1⟩
      rw [hd] at this
      simp at this
    simp [hno]
  · obtain ⟨⟨b1, b2, b3, b4⟩, b5, b6⟩ := hb.1 hd
    refine Rn.bn (P := fun y => (y = .inl () ∧ sizesI it) ∨ (y = .inr false ∧ ¬ sizesI it)) ?_ fun y hy => ?_
    rotate_left
    · rcases hy with ⟨rfl, h⟩ | ⟨rfl, h⟩
      · exact ⟨_, rfl, fun _ => ⟨b1, h, b2, b3, b5, b6, b4⟩, fun _ => rfl⟩
      · have : ¬ mayI it := fun hm => h hm.2.1
        exact ⟨_, rfl, by simp [this]⟩
    unfold item_texts_sh
    refine Rn.bnE rfl ?_
    by_cases hs : it.s.size ≤ 300
    rotate_left
    · have : ¬ sizesI it := fun h => hs h.1
      refine ⟨_, by simp only [lt_eq]; rw [gt300_t (s := it.s) (by omega)]; rfl, .inr ⟨rfl, this⟩⟩
    simp only [lt_eq]
    rw [gt300_f (s := it.s) (by omega)]
    simp only [lt_eq, bn_some, ite_t, ite_f, sm_inl, sm_inr, lenI_eq, Option.some.injEq]
    refine Rn.bn (allN it.f.length (by unfold big; omega) (fun i => (hi : i < it.f.length) → okFld it.f[i]) () _ (fun i hi hok => ?_) (fun i hi hok => ?_) ?_) fun y hy => ?_
    · obtain ⟨o1, o2⟩ := hok hi
      rw [ltI_t (by omega), nth_some hi]
      simp only [lt_eq, bn_some, ite_t, ite_f, sm_inl, sm_inr, lenI_eq, Option.some.injEq]
      rw [gt300_f (s := it.f[i].name) (by omega), gt300_f (s := it.f[i].val) (by omega)]
      simp only [lt_eq, bn_some, ite_t, ite_f, sm_inl, sm_inr, lenI_eq, Option.some.injEq]
      rw [addI_64 (by omega) (by omega)]
      rfl
    · rw [ltI_t (by omega), nth_some hi]
      simp only [lt_eq, bn_some, ite_t, ite_f, sm_inl, sm_inr, lenI_eq, Option.some.injEq]
      by_cases o1 : it.f[i].name.size ≤ 300
      · by_cases o2 : it.f[i].val.size ≤ 300
        · exact absurd (fun _ => ⟨o1, o2⟩) hok
        · rw [gt300_f (s := it.f[i].name) (by omega), gt300_t (s := it.f[i].val) (by omega)]
          rfl
      · rw [gt300_t (s := it.f[i].name) (by omega)]
        rfl
    · rw [ltI_f (by omega)]
      rfl
    · rcases hy with ⟨rfl, hy⟩ | ⟨rfl, i, hi, hy⟩
      rotate_left
      · have : ¬ sizesI it := fun h => hy fun _ => h.2.1 _ (List.getElem_mem hi)
        exact ⟨_, rfl, .inr ⟨rfl, this⟩⟩
      simp only [lt_eq, bn_some, ite_t, ite_f, sm_inl, sm_inr, lenI_eq, Option.some.injEq]
      refine Rn.bn (allN it.l.length (by unfold big; omega) (fun i => (hi : i < it.l.length) → it.l[i].size ≤ 300) () _ (fun i hi hok => ?_) (fun i hi hok => ?_) ?_) fun y hy2 => ?_
      · have o1 := hok hi
        rw [ltI_t (by omega), nth_some hi]
        simp only [lt_eq, bn_some, ite_t, ite_f, sm_inl, sm_inr, lenI_eq, Option.some.injEq]
        rw [gt300_f (s := it.l[i]) (by omega)]
        simp only [lt_eq, bn_some, ite_t, ite_f, sm_inl, sm_inr, lenI_eq, Option.some.injEq]
        rw [addI_64 (by omega) (by omega)]
        rfl
      · rw [ltI_t (by omega), nth_some hi]
        simp only [lt_eq, bn_some, ite_t, ite_f, sm_inl, sm_inr, lenI_eq, Option.some.injEq]
        by_cases o1 : it.l[i].size ≤ 300
        · exact absurd (fun _ => o1) hok
        · rw [gt300_t (s := it.l[i]) (by omega)]
          rfl
      · rw [ltI_f (by omega)]
        rfl
      · rcases hy2 with ⟨rfl, hy2⟩ | ⟨rfl, i, hi, hy2⟩
        · refine ⟨_, rfl, .inl ⟨rfl, hs, fun x hx => ?_, fun x hx => ?_⟩⟩
          · obtain ⟨i, hi, rfl⟩ := List.getElem_of_mem hx
            exact hy i hi hi
          · obtain ⟨i, hi, rfl⟩ := List.getElem_of_mem hx
            exact hy2 i hi hi
        · have : ¬ sizesI it := fun h => hy2 fun _ => h.2.2 _ (List.getElem_mem hi)
          exact ⟨_, rfl, .inr ⟨rfl, this⟩⟩
/-! ### Spaces -/
def mayP (p : Pair) : Prop := p.key.size ≤ 40 ∧ mayI p.item
def mayS (l : List Pair) : Prop := (∀ p ∈ l, mayP p) ∧ SrtP l
theorem mayS_iff (l : List Pair) : mayS l ↔ ∀ i, i < l.length → (hi : i < l.length) → mayP l[i] ∧ risesAt Pair.key l i := by
  have h := rises_iff Pair.key l
  constructor
  · intro hm i _ hi
    exact ⟨hm.1 _ (List.getElem_mem hi), h.1 hm.2 i hi⟩
  · intro hm
    refine ⟨fun p hp => ?_, h.2 fun i hi => (hm i hi hi).2⟩
    obtain ⟨i, hi, rfl⟩ := List.getElem_of_mem hp
    exact (hm i hi hi).1
theorem space_May_iff (l : List Pair) (hl : l.length ≤ 1000000000) (ho : okP l) : Rn (space_May_sh big l) fun b => (b = true ↔ mayS l) := by
  unfold space_May_sh
  have hm := mayS_iff l
  refine Rn.lt (Rn.bn (allN l.length (by unfold big; omega) (fun i => (hi : i < l.length) → mayP l[i] ∧ risesAt Pair.key l i) false _ (fun i hi hok => ?_) (fun i hi hok => ?_) ?_) fun y hy => ?_)
  · obtain ⟨⟨o1, o2⟩, o3⟩ := hok hi
    obtain ⟨v, v1, v2⟩ := item_May_iff l[i].item (ho _ (List.getElem_mem hi))
    obtain rfl := v2.2 o2
    simp only [lt_eq]
    rw [ltI_t (by simp only [lenI]; omega), nth_some hi]
    simp only [lt_eq, bn_some, ite_t, ite_f, sm_inl, sm_inr, lenI_eq, Option.some.injEq]
    rw [gt40_f (s := l[i].key) (by omega), v1]
    have e : ite' (gtI (i : Int) 0) (bn (nth l (subI .i64 (i : Int) 1)) fun v12 => ite' (geS v12.key l[i].key) (some true) (bn (some true) fun v14 => some (notB v14))) (bn (some true) fun v16 => some (notB v16)) = some false := by
      by_cases h0 : 0 < i
      · rw [gtT (a := (i : Int)) (b := 0) (by omega), ite_t, subI_64 (by omega) (by omega), show (i : Int) - 1 = ((i - 1 : Nat) : Int) by omega, nth_some (show i - 1 < l.length by omega)]
        have := o3 h0 hi
        simp [bn_some, geS, this, ite_f]
      · rw [gtF (a := (i : Int)) (b := 0) (by omega)]
        rfl
    simp only [lt_eq, bn_some, ite_t, ite_f, sm_inl, sm_inr, lenI_eq, Option.some.injEq] at e ⊢
    rw [e]
    simp only [lt_eq, bn_some, ite_t, ite_f, sm_inl, sm_inr, lenI_eq, Option.some.injEq]
    rw [addI_64 (by omega) (by omega)]
    rfl
  · obtain ⟨v, v1, v2⟩ := item_May_iff l[i].item (ho _ (List.getElem_mem hi))
    simp only [lt_eq]
    rw [ltI_t (by simp only [lenI]; omega), nth_some hi]
    simp only [lt_eq, bn_some, ite_t, ite_f, sm_inl, sm_inr, lenI_eq, Option.some.injEq]
    rw [v1]
    by_cases o1 : l[i].key.size ≤ 40
    · rw [gt40_f (s := l[i].key) (by omega)]
      by_cases h0 : 0 < i
      · rw [gtT (a := (i : Int)) (b := 0) (by omega), subI_64 (by omega) (by omega), show (i : Int) - 1 = ((i - 1 : Nat) : Int) by omega, nth_some (show i - 1 < l.length by omega)]
        simp only [lt_eq, bn_some, ite_t, ite_f, sm_inl, sm_inr, lenI_eq, Option.some.injEq]
        cases h : slt l[i - 1].key l[i].key
        · simp [geS, h, lt_eq, bn_some, ite_t, ite_f, sm_inl, sm_inr, lenI_eq, Option.some.injEq]
        · cases v
          · simp [geS, h, lt_eq, bn_some, ite_t, ite_f, sm_inl, sm_inr, lenI_eq, Option.some.injEq]
          · exact absurd (fun _ => ⟨⟨o1, v2.1 rfl⟩, fun _ _ => h⟩) hok
      · rw [gtF (a := (i : Int)) (b := 0) (by omega)]
        cases v
        · rfl
        · exact absurd (fun _ => ⟨⟨o1, v2.1 rfl⟩, fun h => absurd h h0⟩) hok
    · rw [gt40_t (s := l[i].key) (by omega)]
      rfl
  · simp only [lt_eq]
    rw [ltI_f (by simp only [lenI]; omega)]
    rfl
  · rcases hy with ⟨rfl, hy⟩ | ⟨rfl, i, hi, hy⟩
    · exact ⟨_, rfl, fun _ => hm.2 hy, fun _ => rfl⟩
    · have : ¬ mayS l := fun h => hy (hm.1 h i hi)
      exact ⟨_, rfl, by simp [this]⟩
end Go.Proofs.Ytlkhfdccapkcdaa

/- Plain laws: items by numbers may be. -/
namespace Go.Proofs.Ytlkhfdccapkcdaa
open Go Go.RowKit
set_option linter.unusedVariables false
set_option linter.unusedSimpArgs false
def SrtH (l : List Field) : Prop := rises (fun x : Field => x.name) l
def applyH (l : List Field) (e : Field) : List Field := l.filter (fun p => slt p.name e.name) ++ [e] ++ l.filter (fun p => slt e.name p.name)
theorem applyH_shape {A B C : List Field} {e : Field} (hA : ∀ a ∈ A, slt a.name e.name = true) (hC : ∀ c ∈ C, slt e.name c.name = true) (hB : B = [] ∨ ∃ x, B = [x] ∧ x.name = e.name) : applyH (A ++ B ++ C) e = A ++ [e] ++ C := by
  have hB1 : ∀ b ∈ B, slt b.name e.name = false := fun b hb => by
    rcases hB with rfl | ⟨x, rfl, hx⟩
    · simp at hb
    · simp at hb; subst hb; rw [hx]; exact slt_irrefl _
  have hB2 : ∀ b ∈ B, slt e.name b.name = false := fun b hb => by
    rcases hB with rfl | ⟨x, rfl, hx⟩
    · simp at hb
    · simp at hb; subst hb; rw [hx]; exact slt_irrefl _
  unfold applyH
  rw [List.filter_append, List.filter_append, List.filter_append, List.filter_append, filtP_all hA, filtP_no hB1, filtP_no (fun c hc => slt_asymm (hC c hc)), filtP_no (fun a ha => slt_asymm (hA a ha)), filtP_no hB2, filtP_all hC]
  simp
theorem applyH_srt {l : List Field} (h : SrtH l) (e : Field) : SrtH (applyH l e) := by
  unfold SrtH applyH
  have h1 : SrtH (l.filter (fun p => slt p.name e.name)) := List.Pairwise.filter _ h
  have h2 : SrtH (l.filter (fun p => slt e.name p.name)) := List.Pairwise.filter _ h
  refine List.pairwise_append.2 ⟨List.pairwise_append.2 ⟨h1, by simp, fun a ha b hb => ?_⟩, h2, fun a ha b hb => ?_⟩
  · simp at hb; subst hb; exact (List.mem_filter.1 ha).2
  · have hb2 := (List.mem_filter.1 hb).2
    rcases List.mem_append.1 ha with ha | ha
    · exact slt_trans (List.mem_filter.1 ha).2 hb2
    · simp at ha; subst ha; exact hb2
theorem applyH_len (l : List Field) (e : Field) (h : SrtH l) : (applyH l e).length ≤ l.length + 1 := by
  obtain ⟨A, B, C, rfl, hA, hC, hB⟩ := shapeG (key := Field.name) e.name l h
  rw [applyH_shape hA hC hB]
  simp; omega
def stepH (e : Field) (a : Bool × List Field) (x : Field) : Bool × List Field :=
  let a1 := if a.1 = false ∧ slt x.name e.name = false then (true, a.2 ++ [e]) else a
  if x.name = e.name then a1 else (a1.1, a1.2 ++ [x])
theorem stepH_len (e : Field) (a : Bool × List Field) (x : Field) : (stepH e a x).2.length ≤ a.2.length + 2 := by
  unfold stepH
  dsimp only
  split <;> split <;> simp <;> omega
theorem foldH_len (e : Field) : ∀ (l : List Field) (a : Bool × List Field), (l.foldl (stepH e) a).2.length ≤ a.2.length + 2 * l.length
  | [], a => by simp
  | x :: l, a => by
    have h1 := foldH_len e l (stepH e a x)
    have h2 := stepH_len e a x
    simp only [List.foldl_cons, List.length_cons]
    omega
theorem foldH_low {e : Field} : ∀ (A : List Field) (d : Bool) (out : List Field), (∀ a ∈ A, slt a.name e.name = true) → A.foldl (stepH e) (d, out) = (d, out ++ A)
  | [], d, out, _ => by simp
  | a :: A, d, out, h => by
    have h1 := h a (by simp)
    have e1 : stepH e (d, out) a = (d, out ++ [a]) := by simp [stepH, h1, slt_ne h1]
    rw [List.foldl_cons, e1, foldH_low A d (out ++ [a]) fun b hb => h b (by simp [hb])]
    simp
theorem foldH_high {e : Field} : ∀ (A : List Field) (out : List Field), (∀ a ∈ A, slt e.name a.name = true) → A.foldl (stepH e) (true, out) = (true, out ++ A)
  | [], out, _ => by simp
  | a :: A, out, h => by
    have h1 := h a (by simp)
    have hne : ¬ a.name = e.name := fun h => slt_ne h1 h.symm
    have e1 : stepH e (true, out) a = (true, out ++ [a]) := by simp [stepH, hne]
    rw [List.foldl_cons, e1, foldH_high A (out ++ [a]) fun b hb => h b (by simp [hb])]
    simp
theorem foldH_all {e : Field} {l : List Field} (h : SrtH l) : (bif (l.foldl (stepH e) (false, [])).1 then (l.foldl (stepH e) (false, [])).2 else (l.foldl (stepH e) (false, [])).2 ++ [e]) = applyH l e := by
  obtain ⟨A, B, C, rfl, hA, hC, hB⟩ := shapeG (key := Field.name) e.name l h
  rw [applyH_shape hA hC hB, List.foldl_append, List.foldl_append, foldH_low A _ _ hA]
  rcases hB with rfl | ⟨x, rfl, hx⟩
  · cases C with
    | nil => simp
    | cons c C =>
      have h1 := hC c (by simp)
      have hne : ¬ c.name = e.name := fun h => slt_ne h1 h.symm
      have e1 : stepH e (false, [] ++ A) c = (true, A ++ [e, c]) := by simp [stepH, slt_asymm h1, hne]
      rw [List.foldl_nil, List.foldl_cons, e1, foldH_high C _ fun b hb => hC b (by simp [hb])]
      simp
  · have e1 : stepH e (false, [] ++ A) x = (true, A ++ [e]) := by simp [stepH, hx, slt_irrefl]
    rw [List.foldl_cons, List.foldl_nil, e1, foldH_high C _ hC]
    simp
theorem r_HSet_ok (l : List Field) (e : Field) (h : SrtH l) (hl : l.length ≤ 100000000) : r5_HSet_sh big l e.name e.val = some (applyH l e) := by
  unfold r5_HSet_sh
  refine bn_fold l (stepH e) (fun i a => (a.1, (i : Int), a.2)) (false, []) (l.foldl (stepH e) (false, [])) (by omega) rfl (fun i hi a ha => ?_) ?_ ?_
  · have hlen : a.2.length ≤ 2 * i := by
      have := foldH_len e (l.take i) (false, [])
      rw [← ha] at this
      simp at this
      omega
    simp only [lt_eq, bn_some, ite_t, ite_f, sm_inl, sm_inr, lenI_eq, Option.some.injEq]
    rw [ltI_t (by omega)]
    simp only [lt_eq, bn_some, ite_t, ite_f, sm_inl, sm_inr, lenI_eq, Option.some.injEq, nth_some hi]
    have e2 : (ite' (ite' (notB a.1) (some (geS l[i].name e.name)) (some false)).get! (some (true, a.2 ++ [(e : Field)])) (some (a.1, a.2))) = some (if a.1 = false ∧ slt l[i].name e.name = false then (true, a.2 ++ [e]) else a) := by
      cases h1 : a.1 <;> cases h2 : slt l[i].name e.name <;> simp [notB, geS, h1, h2, ite'] <;> (rw [← h1])
    rw [chk_room (by omega) (by omega)]
    have e3 : ite' (notB a.1) (some (geS l[i].name e.name)) (some false) = some (ite' (notB a.1) (some (geS l[i].name e.name)) (some false)).get! := by
      cases a.1 <;> rfl
    rw [e3]
    simp only [lt_eq, bn_some, ite_t, ite_f, sm_inl, sm_inr, lenI_eq, Option.some.injEq]
    rw [e2]
    simp only [lt_eq, bn_some, ite_t, ite_f, sm_inl, sm_inr, lenI_eq, Option.some.injEq]
    rw [addI_64 (by omega) (by omega)]
    unfold stepH
    dsimp only
    generalize hq : (if a.1 = false ∧ slt l[i].name e.name = false then (true, a.2 ++ [(e : Field)]) else a) = q
    have hq2 : q.2.length ≤ 2 * i + 1 := by
      rw [← hq]
      split
      · simp only [List.length_append, List.length_cons, List.length_nil]; omega
      · omega
    by_cases hk : l[i].name = e.name
    · rw [hk, neS_self]
      simp [ite_f, bn_some]
    · rw [show neS l[i].name e.name = true by simp [neS, hk], if_neg hk, ite_t, chk_room (by omega) (by omega)]
      simp only [lt_eq, bn_some, ite_t, ite_f, sm_inl, sm_inr, lenI_eq, Option.some.injEq]
      simp
  · simp only [lt_eq, bn_some, ite_t, ite_f, sm_inl, sm_inr, lenI_eq, Option.some.injEq]
    rw [ltI_f (by omega)]
    rfl
  · have hlen : (l.foldl (stepH e) (false, [])).2.length ≤ 2 * l.length := by
      have := foldH_len e l (false, [])
      simp at this
      omega
    have hA := foldH_all (e := e) h
    have hn := applyH_len l e h
    simp only [lt_eq, bn_some, ite_t, ite_f, sm_inl, sm_inr, lenI_eq, Option.some.injEq]
    rw [chk_room (by omega) (by omega)]
    revert hA
    cases (l.foldl (stepH e) (false, [])).1 <;> intro hA <;> simp at hA <;> rw [hA] <;> simp [notB, ite', bn_some] <;> rw [chk_room (by omega) (by omega)]
theorem applyH_mem {l : List Field} {e x : Field} (h : x ∈ applyH l e) : x ∈ l ∨ x = e := by
  unfold applyH at h
  rcases List.mem_append.1 h with h | h
  · rcases List.mem_append.1 h with h | h
    · exact .inl (List.mem_filter.1 h).1
    · exact .inr (List.mem_singleton.1 h)
  · exact .inl (List.mem_filter.1 h).1
theorem applyH_ne (l : List Field) (e : Field) : applyH l e ≠ [] := by simp [applyH]
theorem SHas_tf_iff (l : List ByteArray) (x : ByteArray) (h : l.length ≤ 1000000000) : r5_SHas_tf_sh big l x = some (hasS l x) := r_SHas_ok l x h
theorem SAdd_rises (l : List ByteArray) (x : ByteArray) (h : l.length ≤ 1000000000) (hr : rises (fun x => x) l) : Rn (r5_SAdd_tf_sh big l x) fun m => rises (fun x => x) m ∧ (∀ y ∈ m, y ∈ l ∨ y = x) ∧ m ≠ [] ∧ m.length ≤ l.length + 1 := by
  unfold r5_SAdd_tf_sh
  refine Rn.bnE (SHas_tf_iff l x h) (Rn.ite (fun hd => Rn.room (by omega) (by omega) (Rn.some ⟨hr, fun y hy => .inl hy, fun e => ?_, by omega⟩)) (fun hd => ?_))
  · rw [e] at hd
    simp [hasS] at hd
  have hx : x ∉ l := fun h => by
    rw [hasS_t h] at hd
    simp at hd
  refine Rn.bn (P := fun i : Int => ∃ k : Nat, i = k ∧ k ≤ l.length ∧ (∀ i (hi : i < l.length), i < k → slt l[i] x = true) ∧ (∀ hk : k < l.length, slt l[k] x = false)) (Rn.iter _ (fun q a => a = (q : Int) ∧ ∀ i (hi : i < l.length), i < q → slt l[i] x = true) l.length (by unfold big; omega) ⟨rfl, fun i hi h => by omega⟩ fun q a hq hI => ?_) fun b hb => ?_
  · obtain ⟨rfl, hI⟩ := hI
    simp only [lt_eq, bn_some, ite_t, ite_f, sm_inl, sm_inr, lenI_eq, Option.some.injEq]
    by_cases hq2 : q < l.length
    · rw [ltI_t (by omega), nth_some hq2]
      simp only [lt_eq, bn_some, ite_t, ite_f, sm_inl, sm_inr, lenI_eq, Option.some.injEq, ltS]
      cases hs : slt l[q] x
      · exact ⟨_, rfl, q, rfl, hq, hI, fun _ => hs⟩
      · refine ⟨_, rfl, hq2, by rw [addI_64 (by omega) (by omega)]; omega, fun i hi h1 => ?_⟩
        by_cases hiq : i = q
        · subst hiq; exact hs
        · exact hI i hi (by omega)
    · obtain rfl : q = l.length := by omega
      rw [ltI_f (by omega)]
      exact ⟨_, rfl, l.length, rfl, Nat.le_refl _, hI, fun h => by omega⟩
  · obtain ⟨k, rfl, hk, h1, h2⟩ := hb
    refine Rn.bnE (segh_nat hk) (Rn.room ?_ ?_ (Rn.room ?_ ?_ (Rn.lt (Rn.bnE (segl_nat hk) (Rn.room ?_ ?_ (Rn.lt (Rn.some ?_)))))))
    iterate 6 (simp only [List.length_append, List.length_cons, List.length_nil, List.length_take, List.length_drop]; omega)
    have hlow : ∀ a ∈ l.take k, slt a x = true := fun a ha => by
      obtain ⟨i, hi, rfl⟩ := List.getElem_of_mem ha
      rw [List.length_take] at hi
      rw [List.getElem_take]
      exact h1 i (by omega) (by omega)
    have hhigh : ∀ b ∈ l.drop k, slt x b = true := fun b hb => by
      obtain ⟨i, hi, rfl⟩ := List.getElem_of_mem hb
      rw [List.length_drop] at hi
      rw [List.getElem_drop]
      have hk2 : k < l.length := by omega
      have hxk : slt x l[k] = true := by
        rcases (slt_or _ _).1 (h2 hk2) with e | e
        · exact absurd (e ▸ List.getElem_mem hk2) hx
        · exact e
      by_cases hi0 : i = 0
      · subst hi0; exact hxk
      · exact slt_trans hxk (List.pairwise_iff_getElem.1 hr k (k + i) hk2 (by omega) (by omega))
    refine ⟨?_, fun y hy => ?_, by simp, by simp only [List.length_append, List.length_cons, List.length_nil, List.length_take, List.length_drop]; omega⟩
    · refine List.pairwise_append.2 ⟨List.pairwise_append.2 ⟨List.Pairwise.sublist (List.take_sublist _ _) hr, by simp, fun a ha b hb => ?_⟩, List.Pairwise.sublist (List.drop_sublist _ _) hr, fun a ha b hb => ?_⟩
      · simp only [List.mem_singleton] at hb; subst hb; exact hlow a ha
      · rcases List.mem_append.1 ha with ha | ha
        · exact slt_trans (hlow a ha) (hhigh b hb)
        · simp only [List.mem_singleton] at ha; subst ha; exact hhigh b hb
    · rcases List.mem_append.1 hy with hy | hy
      · rcases List.mem_append.1 hy with hy | hy
        · exact .inl (List.mem_of_mem_take hy)
        · exact .inr (List.mem_singleton.1 hy)
      · exact .inl (List.mem_of_mem_drop hy)
/-- What the rounds of Make keep, of a kind. -/
def keepM (kind : Int) (q : Nat) (s : ByteArray) (f : List Field) (l : List ByteArray) : Prop :=
  s.size ≤ 40 * q ∧ f.length ≤ q ∧ l.length ≤ q ∧ (∀ x ∈ f, okFld x) ∧ SrtH f ∧ (∀ x ∈ l, x.size ≤ 300) ∧ (kind = 4 → rises (fun x => x) l) ∧
  ((kind = 1 ∧ f = [] ∧ l = []) ∨ (kind = 2 ∧ s = ⟨#[]⟩ ∧ l = [] ∧ (0 < q → f ≠ [])) ∨ ((kind = 3 ∨ kind = 4) ∧ s = ⟨#[]⟩ ∧ f = [] ∧ (0 < q → l ≠ [])))
theorem Make_may (l : List Int) (e : Int) (hl : u8s l) (hlen : 2 ≤ l.length) (hlen2 : l.length ≤ 4) (h : 0 ≤ e) (h2 : e ≤ 255) : Rn (l5_Make_sh big l e) mayI := by
  unfold l5_Make_sh
  have hb0 := hl _ (List.getElem_mem (show 0 < l.length by omega))
  refine Rn.lt (Rn.lt (Rn.ite (fun hg => ?_) (fun _ => ?_)))
  · have : (l.length : Int) = 0 := of_decide_eq_true hg
    omega
  refine Rn.bnE (nth_some (i := 0) (show 0 < l.length by omega)) (Rn.lt ?_)
  rw [cvI_64 (by omega) (by omega)]
  refine Rn.bnE (remI_pos hb0.1 (by omega)) (Rn.lt ?_)
  rw [addI_64 (by omega) (by omega)]
  have hkind : 1 + l[0] % 4 = 1 ∨ 1 + l[0] % 4 = 2 ∨ 1 + l[0] % 4 = 3 ∨ 1 + l[0] % 4 = 4 := by omega
  generalize 1 + l[0] % 4 = kind at hkind
  refine Rn.bn (P := fun x : Int => 0 ≤ x ∧ x ≤ 255) (Rn.bnE (remI_pos h (by omega)) (Rn.lt (Rn.ite (fun _ => Rn.lt (Rn.some ?_)) (fun _ => Rn.some (by omega))))) fun ex hex => ?_
  · rw [cvI_64 (by omega) (by omega)]; omega
  refine Rn.bn (P := fun b : ByteArray × List Field × List ByteArray => ∃ q, 1 ≤ q ∧ q ≤ 3 ∧ keepM kind q b.1 b.2.1 b.2.2)
    (Rn.iter _ (fun q a => a.1 = ((q + 1 : Nat) : Int) ∧ q + 1 ≤ l.length ∧ keepM kind q a.2.1 a.2.2.1 a.2.2.2) 4 (by unfold big; omega) ⟨rfl, by omega, by decide, by simp, by simp, by simp, .nil, by simp, fun _ => .nil, ?_⟩ fun q a hq hI => ?_) fun b hb => ?_
  · rcases hkind with h | h | h | h <;> simp [h]
  · obtain ⟨i, s, f, t⟩ := a
    obtain ⟨i1, i2, i3⟩ := hI
    simp only at i1 i3
    subst i1
    refine Rn.bn (P := fun b : Bool => (b = true → q + 1 < l.length) ∧ (b = false → q + 1 = l.length)) ?_ fun b hb => Rn.lt (Rn.ite (fun hd => ?_) (fun hd => Rn.some ⟨q, by have := hb.2 hd; omega, by have := hb.2 hd; omega, i3⟩))
    · refine Rn.lt (Rn.lt (Rn.ite (fun hg => Rn.lt (Rn.some ?_)) (fun hg => Rn.some ?_)))
      · have hg := ltI_d hg
        simp only [lenI] at hg
        refine ⟨fun _ => by omega, fun h => ?_⟩
        have h := ltI_n h
        omega
      · have hg := ltI_n hg
        simp only [lenI] at hg
        exact ⟨fun h => by simp at h, fun _ => by omega⟩
    · have hql := hb.1 hd
      have hb1 := hl _ (List.getElem_mem hql)
      refine Rn.bn (P := fun b : ByteArray × List Field × List ByteArray => keepM kind (q + 1) b.1 b.2.1 b.2.2) ?_ fun b hb => Rn.lt (Rn.some ⟨by omega, ?_, hql, hb⟩)
      rotate_left
      · show addI .i64 ((q + 1 : Nat) : Int) 1 = _
        rw [addI_64 (by omega) (by omega)]; omega
      refine Rn.bnE (nth_some hql) (Rn.bnE (remI_pos hb1.1 (by omega)) (Rn.lt (Rn.lt (Rn.lt ?_))))
      rw [cvI_64 (by omega) (by omega)]
      refine Rn.bnE (remI_pos hb1.1 (by omega)) ?_
      refine Rn.bn (Digits_ok _ (by omega) (by omega)) fun d hd => ?_
      refine Rn.cat (by rw [strL1]; omega) ?_
      have hw : ∀ x : Int, (strL [x] ++ d).size ≤ 31 := fun x => by
        rw [ByteArray.size_append, strL1]; omega
      have hw := hw (addI .u8 97 (l[q + 1] % 5))
      revert hw
      generalize strL [addI .u8 97 (l[q + 1] % 5)] ++ d = w
      intro hw
      obtain ⟨k1, k2, k3, k4, k5, k6, k7, k8⟩ := i3
      refine Rn.lt (Rn.ite (fun e1 => ?_) (fun e1 => ?_))
      · have e1 : kind = 1 := of_decide_eq_true e1
        refine Rn.cat (by simp only; omega) (Rn.some ?_)
        rcases k8 with k8 | k8 | k8
        · refine ⟨?_, ?_, ?_, k4, k5, k6, k7, .inl k8⟩
          · rw [ByteArray.size_append]; simp only; omega
          · simp only; omega
          · simp only; omega
        · omega
        · omega
      have e1 : kind ≠ 1 := of_decide_eq_false e1
      refine Rn.lt (Rn.ite (fun e2 => ?_) (fun e2 => ?_))
      · have e2 : kind = 2 := of_decide_eq_true e2
        refine Rn.lt ?_
        rw [subI_64 (by omega) (by omega)]
        refine Rn.bn (Digits_ok _ (by omega) (by omega)) fun v hv => ?_
        refine Rn.bnE (r_HSet_ok f ⟨w, v⟩ k5 (by omega)) (Rn.some ?_)
        rcases k8 with k8 | k8 | k8
        · omega
        · have hn := applyH_len f ⟨w, v⟩ k5
          refine ⟨by simp only; omega, by simp only; omega, by simp only; omega, fun x hx => ?_, applyH_srt k5 _, k6, k7, .inr (.inl ⟨e2, k8.2.1, k8.2.2.1, fun _ => applyH_ne f _⟩)⟩
          rcases applyH_mem hx with hx | rfl
          · exact k4 x hx
          · exact ⟨by simp only; omega, by simp only; omega⟩
        · omega
      have e2 : kind ≠ 2 := of_decide_eq_false e2
      have k8 : (kind = 3 ∨ kind = 4) ∧ s = ⟨#[]⟩ ∧ f = [] ∧ (0 < q → t ≠ []) := by
        rcases k8 with k8 | k8 | k8
        · omega
        · omega
        · exact k8
      refine Rn.lt (Rn.ite (fun e3 => ?_) (fun e3 => ?_))
      · have e3 : kind = 3 := of_decide_eq_true e3
        refine Rn.room (by simp only; omega) (by simp only; omega) (Rn.lt (Rn.some ?_))
        refine ⟨by simp only; omega, by simp only; omega, by simp only [List.length_append, List.length_cons, List.length_nil]; omega, k4, k5, fun x hx => ?_, fun h => by omega, .inr (.inr ⟨k8.1, k8.2.1, k8.2.2.1, fun _ => by simp⟩)⟩
        rcases List.mem_append.1 hx with hx | hx
        · exact k6 x hx
        · simp only [List.mem_singleton] at hx; subst hx; omega
      · have e3 : kind ≠ 3 := of_decide_eq_false e3
        have e4 : kind = 4 := by omega
        refine Rn.room (by simp only; omega) (by simp only; omega) ?_
        refine Rn.bn (SAdd_rises t w (by omega) (k7 e4)) fun z hz => Rn.some ?_
        obtain ⟨z1, z2, z3, z4⟩ := hz
        refine ⟨by simp only; omega, by simp only; omega, by simp only at z4 ⊢; omega, k4, k5, fun x hx => ?_, fun _ => z1, .inr (.inr ⟨k8.1, k8.2.1, k8.2.2.1, fun _ => z3⟩)⟩
        rcases z2 x hx with hx | rfl
        · exact k6 x hx
        · omega
  · obtain ⟨s, f, t⟩ := b
    obtain ⟨q, q1, q2, k1, k2, k3, k4, k5, k6, k7, k8⟩ := hb
    simp only at k1 k2 k3 k4 k5 k6 k7 k8
    refine Rn.bnE (v := false) ?_ (Rn.lt ?_)
    · simp only [lt_eq, bn_some, ite_t, ite_f, sm_inl, sm_inr, lenI_eq, Option.some.injEq]
      rw [show eqI (l.length : Int) 1 = false by simp [eqI]; omega, ite_f]
    · rw [ite_f]
      refine Rn.room (by simp only; omega) (by simp only; omega) (Rn.some ⟨?_, ⟨by simp only; omega, k4, k6⟩, by simp only; omega, by simp only; omega, hex.1, by simp only; omega, k5, k7⟩)
      rcases k8 with k8 | k8 | k8
      · exact .inl k8
      · exact .inr (.inl ⟨k8.1, k8.2.1, k8.2.2.1, k8.2.2.2 (by omega)⟩)
      · exact .inr (.inr ⟨k8.1, k8.2.1, k8.2.2.1, k8.2.2.2 (by omega)⟩)
theorem effAt_may (l : List Int) (hl : u8s l) (i : Nat) (h : 4 * i + 3 < l.length) (e : Effect) (he : effAt l i = some e) (hg : e.gone = false) : mayI e.item := by
  have hb0 := hl _ (List.getElem_mem (show 4 * i < l.length by omega))
  have hb1 := hl _ (List.getElem_mem (show 4 * i + 1 < l.length by omega))
  have hb2 := hl _ (List.getElem_mem (show 4 * i + 2 < l.length by omega))
  unfold effAt at he
  rw [nth_some (show 4 * i < l.length by omega), nth_some (show 4 * i + 1 < l.length by omega), nth_some (show 4 * i + 2 < l.length by omega), seglh_nat (by omega) (by omega)] at he
  simp only [bn_some] at he
  obtain ⟨j, hj, -, hk⟩ := Key_told _ hb0.1 hb0.2
  rw [hk, remI_pos hb1.1 (by omega)] at he
  simp only [bn_some] at he
  obtain ⟨it, hit, hit2⟩ := Make_may ((l.drop (4 * i + 1)).take (4 * i + 4 - (4 * i + 1))) l[4 * i + 2] (hl.seg _ _) (by simp; omega) (by simp; omega) hb2.1 hb2.2
  rw [hit] at he
  cases hg2 : eqI (l[4 * i + 1] % 4) 0
  · rw [hg2] at he
    simp only [notB_f, ite_t, bn_some, Option.some.injEq] at he
    subst he
    exact hit2
  · rw [hg2] at he
    simp only [notB_t, ite_f, bn_some, Option.some.injEq] at he
    subst he
    simp at hg
def okM2 (m : List Effect) : Prop := okM m ∧ ∀ e ∈ m, e.gone = false → mayI e.item
theorem Effects_may (l : List Int) (hl : u8s l) (h : l.length ≤ 1000000000) : Rn (l11_Effects_sh big l) okM2 := by
  obtain ⟨m, hm, h1, h2, h3⟩ := Effects_told l hl h
  obtain ⟨m', hm', h4⟩ := Effects_made l hl h
  obtain rfl : m' = m := Option.some.inj (hm'.symm.trans hm)
  refine ⟨_, hm, h4, fun e he hg => ?_⟩
  obtain ⟨i, hi, rfl⟩ := List.getElem_of_mem he
  exact effAt_may l hl i (by omega) _ (by rw [h2 i hi, List.getElem?_eq_getElem hi]) hg
theorem foldA_all (Q : Pair → Prop) : ∀ (es : List Effect) (l : List Pair), (∀ p ∈ l, Q p) → (∀ e ∈ es, e.gone = false → Q ⟨e.key, e.item⟩) → ∀ p ∈ es.foldl applyP l, Q p
  | [], l, h1, _ => h1
  | e :: es, l, h1, h2 => by
    refine foldA_all Q es (applyP l e) (fun p hp => ?_) fun x hx => h2 x (by simp [hx])
    unfold applyP newP at hp
    rcases List.mem_append.1 hp with hp | hp
    · rcases List.mem_append.1 hp with hp | hp
      · exact h1 p (List.mem_filter.1 hp).1
      · split at hp
        · simp at hp
        · rename_i hg
          simp at hp; subst hp; exact h2 e (by simp) (by simpa using hg)
    · exact h1 p (List.mem_filter.1 hp).1
theorem Make_mayS (ns : List Int) (hu : u8s ns) (h : ns.length ≤ 1000000000) : Rn (l11_Make_sh big ns) fun db => okDB db ∧ mayS db := by
  obtain ⟨db, hdb, h1⟩ := Make_told ns hu h
  refine ⟨db, hdb, h1, ?_, h1.1⟩
  unfold l11_Make_sh at hdb
  obtain ⟨m, hm, h2, h3⟩ := Effects_may ns hu h
  rw [hm] at hdb
  simp only [bn_some] at hdb
  have ho : ∀ e ∈ m, okI e.item := fun e he => (h2.2 e he).1
  rw [r_Apply_ok [] m .nil (by simp [okP]) ho (by have := h2.1; simp; omega)] at hdb
  have hdb := Option.some.inj hdb
  subst hdb
  exact foldA_all mayP m [] (by simp) fun e he hg => ⟨by rw [keyed_size (h2.2 e he).2.1]; omega, h3 e he hg⟩
end Go.Proofs.Ytlkhfdccapkcdaa

/- Walks, printed: l11_SpaceMade -/
namespace Go.Proofs.Ytlkhfdccapkcdaa
open Go Go.RowKit
set_option linter.unusedVariables false
set_option linter.unusedSimpArgs false
def l11_SpaceMade_sh (n : Nat) (a0 : List Int) (a1 : List Int) (a2 : Int) (a3 : Int) : Option Bool :=
bn (lt (lenI a0) fun v2 =>
lt (gtI v2 160) fun v3 =>
ite' v3 (some (true)) (lt (lenI a1) fun v4 =>
lt (gtI v4 80) fun v5 =>
some (v5))) fun (y1 : Bool) =>
lt (y1) fun v6 =>
ite' v6 (bn (l11_awake_sh n) fun v7 =>
some v7) (bn (l11_Make_sh n a0) fun v8 =>
bn (l11_Effects_sh n a1) fun v9 =>
bn (l11_Key_sh n a2) fun v10 =>
lt (cvI .i64 a3) fun v11 =>
bn (space_Get_sh n v8 v10 v11) fun v12 =>
bn (r5_Get_sh n v8 v10 v11) fun v13 =>
bn (space_Apply_sh n v8 v9) fun v14 =>
bn (bn (space_May_sh n v8) fun v16 =>
ite' v16 (bn (r5_SameItem_sh n v12.1 v13.i) fun v17 =>
ite' v17 (lt (eqB v12.2 v13.ok) fun v18 =>
ite' v18 (bn (r5_Apply_sh n v8 v9) fun v19 =>
bn (r5_SameSpace_sh n v14 v19) fun v20 =>
ite' v20 (bn (space_May_sh n v14) fun v21 =>
ite' v21 (bn (r1_Slot_sh n v10) fun v22 =>
bn (space_In_sh n v14 v22) fun v23 =>
bn (r1_Slot_sh n v10) fun v24 =>
bn (r5_In_sh n v14 v24) fun v25 =>
bn (r1_Texts_sh n v23 v25) fun v26 =>
ite' v26 (bn (l11_awake_sh n) fun v27 =>
some (v27)) (some (false))) (some (false))) (some (false))) (some (false))) (some (false))) (some (false))) fun (y15 : Bool) =>
some y15)
set_option maxRecDepth 8000 in
set_option maxHeartbeats 8000000 in
theorem s_l11_SpaceMade {n : Nat} {a0 : List Int} {a1 : List Int} {a2 : Int} {a3 : Int} {r : Bool} (h : l11_SpaceMade_sh n a0 a1 a2 a3 = some r) : Sound Try.prog 13 [.l (.d false 1 (encU a0)), .l (.d false 1 (encU a1)), .l (.s (.int .u8 a2)), .l (.s (.int .u8 a3))] [] (.l (.s (.bool r))) [] := by
  unfold l11_SpaceMade_sh at h
  refine Sound.of_aw (fn := Try.f13) (c := _) Try.func13 rfl (by simp [Try.f13]) fun cx hG hnb => ?_
  rw [show Try.f13.ntmps = 86 from rfl]
  have hn0 : cx.nb = 0 := hnb
  simp only [st0_mk, initTm, List.map_cons, List.map_nil]
  apply AW.step
  · simp
    intros; rfl
  refine AW.seq ?_
  replace h := bnE h; obtain ⟨y1, g1, h⟩ := h
  refine AW.flow (p := fun gh ls => (nP (cx := cx) (fun q => (⟨[(0, .l (.d false 1 (encU a0))), (1, .l (.d false 1 (encU a1))), (2, .l (.s (.int .u8 a2))), (3, .l (.s (.int .u8 a3))), (23, .l (.s (.bool q)))], [], 86, gh, ls⟩ : St))) y1) ?_ ?_
  · replace h := g1; clear g1
    replace h := ltE h; obtain ⟨v2, e2, h⟩ := h
    replace h := ltE h; obtain ⟨v3, e3, h⟩ := h
    cases v3 with
    | true =>
      replace h := iteT rfl h
      apply AW.last
      · simp [lenI_cast e2, ← e3]
        intros; rfl
      obtain rfl := Option.some.inj h
      refine nP_i ?_
      refine Weak.mixN [] hn0 (by decide) ?_ ?_ rfl
      all_goals first | (simp [inv_cons, inv_nil, pickOb]; done) | rfl
    | false =>
      replace h := iteF rfl h
      replace h := ltE h; obtain ⟨v4, e4, h⟩ := h
      replace h := ltE h; obtain ⟨v5, e5, h⟩ := h
      apply AW.last
      · simp [lenI_cast e2, ← e3, lenI_cast e4, ← e5]
        intros; rfl
      obtain rfl := Option.some.inj h
      refine nP_i ?_
      refine Weak.mixN [] hn0 (by decide) ?_ ?_ rfl
      all_goals first | (simp [inv_cons, inv_nil, pickOb]; done) | rfl
  · rintro e s hp
    obtain ⟨rfl, hw⟩ := hp
    refine ⟨_, hw, ?_⟩
    try simp only [sp_l, sp_r, Post.seq, Post.block, Nat.reduceEqDiff, reduceIte, Nat.zero_ne_one, Nat.one_ne_zero]
    replace h := ltE h; obtain ⟨v6, e6, h⟩ := h
    rw [← e6]
    cases v6 with
    | true =>
      replace h := iteT rfl h
      refine AW.cond_true (by simp) ?_
      replace h := bnE h; obtain ⟨v7, e7, h⟩ := h
      apply AW.step
      · simp
        intros
        refine xcall_plain en_l11_awake (s_l11_awake e7) rfl trivial ?_
        try simp
        intros; rfl
      obtain rfl := Option.some.inj h
      refine AW.ret ?_
      refine Left.plain hnb (by simp [Try.f13, resV, resC, comp]; rfl) rfl rfl ?_
      simp
    | false =>
      replace h := iteF rfl h
      refine AW.cond_false (by simp) ?_
      refine AW.skip ?_
      try simp only [sp_l, sp_r, Post.seq, Post.block, Nat.reduceEqDiff, reduceIte, Nat.zero_ne_one, Nat.one_ne_zero]
      try simp only [sp_l, sp_r, Post.seq, Post.block, Nat.reduceEqDiff, reduceIte, Nat.zero_ne_one, Nat.one_ne_zero]
      replace h := bnE h; obtain ⟨v8, e8, h⟩ := h
      replace h := bnE h; obtain ⟨v9, e9, h⟩ := h
      apply AW.step
      · simp
        intros
        refine xcall_plain en_l11_Make (s_l11_Make e8) rfl ⟨.same rfl, trivial⟩ ?_
        try simp
        intros
        refine xcall_plain en_l11_Effects (s_l11_Effects e9) rfl ⟨.same rfl, trivial⟩ ?_
        try simp
        intros; rfl
      replace h := bnE h; obtain ⟨v10, e10, h⟩ := h
      apply AW.step
      · simp
        intros
        refine xcall_plain en_l11_Key (s_l11_Key e10) rfl ⟨.same rfl, trivial⟩ ?_
        try simp
        intros; rfl
      replace h := ltE h; obtain ⟨v11, e11, h⟩ := h
      replace h := bnE h; obtain ⟨v12, e12, h⟩ := h
      apply AW.step
      · simp [← e11]
        intros
        refine xcall_plain en_space_Get (s_space_Get e12) rfl ⟨.same rfl, .same rfl, .same rfl, trivial⟩ ?_
        try simp [← e11]
        intros; rfl
      replace h := bnE h; obtain ⟨v13, e13, h⟩ := h
      apply AW.step
      · simp [← e11]
        intros
        refine xcall_plain en_r5_Get (s_r5_Get e13) rfl ⟨.same rfl, .same rfl, .same rfl, trivial⟩ ?_
        try simp [← e11]
        intros; rfl
      replace h := bnE h; obtain ⟨v14, e14, h⟩ := h
      apply AW.step
      · simp
        intros
        refine xcall_plain en_space_Apply (s_space_Apply e14) rfl ⟨.same rfl, .same rfl, trivial⟩ ?_
        try simp
        intros; rfl
      replace h := bnE h; obtain ⟨y15, g15, h⟩ := h
      refine AW.flow (p := fun gh ls => (nP (cx := cx) (fun q => (⟨[(8, .l (.s (.bool q)))], [], 86, gh, ls⟩ : St))) y15) ?_ ?_
      · replace h := g15; clear g15
        replace h := bnE h; obtain ⟨v16, e16, h⟩ := h
        cases v16 with
        | true =>
          replace h := iteT rfl h
          replace h := bnE h; obtain ⟨v17, e17, h⟩ := h
          cases v17 with
          | true =>
            replace h := iteT rfl h
            replace h := ltE h; obtain ⟨v18, e18, h⟩ := h
            cases v18 with
            | true =>
              replace h := iteT rfl h
              replace h := bnE h; obtain ⟨v19, e19, h⟩ := h
              replace h := bnE h; obtain ⟨v20, e20, h⟩ := h
              cases v20 with
              | true =>
                replace h := iteT rfl h
                replace h := bnE h; obtain ⟨v21, e21, h⟩ := h
                cases v21 with
                | true =>
                  replace h := iteT rfl h
                  replace h := bnE h; obtain ⟨v22, e22, h⟩ := h
                  replace h := bnE h; obtain ⟨v23, e23, h⟩ := h
                  replace h := bnE h; obtain ⟨v24, e24, h⟩ := h
                  replace h := bnE h; obtain ⟨v25, e25, h⟩ := h
                  replace h := bnE h; obtain ⟨v26, e26, h⟩ := h
                  cases v26 with
                  | true =>
                    replace h := iteT rfl h
                    replace h := bnE h; obtain ⟨v27, e27, h⟩ := h
                    apply AW.last
                    · simp [← e18]
                      intros
                      refine xcall_plain en_space_May (s_space_May e16) rfl ⟨.same rfl, trivial⟩ ?_
                      try simp [← e18]
                      intros
                      refine xcall_plain en_r5_SameItem (s_r5_SameItem e17) rfl ⟨.same rfl, .same rfl, trivial⟩ ?_
                      try simp [← e18]
                      intros
                      refine xcall_plain en_r5_Apply (s_r5_Apply e19) rfl ⟨.same rfl, .same rfl, trivial⟩ ?_
                      try simp [← e18]
                      intros
                      refine xcall_plain en_r5_SameSpace (s_r5_SameSpace e20) rfl ⟨.same rfl, .same rfl, trivial⟩ ?_
                      try simp [← e18]
                      intros
                      refine xcall_plain en_space_May (s_space_May e21) rfl ⟨.same rfl, trivial⟩ ?_
                      try simp [← e18]
                      intros
                      refine xcall_plain en_r1_Slot (s_r1_Slot e22) rfl ⟨.same rfl, trivial⟩ ?_
                      try simp [← e18]
                      intros
                      refine xcall_plain en_space_In (s_space_In e23) rfl ⟨.same rfl, .same rfl, trivial⟩ ?_
                      try simp [← e18]
                      intros
                      refine xcall_plain en_r1_Slot (s_r1_Slot e24) rfl ⟨.same rfl, trivial⟩ ?_
                      try simp [← e18]
                      intros
                      refine xcall_plain en_r5_In (s_r5_In e25) rfl ⟨.same rfl, .same rfl, trivial⟩ ?_
                      try simp [← e18]
                      intros
                      refine xcall_plain en_r1_Texts (s_r1_Texts e26) rfl ⟨.same rfl, .same rfl, trivial⟩ ?_
                      try simp [← e18]
                      intros
                      refine xcall_plain en_l11_awake (s_l11_awake e27) rfl trivial ?_
                      try simp [← e18]
                      intros; rfl
                    obtain rfl := Option.some.inj h
                    refine nP_i ?_
                    refine Weak.mixN [] hn0 (by decide) ?_ ?_ rfl
                    all_goals first | (simp [inv_cons, inv_nil, pickOb]; done) | rfl
                  | false =>
                    replace h := iteF rfl h
                    apply AW.last
                    · simp [← e18]
                      intros
                      refine xcall_plain en_space_May (s_space_May e16) rfl ⟨.same rfl, trivial⟩ ?_
                      try simp [← e18]
                      intros
                      refine xcall_plain en_r5_SameItem (s_r5_SameItem e17) rfl ⟨.same rfl, .same rfl, trivial⟩ ?_
                      try simp [← e18]
                      intros
                      refine xcall_plain en_r5_Apply (s_r5_Apply e19) rfl ⟨.same rfl, .same rfl, trivial⟩ ?_
                      try simp [← e18]
                      intros
                      refine xcall_plain en_r5_SameSpace (s_r5_SameSpace e20) rfl ⟨.same rfl, .same rfl, trivial⟩ ?_
                      try simp [← e18]
                      intros
                      refine xcall_plain en_space_May (s_space_May e21) rfl ⟨.same rfl, trivial⟩ ?_
                      try simp [← e18]
                      intros
                      refine xcall_plain en_r1_Slot (s_r1_Slot e22) rfl ⟨.same rfl, trivial⟩ ?_
                      try simp [← e18]
                      intros
                      refine xcall_plain en_space_In (s_space_In e23) rfl ⟨.same rfl, .same rfl, trivial⟩ ?_
                      try simp [← e18]
                      intros
                      refine xcall_plain en_r1_Slot (s_r1_Slot e24) rfl ⟨.same rfl, trivial⟩ ?_
                      try simp [← e18]
                      intros
                      refine xcall_plain en_r5_In (s_r5_In e25) rfl ⟨.same rfl, .same rfl, trivial⟩ ?_
                      try simp [← e18]
                      intros
                      refine xcall_plain en_r1_Texts (s_r1_Texts e26) rfl ⟨.same rfl, .same rfl, trivial⟩ ?_
                      try simp [← e18]
                      intros; rfl
                    obtain rfl := Option.some.inj h
                    refine nP_i ?_
                    refine Weak.mixN [] hn0 (by decide) ?_ ?_ rfl
                    all_goals first | (simp [inv_cons, inv_nil, pickOb]; done) | rfl
                | false =>
                  replace h := iteF rfl h
                  apply AW.last
                  · simp [← e18]
                    intros
                    refine xcall_plain en_space_May (s_space_May e16) rfl ⟨.same rfl, trivial⟩ ?_
                    try simp [← e18]
                    intros
                    refine xcall_plain en_r5_SameItem (s_r5_SameItem e17) rfl ⟨.same rfl, .same rfl, trivial⟩ ?_
                    try simp [← e18]
                    intros
                    refine xcall_plain en_r5_Apply (s_r5_Apply e19) rfl ⟨.same rfl, .same rfl, trivial⟩ ?_
                    try simp [← e18]
                    intros
                    refine xcall_plain en_r5_SameSpace (s_r5_SameSpace e20) rfl ⟨.same rfl, .same rfl, trivial⟩ ?_
                    try simp [← e18]
                    intros
                    refine xcall_plain en_space_May (s_space_May e21) rfl ⟨.same rfl, trivial⟩ ?_
                    try simp [← e18]
                    intros; rfl
                  obtain rfl := Option.some.inj h
                  refine nP_i ?_
                  refine Weak.mixN [] hn0 (by decide) ?_ ?_ rfl
                  all_goals first | (simp [inv_cons, inv_nil, pickOb]; done) | rfl
              | false =>
                replace h := iteF rfl h
                apply AW.last
                · simp [← e18]
                  intros
                  refine xcall_plain en_space_May (s_space_May e16) rfl ⟨.same rfl, trivial⟩ ?_
                  try simp [← e18]
                  intros
                  refine xcall_plain en_r5_SameItem (s_r5_SameItem e17) rfl ⟨.same rfl, .same rfl, trivial⟩ ?_
                  try simp [← e18]
                  intros
                  refine xcall_plain en_r5_Apply (s_r5_Apply e19) rfl ⟨.same rfl, .same rfl, trivial⟩ ?_
                  try simp [← e18]
                  intros
                  refine xcall_plain en_r5_SameSpace (s_r5_SameSpace e20) rfl ⟨.same rfl, .same rfl, trivial⟩ ?_
                  try simp [← e18]
                  intros; rfl
                obtain rfl := Option.some.inj h
                refine nP_i ?_
                refine Weak.mixN [] hn0 (by decide) ?_ ?_ rfl
                all_goals first | (simp [inv_cons, inv_nil, pickOb]; done) | rfl
            | false =>
              replace h := iteF rfl h
              apply AW.last
              · simp [← e18]
                intros
                refine xcall_plain en_space_May (s_space_May e16) rfl ⟨.same rfl, trivial⟩ ?_
                try simp [← e18]
                intros
                refine xcall_plain en_r5_SameItem (s_r5_SameItem e17) rfl ⟨.same rfl, .same rfl, trivial⟩ ?_
                try simp [← e18]
                intros; rfl
              obtain rfl := Option.some.inj h
              refine nP_i ?_
              refine Weak.mixN [] hn0 (by decide) ?_ ?_ rfl
              all_goals first | (simp [inv_cons, inv_nil, pickOb]; done) | rfl
          | false =>
            replace h := iteF rfl h
            apply AW.last
            · simp
              intros
              refine xcall_plain en_space_May (s_space_May e16) rfl ⟨.same rfl, trivial⟩ ?_
              try simp
              intros
              refine xcall_plain en_r5_SameItem (s_r5_SameItem e17) rfl ⟨.same rfl, .same rfl, trivial⟩ ?_
              try simp
              intros; rfl
            obtain rfl := Option.some.inj h
            refine nP_i ?_
            refine Weak.mixN [] hn0 (by decide) ?_ ?_ rfl
            all_goals first | (simp [inv_cons, inv_nil, pickOb]; done) | rfl
        | false =>
          replace h := iteF rfl h
          apply AW.last
          · simp
            intros
            refine xcall_plain en_space_May (s_space_May e16) rfl ⟨.same rfl, trivial⟩ ?_
            try simp
            intros; rfl
          obtain rfl := Option.some.inj h
          refine nP_i ?_
          refine Weak.mixN [] hn0 (by decide) ?_ ?_ rfl
          all_goals first | (simp [inv_cons, inv_nil, pickOb]; done) | rfl
      · rintro e s hp
        obtain ⟨rfl, hw⟩ := hp
        refine ⟨_, hw, ?_⟩
        try simp only [sp_l, sp_r, Post.seq, Post.block, Nat.reduceEqDiff, reduceIte, Nat.zero_ne_one, Nat.one_ne_zero]
        obtain rfl := Option.some.inj h
        refine AW.ret ?_
        refine Left.plain hnb (by simp [Try.f13, resV, resC, comp]; rfl) rfl rfl ?_
        simp
end Go.Proofs.Ytlkhfdccapkcdaa

/- Walks, printed: r5_SameFields_ft, r1_Texts_ft, r5_SameItem_ft, r5_SameSpace_ft, l11_SpaceAll -/
namespace Go.Proofs.Ytlkhfdccapkcdaa
open Go Go.RowKit
set_option linter.unusedVariables false
set_option linter.unusedSimpArgs false
end Go.Proofs.Ytlkhfdccapkcdaa

/- Plain laws: SpaceMade, SpaceAll. -/
namespace Go.Proofs.Ytlkhfdccapkcdaa
open Go Go.RowKit
set_option linter.unusedVariables false
set_option linter.unusedSimpArgs false
theorem SpaceMade_ok (ns es : List Int) (which now : Int) (hu : u8s ns) (hv : u8s es) (h1 : 0 ≤ which ∧ which ≤ 255) (h2 : 0 ≤ now ∧ now ≤ 255) : l11_SpaceMade_sh big ns es which now = some true := by
  refine Rn.eq ?_
  unfold l11_SpaceMade_sh
  refine Rn.bn (P := fun b => b = false → ns.length ≤ 160 ∧ es.length ≤ 80) ?_ fun b hb => Rn.lt (Rn.ite (fun _ => Rn.bnE awake11_ok (Rn.some rfl)) (fun hg => ?_))
  · refine Rn.lt (Rn.lt (Rn.ite (fun _ => Rn.some (by simp)) (fun g1 => Rn.lt (Rn.lt (Rn.some fun g2 => ?_)))))
    have g1 := gtI_n g1
    have g2 := gtI_n g2
    simp only [lenI] at g1 g2
    omega
  obtain ⟨hn, hk⟩ := hb hg
  clear hb hg
  refine Rn.bn (Make_mayS ns hu (by omega)) fun db hdb => ?_
  obtain ⟨⟨d1, d2, d3, d4⟩, d5⟩ := hdb
  refine Rn.bn (Effects_may es hv (by omega)) fun m hm => ?_
  obtain ⟨⟨m1, m2⟩, m3⟩ := hm
  have hmo : ∀ e ∈ m, okI e.item := fun e he => (m2 e he).1
  obtain ⟨j, hj, -, hkey⟩ := Key_told which h1.1 h1.2
  refine Rn.bnE hkey (Rn.lt ?_)
  have hks := (keyT_ok hj).2.1
  generalize keyT j = key at hks ⊢
  clear hkey
  rw [cvI_64 (by omega) (by omega)]
  refine Rn.bnE (space_Get_ok db key now d1 d2 (by omega)) (Rn.bnE (r_Get_ok db key now (by omega)) (Rn.bnE (space_Apply_ok db m d1 d2 hmo (by omega)) ?_))
  obtain ⟨f1, f2, f3⟩ := foldA_inv m db d1 d2 hmo
  have f4 := foldA_all mayP m db d5.1 fun e he hg => ⟨by rw [keyed_size (m2 e he).2.1]; omega, m3 e he hg⟩
  have hap := r_Apply_ok db m d1 d2 hmo (by omega)
  rw [hap]
  clear hap
  generalize m.foldl applyP db = n at f1 f2 f3 f4 ⊢
  obtain ⟨v1, e1, e2⟩ := space_May_iff db (by omega) d2
  obtain rfl := e2.2 d5
  obtain ⟨v2, e3, e4⟩ := space_May_iff n (by omega) f2
  obtain rfl := e4.2 ⟨f4, f1⟩
  have hro : okI ((getP db key now).getD noI) := okI_getD fun it h => getP_ok d2 h
  have hkn : ∀ p ∈ n, p.key.size ≤ 1000000000000 := fun p hp => by have := (f4 p hp).1; omega
  have hil := inP_len n (slotOf key)
  refine Rn.bnE (v := true) ?_ (Rn.some rfl)
  rw [e1, e3, r_SameItem_refl _ hro, (slot_ok key (by omega)).1]
  simp only [lt_eq, bn_some, ite_t, ite_f, sm_inl, sm_inr, lenI_eq, Option.some.injEq, eqB_self]
  rw [r_SameSpace_refl n f2 (by omega)]
  simp only [lt_eq, bn_some, ite_t, ite_f, sm_inl, sm_inr, lenI_eq, Option.some.injEq]
  rw [space_In_ok n _ (by omega) hkn, r_In_ok n _ (by omega) hkn]
  simp only [lt_eq, bn_some, ite_t, ite_f, sm_inl, sm_inr, lenI_eq, Option.some.injEq]
  rw [r_eqT_refl _ (by omega)]
  simp only [lt_eq, bn_some, ite_t, ite_f, sm_inl, sm_inr, lenI_eq, Option.some.injEq]
  rw [awake11_ok]
  rfl
end Go.Proofs.Ytlkhfdccapkcdaa

/- What is read as data of the program's structs. -/
namespace Go.Proofs.Ytlkhfdccapkcdaa
open Go Go.RowKit
set_option linter.unusedVariables false
set_option linter.unusedSimpArgs false
set_option linter.constructorNameAsVariable false
set_option maxRecDepth 100000
section
variable {P : Program} {n t : Nat} {ts : List T}
theorem WfT.bool (hu : P.underlying t = some .bool) (h : WfT P (n + 1) t ts) : ∃ b, ts = [.v (.bool b)] := by rw [WfT, hu] at h; exact h
theorem WfT.int {k : IntKind} (hu : P.underlying t = some (.int k)) (h : WfT P (n + 1) t ts) : ∃ i, ts = [.v (.int k i)] ∧ (Lit.int k i).wf = true := by rw [WfT, hu] at h; exact h
theorem WfT.slice {e : Nat} (hu : P.underlying t = some (.slice e)) (h : WfT P (n + 1) t ts) : ∃ es, ts = [.sl (P.cellsOf e) es] ∧ es.length * P.bytesOf e ≤ reachBytes ∧ ∀ x ∈ es, WfT P n e x := by rw [WfT, hu] at h; exact h
theorem WfT.struct {fs : Array Go.Field} (hu : P.underlying t = some (.struct fs)) (h : WfT P (n + 1) t ts) : ∃ ps : List (List T), ts = ps.flatten ∧ All2 (fun p f => WfT P n f p) ps (fs.toList.map (·.type)) := by rw [WfT, hu] at h; exact h
end
theorem All2.cons_r {α β : Type} {R : α → β → Prop} {l : List α} {b : β} {bs : List β} (h : All2 R l (b :: bs)) : ∃ x xs, l = x :: xs ∧ R x b ∧ All2 R xs bs := by
  cases l with
  | nil => exact h.elim
  | cons x xs => exact ⟨x, xs, rfl, h⟩
theorem All2.nil_r {α β : Type} {R : α → β → Prop} {l : List α} (h : All2 R l ([] : List β)) : l = [] := by
  cases l with
  | nil => rfl
  | cons x xs => exact h.elim
def rngI (i : Int) : Prop := -9223372036854775808 ≤ i ∧ i ≤ 9223372036854775807
theorem wf_list {α : Type} {enc : List α → List (List T)} {R : List T → Prop} {rng : α → Prop} (hn : enc [] = []) (hc : ∀ x l, enc (x :: l) = enc [x] ++ enc l) (h1 : ∀ e, R e → ∃ x, enc [x] = [e] ∧ rng x) :
    ∀ es, (∀ x ∈ es, R x) → ∃ l, es = enc l ∧ ∀ x ∈ l, rng x
  | [], _ => ⟨[], hn.symm, fun x h => by cases h⟩
  | e :: es, h => by
    obtain ⟨x, hx, rx⟩ := h1 e (h e (by simp))
    obtain ⟨l, rfl, rl⟩ := wf_list hn hc h1 es fun y hy => h y (by simp [hy])
    refine ⟨x :: l, by rw [hc, hx]; rfl, ?_⟩
    intro y hy
    rcases List.mem_cons.1 hy with rfl | hy
    · exact rx
    · exact rl y hy
/-- Bytes. -/
def rngU (i : Int) : Prop := 0 ≤ i ∧ i ≤ 255
theorem wf_rngU {i : Int} (h : (Lit.int .u8 i).wf = true) : rngU i := by
  have h' := (Bool.and_eq_true _ _ ▸ h : _ ∧ _)
  exact ⟨of_decide_eq_true h'.1, of_decide_eq_true h'.2⟩
theorem wf_U (n : Nat) (e : List T) (h : WfT Try.prog (n + 1) 5 e) : ∃ x : Int, encU [x] = [e] ∧ rngU x := by
  obtain ⟨f, rfl, h2⟩ := WfT.int (t := 5) Try.underlying5 h
  have h' := (Bool.and_eq_true _ _ ▸ h2 : _ ∧ _)
  have h1 := of_decide_eq_true h'.1
  have h2 := of_decide_eq_true h'.2
  exact ⟨f, rfl, h1, h2⟩
theorem wf_Us {n : Nat} {es : List (List T)} (h : ∀ x ∈ es, WfT Try.prog (n + 1) 5 x) : ∃ l : List Int, es = encU l ∧ ∀ x ∈ l, rngU x :=
  wf_list (enc := encU) (R := fun e => WfT Try.prog (n + 1) 5 e) (rng := rngU) rfl (fun _ _ => rfl) (@wf_U n) es h
def rngField (x : Field) : Prop := True
def rngItem (x : Item) : Prop := (rngI x.kind) ∧ (x.f.length ≤ 4398046510976 ∧ ∀ y ∈ x.f, rngField y) ∧ (x.l.length ≤ 8796093021952) ∧ (rngI x.exp)
def rngPair (x : Pair) : Prop := (rngItem x.item)
def rngEffect (x : Effect) : Prop := (rngItem x.item)
def rngRid (x : Rid) : Prop := (rngI x.node) ∧ (rngI x.epoch)
def rngFeed (x : Feed) : Prop := (rngRid x.rid) ∧ (rngI x.off) ∧ (x.back.length ≤ 1353245080300 ∧ ∀ y ∈ x.back, rngEffect y) ∧ (rngRid x.prev) ∧ (rngI x.upto)
def rngClaim (x : Claim) : Prop := (rngI x.frm) ∧ (rngI x.to) ∧ (rngI x.node) ∧ (rngI x.epoch)
def rngMsg (x : Msg) : Prop := (rngI x.kind) ∧ (rngI x.frm) ∧ (rngI x.to) ∧ (rngI x.epoch) ∧ (x.claims.length ≤ 4398046510976 ∧ ∀ y ∈ x.claims, rngClaim y) ∧ (x.nodes.length ≤ 17592186043904 ∧ ∀ y ∈ x.nodes, rngI y) ∧ (rngI x.node) ∧ (rngI x.slot) ∧ (rngI x.num) ∧ (rngRid x.rid) ∧ (rngRid x.prev) ∧ (rngI x.off) ∧ (x.effects.length ≤ 1353245080300 ∧ ∀ y ∈ x.effects, rngEffect y)
end Go.Proofs.Ytlkhfdccapkcdaa

/- What all rows need. -/
namespace Go.Proofs.Ytlkhfdccapkcdaa
open Go Go.RowKit
open Go.ChangeShapes Go.WideShapes Go.ChangeAt Go.RowKit
theorem Try.own : ownKnob Try.prog.godebug = none := by kernel_rfl
theorem Try.laidOut : laidOutB Try.prog = true := by kernel_rfl
end Go.Proofs.Ytlkhfdccapkcdaa

