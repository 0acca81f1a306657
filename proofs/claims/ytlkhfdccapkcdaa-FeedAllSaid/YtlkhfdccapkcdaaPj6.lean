/- Part 6 of the proof. -/
import Derived.Test.YtlkhfdccapkcdaaPj5
import Derived.Test.YtlkhfdccapkcdaaRows
import Derived.ProofKit
/- Walks, printed: l5_Great, l11_Heavy, l15_great, l11_Great -/
namespace Go.Proofs.Ytlkhfdccapkcdaa
open Go Go.RowKit
set_option linter.unusedVariables false
set_option linter.unusedSimpArgs false
def l5_Great_sh (n : Nat) (a0 : Item) : Option Bool :=
bn (iter n (fun (y1 : Int) =>
bn (lt (lenI a0.f) fun v5 =>
lt (ltI y1 v5) fun v6 =>
ite' v6 (lt (ltI y1 60) fun v7 =>
some (v7)) (some (false))) fun (y4 : Bool) =>
lt (y4) fun v8 =>
ite' v8 (bn (bn (nth a0.f y1) fun v10 =>
lt (lenS v10.name) fun v11 =>
lt (gtI v11 400) fun v12 =>
ite' v12 (some (true)) (lt (lenS v10.val) fun v13 =>
lt (gtI v13 400) fun v14 =>
some (v14))) fun (y9 : Bool) =>
lt (y9) fun v15 =>
ite' v15 (some (.inr (.inr true))) (lt (addI .i64 y1 1) fun v16 =>
some (.inl v16))) (some (.inr (.inl ())))) 0) fun (y2 : Unit ⊕ Bool) =>
sm y2 (fun y17 => bn (iter n (fun (y19 : Int) =>
bn (lt (lenI a0.l) fun v23 =>
lt (ltI y19 v23) fun v24 =>
ite' v24 (lt (ltI y19 60) fun v25 =>
some (v25)) (some (false))) fun (y22 : Bool) =>
lt (y22) fun v26 =>
ite' v26 (bn (nth a0.l y19) fun v27 =>
lt (lenS v27) fun v28 =>
lt (gtI v28 400) fun v29 =>
ite' v29 (some (.inr (.inr true))) (lt (addI .i64 y19 1) fun v30 =>
some (.inl v30))) (some (.inr (.inl ())))) 0) fun (y20 : Unit ⊕ Bool) =>
sm y20 (fun y31 => bn (lt (lenS a0.s) fun v34 =>
lt (gtI v34 1000) fun v35 =>
ite' v35 (some (true)) (lt (lenI a0.f) fun v36 =>
lt (gtI v36 50) fun v37 =>
ite' v37 (some (true)) (lt (lenI a0.l) fun v38 =>
lt (gtI v38 50) fun v39 =>
some (v39)))) fun (y33 : Bool) =>
some y33) (fun y32 => some y32)) (fun y18 => some y18)
set_option maxRecDepth 8000 in
set_option maxHeartbeats 8000000 in
theorem s_l5_Great {n : Nat} {a0 : Item} {r : Bool} (h : l5_Great_sh n a0 = some r) : Sound Try.prog 87 [.g [.s (.int .i64 a0.kind), .s (.string a0.s), .d false 2 (encField a0.f), .d false 1 (encS a0.l), .s (.int .i64 a0.exp)]] [] (.l (.s (.bool r))) [] := by
  unfold l5_Great_sh at h
  refine Sound.of_aw (fn := Try.f87) (c := _) Try.func87 rfl (by simp [Try.f87]) fun cx hG hnb => ?_
  rw [show Try.f87.ntmps = 68 from rfl]
  have hn0 : cx.nb = 0 := hnb
  simp only [st0_mk, initTm, List.map_cons, List.map_nil]
  apply AW.step
  · simp
    intros; rfl
  refine AW.seq ?_
  apply AW.step
  · simp
    intros; rfl
  refine AW.block ?_
  replace h := bnE h; obtain ⟨y2, g2, h⟩ := h
  refine AW.iterP g2 (mk := fun gh ls q => (⟨[(1, .l (.p 0 0)), (3, .l (.s (.int .i64 q)))], [some ⟨34, 5, false, none, [.s (.int .i64 a0.kind), .s (.string a0.s), .d false 2 (encField a0.f), .d false 1 (encS a0.l), .s (.int .i64 a0.exp)]⟩], 68, gh, ls⟩ : St)) (N := fun gh ls => (sp (xP 0 (cx := cx) (fun _ => (⟨[(1, .l (.p 0 0))], [some ⟨34, 5, false, none, [.s (.int .i64 a0.kind), .s (.string a0.s), .d false 2 (encField a0.f), .d false 1 (encS a0.l), .s (.int .i64 a0.exp)]⟩], 68, gh, ls⟩ : St))) (rP (cx := cx) (P := Try.prog) Try.f87 (fun q => .l (.s (.bool q))) (fun q => [])))) ?_ (noS noX noR) ?_ ?_
  · refine Weak.mixN [some 0] hn0 (by decide) ?_ ?_ rfl
    all_goals first | (simp [inv_cons, inv_nil, pickOb]; done) | rfl
  · clear h; intro y1 y3 h
    refine AW.seq ?_
    replace h := bnE h; obtain ⟨y4, g4, h⟩ := h
    refine AW.flow (p := fun gh ls => (nP (cx := cx) (fun q => (⟨[(1, .l (.p 0 0)), (3, .l (.s (.int .i64 y1))), (13, .l (.s (.bool q)))], [some ⟨34, 5, false, none, [.s (.int .i64 a0.kind), .s (.string a0.s), .d false 2 (encField a0.f), .d false 1 (encS a0.l), .s (.int .i64 a0.exp)]⟩], 68, gh, ls⟩ : St))) y4) ?_ ?_
    · replace h := g4; clear g4
      replace h := ltE h; obtain ⟨v5, e5, h⟩ := h
      replace h := ltE h; obtain ⟨v6, e6, h⟩ := h
      cases v6 with
      | true =>
        replace h := iteT rfl h
        replace h := ltE h; obtain ⟨v7, e7, h⟩ := h
        apply AW.last
        · simp [lenI_cast e5, ← e6, ← e7]
          intros; rfl
        obtain rfl := Option.some.inj h
        refine nP_i ?_
        refine Weak.mixN [some 0] hn0 (by decide) ?_ ?_ rfl
        all_goals first | (simp [inv_cons, inv_nil, pickOb]; done) | rfl
      | false =>
        replace h := iteF rfl h
        apply AW.last
        · simp [lenI_cast e5, ← e6]
          intros; rfl
        obtain rfl := Option.some.inj h
        refine nP_i ?_
        refine Weak.mixN [some 0] hn0 (by decide) ?_ ?_ rfl
        all_goals first | (simp [inv_cons, inv_nil, pickOb]; done) | rfl
    · rintro e s hp
      obtain ⟨rfl, hw⟩ := hp
      refine ⟨_, hw, ?_⟩
      try simp only [sp_l, sp_r, Post.seq, Post.block, Nat.reduceEqDiff, reduceIte, Nat.zero_ne_one, Nat.one_ne_zero]
      replace h := ltE h; obtain ⟨v8, e8, h⟩ := h
      rw [← e8]
      cases v8 with
      | true =>
        replace h := iteT rfl h
        refine AW.cond_true (by simp) ?_
        refine AW.skip ?_
        try simp only [sp_l, sp_r, Post.seq, Post.block, Nat.reduceEqDiff, reduceIte, Nat.zero_ne_one, Nat.one_ne_zero]
        try simp only [sp_l, sp_r, Post.seq, Post.block, Nat.reduceEqDiff, reduceIte, Nat.zero_ne_one, Nat.one_ne_zero]
        refine AW.seq ?_
        refine AW.block ?_
        replace h := bnE h; obtain ⟨y9, g9, h⟩ := h
        refine AW.flow (p := fun gh ls => (nP (cx := cx) (fun q => (⟨[(1, .l (.p 0 0)), (3, .l (.s (.int .i64 y1))), (33, .l (.s (.bool q)))], [some ⟨34, 5, false, none, [.s (.int .i64 a0.kind), .s (.string a0.s), .d false 2 (encField a0.f), .d false 1 (encS a0.l), .s (.int .i64 a0.exp)]⟩], 68, gh, ls⟩ : St))) y9) ?_ ?_
        · replace h := g9; clear g9
          replace h := bnE h; obtain ⟨v10, e10, h⟩ := h
          replace h := ltE h; obtain ⟨v11, e11, h⟩ := h
          replace h := ltE h; obtain ⟨v12, e12, h⟩ := h
          cases v12 with
          | true =>
            replace h := iteT rfl h
            apply AW.last
            · simp [nth_d e10, ← e11, ← e12]
              intros; rfl
            obtain rfl := Option.some.inj h
            refine nP_i ?_
            refine Weak.mixN [some 0] hn0 (by decide) ?_ ?_ rfl
            all_goals first | (simp [inv_cons, inv_nil, pickOb]; done) | rfl
          | false =>
            replace h := iteF rfl h
            replace h := ltE h; obtain ⟨v13, e13, h⟩ := h
            replace h := ltE h; obtain ⟨v14, e14, h⟩ := h
            apply AW.last
            · simp [nth_d e10, ← e11, ← e12, ← e13, ← e14]
              intros; rfl
            obtain rfl := Option.some.inj h
            refine nP_i ?_
            refine Weak.mixN [some 0] hn0 (by decide) ?_ ?_ rfl
            all_goals first | (simp [inv_cons, inv_nil, pickOb]; done) | rfl
        · rintro e s hp
          obtain ⟨rfl, hw⟩ := hp
          refine ⟨_, hw, ?_⟩
          try simp only [sp_l, sp_r, Post.seq, Post.block, Nat.reduceEqDiff, reduceIte, Nat.zero_ne_one, Nat.one_ne_zero]
          replace h := ltE h; obtain ⟨v15, e15, h⟩ := h
          rw [← e15]
          cases v15 with
          | true =>
            replace h := iteT rfl h
            refine AW.cond_true (by simp) ?_
            apply AW.step
            · simp
              intros; rfl
            obtain rfl := Option.some.inj h
            refine AW.ret ?_
            try simp only [sp_l, sp_r, Post.seq, Post.block, Nat.reduceEqDiff, reduceIte, Nat.zero_ne_one, Nat.one_ne_zero]
            refine rP_i ?_
            refine Left.plain hnb (by simp [Try.f87, resV, resC, comp]; rfl) rfl rfl ?_
            simp
          | false =>
            replace h := iteF rfl h
            refine AW.cond_false (by simp) ?_
            refine AW.skip ?_
            try simp only [sp_l, sp_r, Post.seq, Post.block, Nat.reduceEqDiff, reduceIte, Nat.zero_ne_one, Nat.one_ne_zero]
            try simp only [sp_l, sp_r, Post.seq, Post.block, Nat.reduceEqDiff, reduceIte, Nat.zero_ne_one, Nat.one_ne_zero]
            replace h := ltE h; obtain ⟨v16, e16, h⟩ := h
            apply AW.last
            · simp [← e16]
              intros; rfl
            obtain rfl := Option.some.inj h
            refine nP_i ?_
            refine Weak.mixN [some 0] hn0 (by decide) ?_ ?_ rfl
            all_goals first | (simp [inv_cons, inv_nil, pickOb]; done) | rfl
      | false =>
        replace h := iteF rfl h
        refine AW.cond_false (by simp) ?_
        refine AW.exit ?_
        try simp only [sp_l, sp_r, Post.seq, Post.block, Nat.reduceEqDiff, reduceIte, Nat.zero_ne_one, Nat.one_ne_zero]
        obtain rfl := Option.some.inj h
        try simp only [sp_l, sp_r]
        refine xP_i ?_
        refine Weak.mixN [some 0] hn0 (by decide) ?_ ?_ rfl
        all_goals first | (simp [inv_cons, inv_nil, pickOb]; done) | rfl
  · rintro e s hp
    rcases y2 with y17 | y18
    · replace h := smL h
      obtain ⟨rfl, hw⟩ := hp
      refine ⟨_, hw, ?_⟩
      try simp only [sp_l, sp_r, Post.seq, Post.block, Nat.reduceEqDiff, reduceIte, Nat.zero_ne_one, Nat.one_ne_zero]
      refine AW.seq ?_
      apply AW.step
      · simp
        intros; rfl
      refine AW.block ?_
      replace h := bnE h; obtain ⟨y20, g20, h⟩ := h
      refine AW.iterP g20 (mk := fun gh ls q => (⟨[(1, .l (.p 0 0)), (4, .l (.s (.int .i64 q)))], [some ⟨34, 5, false, none, [.s (.int .i64 a0.kind), .s (.string a0.s), .d false 2 (encField a0.f), .d false 1 (encS a0.l), .s (.int .i64 a0.exp)]⟩], 68, gh, ls⟩ : St)) (N := fun gh ls => (sp (xP 2 (cx := cx) (fun _ => (⟨[(1, .l (.p 0 0))], [some ⟨34, 5, false, none, [.s (.int .i64 a0.kind), .s (.string a0.s), .d false 2 (encField a0.f), .d false 1 (encS a0.l), .s (.int .i64 a0.exp)]⟩], 68, gh, ls⟩ : St))) (rP (cx := cx) (P := Try.prog) Try.f87 (fun q => .l (.s (.bool q))) (fun q => [])))) ?_ (noS noX noR) ?_ ?_
      · refine Weak.mixN [some 0] hn0 (by decide) ?_ ?_ rfl
        all_goals first | (simp [inv_cons, inv_nil, pickOb]; done) | rfl
      · clear h; intro y19 y21 h
        refine AW.seq ?_
        replace h := bnE h; obtain ⟨y22, g22, h⟩ := h
        refine AW.flow (p := fun gh ls => (nP (cx := cx) (fun q => (⟨[(1, .l (.p 0 0)), (4, .l (.s (.int .i64 y19))), (42, .l (.s (.bool q)))], [some ⟨34, 5, false, none, [.s (.int .i64 a0.kind), .s (.string a0.s), .d false 2 (encField a0.f), .d false 1 (encS a0.l), .s (.int .i64 a0.exp)]⟩], 68, gh, ls⟩ : St))) y22) ?_ ?_
        · replace h := g22; clear g22
          replace h := ltE h; obtain ⟨v23, e23, h⟩ := h
          replace h := ltE h; obtain ⟨v24, e24, h⟩ := h
          cases v24 with
          | true =>
            replace h := iteT rfl h
            replace h := ltE h; obtain ⟨v25, e25, h⟩ := h
            apply AW.last
            · simp [lenI_cast e23, ← e24, ← e25]
              intros; rfl
            obtain rfl := Option.some.inj h
            refine nP_i ?_
            refine Weak.mixN [some 0] hn0 (by decide) ?_ ?_ rfl
            all_goals first | (simp [inv_cons, inv_nil, pickOb]; done) | rfl
          | false =>
            replace h := iteF rfl h
            apply AW.last
            · simp [lenI_cast e23, ← e24]
              intros; rfl
            obtain rfl := Option.some.inj h
            refine nP_i ?_
            refine Weak.mixN [some 0] hn0 (by decide) ?_ ?_ rfl
            all_goals first | (simp [inv_cons, inv_nil, pickOb]; done) | rfl
        · rintro e s hp
          obtain ⟨rfl, hw⟩ := hp
          refine ⟨_, hw, ?_⟩
          try simp only [sp_l, sp_r, Post.seq, Post.block, Nat.reduceEqDiff, reduceIte, Nat.zero_ne_one, Nat.one_ne_zero]
          replace h := ltE h; obtain ⟨v26, e26, h⟩ := h
          rw [← e26]
          cases v26 with
          | true =>
            replace h := iteT rfl h
            refine AW.cond_true (by simp) ?_
            refine AW.skip ?_
            try simp only [sp_l, sp_r, Post.seq, Post.block, Nat.reduceEqDiff, reduceIte, Nat.zero_ne_one, Nat.one_ne_zero]
            try simp only [sp_l, sp_r, Post.seq, Post.block, Nat.reduceEqDiff, reduceIte, Nat.zero_ne_one, Nat.one_ne_zero]
            refine AW.seq ?_
            refine AW.block ?_
            replace h := bnE h; obtain ⟨v27, e27, h⟩ := h
            replace h := ltE h; obtain ⟨v28, e28, h⟩ := h
            replace h := ltE h; obtain ⟨v29, e29, h⟩ := h
            apply AW.step
            · simp [nth_d e27, ← e28, ← e29]
              intros; rfl
            cases v29 with
            | true =>
              replace h := iteT rfl h
              refine AW.cond_true (by simp) ?_
              apply AW.step
              · simp
                intros; rfl
              obtain rfl := Option.some.inj h
              refine AW.ret ?_
              try simp only [sp_l, sp_r, Post.seq, Post.block, Nat.reduceEqDiff, reduceIte, Nat.zero_ne_one, Nat.one_ne_zero]
              refine rP_i ?_
              refine Left.plain hnb (by simp [Try.f87, resV, resC, comp]; rfl) rfl rfl ?_
              simp
            | false =>
              replace h := iteF rfl h
              refine AW.cond_false (by simp) ?_
              refine AW.skip ?_
              try simp only [sp_l, sp_r, Post.seq, Post.block, Nat.reduceEqDiff, reduceIte, Nat.zero_ne_one, Nat.one_ne_zero]
              try simp only [sp_l, sp_r, Post.seq, Post.block, Nat.reduceEqDiff, reduceIte, Nat.zero_ne_one, Nat.one_ne_zero]
              replace h := ltE h; obtain ⟨v30, e30, h⟩ := h
              apply AW.last
              · simp [← e30]
                intros; rfl
              obtain rfl := Option.some.inj h
              refine nP_i ?_
              refine Weak.mixN [some 0] hn0 (by decide) ?_ ?_ rfl
              all_goals first | (simp [inv_cons, inv_nil, pickOb]; done) | rfl
          | false =>
            replace h := iteF rfl h
            refine AW.cond_false (by simp) ?_
            refine AW.exit ?_
            try simp only [sp_l, sp_r, Post.seq, Post.block, Nat.reduceEqDiff, reduceIte, Nat.zero_ne_one, Nat.one_ne_zero]
            obtain rfl := Option.some.inj h
            try simp only [sp_l, sp_r]
            refine xP_i ?_
            refine Weak.mixN [some 0] hn0 (by decide) ?_ ?_ rfl
            all_goals first | (simp [inv_cons, inv_nil, pickOb]; done) | rfl
      · rintro e s hp
        rcases y20 with y31 | y32
        · replace h := smL h
          obtain ⟨rfl, hw⟩ := hp
          refine ⟨_, hw, ?_⟩
          try simp only [sp_l, sp_r, Post.seq, Post.block, Nat.reduceEqDiff, reduceIte, Nat.zero_ne_one, Nat.one_ne_zero]
          replace h := bnE h; obtain ⟨y33, g33, h⟩ := h
          refine AW.flow (p := fun gh ls => (nP (cx := cx) (fun q => (⟨[(2, .l (.s (.bool q)))], [], 68, gh, ls⟩ : St))) y33) ?_ ?_
          · replace h := g33; clear g33
            replace h := ltE h; obtain ⟨v34, e34, h⟩ := h
            replace h := ltE h; obtain ⟨v35, e35, h⟩ := h
            cases v35 with
            | true =>
              replace h := iteT rfl h
              apply AW.last
              · simp [← e34, ← e35]
                intros; rfl
              obtain rfl := Option.some.inj h
              refine nP_i ?_
              refine Weak.mixN [] hn0 (by decide) ?_ ?_ rfl
              all_goals first | (simp [inv_cons, inv_nil, pickOb]; done) | rfl
            | false =>
              replace h := iteF rfl h
              replace h := ltE h; obtain ⟨v36, e36, h⟩ := h
              replace h := ltE h; obtain ⟨v37, e37, h⟩ := h
              cases v37 with
              | true =>
                replace h := iteT rfl h
                apply AW.last
                · simp [← e34, ← e35, lenI_cast e36, ← e37]
                  intros; rfl
                obtain rfl := Option.some.inj h
                refine nP_i ?_
                refine Weak.mixN [] hn0 (by decide) ?_ ?_ rfl
                all_goals first | (simp [inv_cons, inv_nil, pickOb]; done) | rfl
              | false =>
                replace h := iteF rfl h
                replace h := ltE h; obtain ⟨v38, e38, h⟩ := h
                replace h := ltE h; obtain ⟨v39, e39, h⟩ := h
                apply AW.last
                · simp [← e34, ← e35, lenI_cast e36, ← e37, lenI_cast e38, ← e39]
                  intros; rfl
                obtain rfl := Option.some.inj h
                refine nP_i ?_
                refine Weak.mixN [] hn0 (by decide) ?_ ?_ rfl
                all_goals first | (simp [inv_cons, inv_nil, pickOb]; done) | rfl
          · rintro e s hp
            obtain ⟨rfl, hw⟩ := hp
            refine ⟨_, hw, ?_⟩
            try simp only [sp_l, sp_r, Post.seq, Post.block, Nat.reduceEqDiff, reduceIte, Nat.zero_ne_one, Nat.one_ne_zero]
            obtain rfl := Option.some.inj h
            refine AW.ret ?_
            refine Left.plain hnb (by simp [Try.f87, resV, resC, comp]; rfl) rfl rfl ?_
            simp
        · replace h := smR h
          obtain ⟨rfl, hl⟩ := hp
          refine ⟨_, Weak.refl _, ?_⟩
          obtain rfl := Option.some.inj h
          exact hl
    · replace h := smR h
      obtain ⟨rfl, hl⟩ := hp
      refine ⟨_, Weak.refl _, ?_⟩
      obtain rfl := Option.some.inj h
      exact hl
theorem en_l5_Great : Enters Try.prog 87 := enters Try.func87 (by kernel_rfl) rfl
def l11_Heavy_sh (n : Nat) (a0 : List Effect) : Option Bool :=
bn (iter n (fun (y1 : Int) =>
bn (lt (lenI a0) fun v5 =>
lt (ltI y1 v5) fun v6 =>
ite' v6 (lt (ltI y1 60) fun v7 =>
some (v7)) (some (false))) fun (y4 : Bool) =>
lt (y4) fun v8 =>
ite' v8 (bn (bn (nth a0 y1) fun v10 =>
lt (lenS v10.key) fun v11 =>
lt (gtI v11 200) fun v12 =>
ite' v12 (some (true)) (bn (l5_Great_sh n v10.item) fun v13 =>
some (v13))) fun (y9 : Bool) =>
lt (y9) fun v14 =>
ite' v14 (some (.inr (.inr true))) (lt (addI .i64 y1 1) fun v15 =>
some (.inl v15))) (some (.inr (.inl ())))) 0) fun (y2 : Unit ⊕ Bool) =>
sm y2 (fun y16 => lt (lenI a0) fun v18 =>
lt (gtI v18 50) fun v19 =>
some v19) (fun y17 => some y17)
set_option maxRecDepth 8000 in
set_option maxHeartbeats 8000000 in
theorem s_l11_Heavy {n : Nat} {a0 : List Effect} {r : Bool} (h : l11_Heavy_sh n a0 = some r) : Sound Try.prog 45 [.l (.d false 7 (encEffect a0))] [] (.l (.s (.bool r))) [] := by
  unfold l11_Heavy_sh at h
  refine Sound.of_aw (fn := Try.f45) (c := _) Try.func45 rfl (by simp [Try.f45]) fun cx hG hnb => ?_
  rw [show Try.f45.ntmps = 32 from rfl]
  have hn0 : cx.nb = 0 := hnb
  simp only [st0_mk, initTm, List.map_cons, List.map_nil]
  apply AW.step
  · simp
    intros; rfl
  refine AW.seq ?_
  apply AW.step
  · simp
    intros; rfl
  refine AW.block ?_
  replace h := bnE h; obtain ⟨y2, g2, h⟩ := h
  refine AW.iterP g2 (mk := fun gh ls q => (⟨[(0, .l (.d false 7 (encEffect a0))), (3, .l (.s (.int .i64 q)))], [], 32, gh, ls⟩ : St)) (N := fun gh ls => (sp (xP 0 (cx := cx) (fun _ => (⟨[(0, .l (.d false 7 (encEffect a0)))], [], 32, gh, ls⟩ : St))) (rP (cx := cx) (P := Try.prog) Try.f45 (fun q => .l (.s (.bool q))) (fun q => [])))) ?_ (noS noX noR) ?_ ?_
  · refine Weak.mixN [] hn0 (by decide) ?_ ?_ rfl
    all_goals first | (simp [inv_cons, inv_nil, pickOb]; done) | rfl
  · clear h; intro y1 y3 h
    refine AW.seq ?_
    replace h := bnE h; obtain ⟨y4, g4, h⟩ := h
    refine AW.flow (p := fun gh ls => (nP (cx := cx) (fun q => (⟨[(0, .l (.d false 7 (encEffect a0))), (3, .l (.s (.int .i64 y1))), (11, .l (.s (.bool q)))], [], 32, gh, ls⟩ : St))) y4) ?_ ?_
    · replace h := g4; clear g4
      replace h := ltE h; obtain ⟨v5, e5, h⟩ := h
      replace h := ltE h; obtain ⟨v6, e6, h⟩ := h
      cases v6 with
      | true =>
        replace h := iteT rfl h
        replace h := ltE h; obtain ⟨v7, e7, h⟩ := h
        apply AW.last
        · simp [lenI_cast e5, ← e6, ← e7]
          intros; rfl
        obtain rfl := Option.some.inj h
        refine nP_i ?_
        refine Weak.mixN [] hn0 (by decide) ?_ ?_ rfl
        all_goals first | (simp [inv_cons, inv_nil, pickOb]; done) | rfl
      | false =>
        replace h := iteF rfl h
        apply AW.last
        · simp [lenI_cast e5, ← e6]
          intros; rfl
        obtain rfl := Option.some.inj h
        refine nP_i ?_
        refine Weak.mixN [] hn0 (by decide) ?_ ?_ rfl
        all_goals first | (simp [inv_cons, inv_nil, pickOb]; done) | rfl
    · rintro e s hp
      obtain ⟨rfl, hw⟩ := hp
      refine ⟨_, hw, ?_⟩
      try simp only [sp_l, sp_r, Post.seq, Post.block, Nat.reduceEqDiff, reduceIte, Nat.zero_ne_one, Nat.one_ne_zero]
      replace h := ltE h; obtain ⟨v8, e8, h⟩ := h
      rw [← e8]
      cases v8 with
      | true =>
        replace h := iteT rfl h
        refine AW.cond_true (by simp) ?_
        refine AW.skip ?_
        try simp only [sp_l, sp_r, Post.seq, Post.block, Nat.reduceEqDiff, reduceIte, Nat.zero_ne_one, Nat.one_ne_zero]
        try simp only [sp_l, sp_r, Post.seq, Post.block, Nat.reduceEqDiff, reduceIte, Nat.zero_ne_one, Nat.one_ne_zero]
        refine AW.seq ?_
        refine AW.block ?_
        replace h := bnE h; obtain ⟨y9, g9, h⟩ := h
        refine AW.flow (p := fun gh ls => (nP (cx := cx) (fun q => (⟨[(0, .l (.d false 7 (encEffect a0))), (3, .l (.s (.int .i64 y1))), (28, .l (.s (.bool q)))], [], 32, gh, ls⟩ : St))) y9) ?_ ?_
        · replace h := g9; clear g9
          replace h := bnE h; obtain ⟨v10, e10, h⟩ := h
          replace h := ltE h; obtain ⟨v11, e11, h⟩ := h
          replace h := ltE h; obtain ⟨v12, e12, h⟩ := h
          cases v12 with
          | true =>
            replace h := iteT rfl h
            apply AW.last
            · simp [nth_d e10, ← e11, ← e12]
              intros; rfl
            obtain rfl := Option.some.inj h
            refine nP_i ?_
            refine Weak.mixN [] hn0 (by decide) ?_ ?_ rfl
            all_goals first | (simp [inv_cons, inv_nil, pickOb]; done) | rfl
          | false =>
            replace h := iteF rfl h
            replace h := bnE h; obtain ⟨v13, e13, h⟩ := h
            apply AW.last
            · simp [nth_d e10, ← e11, ← e12]
              intros
              refine xcall_plain en_l5_Great (s_l5_Great e13) rfl ⟨.same rfl, trivial⟩ ?_
              try simp [nth_d e10, ← e11, ← e12]
              intros; rfl
            obtain rfl := Option.some.inj h
            refine nP_i ?_
            refine Weak.mixN [] hn0 (by decide) ?_ ?_ rfl
            all_goals first | (simp [inv_cons, inv_nil, pickOb]; done) | rfl
        · rintro e s hp
          obtain ⟨rfl, hw⟩ := hp
          refine ⟨_, hw, ?_⟩
          try simp only [sp_l, sp_r, Post.seq, Post.block, Nat.reduceEqDiff, reduceIte, Nat.zero_ne_one, Nat.one_ne_zero]
          replace h := ltE h; obtain ⟨v14, e14, h⟩ := h
          rw [← e14]
          cases v14 with
          | true =>
            replace h := iteT rfl h
            refine AW.cond_true (by simp) ?_
            apply AW.step
            · simp
              intros; rfl
            obtain rfl := Option.some.inj h
            refine AW.ret ?_
            try simp only [sp_l, sp_r, Post.seq, Post.block, Nat.reduceEqDiff, reduceIte, Nat.zero_ne_one, Nat.one_ne_zero]
            refine rP_i ?_
            refine Left.plain hnb (by simp [Try.f45, resV, resC, comp]; rfl) rfl rfl ?_
            simp
          | false =>
            replace h := iteF rfl h
            refine AW.cond_false (by simp) ?_
            refine AW.skip ?_
            try simp only [sp_l, sp_r, Post.seq, Post.block, Nat.reduceEqDiff, reduceIte, Nat.zero_ne_one, Nat.one_ne_zero]
            try simp only [sp_l, sp_r, Post.seq, Post.block, Nat.reduceEqDiff, reduceIte, Nat.zero_ne_one, Nat.one_ne_zero]
            replace h := ltE h; obtain ⟨v15, e15, h⟩ := h
            apply AW.last
            · simp [← e15]
              intros; rfl
            obtain rfl := Option.some.inj h
            refine nP_i ?_
            refine Weak.mixN [] hn0 (by decide) ?_ ?_ rfl
            all_goals first | (simp [inv_cons, inv_nil, pickOb]; done) | rfl
      | false =>
        replace h := iteF rfl h
        refine AW.cond_false (by simp) ?_
        refine AW.exit ?_
        try simp only [sp_l, sp_r, Post.seq, Post.block, Nat.reduceEqDiff, reduceIte, Nat.zero_ne_one, Nat.one_ne_zero]
        obtain rfl := Option.some.inj h
        try simp only [sp_l, sp_r]
        refine xP_i ?_
        refine Weak.mixN [] hn0 (by decide) ?_ ?_ rfl
        all_goals first | (simp [inv_cons, inv_nil, pickOb]; done) | rfl
  · rintro e s hp
    rcases y2 with y16 | y17
    · replace h := smL h
      obtain ⟨rfl, hw⟩ := hp
      refine ⟨_, hw, ?_⟩
      try simp only [sp_l, sp_r, Post.seq, Post.block, Nat.reduceEqDiff, reduceIte, Nat.zero_ne_one, Nat.one_ne_zero]
      replace h := ltE h; obtain ⟨v18, e18, h⟩ := h
      replace h := ltE h; obtain ⟨v19, e19, h⟩ := h
      apply AW.step
      · simp [lenI_cast e18, ← e19]
        intros; rfl
      obtain rfl := Option.some.inj h
      refine AW.ret ?_
      refine Left.plain hnb (by simp [Try.f45, resV, resC, comp]; rfl) rfl rfl ?_
      simp
    · replace h := smR h
      obtain ⟨rfl, hl⟩ := hp
      refine ⟨_, Weak.refl _, ?_⟩
      obtain rfl := Option.some.inj h
      exact hl
theorem en_l11_Heavy : Enters Try.prog 45 := enters Try.func45 (by kernel_rfl) rfl
def l15_great_sh (n : Nat) (a0 : Feed) : Option Bool :=
bn (lt (lenI a0.back) fun v2 =>
lt (gtI v2 64) fun v3 =>
ite' v3 (some (true)) (bn (l11_Heavy_sh n a0.back) fun v4 =>
ite' v4 (lt (leI v2 50) fun v5 =>
some (v5)) (some (false)))) fun (y1 : Bool) =>
some y1
set_option maxRecDepth 8000 in
set_option maxHeartbeats 8000000 in
theorem s_l15_great {n : Nat} {a0 : Feed} {r : Bool} (h : l15_great_sh n a0 = some r) : Sound Try.prog 43 [.g [.s (.int .i64 a0.rid.node), .s (.int .i64 a0.rid.epoch), .s (.int .i64 a0.off), .d false 7 (encEffect a0.back), .s (.int .i64 a0.prev.node), .s (.int .i64 a0.prev.epoch), .s (.int .i64 a0.upto)]] [] (.l (.s (.bool r))) [] := by
  unfold l15_great_sh at h
  refine Sound.of_aw (fn := Try.f43) (c := _) Try.func43 rfl (by simp [Try.f43]) fun cx hG hnb => ?_
  rw [show Try.f43.ntmps = 18 from rfl]
  have hn0 : cx.nb = 0 := hnb
  simp only [st0_mk, initTm, List.map_cons, List.map_nil]
  apply AW.step
  · simp
    intros; rfl
  replace h := bnE h; obtain ⟨y1, g1, h⟩ := h
  refine AW.flow (p := fun gh ls => (nP (cx := cx) (fun q => (⟨[(2, .l (.s (.bool q)))], [], 18, gh, ls⟩ : St))) y1) ?_ ?_
  · replace h := g1; clear g1
    replace h := ltE h; obtain ⟨v2, e2, h⟩ := h
    replace h := ltE h; obtain ⟨v3, e3, h⟩ := h
    cases v3 with
    | true =>
      replace h := iteT rfl h
      apply AW.last
      · simp [lenI_cast e2, ← e3]
        intros; rfl
      obtain rfl := Option.some.inj h
      refine nP_i ?_
      refine Weak.mixN [] hn0 (by decide) ?_ ?_ rfl
      all_goals first | (simp [inv_cons, inv_nil, pickOb]; done) | rfl
    | false =>
      replace h := iteF rfl h
      replace h := bnE h; obtain ⟨v4, e4, h⟩ := h
      cases v4 with
      | true =>
        replace h := iteT rfl h
        replace h := ltE h; obtain ⟨v5, e5, h⟩ := h
        apply AW.last
        · simp [lenI_cast e2, ← e3, ← e5]
          intros
          refine xcall_plain en_l11_Heavy (s_l11_Heavy e4) rfl ⟨.same rfl, trivial⟩ ?_
          try simp [lenI_cast e2, ← e3, ← e5]
          intros; rfl
        obtain rfl := Option.some.inj h
        refine nP_i ?_
        refine Weak.mixN [] hn0 (by decide) ?_ ?_ rfl
        all_goals first | (simp [inv_cons, inv_nil, pickOb]; done) | rfl
      | false =>
        replace h := iteF rfl h
        apply AW.last
        · simp [lenI_cast e2, ← e3]
          intros
          refine xcall_plain en_l11_Heavy (s_l11_Heavy e4) rfl ⟨.same rfl, trivial⟩ ?_
          try simp [lenI_cast e2, ← e3]
          intros; rfl
        obtain rfl := Option.some.inj h
        refine nP_i ?_
        refine Weak.mixN [] hn0 (by decide) ?_ ?_ rfl
        all_goals first | (simp [inv_cons, inv_nil, pickOb]; done) | rfl
  · rintro e s hp
    obtain ⟨rfl, hw⟩ := hp
    refine ⟨_, hw, ?_⟩
    try simp only [sp_l, sp_r, Post.seq, Post.block, Nat.reduceEqDiff, reduceIte, Nat.zero_ne_one, Nat.one_ne_zero]
    obtain rfl := Option.some.inj h
    refine AW.ret ?_
    refine Left.plain hnb (by simp [Try.f43, resV, resC, comp]; rfl) rfl rfl ?_
    simp
theorem en_l15_great : Enters Try.prog 43 := enters Try.func43 (by kernel_rfl) rfl
def l11_Great_sh (n : Nat) (a0 : List Pair) : Option Bool :=
bn (iter n (fun (y1 : Int) =>
bn (lt (lenI a0) fun v5 =>
lt (ltI y1 v5) fun v6 =>
ite' v6 (lt (ltI y1 60) fun v7 =>
some (v7)) (some (false))) fun (y4 : Bool) =>
lt (y4) fun v8 =>
ite' v8 (bn (bn (nth a0 y1) fun v10 =>
lt (lenS v10.key) fun v11 =>
lt (gtI v11 200) fun v12 =>
ite' v12 (some (true)) (bn (l5_Great_sh n v10.item) fun v13 =>
some (v13))) fun (y9 : Bool) =>
lt (y9) fun v14 =>
ite' v14 (some (.inr (.inr true))) (lt (addI .i64 y1 1) fun v15 =>
some (.inl v15))) (some (.inr (.inl ())))) 0) fun (y2 : Unit ⊕ Bool) =>
sm y2 (fun y16 => lt (lenI a0) fun v18 =>
lt (gtI v18 50) fun v19 =>
some v19) (fun y17 => some y17)
set_option maxRecDepth 8000 in
set_option maxHeartbeats 8000000 in
theorem s_l11_Great {n : Nat} {a0 : List Pair} {r : Bool} (h : l11_Great_sh n a0 = some r) : Sound Try.prog 44 [.l (.d false 6 (encPair a0))] [] (.l (.s (.bool r))) [] := by
  unfold l11_Great_sh at h
  refine Sound.of_aw (fn := Try.f44) (c := _) Try.func44 rfl (by simp [Try.f44]) fun cx hG hnb => ?_
  rw [show Try.f44.ntmps = 32 from rfl]
  have hn0 : cx.nb = 0 := hnb
  simp only [st0_mk, initTm, List.map_cons, List.map_nil]
  apply AW.step
  · simp
    intros; rfl
  refine AW.seq ?_
  apply AW.step
  · simp
    intros; rfl
  refine AW.block ?_
  replace h := bnE h; obtain ⟨y2, g2, h⟩ := h
  refine AW.iterP g2 (mk := fun gh ls q => (⟨[(0, .l (.d false 6 (encPair a0))), (3, .l (.s (.int .i64 q)))], [], 32, gh, ls⟩ : St)) (N := fun gh ls => (sp (xP 0 (cx := cx) (fun _ => (⟨[(0, .l (.d false 6 (encPair a0)))], [], 32, gh, ls⟩ : St))) (rP (cx := cx) (P := Try.prog) Try.f44 (fun q => .l (.s (.bool q))) (fun q => [])))) ?_ (noS noX noR) ?_ ?_
  · refine Weak.mixN [] hn0 (by decide) ?_ ?_ rfl
    all_goals first | (simp [inv_cons, inv_nil, pickOb]; done) | rfl
  · clear h; intro y1 y3 h
    refine AW.seq ?_
    replace h := bnE h; obtain ⟨y4, g4, h⟩ := h
    refine AW.flow (p := fun gh ls => (nP (cx := cx) (fun q => (⟨[(0, .l (.d false 6 (encPair a0))), (3, .l (.s (.int .i64 y1))), (11, .l (.s (.bool q)))], [], 32, gh, ls⟩ : St))) y4) ?_ ?_
    · replace h := g4; clear g4
      replace h := ltE h; obtain ⟨v5, e5, h⟩ := h
      replace h := ltE h; obtain ⟨v6, e6, h⟩ := h
      cases v6 with
      | true =>
        replace h := iteT rfl h
        replace h := ltE h; obtain ⟨v7, e7, h⟩ := h
        apply AW.last
        · simp [lenI_cast e5, ← e6, ← e7]
          intros; rfl
        obtain rfl := Option.some.inj h
        refine nP_i ?_
        refine Weak.mixN [] hn0 (by decide) ?_ ?_ rfl
        all_goals first | (simp [inv_cons, inv_nil, pickOb]; done) | rfl
      | false =>
        replace h := iteF rfl h
        apply AW.last
        · simp [lenI_cast e5, ← e6]
          intros; rfl
        obtain rfl := Option.some.inj h
        refine nP_i ?_
        refine Weak.mixN [] hn0 (by decide) ?_ ?_ rfl
        all_goals first | (simp [inv_cons, inv_nil, pickOb]; done) | rfl
    · rintro e s hp
      obtain ⟨rfl, hw⟩ := hp
      refine ⟨_, hw, ?_⟩
      try simp only [sp_l, sp_r, Post.seq, Post.block, Nat.reduceEqDiff, reduceIte, Nat.zero_ne_one, Nat.one_ne_zero]
      replace h := ltE h; obtain ⟨v8, e8, h⟩ := h
      rw [← e8]
      cases v8 with
      | true =>
        replace h := iteT rfl h
        refine AW.cond_true (by simp) ?_
        refine AW.skip ?_
        try simp only [sp_l, sp_r, Post.seq, Post.block, Nat.reduceEqDiff, reduceIte, Nat.zero_ne_one, Nat.one_ne_zero]
        try simp only [sp_l, sp_r, Post.seq, Post.block, Nat.reduceEqDiff, reduceIte, Nat.zero_ne_one, Nat.one_ne_zero]
        refine AW.seq ?_
        refine AW.block ?_
        replace h := bnE h; obtain ⟨y9, g9, h⟩ := h
        refine AW.flow (p := fun gh ls => (nP (cx := cx) (fun q => (⟨[(0, .l (.d false 6 (encPair a0))), (3, .l (.s (.int .i64 y1))), (28, .l (.s (.bool q)))], [], 32, gh, ls⟩ : St))) y9) ?_ ?_
        · replace h := g9; clear g9
          replace h := bnE h; obtain ⟨v10, e10, h⟩ := h
          replace h := ltE h; obtain ⟨v11, e11, h⟩ := h
          replace h := ltE h; obtain ⟨v12, e12, h⟩ := h
          cases v12 with
          | true =>
            replace h := iteT rfl h
            apply AW.last
            · simp [nth_d e10, ← e11, ← e12]
              intros; rfl
            obtain rfl := Option.some.inj h
            refine nP_i ?_
            refine Weak.mixN [] hn0 (by decide) ?_ ?_ rfl
            all_goals first | (simp [inv_cons, inv_nil, pickOb]; done) | rfl
          | false =>
            replace h := iteF rfl h
            replace h := bnE h; obtain ⟨v13, e13, h⟩ := h
            apply AW.last
            · simp [nth_d e10, ← e11, ← e12]
              intros
              refine xcall_plain en_l5_Great (s_l5_Great e13) rfl ⟨.same rfl, trivial⟩ ?_
              try simp [nth_d e10, ← e11, ← e12]
              intros; rfl
            obtain rfl := Option.some.inj h
            refine nP_i ?_
            refine Weak.mixN [] hn0 (by decide) ?_ ?_ rfl
            all_goals first | (simp [inv_cons, inv_nil, pickOb]; done) | rfl
        · rintro e s hp
          obtain ⟨rfl, hw⟩ := hp
          refine ⟨_, hw, ?_⟩
          try simp only [sp_l, sp_r, Post.seq, Post.block, Nat.reduceEqDiff, reduceIte, Nat.zero_ne_one, Nat.one_ne_zero]
          replace h := ltE h; obtain ⟨v14, e14, h⟩ := h
          rw [← e14]
          cases v14 with
          | true =>
            replace h := iteT rfl h
            refine AW.cond_true (by simp) ?_
            apply AW.step
            · simp
              intros; rfl
            obtain rfl := Option.some.inj h
            refine AW.ret ?_
            try simp only [sp_l, sp_r, Post.seq, Post.block, Nat.reduceEqDiff, reduceIte, Nat.zero_ne_one, Nat.one_ne_zero]
            refine rP_i ?_
            refine Left.plain hnb (by simp [Try.f44, resV, resC, comp]; rfl) rfl rfl ?_
            simp
          | false =>
            replace h := iteF rfl h
            refine AW.cond_false (by simp) ?_
            refine AW.skip ?_
            try simp only [sp_l, sp_r, Post.seq, Post.block, Nat.reduceEqDiff, reduceIte, Nat.zero_ne_one, Nat.one_ne_zero]
            try simp only [sp_l, sp_r, Post.seq, Post.block, Nat.reduceEqDiff, reduceIte, Nat.zero_ne_one, Nat.one_ne_zero]
            replace h := ltE h; obtain ⟨v15, e15, h⟩ := h
            apply AW.last
            · simp [← e15]
              intros; rfl
            obtain rfl := Option.some.inj h
            refine nP_i ?_
            refine Weak.mixN [] hn0 (by decide) ?_ ?_ rfl
            all_goals first | (simp [inv_cons, inv_nil, pickOb]; done) | rfl
      | false =>
        replace h := iteF rfl h
        refine AW.cond_false (by simp) ?_
        refine AW.exit ?_
        try simp only [sp_l, sp_r, Post.seq, Post.block, Nat.reduceEqDiff, reduceIte, Nat.zero_ne_one, Nat.one_ne_zero]
        obtain rfl := Option.some.inj h
        try simp only [sp_l, sp_r]
        refine xP_i ?_
        refine Weak.mixN [] hn0 (by decide) ?_ ?_ rfl
        all_goals first | (simp [inv_cons, inv_nil, pickOb]; done) | rfl
  · rintro e s hp
    rcases y2 with y16 | y17
    · replace h := smL h
      obtain ⟨rfl, hw⟩ := hp
      refine ⟨_, hw, ?_⟩
      try simp only [sp_l, sp_r, Post.seq, Post.block, Nat.reduceEqDiff, reduceIte, Nat.zero_ne_one, Nat.one_ne_zero]
      replace h := ltE h; obtain ⟨v18, e18, h⟩ := h
      replace h := ltE h; obtain ⟨v19, e19, h⟩ := h
      apply AW.step
      · simp [lenI_cast e18, ← e19]
        intros; rfl
      obtain rfl := Option.some.inj h
      refine AW.ret ?_
      refine Left.plain hnb (by simp [Try.f44, resV, resC, comp]; rfl) rfl rfl ?_
      simp
    · replace h := smR h
      obtain ⟨rfl, hl⟩ := hp
      refine ⟨_, Weak.refl _, ?_⟩
      obtain rfl := Option.some.inj h
      exact hl
theorem en_l11_Great : Enters Try.prog 44 := enters Try.func44 (by kernel_rfl) rfl
end Go.Proofs.Ytlkhfdccapkcdaa

/- Plain laws: what may be, what is great. -/
namespace Go.Proofs.Ytlkhfdccapkcdaa
open Go Go.RowKit
set_option linter.unusedVariables false
set_option linter.unusedSimpArgs false
theorem gtI_n {a b : Int} (h : gtI a b = false) : a ≤ b := by simpa [gtI] using h
theorem gtI_d {a b : Int} (h : gtI a b = true) : b < a := by simpa [gtI] using h
theorem leI_d {a b : Int} (h : leI a b = true) : a ≤ b := by simpa [leI] using h
/-- A loop over the first sixty that ends at once where something is great. -/
theorem sixty {α : Type} {β : Type} (l : List α) (body : α → Option Bool) (hbody : ∀ x ∈ l, Rn (body x) fun _ => True) (Q : α → Prop) (hQ : ∀ x ∈ l, body x = some false → Q x)
    {k : Unit ⊕ Bool → Option β} {R : β → Prop} (f : Int → Option (Int ⊕ (Unit ⊕ Bool)))
    (hf : ∀ i : Nat, f (i : Int) = if hi : i < l.length ∧ i < 60 then (body (l[i]'hi.1)).bind fun b => if b = true then some (.inr (.inr true)) else some (.inl ((i : Int) + 1)) else some (.inr (.inl ())))
    (h1 : (∀ i (hi : i < l.length), i < 60 → Q l[i]) → Rn (k (.inl ())) R) (h2 : Rn (k (.inr true)) R) : Rn (bn (iter big f 0) k) R := by
  refine Rn.bn (P := fun y => (y = .inl () ∧ ∀ i (hi : i < l.length), i < 60 → Q l[i]) ∨ y = .inr true) (Rn.iter _ (fun q a => a = (q : Int) ∧ ∀ i (hi : i < l.length), i < q → Q l[i]) 60 (by unfold big; omega) ⟨rfl, fun i hi h => by omega⟩ fun q a hq hI => ?_) fun y hy => ?_
  · obtain ⟨rfl, hI⟩ := hI
    rw [hf]
    by_cases hi : q < l.length ∧ q < 60
    · rw [dif_pos hi]
      obtain ⟨b, hb, -⟩ := hbody _ (List.getElem_mem hi.1)
      rw [hb]
      cases b
      · refine ⟨_, rfl, hi.2, by omega, fun i hil hiq => ?_⟩
        by_cases h : i = q
        · subst h
          exact hQ _ (List.getElem_mem hil) hb
        · exact hI i hil (by omega)
      · exact ⟨_, rfl, .inr rfl⟩
    · rw [dif_neg hi]
      refine ⟨_, rfl, .inl ⟨rfl, fun i hil h60 => hI i hil ?_⟩⟩
      omega
  · rcases hy with ⟨rfl, hy⟩ | rfl
    · exact h1 hy
    · exact h2
theorem ite60 {α γ : Type} (l : List α) (i : Nat) (x y : Option γ) : (bn (lt (lenI l) fun v5 => lt (ltI (i : Int) v5) fun v6 => ite' v6 (lt (ltI (i : Int) 60) fun v7 => some v7) (some false)) fun y4 => lt y4 fun v8 => ite' v8 x y) = if i < l.length ∧ i < 60 then x else y := by
  simp only [lt_eq, bn_some, ite_t, ite_f, sm_inl, sm_inr, lenI_eq, Option.some.injEq]
  by_cases h1 : i < l.length
  · rw [ltI_t (show (i : Int) < l.length by omega)]
    by_cases h2 : i < 60
    · rw [ltI_t (show (i : Int) < 60 by omega), if_pos ⟨h1, h2⟩]; rfl
    · rw [ltI_f (show ¬ (i : Int) < 60 by omega), if_neg (by omega)]; rfl
  · rw [ltI_f (show ¬ (i : Int) < l.length by omega), if_neg (by omega)]; rfl
/-- A loop over i < n that ends at once where body i is true. -/
theorem scan {β : Type} (n : Nat) (hn : n < big) (body : Nat → Option Bool) (hbody : ∀ i, i < n → Rn (body i) fun _ => True) (r : Bool)
    {k : Unit ⊕ Bool → Option β} {R : β → Prop} (f : Int → Option (Int ⊕ (Unit ⊕ Bool)))
    (hf : ∀ i : Nat, f (i : Int) = if i < n then (body i).bind fun b => if b = true then some (.inr (.inr r)) else some (.inl ((i + 1 : Nat) : Int)) else some (.inr (.inl ())))
    (h1 : (∀ i, i < n → body i = some false) → Rn (k (.inl ())) R) (h2 : (∃ i, i < n ∧ body i = some true) → Rn (k (.inr r)) R) : Rn (bn (iter big f 0) k) R := by
  refine Rn.bn (P := fun y => (y = .inl () ∧ ∀ i, i < n → body i = some false) ∨ (y = .inr r ∧ ∃ i, i < n ∧ body i = some true)) (Rn.iter _ (fun q a => a = (q : Int) ∧ ∀ i, i < q → body i = some false) n hn ⟨rfl, fun i h => by omega⟩ fun q a hq hI => ?_) fun y hy => ?_
  · obtain ⟨rfl, hI⟩ := hI
    rw [hf]
    by_cases hi : q < n
    · rw [if_pos hi]
      obtain ⟨b, hb, -⟩ := hbody q hi
      rw [hb]
      cases b
      · refine ⟨_, rfl, hi, rfl, fun i hiq => ?_⟩
        by_cases h : i = q
        · rw [h]; exact hb
        · exact hI i (by omega)
      · exact ⟨_, rfl, .inr ⟨rfl, q, hi, hb⟩⟩
    · rw [if_neg hi]
      exact ⟨_, rfl, .inl ⟨rfl, fun i h => hI i (by omega)⟩⟩
  · rcases hy with ⟨rfl, hy⟩ | ⟨rfl, hy⟩
    · exact h1 hy
    · exact h2 hy
theorem Great_ok (it : Item) : Rn (l5_Great_sh big it) fun b => b = false → it.f.length ≤ 50 ∧ it.l.length ≤ 50 := by
  unfold l5_Great_sh
  refine sixty it.f (fun v10 => lt (lenS v10.name) fun v11 => lt (gtI v11 400) fun v12 => ite' v12 (some (true)) (lt (lenS v10.val) fun v13 => lt (gtI v13 400) fun v14 => some (v14))) (fun x _ => Rn.lt (Rn.lt (Rn.ite (fun _ => Rn.some trivial) (fun _ => Rn.lt (Rn.lt (Rn.some trivial)))))) (fun _ => True) (fun _ _ _ => trivial) _ (fun i => ?_) (fun _ => ?_) ⟨_, rfl, by simp⟩
  · rw [ite60]
    by_cases hi : i < it.f.length ∧ i < 60
    · rw [if_pos hi, dif_pos hi, nth_some hi.1]
      simp only [lt_eq, bn_some, ite_t, ite_f, sm_inl, sm_inr, lenI_eq, Option.some.injEq]
      generalize (ite' (gtI (lenS it.f[i].name) 400) (some true) (some (gtI (lenS it.f[i].val) 400))) = o
      cases o with
      | none => rfl
      | some b => cases b <;> simp [bn_some, ite_t, ite_f, lt_eq]; rw [addI_64 (by omega) (by omega)]
    · rw [if_neg hi, dif_neg hi]
  · rw [sm_inl]
    refine sixty it.l (fun v27 => lt (lenS v27) fun v28 => lt (gtI v28 400) fun v29 => some v29) (fun x _ => Rn.lt (Rn.lt (Rn.some trivial))) (fun _ => True) (fun _ _ _ => trivial) _ (fun i => ?_) (fun _ => ?_) ⟨_, rfl, by simp⟩
    · rw [ite60]
      by_cases hi : i < it.l.length ∧ i < 60
      · rw [if_pos hi, dif_pos hi, nth_some hi.1]
        simp only [lt_eq, bn_some, ite_t, ite_f, sm_inl, sm_inr, lenI_eq, Option.some.injEq]
        cases gtI (lenS it.l[i]) 400 <;> simp [ite_t, ite_f]
        rw [addI_64 (by omega) (by omega)]
      · rw [if_neg hi, dif_neg hi]
    · rw [sm_inl]
      refine Rn.bn (P := fun b => b = false → it.f.length ≤ 50 ∧ it.l.length ≤ 50) ?_ fun b hb => Rn.some hb
      refine Rn.lt (Rn.lt (Rn.ite (fun _ => Rn.some (by simp)) (fun _ => Rn.lt (Rn.lt (Rn.ite (fun _ => Rn.some (by simp)) (fun h1 => Rn.lt (Rn.lt (Rn.some fun h2 => ?_))))))))
      have h1 := gtI_n h1
      have h2 := gtI_n h2
      simp only [lenI] at h1 h2
      omega
theorem Heavy_ok (l : List Effect) : Rn (l11_Heavy_sh big l) fun b => b = false → l.length ≤ 50 ∧ ∀ e ∈ l, e.item.f.length ≤ 50 ∧ e.item.l.length ≤ 50 := by
  unfold l11_Heavy_sh
  refine sixty l (fun v10 => lt (lenS v10.key) fun v11 => lt (gtI v11 200) fun v12 => ite' v12 (some (true)) (bn (l5_Great_sh big v10.item) fun v13 => some (v13))) (fun x _ => Rn.lt (Rn.lt (Rn.ite (fun _ => Rn.some trivial) (fun _ => Rn.bn (Great_ok _) fun _ _ => Rn.some trivial)))) (fun x => x.item.f.length ≤ 50 ∧ x.item.l.length ≤ 50) (fun x _ hx => ?_) _ (fun i => ?_) (fun hall => ?_) ⟨_, rfl, by simp⟩
  · obtain ⟨g, hg, hg2⟩ := Great_ok x.item
    simp only [lt_eq, bn_some, ite_t, ite_f, sm_inl, sm_inr, lenI_eq, Option.some.injEq, hg] at hx
    cases h : gtI (lenS x.key) 200 <;> rw [h] at hx <;> simp [ite_t, ite_f] at hx
    exact hg2 hx
  · rw [ite60]
    by_cases hi : i < l.length ∧ i < 60
    · rw [if_pos hi, dif_pos hi, nth_some hi.1]
      simp only [lt_eq, bn_some, ite_t, ite_f, sm_inl, sm_inr, lenI_eq, Option.some.injEq]
      generalize (ite' (gtI (lenS l[i].key) 200) (some true) (bn (l5_Great_sh big l[i].item) fun v13 => some v13)) = o
      cases o with
      | none => rfl
      | some b => cases b <;> simp [bn_some, ite_t, ite_f, lt_eq]; rw [addI_64 (by omega) (by omega)]
    · rw [if_neg hi, dif_neg hi]
  · rw [sm_inl]
    refine Rn.lt (Rn.lt (Rn.some fun h => ?_))
    have h := gtI_n h
    simp only [lenI] at h
    refine ⟨by omega, fun e he => ?_⟩
    obtain ⟨i, hi, rfl⟩ := List.getElem_of_mem he
    exact hall i hi (by omega)
theorem bare_ok (it : Item) : Rn (r5_bare_sh big it) fun _ => True := by
  unfold r5_bare_sh
  refine Rn.lt (Rn.ite (fun _ => Rn.bn (P := fun _ => True) ?_ fun _ _ => Rn.some trivial) (fun _ => Rn.lt (Rn.ite (fun _ => Rn.bn (P := fun _ => True) ?_ fun _ _ => Rn.some trivial) (fun _ => Rn.bn (P := fun _ => True) ?_ fun _ _ => Rn.lt (Rn.ite (fun _ => Rn.bn (P := fun _ => True) ?_ fun _ _ => Rn.some trivial) (fun _ => Rn.some trivial))))))
  · exact Rn.lt (Rn.lt (Rn.ite (fun _ => Rn.lt (Rn.lt (Rn.some trivial))) (fun _ => Rn.some trivial)))
  · exact Rn.lt (Rn.ite (fun _ => Rn.lt (Rn.lt (Rn.ite (fun _ => Rn.lt (Rn.lt (Rn.some trivial))) (fun _ => Rn.some trivial)))) (fun _ => Rn.some trivial))
  · exact Rn.lt (Rn.ite (fun _ => Rn.some trivial) (fun _ => Rn.lt (Rn.some trivial)))
  · exact Rn.lt (Rn.ite (fun _ => Rn.lt (Rn.lt (Rn.ite (fun _ => Rn.lt (Rn.lt (Rn.some trivial))) (fun _ => Rn.some trivial)))) (fun _ => Rn.some trivial))
theorem ite_len {α γ : Type} (l : List α) (i : Nat) (x y : Option γ) : (lt (lenI l) fun v16 => lt (ltI (i : Int) v16) fun v17 => ite' v17 x y) = if i < l.length then x else y := by
  simp only [lt_eq, bn_some, ite_t, ite_f, sm_inl, sm_inr, lenI_eq, Option.some.injEq]
  by_cases h1 : i < l.length
  · rw [ltI_t (show (i : Int) < l.length by omega), if_pos h1]; rfl
  · rw [ltI_f (show ¬ (i : Int) < l.length by omega), if_neg h1]; rfl
/-- Rounds over a list, from an Int on. -/
theorem scanL {α β : Type} (l : List α) (hl : l.length ≤ 140737488355328) (body : Nat → Option Bool) (hbody : ∀ i, i < l.length → Rn (body i) fun _ => True) (r : Bool)
    {k : Unit ⊕ Bool → Option β} {R : β → Prop} (g : Int → Option Bool) (hg : ∀ i : Nat, i < l.length → g (i : Int) = body i)
    (h1 : (∀ i, i < l.length → body i = some false) → Rn (k (.inl ())) R) (h2 : (∃ i, i < l.length ∧ body i = some true) → Rn (k (.inr r)) R) :
    Rn (bn (iter big (fun (y : Int) => lt (lenI l) fun v16 => lt (ltI y v16) fun v17 => ite' v17 (bn (g y) fun y18 => lt y18 fun v28 => ite' v28 (some (.inr (.inr r))) (lt (addI .i64 y 1) fun v29 => some (.inl v29))) (some (.inr (.inl ())))) 0) k) R := by
  refine scan l.length (by unfold big; omega) body hbody r _ (fun i => ?_) h1 h2
  rw [ite_len]
  by_cases hi : i < l.length
  · rw [if_pos hi, if_pos hi, hg i hi]
    obtain ⟨b, hb, -⟩ := hbody i hi
    rw [hb]
    cases b
    · simp only [lt_eq, bn_some, ite_t, ite_f, sm_inl, sm_inr, lenI_eq, Option.some.injEq, Option.bind_some]
      rw [addI_64 (by omega) (by omega)]
      rfl
    · rfl
  · rw [if_neg hi, if_neg hi]
theorem MayItem_ok (it : Item) : Rn (r5_MayItem_sh big it) fun _ => True := by
  unfold r5_MayItem_sh
  refine Rn.bn (P := fun b => b = false → it.f.length ≤ 40 ∧ it.l.length ≤ 40) ?_ fun b hb => Rn.lt (Rn.ite (fun _ => Rn.some trivial) (fun hd => ?_))
  · refine Rn.bn (bare_ok it) fun _ _ => Rn.lt (Rn.ite (fun _ => Rn.some (by simp)) (fun _ => ?_))
    refine Rn.lt (Rn.lt (Rn.ite (fun _ => Rn.some (by simp)) (fun _ => ?_)))
    refine Rn.lt (Rn.lt (Rn.ite (fun _ => Rn.some (by simp)) (fun h1 => ?_)))
    refine Rn.lt (Rn.lt (Rn.ite (fun _ => Rn.some (by simp)) (fun h2 => ?_)))
    refine Rn.lt (Rn.ite (fun _ => Rn.some (by simp)) (fun _ => Rn.lt (Rn.some fun _ => ?_)))
    have h1 := gtI_n h1
    have h2 := gtI_n h2
    simp only [lenI] at h1 h2
    omega
  obtain ⟨hf, hl⟩ := hb hd
  refine scanL it.f (by omega) (fun i => bn (nth it.f (i : Int)) fun v19 => lt (lenS v19.name) fun v20 => lt (gtI v20 300) fun v21 => ite' v21 (some (true)) (lt (lenS v19.val) fun v22 => lt (gtI v22 300) fun v23 => ite' v23 (some (true)) (lt (gtI (i : Int) 0) fun v24 => ite' v24 (lt (subI .i64 (i : Int) 1) fun v25 => bn (nth it.f v25) fun v26 => lt (geS v26.name v19.name) fun v27 => some (v27)) (some (false))))) (fun i hi => ?_) false _ (fun i hi => rfl) (fun _ => ?_) (fun _ => ⟨_, rfl, trivial⟩)
  · refine Rn.bnE (nth_some hi) (Rn.lt (Rn.lt (Rn.ite (fun _ => Rn.some trivial) (fun _ => Rn.lt (Rn.lt (Rn.ite (fun _ => Rn.some trivial) (fun _ => Rn.lt (Rn.ite (fun hg => Rn.lt ?_) (fun _ => Rn.some trivial)))))))))
    have hg := gtI_d hg
    rw [subI_64 (by omega) (by omega), show (i : Int) - 1 = ((i - 1 : Nat) : Int) by omega]
    exact Rn.bnE (nth_some (show i - 1 < it.f.length by omega)) (Rn.lt (Rn.some trivial))
  rw [sm_inl]
  refine scanL it.l (by omega) (fun i => bn (nth it.l (i : Int)) fun v38 => lt (lenS v38) fun v39 => lt (gtI v39 300) fun v40 => ite' v40 (some (true)) (lt (eqI it.kind 4) fun v41 => ite' v41 (lt (gtI (i : Int) 0) fun v42 => ite' v42 (lt (subI .i64 (i : Int) 1) fun v43 => bn (nth it.l v43) fun v44 => lt (geS v44 v38) fun v45 => some (v45)) (some (false))) (some (false)))) (fun i hi => ?_) false _ (fun i hi => rfl) (fun _ => ?_) (fun _ => ⟨_, rfl, trivial⟩)
  · refine Rn.bnE (nth_some hi) (Rn.lt (Rn.lt (Rn.ite (fun _ => Rn.some trivial) (fun _ => Rn.lt (Rn.ite (fun _ => Rn.lt (Rn.ite (fun hg => Rn.lt ?_) (fun _ => Rn.some trivial))) (fun _ => Rn.some trivial))))))
    have hg := gtI_d hg
    rw [subI_64 (by omega) (by omega), show (i : Int) - 1 = ((i - 1 : Nat) : Int) by omega]
    exact Rn.bnE (nth_some (show i - 1 < it.l.length by omega)) (Rn.lt (Rn.some trivial))
  · exact ⟨_, rfl, trivial⟩
end Go.Proofs.Ytlkhfdccapkcdaa

/- Plain law: any feed. -/
namespace Go.Proofs.Ytlkhfdccapkcdaa
open Go Go.RowKit
set_option linter.unusedVariables false
set_option linter.unusedSimpArgs false
theorem GreatDb_ok (l : List Pair) : Rn (l11_Great_sh big l) fun b => b = false → l.length ≤ 50 ∧ ∀ e ∈ l, e.item.f.length ≤ 50 ∧ e.item.l.length ≤ 50 := by
  unfold l11_Great_sh
  refine sixty l (fun v10 => lt (lenS v10.key) fun v11 => lt (gtI v11 200) fun v12 => ite' v12 (some (true)) (bn (l5_Great_sh big v10.item) fun v13 => some (v13))) (fun x _ => Rn.lt (Rn.lt (Rn.ite (fun _ => Rn.some trivial) (fun _ => Rn.bn (Great_ok _) fun _ _ => Rn.some trivial)))) (fun x => x.item.f.length ≤ 50 ∧ x.item.l.length ≤ 50) (fun x _ hx => ?_) _ (fun i => ?_) (fun hall => ?_) ⟨_, rfl, by simp⟩
  · obtain ⟨g, hg, hg2⟩ := Great_ok x.item
    simp only [lt_eq, bn_some, ite_t, ite_f, sm_inl, sm_inr, lenI_eq, Option.some.injEq, hg] at hx
    cases h : gtI (lenS x.key) 200 <;> rw [h] at hx <;> simp [ite_t, ite_f] at hx
    exact hg2 hx
  · rw [ite60]
    by_cases hi : i < l.length ∧ i < 60
    · rw [if_pos hi, dif_pos hi, nth_some hi.1]
      simp only [lt_eq, bn_some, ite_t, ite_f, sm_inl, sm_inr, lenI_eq, Option.some.injEq]
      generalize (ite' (gtI (lenS l[i].key) 200) (some true) (bn (l5_Great_sh big l[i].item) fun v13 => some v13)) = o
      cases o with
      | none => rfl
      | some b => cases b <;> simp [bn_some, ite_t, ite_f, lt_eq]; rw [addI_64 (by omega) (by omega)]
    · rw [if_neg hi, dif_neg hi]
  · rw [sm_inl]
    refine Rn.lt (Rn.lt (Rn.some fun h => ?_))
    have h := gtI_n h
    simp only [lenI] at h
    refine ⟨by omega, fun e he => ?_⟩
    obtain ⟨i, hi, rfl⟩ := List.getElem_of_mem he
    exact hall i hi (by omega)
theorem great_ok (f : Feed) : Rn (l15_great_sh big f) fun b => b = false → f.back.length ≤ 64 := by
  unfold l15_great_sh
  refine Rn.bn (P := fun b => b = false → f.back.length ≤ 64) ?_ fun b hb => Rn.some hb
  refine Rn.lt (Rn.lt (Rn.ite (fun _ => Rn.some (by simp)) (fun h => ?_)))
  have h := gtI_n h
  simp only [lenI] at h
  refine Rn.bn (Heavy_ok _) fun b _ => Rn.ite (fun _ => Rn.lt (Rn.some fun _ => by omega)) (fun _ => Rn.some fun _ => by omega)
theorem MayEffect_ok (e : Effect) : Rn (r5_MayEffect_sh big e) fun _ => True := by
  unfold r5_MayEffect_sh
  refine Rn.bn (P := fun _ => True) ?_ fun _ _ => Rn.some trivial
  refine Rn.lt (Rn.lt (Rn.ite (fun _ => Rn.lt (Rn.ite (fun _ => Rn.some trivial) (fun _ => Rn.bn (MayItem_ok _) fun _ _ => Rn.some trivial))) (fun _ => Rn.some trivial)))
theorem MayEffects_ok (l : List Effect) (hl : l.length ≤ 1000000000) : Rn (r5_MayEffects_sh big l) fun _ => True := by
  unfold r5_MayEffects_sh
  refine scan l.length (by unfold big; omega) (fun i => bn (nth l (i : Int)) fun v6 => bn (r5_MayEffect_sh big v6) fun v7 => some (notB v7)) (fun i hi => ?_) false _ (fun i => ?_) (fun _ => ⟨_, rfl, trivial⟩) (fun _ => ⟨_, rfl, trivial⟩)
  · exact Rn.bnE (nth_some hi) (Rn.bn (MayEffect_ok _) fun _ _ => Rn.some trivial)
  · rw [ite_len]
    by_cases hi : i < l.length
    · rw [if_pos hi, if_pos hi, nth_some hi]
      obtain ⟨b, hb, -⟩ := MayEffect_ok l[i]
      simp only [lt_eq, bn_some, ite_t, ite_f, sm_inl, sm_inr, lenI_eq, Option.some.injEq, hb]
      cases b
      · rfl
      · simp only [notB_t, ite_f, Option.bind_some]
        rw [addI_64 (by omega) (by omega)]
        rfl
    · rw [if_neg hi, if_neg hi]
theorem MayFeed_ok (f : Feed) (hl : f.back.length ≤ 64) : Rn (r13_MayFeed_sh big f) fun b => b = true → (f.back.length : Int) ≤ f.off ∧ f.off ≤ 9007199254740992 := by
  unfold r13_MayFeed_sh
  refine Rn.bn (P := fun b => b = true → (f.back.length : Int) ≤ f.off ∧ f.off ≤ 9007199254740992) ?_ fun b hb => Rn.some hb
  refine Rn.lt (Rn.lt (Rn.ite (fun _ => Rn.lt (Rn.ite (fun h1 => Rn.lt (Rn.ite (fun h2 => Rn.lt (Rn.ite (fun _ => Rn.lt (Rn.ite (fun _ => Rn.bn (MayEffects_ok _ (by omega)) fun _ _ => Rn.some fun _ => ?_) (fun _ => Rn.some (by simp)))) (fun _ => Rn.some (by simp)))) (fun _ => Rn.some (by simp)))) (fun _ => Rn.some (by simp)))) (fun _ => Rn.some (by simp))))
  exact ⟨leI_d h1, leI_d h2⟩
theorem srt_adj (l : List Pair) (h : ∀ i (hi : i + 1 < l.length), slt l[i].key l[i + 1].key = true) : SrtP l := by
  refine List.pairwise_iff_getElem.2 fun i j hi hj hij => ?_
  obtain ⟨d, rfl⟩ : ∃ d, j = i + 1 + d := ⟨j - (i + 1), by omega⟩
  clear hij
  induction d with
  | zero => exact h i hj
  | succ d ih => exact slt_trans (ih (by omega)) (h (i + 1 + d) (by omega))
theorem MaySpace_ok (l : List Pair) (hl : l.length ≤ 1000000000) : Rn (r5_MaySpace_sh big l) fun b => b = true → SrtP l := by
  unfold r5_MaySpace_sh
  refine scanL l (by omega) (fun i => bn (nth l (i : Int)) fun v7 => lt (lenS v7.key) fun v8 => lt (gtI v8 40) fun v9 => ite' v9 (some (true)) (bn (r5_MayItem_sh big v7.item) fun v10 => lt (notB v10) fun v11 => ite' v11 (some (true)) (lt (gtI (i : Int) 0) fun v12 => ite' v12 (lt (subI .i64 (i : Int) 1) fun v13 => bn (nth l v13) fun v14 => lt (geS v14.key v7.key) fun v15 => some (v15)) (some (false))))) (fun i hi => ?_) false _ (fun i hi => rfl) (fun hall => ?_) (fun _ => ⟨_, rfl, by simp⟩)
  · refine Rn.bnE (nth_some hi) (Rn.lt (Rn.lt (Rn.ite (fun _ => Rn.some trivial) (fun _ => Rn.bn (MayItem_ok _) fun _ _ => Rn.lt (Rn.ite (fun _ => Rn.some trivial) (fun _ => Rn.lt (Rn.ite (fun hg => Rn.lt ?_) (fun _ => Rn.some trivial))))))))
    have hg := gtI_d hg
    rw [subI_64 (by omega) (by omega), show (i : Int) - 1 = ((i - 1 : Nat) : Int) by omega]
    exact Rn.bnE (nth_some (show i - 1 < l.length by omega)) (Rn.lt (Rn.some trivial))
  · refine ⟨_, rfl, fun _ => srt_adj l fun i hi => ?_⟩
    have h := hall (i + 1) hi
    simp only [nth_some hi, lt_eq, bn_some, ite_t, ite_f, sm_inl, sm_inr, lenI_eq, Option.some.injEq] at h
    have e : gtI (((i + 1 : Nat) : Int)) 0 = true := decide_eq_true (by omega)
    rw [e, subI_64 (by omega) (by omega), show ((i + 1 : Nat) : Int) - 1 = (i : Int) by omega] at h
    obtain ⟨b, hb, -⟩ := MayItem_ok l[i + 1].item
    simp only [hb, nth_some (show i < l.length by omega), lt_eq, bn_some, ite_t, ite_f, sm_inl, sm_inr, lenI_eq, Option.some.injEq] at h
    cases h1 : gtI (lenS l[i + 1].key) 40
    · rw [h1] at h
      cases b
      · simp [notB, ite'] at h
      · simpa [notB, ite', geS] using h
    · rw [h1] at h
      simp [ite'] at h
end Go.Proofs.Ytlkhfdccapkcdaa

/- Walks, printed: l15_FeedAll -/
namespace Go.Proofs.Ytlkhfdccapkcdaa
open Go Go.RowKit
set_option linter.unusedVariables false
set_option linter.unusedSimpArgs false
def l15_FeedAll_sh (n : Nat) (a0 : Feed) (a1 : List Pair) (a2 : List Effect) (a3 : Rid) (a4 : Int) (a5 : Msg) : Option Bool :=
bn (bn (l15_great_sh n a0) fun v2 =>
ite' v2 (some (true)) (bn (l11_Great_sh n a1) fun v3 =>
ite' v3 (some (true)) (bn (l11_Heavy_sh n a2) fun v4 =>
ite' v4 (some (true)) (bn (l11_Heavy_sh n a5.effects) fun v5 =>
ite' v5 (some (true)) (bn (r13_MayFeed_sh n a0) fun v6 =>
lt (notB v6) fun v7 =>
ite' v7 (some (true)) (bn (r5_MaySpace_sh n a1) fun v8 =>
lt (notB v8) fun v9 =>
ite' v9 (some (true)) (bn (r5_MayEffects_sh n a2) fun v10 =>
lt (notB v10) fun v11 =>
ite' v11 (some (true)) (bn (r5_MayEffects_sh n a5.effects) fun v12 =>
lt (notB v12) fun v13 =>
ite' v13 (some (true)) (lt (lenI a5.claims) fun v14 =>
lt (gtI v14 20) fun v15 =>
ite' v15 (some (true)) (lt (lenI a5.nodes) fun v16 =>
lt (gtI v16 20) fun v17 =>
some (v17))))))))))) fun (y1 : Bool) =>
lt (y1) fun v18 =>
ite' v18 (bn (l15_awake_sh n) fun v19 =>
some v19) (bn (feed_Got_sh n a0 a1 a5) fun v20 =>
bn (r13_Got_sh n a0 a1 a5) fun v21 =>
bn (bn (feed_Add_sh n a0 a2) fun v23 =>
bn (r13_Add_sh n a0 a2) fun v24 =>
bn (r13_SameFeed_sh n v23 v24) fun v25 =>
ite' v25 (bn (feed_Answer_sh n a0 a1 a3 a4) fun v26 =>
bn (r13_Answer_sh n a0 a1 a3 a4) fun v27 =>
bn (r19_SameMsg_sh n v26 v27) fun v28 =>
ite' v28 (bn (r13_SameFeed_sh n v20.1 v21.f) fun v29 =>
ite' v29 (bn (r5_SameSpace_sh n v20.2.1 v21.db) fun v30 =>
ite' v30 (lt (eqB v20.2.2 v21.is) fun v31 =>
ite' v31 (bn (feed_Same_sh n a0 a0) fun v32 =>
ite' v32 (bn (l15_awake_sh n) fun v33 =>
some (v33)) (some (false))) (some (false))) (some (false))) (some (false))) (some (false))) (some (false))) fun (y22 : Bool) =>
some y22)
set_option maxRecDepth 8000 in
set_option maxHeartbeats 8000000 in
theorem s_l15_FeedAll {n : Nat} {a0 : Feed} {a1 : List Pair} {a2 : List Effect} {a3 : Rid} {a4 : Int} {a5 : Msg} {r : Bool} (h : l15_FeedAll_sh n a0 a1 a2 a3 a4 a5 = some r) : Sound Try.prog 9 [.g [.s (.int .i64 a0.rid.node), .s (.int .i64 a0.rid.epoch), .s (.int .i64 a0.off), .d false 7 (encEffect a0.back), .s (.int .i64 a0.prev.node), .s (.int .i64 a0.prev.epoch), .s (.int .i64 a0.upto)], .l (.d false 6 (encPair a1)), .l (.d false 7 (encEffect a2)), .g [.s (.int .i64 a3.node), .s (.int .i64 a3.epoch)], .l (.s (.int .i64 a4)), .g [.s (.int .i64 a5.kind), .s (.int .i64 a5.frm), .s (.int .i64 a5.to), .s (.int .i64 a5.epoch), .d false 4 (encClaim a5.claims), .d false 1 (encI a5.nodes), .s (.int .i64 a5.node), .s (.int .i64 a5.slot), .s (.int .i64 a5.num), .s (.int .i64 a5.rid.node), .s (.int .i64 a5.rid.epoch), .s (.int .i64 a5.prev.node), .s (.int .i64 a5.prev.epoch), .s (.int .i64 a5.off), .d false 7 (encEffect a5.effects)]] [] (.l (.s (.bool r))) [] := by
  unfold l15_FeedAll_sh at h
  refine Sound.of_aw (fn := Try.f9) (c := _) Try.func9 rfl (by simp [Try.f9]) fun cx hG hnb => ?_
  rw [show Try.f9.ntmps = 124 from rfl]
  have hn0 : cx.nb = 0 := hnb
  simp only [st0_mk, initTm, List.map_cons, List.map_nil]
  apply AW.step
  · simp
    intros; rfl
  refine AW.seq ?_
  replace h := bnE h; obtain ⟨y1, g1, h⟩ := h
  refine AW.flow (p := fun gh ls => (nP (cx := cx) (fun q => (⟨[(1, .l (.d false 6 (encPair a1))), (2, .l (.d false 7 (encEffect a2))), (4, .l (.s (.int .i64 a4))), (6, .l (.p 0 0)), (9, .l (.p 1 0)), (11, .l (.p 2 0)), (64, .l (.s (.bool q)))], [some ⟨29, 7, false, none, [.s (.int .i64 a0.rid.node), .s (.int .i64 a0.rid.epoch), .s (.int .i64 a0.off), .d false 7 (encEffect a0.back), .s (.int .i64 a0.prev.node), .s (.int .i64 a0.prev.epoch), .s (.int .i64 a0.upto)]⟩, some ⟨27, 2, false, none, [.s (.int .i64 a3.node), .s (.int .i64 a3.epoch)]⟩, some ⟨62, 15, false, none, [.s (.int .i64 a5.kind), .s (.int .i64 a5.frm), .s (.int .i64 a5.to), .s (.int .i64 a5.epoch), .d false 4 (encClaim a5.claims), .d false 1 (encI a5.nodes), .s (.int .i64 a5.node), .s (.int .i64 a5.slot), .s (.int .i64 a5.num), .s (.int .i64 a5.rid.node), .s (.int .i64 a5.rid.epoch), .s (.int .i64 a5.prev.node), .s (.int .i64 a5.prev.epoch), .s (.int .i64 a5.off), .d false 7 (encEffect a5.effects)]⟩], 124, gh, ls⟩ : St))) y1) ?_ ?_
  · replace h := g1; clear g1
    replace h := bnE h; obtain ⟨v2, e2, h⟩ := h
    cases v2 with
    | true =>
      replace h := iteT rfl h
      apply AW.last
      · simp
        intros
        refine xcall_plain en_l15_great (s_l15_great e2) rfl ⟨.same rfl, trivial⟩ ?_
        try simp
        intros; rfl
      obtain rfl := Option.some.inj h
      refine nP_i ?_
      refine Weak.mixN [some 0, some 1, some 2] hn0 (by decide) ?_ ?_ rfl
      all_goals first | (simp [inv_cons, inv_nil, pickOb]; done) | rfl
    | false =>
      replace h := iteF rfl h
      replace h := bnE h; obtain ⟨v3, e3, h⟩ := h
      cases v3 with
      | true =>
        replace h := iteT rfl h
        apply AW.last
        · simp
          intros
          refine xcall_plain en_l15_great (s_l15_great e2) rfl ⟨.same rfl, trivial⟩ ?_
          try simp
          intros
          refine xcall_plain en_l11_Great (s_l11_Great e3) rfl ⟨.same rfl, trivial⟩ ?_
          try simp
          intros; rfl
        obtain rfl := Option.some.inj h
        refine nP_i ?_
        refine Weak.mixN [some 0, some 1, some 2] hn0 (by decide) ?_ ?_ rfl
        all_goals first | (simp [inv_cons, inv_nil, pickOb]; done) | rfl
      | false =>
        replace h := iteF rfl h
        replace h := bnE h; obtain ⟨v4, e4, h⟩ := h
        cases v4 with
        | true =>
          replace h := iteT rfl h
          apply AW.last
          · simp
            intros
            refine xcall_plain en_l15_great (s_l15_great e2) rfl ⟨.same rfl, trivial⟩ ?_
            try simp
            intros
            refine xcall_plain en_l11_Great (s_l11_Great e3) rfl ⟨.same rfl, trivial⟩ ?_
            try simp
            intros
            refine xcall_plain en_l11_Heavy (s_l11_Heavy e4) rfl ⟨.same rfl, trivial⟩ ?_
            try simp
            intros; rfl
          obtain rfl := Option.some.inj h
          refine nP_i ?_
          refine Weak.mixN [some 0, some 1, some 2] hn0 (by decide) ?_ ?_ rfl
          all_goals first | (simp [inv_cons, inv_nil, pickOb]; done) | rfl
        | false =>
          replace h := iteF rfl h
          replace h := bnE h; obtain ⟨v5, e5, h⟩ := h
          cases v5 with
          | true =>
            replace h := iteT rfl h
            apply AW.last
            · simp
              intros
              refine xcall_plain en_l15_great (s_l15_great e2) rfl ⟨.same rfl, trivial⟩ ?_
              try simp
              intros
              refine xcall_plain en_l11_Great (s_l11_Great e3) rfl ⟨.same rfl, trivial⟩ ?_
              try simp
              intros
              refine xcall_plain en_l11_Heavy (s_l11_Heavy e4) rfl ⟨.same rfl, trivial⟩ ?_
              try simp
              intros
              refine xcall_plain en_l11_Heavy (s_l11_Heavy e5) rfl ⟨.same rfl, trivial⟩ ?_
              try simp
              intros; rfl
            obtain rfl := Option.some.inj h
            refine nP_i ?_
            refine Weak.mixN [some 0, some 1, some 2] hn0 (by decide) ?_ ?_ rfl
            all_goals first | (simp [inv_cons, inv_nil, pickOb]; done) | rfl
          | false =>
            replace h := iteF rfl h
            replace h := bnE h; obtain ⟨v6, e6, h⟩ := h
            replace h := ltE h; obtain ⟨v7, e7, h⟩ := h
            cases v7 with
            | true =>
              replace h := iteT rfl h
              apply AW.last
              · simp [← e7]
                intros
                refine xcall_plain en_l15_great (s_l15_great e2) rfl ⟨.same rfl, trivial⟩ ?_
                try simp [← e7]
                intros
                refine xcall_plain en_l11_Great (s_l11_Great e3) rfl ⟨.same rfl, trivial⟩ ?_
                try simp [← e7]
                intros
                refine xcall_plain en_l11_Heavy (s_l11_Heavy e4) rfl ⟨.same rfl, trivial⟩ ?_
                try simp [← e7]
                intros
                refine xcall_plain en_l11_Heavy (s_l11_Heavy e5) rfl ⟨.same rfl, trivial⟩ ?_
                try simp [← e7]
                intros
                refine xcall_plain en_r13_MayFeed (s_r13_MayFeed e6) rfl ⟨.same rfl, trivial⟩ ?_
                try simp [← e7]
                intros; rfl
              obtain rfl := Option.some.inj h
              refine nP_i ?_
              refine Weak.mixN [some 0, some 1, some 2] hn0 (by decide) ?_ ?_ rfl
              all_goals first | (simp [inv_cons, inv_nil, pickOb]; done) | rfl
            | false =>
              replace h := iteF rfl h
              replace h := bnE h; obtain ⟨v8, e8, h⟩ := h
              replace h := ltE h; obtain ⟨v9, e9, h⟩ := h
              cases v9 with
              | true =>
                replace h := iteT rfl h
                apply AW.last
                · simp [← e7, ← e9]
                  intros
                  refine xcall_plain en_l15_great (s_l15_great e2) rfl ⟨.same rfl, trivial⟩ ?_
                  try simp [← e7, ← e9]
                  intros
                  refine xcall_plain en_l11_Great (s_l11_Great e3) rfl ⟨.same rfl, trivial⟩ ?_
                  try simp [← e7, ← e9]
                  intros
                  refine xcall_plain en_l11_Heavy (s_l11_Heavy e4) rfl ⟨.same rfl, trivial⟩ ?_
                  try simp [← e7, ← e9]
                  intros
                  refine xcall_plain en_l11_Heavy (s_l11_Heavy e5) rfl ⟨.same rfl, trivial⟩ ?_
                  try simp [← e7, ← e9]
                  intros
                  refine xcall_plain en_r13_MayFeed (s_r13_MayFeed e6) rfl ⟨.same rfl, trivial⟩ ?_
                  try simp [← e7, ← e9]
                  intros
                  refine xcall_plain en_r5_MaySpace (s_r5_MaySpace e8) rfl ⟨.same rfl, trivial⟩ ?_
                  try simp [← e7, ← e9]
                  intros; rfl
                obtain rfl := Option.some.inj h
                refine nP_i ?_
                refine Weak.mixN [some 0, some 1, some 2] hn0 (by decide) ?_ ?_ rfl
                all_goals first | (simp [inv_cons, inv_nil, pickOb]; done) | rfl
              | false =>
                replace h := iteF rfl h
                replace h := bnE h; obtain ⟨v10, e10, h⟩ := h
                replace h := ltE h; obtain ⟨v11, e11, h⟩ := h
                cases v11 with
                | true =>
                  replace h := iteT rfl h
                  apply AW.last
                  · simp [← e7, ← e9, ← e11]
                    intros
                    refine xcall_plain en_l15_great (s_l15_great e2) rfl ⟨.same rfl, trivial⟩ ?_
                    try simp [← e7, ← e9, ← e11]
                    intros
                    refine xcall_plain en_l11_Great (s_l11_Great e3) rfl ⟨.same rfl, trivial⟩ ?_
                    try simp [← e7, ← e9, ← e11]
                    intros
                    refine xcall_plain en_l11_Heavy (s_l11_Heavy e4) rfl ⟨.same rfl, trivial⟩ ?_
                    try simp [← e7, ← e9, ← e11]
                    intros
                    refine xcall_plain en_l11_Heavy (s_l11_Heavy e5) rfl ⟨.same rfl, trivial⟩ ?_
                    try simp [← e7, ← e9, ← e11]
                    intros
                    refine xcall_plain en_r13_MayFeed (s_r13_MayFeed e6) rfl ⟨.same rfl, trivial⟩ ?_
                    try simp [← e7, ← e9, ← e11]
                    intros
                    refine xcall_plain en_r5_MaySpace (s_r5_MaySpace e8) rfl ⟨.same rfl, trivial⟩ ?_
                    try simp [← e7, ← e9, ← e11]
                    intros
                    refine xcall_plain en_r5_MayEffects (s_r5_MayEffects e10) rfl ⟨.same rfl, trivial⟩ ?_
                    try simp [← e7, ← e9, ← e11]
                    intros; rfl
                  obtain rfl := Option.some.inj h
                  refine nP_i ?_
                  refine Weak.mixN [some 0, some 1, some 2] hn0 (by decide) ?_ ?_ rfl
                  all_goals first | (simp [inv_cons, inv_nil, pickOb]; done) | rfl
                | false =>
                  replace h := iteF rfl h
                  replace h := bnE h; obtain ⟨v12, e12, h⟩ := h
                  replace h := ltE h; obtain ⟨v13, e13, h⟩ := h
                  cases v13 with
                  | true =>
                    replace h := iteT rfl h
                    apply AW.last
                    · simp [← e7, ← e9, ← e11, ← e13]
                      intros
                      refine xcall_plain en_l15_great (s_l15_great e2) rfl ⟨.same rfl, trivial⟩ ?_
                      try simp [← e7, ← e9, ← e11, ← e13]
                      intros
                      refine xcall_plain en_l11_Great (s_l11_Great e3) rfl ⟨.same rfl, trivial⟩ ?_
                      try simp [← e7, ← e9, ← e11, ← e13]
                      intros
                      refine xcall_plain en_l11_Heavy (s_l11_Heavy e4) rfl ⟨.same rfl, trivial⟩ ?_
                      try simp [← e7, ← e9, ← e11, ← e13]
                      intros
                      refine xcall_plain en_l11_Heavy (s_l11_Heavy e5) rfl ⟨.same rfl, trivial⟩ ?_
                      try simp [← e7, ← e9, ← e11, ← e13]
                      intros
                      refine xcall_plain en_r13_MayFeed (s_r13_MayFeed e6) rfl ⟨.same rfl, trivial⟩ ?_
                      try simp [← e7, ← e9, ← e11, ← e13]
                      intros
                      refine xcall_plain en_r5_MaySpace (s_r5_MaySpace e8) rfl ⟨.same rfl, trivial⟩ ?_
                      try simp [← e7, ← e9, ← e11, ← e13]
                      intros
                      refine xcall_plain en_r5_MayEffects (s_r5_MayEffects e10) rfl ⟨.same rfl, trivial⟩ ?_
                      try simp [← e7, ← e9, ← e11, ← e13]
                      intros
                      refine xcall_plain en_r5_MayEffects (s_r5_MayEffects e12) rfl ⟨.same rfl, trivial⟩ ?_
                      try simp [← e7, ← e9, ← e11, ← e13]
                      intros; rfl
                    obtain rfl := Option.some.inj h
                    refine nP_i ?_
                    refine Weak.mixN [some 0, some 1, some 2] hn0 (by decide) ?_ ?_ rfl
                    all_goals first | (simp [inv_cons, inv_nil, pickOb]; done) | rfl
                  | false =>
                    replace h := iteF rfl h
                    replace h := ltE h; obtain ⟨v14, e14, h⟩ := h
                    replace h := ltE h; obtain ⟨v15, e15, h⟩ := h
                    cases v15 with
                    | true =>
                      replace h := iteT rfl h
                      apply AW.last
                      · simp [← e7, ← e9, ← e11, ← e13, lenI_cast e14, ← e15]
                        intros
                        refine xcall_plain en_l15_great (s_l15_great e2) rfl ⟨.same rfl, trivial⟩ ?_
                        try simp [← e7, ← e9, ← e11, ← e13, lenI_cast e14, ← e15]
                        intros
                        refine xcall_plain en_l11_Great (s_l11_Great e3) rfl ⟨.same rfl, trivial⟩ ?_
                        try simp [← e7, ← e9, ← e11, ← e13, lenI_cast e14, ← e15]
                        intros
                        refine xcall_plain en_l11_Heavy (s_l11_Heavy e4) rfl ⟨.same rfl, trivial⟩ ?_
                        try simp [← e7, ← e9, ← e11, ← e13, lenI_cast e14, ← e15]
                        intros
                        refine xcall_plain en_l11_Heavy (s_l11_Heavy e5) rfl ⟨.same rfl, trivial⟩ ?_
                        try simp [← e7, ← e9, ← e11, ← e13, lenI_cast e14, ← e15]
                        intros
                        refine xcall_plain en_r13_MayFeed (s_r13_MayFeed e6) rfl ⟨.same rfl, trivial⟩ ?_
                        try simp [← e7, ← e9, ← e11, ← e13, lenI_cast e14, ← e15]
                        intros
                        refine xcall_plain en_r5_MaySpace (s_r5_MaySpace e8) rfl ⟨.same rfl, trivial⟩ ?_
                        try simp [← e7, ← e9, ← e11, ← e13, lenI_cast e14, ← e15]
                        intros
                        refine xcall_plain en_r5_MayEffects (s_r5_MayEffects e10) rfl ⟨.same rfl, trivial⟩ ?_
                        try simp [← e7, ← e9, ← e11, ← e13, lenI_cast e14, ← e15]
                        intros
                        refine xcall_plain en_r5_MayEffects (s_r5_MayEffects e12) rfl ⟨.same rfl, trivial⟩ ?_
                        try simp [← e7, ← e9, ← e11, ← e13, lenI_cast e14, ← e15]
                        intros; rfl
                      obtain rfl := Option.some.inj h
                      refine nP_i ?_
                      refine Weak.mixN [some 0, some 1, some 2] hn0 (by decide) ?_ ?_ rfl
                      all_goals first | (simp [inv_cons, inv_nil, pickOb]; done) | rfl
                    | false =>
                      replace h := iteF rfl h
                      replace h := ltE h; obtain ⟨v16, e16, h⟩ := h
                      replace h := ltE h; obtain ⟨v17, e17, h⟩ := h
                      apply AW.last
                      · simp [← e7, ← e9, ← e11, ← e13, lenI_cast e14, ← e15, lenI_cast e16, ← e17]
                        intros
                        refine xcall_plain en_l15_great (s_l15_great e2) rfl ⟨.same rfl, trivial⟩ ?_
                        try simp [← e7, ← e9, ← e11, ← e13, lenI_cast e14, ← e15, lenI_cast e16, ← e17]
                        intros
                        refine xcall_plain en_l11_Great (s_l11_Great e3) rfl ⟨.same rfl, trivial⟩ ?_
                        try simp [← e7, ← e9, ← e11, ← e13, lenI_cast e14, ← e15, lenI_cast e16, ← e17]
                        intros
                        refine xcall_plain en_l11_Heavy (s_l11_Heavy e4) rfl ⟨.same rfl, trivial⟩ ?_
                        try simp [← e7, ← e9, ← e11, ← e13, lenI_cast e14, ← e15, lenI_cast e16, ← e17]
                        intros
                        refine xcall_plain en_l11_Heavy (s_l11_Heavy e5) rfl ⟨.same rfl, trivial⟩ ?_
                        try simp [← e7, ← e9, ← e11, ← e13, lenI_cast e14, ← e15, lenI_cast e16, ← e17]
                        intros
                        refine xcall_plain en_r13_MayFeed (s_r13_MayFeed e6) rfl ⟨.same rfl, trivial⟩ ?_
                        try simp [← e7, ← e9, ← e11, ← e13, lenI_cast e14, ← e15, lenI_cast e16, ← e17]
                        intros
                        refine xcall_plain en_r5_MaySpace (s_r5_MaySpace e8) rfl ⟨.same rfl, trivial⟩ ?_
                        try simp [← e7, ← e9, ← e11, ← e13, lenI_cast e14, ← e15, lenI_cast e16, ← e17]
                        intros
                        refine xcall_plain en_r5_MayEffects (s_r5_MayEffects e10) rfl ⟨.same rfl, trivial⟩ ?_
                        try simp [← e7, ← e9, ← e11, ← e13, lenI_cast e14, ← e15, lenI_cast e16, ← e17]
                        intros
                        refine xcall_plain en_r5_MayEffects (s_r5_MayEffects e12) rfl ⟨.same rfl, trivial⟩ ?_
                        try simp [← e7, ← e9, ← e11, ← e13, lenI_cast e14, ← e15, lenI_cast e16, ← e17]
                        intros; rfl
                      obtain rfl := Option.some.inj h
                      refine nP_i ?_
                      refine Weak.mixN [some 0, some 1, some 2] hn0 (by decide) ?_ ?_ rfl
                      all_goals first | (simp [inv_cons, inv_nil, pickOb]; done) | rfl
  · rintro e s hp
    obtain ⟨rfl, hw⟩ := hp
    refine ⟨_, hw, ?_⟩
    try simp only [sp_l, sp_r, Post.seq, Post.block, Nat.reduceEqDiff, reduceIte, Nat.zero_ne_one, Nat.one_ne_zero]
    replace h := ltE h; obtain ⟨v18, e18, h⟩ := h
    rw [← e18]
    cases v18 with
    | true =>
      replace h := iteT rfl h
      refine AW.cond_true (by simp) ?_
      replace h := bnE h; obtain ⟨v19, e19, h⟩ := h
      apply AW.step
      · simp
        intros
        refine xcall_plain en_l15_awake (s_l15_awake e19) rfl trivial ?_
        try simp
        intros; rfl
      obtain rfl := Option.some.inj h
      refine AW.ret ?_
      refine Left.plain hnb (by simp [Try.f9, resV, resC, comp]; rfl) rfl rfl ?_
      simp
    | false =>
      replace h := iteF rfl h
      refine AW.cond_false (by simp) ?_
      refine AW.skip ?_
      try simp only [sp_l, sp_r, Post.seq, Post.block, Nat.reduceEqDiff, reduceIte, Nat.zero_ne_one, Nat.one_ne_zero]
      try simp only [sp_l, sp_r, Post.seq, Post.block, Nat.reduceEqDiff, reduceIte, Nat.zero_ne_one, Nat.one_ne_zero]
      replace h := bnE h; obtain ⟨v20, e20, h⟩ := h
      apply AW.step
      · simp
        intros
        refine xcall_plain en_feed_Got (s_feed_Got e20) rfl ⟨.same rfl, .same rfl, .same rfl, trivial⟩ ?_
        try simp
        intros; rfl
      replace h := bnE h; obtain ⟨v21, e21, h⟩ := h
      apply AW.step
      · simp
        intros
        refine xcall_plain en_r13_Got (s_r13_Got e21) rfl ⟨.same rfl, .same rfl, .same rfl, trivial⟩ ?_
        try simp
        intros; rfl
      replace h := bnE h; obtain ⟨y22, g22, h⟩ := h
      refine AW.flow (p := fun gh ls => (nP (cx := cx) (fun q => (⟨[(12, .l (.s (.bool q)))], [], 124, gh, ls⟩ : St))) y22) ?_ ?_
      · replace h := g22; clear g22
        replace h := bnE h; obtain ⟨v23, e23, h⟩ := h
        replace h := bnE h; obtain ⟨v24, e24, h⟩ := h
        replace h := bnE h; obtain ⟨v25, e25, h⟩ := h
        cases v25 with
        | true =>
          replace h := iteT rfl h
          replace h := bnE h; obtain ⟨v26, e26, h⟩ := h
          replace h := bnE h; obtain ⟨v27, e27, h⟩ := h
          replace h := bnE h; obtain ⟨v28, e28, h⟩ := h
          cases v28 with
          | true =>
            replace h := iteT rfl h
            replace h := bnE h; obtain ⟨v29, e29, h⟩ := h
            cases v29 with
            | true =>
              replace h := iteT rfl h
              replace h := bnE h; obtain ⟨v30, e30, h⟩ := h
              cases v30 with
              | true =>
                replace h := iteT rfl h
                replace h := ltE h; obtain ⟨v31, e31, h⟩ := h
                cases v31 with
                | true =>
                  replace h := iteT rfl h
                  replace h := bnE h; obtain ⟨v32, e32, h⟩ := h
                  cases v32 with
                  | true =>
                    replace h := iteT rfl h
                    replace h := bnE h; obtain ⟨v33, e33, h⟩ := h
                    apply AW.drawnR (V := [_, _, _, _, _, _, _, _, _, _, _, _, _, _, _, _, _, _, _, _, _, _, _, _, _, _, _, _, _, _, _, _, _, _, _, _, _, _, _, _, _]) mixed [⟨[0], [], [(6, none)], false⟩, ⟨[0], [], [(2, none)], false⟩, ⟨[0], [0, 1], [(78, some 0), (79, some 1)], false⟩, ⟨[0], [], [(6, none)], false⟩, ⟨[0], [], [(2, none)], false⟩, ⟨[0], [0, 1, 2, 3, 4], [(81, some 3), (82, some 4)], false⟩, ⟨[0], [0, 1, 2, 3, 4, 5], [(80, some 2), (83, some 5)], false⟩, ⟨[0], [0, 1, 2, 3, 4, 5, 6], [(84, some 6)], false⟩, ⟨[0], [0, 1, 2, 3, 4, 5, 6, 7], [(6, none), (85, some 7)], false⟩, ⟨[0], [0, 1, 2, 3, 4, 5, 6, 7], [(1, none), (85, some 7)], false⟩, ⟨[0], [0, 1, 2, 3, 4, 5, 6, 7], [(9, none), (85, some 7)], false⟩, ⟨[0], [0, 1, 2, 3, 4, 5, 6, 7], [(4, none), (85, some 7)], false⟩, ⟨[0], [0, 1, 2, 3, 4, 5, 6, 7, 8, 9, 10, 11], [(85, some 7), (86, some 8), (87, some 9), (88, some 10), (89, some 11)], false⟩, ⟨[0], [0, 1, 2, 3, 4, 5, 6, 7], [(6, none), (85, some 7)], false⟩, ⟨[0], [0, 1, 2, 3, 4, 5, 6, 7], [(1, none), (85, some 7)], false⟩, ⟨[0], [0, 1, 2, 3, 4, 5, 6, 7], [(9, none), (85, some 7)], false⟩, ⟨[0], [0, 1, 2, 3, 4, 5, 6, 7], [(4, none), (85, some 7)], false⟩, ⟨[0], [0, 1, 2, 3, 4, 5, 6, 7, 8, 9, 10, 11, 12, 13, 14, 15, 16], [(85, some 7), (91, some 13), (92, some 14), (93, some 15), (94, some 16)], false⟩, ⟨[0], [0, 1, 2, 3, 4, 5, 6, 7, 8, 9, 10, 11, 12, 13, 14, 15, 16, 17], [(85, some 7), (90, some 12), (95, some 17)], false⟩, ⟨[0], [0, 1, 2, 3, 4, 5, 6, 7, 8, 9, 10, 11, 12, 13, 14, 15, 16, 17, 18], [(85, some 7), (96, some 18)], false⟩, ⟨[0], [0, 1, 2, 3, 4, 5, 6, 7, 8, 9, 10, 11, 12, 13, 14, 15, 16, 17, 18, 19], [(97, some 19)], false⟩, ⟨[0], [0, 1, 2, 3, 4, 5, 6, 7, 8, 9, 10, 11, 12, 13, 14, 15, 16, 17, 18, 19, 20], [(13, none), (98, some 20)], false⟩, ⟨[0], [0, 1, 2, 3, 4, 5, 6, 7, 8, 9, 10, 11, 12, 13, 14, 15, 16, 17, 18, 19, 20], [(16, none), (98, some 20)], false⟩, ⟨[0], [0, 1, 2, 3, 4, 5, 6, 7, 8, 9, 10, 11, 12, 13, 14, 15, 16, 17, 18, 19, 20, 22], [(98, some 20), (100, some 22)], false⟩, ⟨[0], [0, 1, 2, 3, 4, 5, 6, 7, 8, 9, 10, 11, 12, 13, 14, 15, 16, 17, 18, 19, 20, 21, 22, 23], [(98, some 20), (99, some 21), (101, some 23)], false⟩, ⟨[0], [0, 1, 2, 3, 4, 5, 6, 7, 8, 9, 10, 11, 12, 13, 14, 15, 16, 17, 18, 19, 20, 21, 22, 23, 24], [(98, some 20), (102, some 24)], false⟩, ⟨[0], [0, 1, 2, 3, 4, 5, 6, 7, 8, 9, 10, 11, 12, 13, 14, 15, 16, 17, 18, 19, 20, 21, 22, 23, 24, 25], [(103, some 25)], false⟩, ⟨[0], [0, 1, 2, 3, 4, 5, 6, 7, 8, 9, 10, 11, 12, 13, 14, 15, 16, 17, 18, 19, 20, 21, 22, 23, 24, 25, 26], [(14, none), (104, some 26)], false⟩, ⟨[0], [0, 1, 2, 3, 4, 5, 6, 7, 8, 9, 10, 11, 12, 13, 14, 15, 16, 17, 18, 19, 20, 21, 22, 23, 24, 25, 26], [(16, none), (104, some 26)], false⟩, ⟨[0], [0, 1, 2, 3, 4, 5, 6, 7, 8, 9, 10, 11, 12, 13, 14, 15, 16, 17, 18, 19, 20, 21, 22, 23, 24, 25, 26, 28], [(104, some 26), (106, some 28)], false⟩, ⟨[0], [0, 1, 2, 3, 4, 5, 6, 7, 8, 9, 10, 11, 12, 13, 14, 15, 16, 17, 18, 19, 20, 21, 22, 23, 24, 25, 26, 27, 28, 29], [(104, some 26), (105, some 27), (107, some 29)], false⟩, ⟨[0], [0, 1, 2, 3, 4, 5, 6, 7, 8, 9, 10, 11, 12, 13, 14, 15, 16, 17, 18, 19, 20, 21, 22, 23, 24, 25, 26, 27, 28, 29, 30], [(104, some 26), (108, some 30)], false⟩, ⟨[0], [0, 1, 2, 3, 4, 5, 6, 7, 8, 9, 10, 11, 12, 13, 14, 15, 16, 17, 18, 19, 20, 21, 22, 23, 24, 25, 26, 27, 28, 29, 30, 31], [(109, some 31)], false⟩, ⟨[0], [0, 1, 2, 3, 4, 5, 6, 7, 8, 9, 10, 11, 12, 13, 14, 15, 16, 17, 18, 19, 20, 21, 22, 23, 24, 25, 26, 27, 28, 29, 30, 31, 32], [(15, none), (110, some 32)], false⟩, ⟨[0], [0, 1, 2, 3, 4, 5, 6, 7, 8, 9, 10, 11, 12, 13, 14, 15, 16, 17, 18, 19, 20, 21, 22, 23, 24, 25, 26, 27, 28, 29, 30, 31, 32], [(16, none), (110, some 32)], false⟩, ⟨[0], [0, 1, 2, 3, 4, 5, 6, 7, 8, 9, 10, 11, 12, 13, 14, 15, 16, 17, 18, 19, 20, 21, 22, 23, 24, 25, 26, 27, 28, 29, 30, 31, 32, 34], [(110, some 32), (112, some 34)], false⟩, ⟨[0], [0, 1, 2, 3, 4, 5, 6, 7, 8, 9, 10, 11, 12, 13, 14, 15, 16, 17, 18, 19, 20, 21, 22, 23, 24, 25, 26, 27, 28, 29, 30, 31, 32, 33, 34, 35], [(110, some 32), (111, some 33), (113, some 35)], false⟩, ⟨[0], [0, 1, 2, 3, 4, 5, 6, 7, 8, 9, 10, 11, 12, 13, 14, 15, 16, 17, 18, 19, 20, 21, 22, 23, 24, 25, 26, 27, 28, 29, 30, 31, 32, 33, 34, 35, 36], [(110, some 32), (114, some 36)], false⟩, ⟨[0], [0, 1, 2, 3, 4, 5, 6, 7, 8, 9, 10, 11, 12, 13, 14, 15, 16, 17, 18, 19, 20, 21, 22, 23, 24, 25, 26, 27, 28, 29, 30, 31, 32, 33, 34, 35, 36, 37], [(115, some 37)], false⟩, ⟨[0], [0, 1, 2, 3, 4, 5, 6, 7, 8, 9, 10, 11, 12, 13, 14, 15, 16, 17, 18, 19, 20, 21, 22, 23, 24, 25, 26, 27, 28, 29, 30, 31, 32, 33, 34, 35, 36, 37, 38], [(6, none), (116, some 38)], false⟩, ⟨[0], [0, 1, 2, 3, 4, 5, 6, 7, 8, 9, 10, 11, 12, 13, 14, 15, 16, 17, 18, 19, 20, 21, 22, 23, 24, 25, 26, 27, 28, 29, 30, 31, 32, 33, 34, 35, 36, 37, 38], [(6, none), (116, some 38)], false⟩, ⟨[], [0, 1, 2, 3, 4, 5, 6, 7, 8, 9, 10, 11, 12, 13, 14, 15, 16, 17, 18, 19, 20, 21, 22, 23, 24, 25, 26, 27, 28, 29, 30, 31, 32, 33, 34, 35, 36, 37, 38, 39, 40], [], false⟩, ⟨[], [0, 1, 2, 3, 4, 5, 6, 7, 8, 9, 10, 11, 12, 13, 14, 15, 16, 17, 18, 19, 20, 21, 22, 23, 24, 25, 26, 27, 28, 29, 30, 31, 32, 33, 34, 35, 36, 37, 38, 39, 40, 41], [], false⟩, ⟨[], [0, 1, 2, 3, 4, 5, 6, 7, 8, 9, 10, 11, 12, 13, 14, 15, 16, 17, 18, 19, 20, 21, 22, 23, 24, 25, 26, 27, 28, 29, 30, 31, 32, 33, 34, 35, 36, 37, 38, 39, 40, 41, 42], [], false⟩, ⟨[], [0, 1, 2, 3, 4, 5, 6, 7, 8, 9, 10, 11, 12, 13, 14, 15, 16, 17, 18, 19, 20, 21, 22, 23, 24, 25, 26, 27, 28, 29, 30, 31, 32, 33, 34, 35, 36, 37, 38, 39, 40, 41, 42, 43], [], false⟩, ⟨[], [0, 1, 2, 3, 4, 5, 6, 7, 8, 9, 10, 11, 12, 13, 14, 15, 16, 17, 18, 19, 20, 21, 22, 23, 24, 25, 26, 27, 28, 29, 30, 31, 32, 33, 34, 35, 36, 37, 38, 39, 40, 41, 42, 43, 44], [], false⟩, ⟨[], [0, 1, 2, 3, 4, 5, 6, 7, 8, 9, 10, 11, 12, 13, 14, 15, 16, 17, 18, 19, 20, 21, 22, 23, 24, 25, 26, 27, 28, 29, 30, 31, 32, 33, 34, 35, 36, 37, 38, 39, 40, 41, 42, 43, 44, 45], [], false⟩] 41 (by kernel_rfl) (by kernel_rfl)
                    · refine ⟨?_, ?_, ?_, ?_, ?_, ?_, ?_, ?_, ?_, ?_, ?_, ?_, ?_, ?_, ?_, ?_, ?_, ?_, ?_, ?_, ?_, ?_, ?_, ?_, ?_, ?_, ?_, ?_, ?_, ?_, ?_, ?_, ?_, ?_, ?_, ?_, ?_, ?_, ?_, ?_, ?_, trivial⟩
                      · intro tm hr
                        simp [AllL, rdV] at hr
                        simp [hr, ← e31]
                        intros; first | exact KD.mk | exact KD.mkN
                      · intro tm hr
                        simp [AllL, rdV] at hr
                        simp [hr, ← e31]
                        intros; first | exact KD.mk | exact KD.mkN
                      · intro tm hr
                        simp [AllL, rdV] at hr
                        simp [hr, ← e31]
                        intros
                        refine xcall_plain en_feed_Add (s_feed_Add e23) rfl ⟨.same rfl, .same rfl, trivial⟩ ?_
                        try simp [← e31]
                        intros; first | exact KD.mk | exact KD.mkN
                      · intro tm hr
                        simp [AllL, rdV] at hr
                        simp [hr, ← e31]
                        intros; first | exact KD.mk | exact KD.mkN
                      · intro tm hr
                        simp [AllL, rdV] at hr
                        simp [hr, ← e31]
                        intros; first | exact KD.mk | exact KD.mkN
                      · intro tm hr
                        simp [AllL, rdV] at hr
                        simp [hr, ← e31]
                        intros
                        refine xcall_plain en_r13_Add (s_r13_Add e24) rfl ⟨.same rfl, .same rfl, trivial⟩ ?_
                        try simp [← e31]
                        intros; first | exact KD.mk | exact KD.mkN
                      · intro tm hr
                        simp [AllL, rdV] at hr
                        simp [hr, ← e31]
                        intros
                        refine xcall_plain en_r13_SameFeed (s_r13_SameFeed e25) rfl ⟨.same rfl, .same rfl, trivial⟩ ?_
                        try simp [← e31]
                        intros; first | exact KD.mk | exact KD.mkN
                      · intro tm hr
                        simp [AllL, rdV] at hr
                        simp [hr, ← e31]
                        intros; first | exact KD.mk | exact KD.mkN
                      · intro tm hr
                        simp [AllL, rdV] at hr
                        simp [hr, ← e31]
                        intros; first | exact KD.mk | exact KD.mkN
                      · intro tm hr
                        simp [AllL, rdV] at hr
                        simp [hr, ← e31]
                        intros; first | exact KD.mk | exact KD.mkN
                      · intro tm hr
                        simp [AllL, rdV] at hr
                        simp [hr, ← e31]
                        intros; first | exact KD.mk | exact KD.mkN
                      · intro tm hr
                        simp [AllL, rdV] at hr
                        simp [hr, ← e31]
                        intros; first | exact KD.mk | exact KD.mkN
                      · intro tm hr
                        simp [AllL, rdV] at hr
                        simp [hr, ← e31]
                        intros
                        refine xcall_plain en_feed_Answer (s_feed_Answer e26) rfl ⟨.same rfl, .same rfl, .same rfl, .same rfl, trivial⟩ ?_
                        try simp [← e31]
                        intros; first | exact KD.mk | exact KD.mkN
                      · intro tm hr
                        simp [AllL, rdV] at hr
                        simp [hr, ← e31]
                        intros; first | exact KD.mk | exact KD.mkN
                      · intro tm hr
                        simp [AllL, rdV] at hr
                        simp [hr, ← e31]
                        intros; first | exact KD.mk | exact KD.mkN
                      · intro tm hr
                        simp [AllL, rdV] at hr
                        simp [hr, ← e31]
                        intros; first | exact KD.mk | exact KD.mkN
                      · intro tm hr
                        simp [AllL, rdV] at hr
                        simp [hr, ← e31]
                        intros; first | exact KD.mk | exact KD.mkN
                      · intro tm hr
                        simp [AllL, rdV] at hr
                        simp [hr, ← e31]
                        intros
                        refine xcall_plain en_r13_Answer (s_r13_Answer e27) rfl ⟨.same rfl, .same rfl, .same rfl, .same rfl, trivial⟩ ?_
                        try simp [← e31]
                        intros; first | exact KD.mk | exact KD.mkN
                      · intro tm hr
                        simp [AllL, rdV] at hr
                        simp [hr, ← e31]
                        intros
                        refine xcall_plain en_r19_SameMsg (s_r19_SameMsg e28) rfl ⟨.same rfl, .same rfl, trivial⟩ ?_
                        try simp [← e31]
                        intros; first | exact KD.mk | exact KD.mkN
                      · intro tm hr
                        simp [AllL, rdV] at hr
                        simp [hr, ← e31]
                        intros; first | exact KD.mk | exact KD.mkN
                      · intro tm hr
                        simp [AllL, rdV] at hr
                        simp [hr, ← e31]
                        intros; first | exact KD.mk | exact KD.mkN
                      · intro tm hr
                        simp [AllL, rdV] at hr
                        simp [hr, ← e31]
                        intros; first | exact KD.mk | exact KD.mkN
                      · intro tm hr
                        simp [AllL, rdV] at hr
                        simp [hr, ← e31]
                        intros; first | exact KD.mk | exact KD.mkN
                      · intro tm hr
                        simp [AllL, rdV] at hr
                        simp [hr, ← e31]
                        intros; first | exact KD.mk | exact KD.mkN
                      · intro tm hr
                        simp [AllL, rdV] at hr
                        simp [hr, ← e31]
                        intros
                        refine xcall_plain en_r13_SameFeed (s_r13_SameFeed e29) rfl ⟨.same rfl, .same rfl, trivial⟩ ?_
                        try simp [← e31]
                        intros; first | exact KD.mk | exact KD.mkN
                      · intro tm hr
                        simp [AllL, rdV] at hr
                        simp [hr, ← e31]
                        intros; first | exact KD.mk | exact KD.mkN
                      · intro tm hr
                        simp [AllL, rdV] at hr
                        simp [hr, ← e31]
                        intros; first | exact KD.mk | exact KD.mkN
                      · intro tm hr
                        simp [AllL, rdV] at hr
                        simp [hr, ← e31]
                        intros; first | exact KD.mk | exact KD.mkN
                      · intro tm hr
                        simp [AllL, rdV] at hr
                        simp [hr, ← e31]
                        intros; first | exact KD.mk | exact KD.mkN
                      · intro tm hr
                        simp [AllL, rdV] at hr
                        simp [hr, ← e31]
                        intros; first | exact KD.mk | exact KD.mkN
                      · intro tm hr
                        simp [AllL, rdV] at hr
                        simp [hr, ← e31]
                        intros
                        refine xcall_plain en_r5_SameSpace (s_r5_SameSpace e30) rfl ⟨.same rfl, .same rfl, trivial⟩ ?_
                        try simp [← e31]
                        intros; first | exact KD.mk | exact KD.mkN
                      · intro tm hr
                        simp [AllL, rdV] at hr
                        simp [hr, ← e31]
                        intros; first | exact KD.mk | exact KD.mkN
                      · intro tm hr
                        simp [AllL, rdV] at hr
                        simp [hr, ← e31]
                        intros; first | exact KD.mk | exact KD.mkN
                      · intro tm hr
                        simp [AllL, rdV] at hr
                        simp [hr, ← e31]
                        intros; first | exact KD.mk | exact KD.mkN
                      · intro tm hr
                        simp [AllL, rdV] at hr
                        simp [hr, ← e31]
                        intros; first | exact KD.mk | exact KD.mkN
                      · intro tm hr
                        simp [AllL, rdV] at hr
                        simp [hr, ← e31]
                        intros; first | exact KD.mk | exact KD.mkN
                      · intro tm hr
                        simp [AllL, rdV] at hr
                        simp [hr, ← e31]
                        intros; first | exact KD.mk | exact KD.mkN
                      · intro tm hr
                        simp [AllL, rdV] at hr
                        simp [hr, ← e31]
                        intros; first | exact KD.mk | exact KD.mkN
                      · intro tm hr
                        simp [AllL, rdV] at hr
                        simp [hr, ← e31]
                        intros; first | exact KD.mk | exact KD.mkN
                      · intro tm hr
                        simp [AllL, rdV] at hr
                        simp [hr, ← e31]
                        intros; first | exact KD.mk | exact KD.mkN
                      · intro tm hr
                        simp [AllL, rdV] at hr
                        simp [hr, ← e31]
                        intros; first | exact KD.mk | exact KD.mkN
                    · rfl
                    · simp [tmD, putD, ← e31]; rfl
                    · simp [← e31]
                      intros
                      refine xcall_plain en_feed_Same (s_feed_Same e32) rfl ⟨.same rfl, .same rfl, trivial⟩ ?_
                      try simp [← e31]
                      intros
                      refine xcall_plain en_l15_awake (s_l15_awake e33) rfl trivial ?_
                      try simp [← e31]
                      intros; rfl
                    obtain rfl := Option.some.inj h
                    refine nP_i ?_
                    refine Weak.mixN [] hn0 (by decide) ?_ ?_ rfl
                    all_goals first | (simp [inv_cons, inv_nil, pickOb]; done) | rfl
                  | false =>
                    replace h := iteF rfl h
                    apply AW.drawnR (V := [_, _, _, _, _, _, _, _, _, _, _, _, _, _, _, _, _, _, _, _, _, _, _, _, _, _, _, _, _, _, _, _, _, _, _, _, _, _, _, _, _]) mixed [⟨[0], [], [(6, none)], false⟩, ⟨[0], [], [(2, none)], false⟩, ⟨[0], [0, 1], [(78, some 0), (79, some 1)], false⟩, ⟨[0], [], [(6, none)], false⟩, ⟨[0], [], [(2, none)], false⟩, ⟨[0], [0, 1, 2, 3, 4], [(81, some 3), (82, some 4)], false⟩, ⟨[0], [0, 1, 2, 3, 4, 5], [(80, some 2), (83, some 5)], false⟩, ⟨[0], [0, 1, 2, 3, 4, 5, 6], [(84, some 6)], false⟩, ⟨[0], [0, 1, 2, 3, 4, 5, 6, 7], [(6, none), (85, some 7)], false⟩, ⟨[0], [0, 1, 2, 3, 4, 5, 6, 7], [(1, none), (85, some 7)], false⟩, ⟨[0], [0, 1, 2, 3, 4, 5, 6, 7], [(9, none), (85, some 7)], false⟩, ⟨[0], [0, 1, 2, 3, 4, 5, 6, 7], [(4, none), (85, some 7)], false⟩, ⟨[0], [0, 1, 2, 3, 4, 5, 6, 7, 8, 9, 10, 11], [(85, some 7), (86, some 8), (87, some 9), (88, some 10), (89, some 11)], false⟩, ⟨[0], [0, 1, 2, 3, 4, 5, 6, 7], [(6, none), (85, some 7)], false⟩, ⟨[0], [0, 1, 2, 3, 4, 5, 6, 7], [(1, none), (85, some 7)], false⟩, ⟨[0], [0, 1, 2, 3, 4, 5, 6, 7], [(9, none), (85, some 7)], false⟩, ⟨[0], [0, 1, 2, 3, 4, 5, 6, 7], [(4, none), (85, some 7)], false⟩, ⟨[0], [0, 1, 2, 3, 4, 5, 6, 7, 8, 9, 10, 11, 12, 13, 14, 15, 16], [(85, some 7), (91, some 13), (92, some 14), (93, some 15), (94, some 16)], false⟩, ⟨[0], [0, 1, 2, 3, 4, 5, 6, 7, 8, 9, 10, 11, 12, 13, 14, 15, 16, 17], [(85, some 7), (90, some 12), (95, some 17)], false⟩, ⟨[0], [0, 1, 2, 3, 4, 5, 6, 7, 8, 9, 10, 11, 12, 13, 14, 15, 16, 17, 18], [(85, some 7), (96, some 18)], false⟩, ⟨[0], [0, 1, 2, 3, 4, 5, 6, 7, 8, 9, 10, 11, 12, 13, 14, 15, 16, 17, 18, 19], [(97, some 19)], false⟩, ⟨[0], [0, 1, 2, 3, 4, 5, 6, 7, 8, 9, 10, 11, 12, 13, 14, 15, 16, 17, 18, 19, 20], [(13, none), (98, some 20)], false⟩, ⟨[0], [0, 1, 2, 3, 4, 5, 6, 7, 8, 9, 10, 11, 12, 13, 14, 15, 16, 17, 18, 19, 20], [(16, none), (98, some 20)], false⟩, ⟨[0], [0, 1, 2, 3, 4, 5, 6, 7, 8, 9, 10, 11, 12, 13, 14, 15, 16, 17, 18, 19, 20, 22], [(98, some 20), (100, some 22)], false⟩, ⟨[0], [0, 1, 2, 3, 4, 5, 6, 7, 8, 9, 10, 11, 12, 13, 14, 15, 16, 17, 18, 19, 20, 21, 22, 23], [(98, some 20), (99, some 21), (101, some 23)], false⟩, ⟨[0], [0, 1, 2, 3, 4, 5, 6, 7, 8, 9, 10, 11, 12, 13, 14, 15, 16, 17, 18, 19, 20, 21, 22, 23, 24], [(98, some 20), (102, some 24)], false⟩, ⟨[0], [0, 1, 2, 3, 4, 5, 6, 7, 8, 9, 10, 11, 12, 13, 14, 15, 16, 17, 18, 19, 20, 21, 22, 23, 24, 25], [(103, some 25)], false⟩, ⟨[0], [0, 1, 2, 3, 4, 5, 6, 7, 8, 9, 10, 11, 12, 13, 14, 15, 16, 17, 18, 19, 20, 21, 22, 23, 24, 25, 26], [(14, none), (104, some 26)], false⟩, ⟨[0], [0, 1, 2, 3, 4, 5, 6, 7, 8, 9, 10, 11, 12, 13, 14, 15, 16, 17, 18, 19, 20, 21, 22, 23, 24, 25, 26], [(16, none), (104, some 26)], false⟩, ⟨[0], [0, 1, 2, 3, 4, 5, 6, 7, 8, 9, 10, 11, 12, 13, 14, 15, 16, 17, 18, 19, 20, 21, 22, 23, 24, 25, 26, 28], [(104, some 26), (106, some 28)], false⟩, ⟨[0], [0, 1, 2, 3, 4, 5, 6, 7, 8, 9, 10, 11, 12, 13, 14, 15, 16, 17, 18, 19, 20, 21, 22, 23, 24, 25, 26, 27, 28, 29], [(104, some 26), (105, some 27), (107, some 29)], false⟩, ⟨[0], [0, 1, 2, 3, 4, 5, 6, 7, 8, 9, 10, 11, 12, 13, 14, 15, 16, 17, 18, 19, 20, 21, 22, 23, 24, 25, 26, 27, 28, 29, 30], [(104, some 26), (108, some 30)], false⟩, ⟨[0], [0, 1, 2, 3, 4, 5, 6, 7, 8, 9, 10, 11, 12, 13, 14, 15, 16, 17, 18, 19, 20, 21, 22, 23, 24, 25, 26, 27, 28, 29, 30, 31], [(109, some 31)], false⟩, ⟨[0], [0, 1, 2, 3, 4, 5, 6, 7, 8, 9, 10, 11, 12, 13, 14, 15, 16, 17, 18, 19, 20, 21, 22, 23, 24, 25, 26, 27, 28, 29, 30, 31, 32], [(15, none), (110, some 32)], false⟩, ⟨[0], [0, 1, 2, 3, 4, 5, 6, 7, 8, 9, 10, 11, 12, 13, 14, 15, 16, 17, 18, 19, 20, 21, 22, 23, 24, 25, 26, 27, 28, 29, 30, 31, 32], [(16, none), (110, some 32)], false⟩, ⟨[0], [0, 1, 2, 3, 4, 5, 6, 7, 8, 9, 10, 11, 12, 13, 14, 15, 16, 17, 18, 19, 20, 21, 22, 23, 24, 25, 26, 27, 28, 29, 30, 31, 32, 34], [(110, some 32), (112, some 34)], false⟩, ⟨[0], [0, 1, 2, 3, 4, 5, 6, 7, 8, 9, 10, 11, 12, 13, 14, 15, 16, 17, 18, 19, 20, 21, 22, 23, 24, 25, 26, 27, 28, 29, 30, 31, 32, 33, 34, 35], [(110, some 32), (111, some 33), (113, some 35)], false⟩, ⟨[0], [0, 1, 2, 3, 4, 5, 6, 7, 8, 9, 10, 11, 12, 13, 14, 15, 16, 17, 18, 19, 20, 21, 22, 23, 24, 25, 26, 27, 28, 29, 30, 31, 32, 33, 34, 35, 36], [(110, some 32), (114, some 36)], false⟩, ⟨[0], [0, 1, 2, 3, 4, 5, 6, 7, 8, 9, 10, 11, 12, 13, 14, 15, 16, 17, 18, 19, 20, 21, 22, 23, 24, 25, 26, 27, 28, 29, 30, 31, 32, 33, 34, 35, 36, 37], [(115, some 37)], false⟩, ⟨[0], [0, 1, 2, 3, 4, 5, 6, 7, 8, 9, 10, 11, 12, 13, 14, 15, 16, 17, 18, 19, 20, 21, 22, 23, 24, 25, 26, 27, 28, 29, 30, 31, 32, 33, 34, 35, 36, 37, 38], [(6, none), (116, some 38)], false⟩, ⟨[0], [0, 1, 2, 3, 4, 5, 6, 7, 8, 9, 10, 11, 12, 13, 14, 15, 16, 17, 18, 19, 20, 21, 22, 23, 24, 25, 26, 27, 28, 29, 30, 31, 32, 33, 34, 35, 36, 37, 38], [(6, none), (116, some 38)], false⟩, ⟨[], [0, 1, 2, 3, 4, 5, 6, 7, 8, 9, 10, 11, 12, 13, 14, 15, 16, 17, 18, 19, 20, 21, 22, 23, 24, 25, 26, 27, 28, 29, 30, 31, 32, 33, 34, 35, 36, 37, 38, 39, 40], [], false⟩, ⟨[], [0, 1, 2, 3, 4, 5, 6, 7, 8, 9, 10, 11, 12, 13, 14, 15, 16, 17, 18, 19, 20, 21, 22, 23, 24, 25, 26, 27, 28, 29, 30, 31, 32, 33, 34, 35, 36, 37, 38, 39, 40, 41], [], false⟩, ⟨[], [0, 1, 2, 3, 4, 5, 6, 7, 8, 9, 10, 11, 12, 13, 14, 15, 16, 17, 18, 19, 20, 21, 22, 23, 24, 25, 26, 27, 28, 29, 30, 31, 32, 33, 34, 35, 36, 37, 38, 39, 40, 41, 42], [], false⟩, ⟨[], [0, 1, 2, 3, 4, 5, 6, 7, 8, 9, 10, 11, 12, 13, 14, 15, 16, 17, 18, 19, 20, 21, 22, 23, 24, 25, 26, 27, 28, 29, 30, 31, 32, 33, 34, 35, 36, 37, 38, 39, 40, 41, 42, 43], [], false⟩, ⟨[], [0, 1, 2, 3, 4, 5, 6, 7, 8, 9, 10, 11, 12, 13, 14, 15, 16, 17, 18, 19, 20, 21, 22, 23, 24, 25, 26, 27, 28, 29, 30, 31, 32, 33, 34, 35, 36, 37, 38, 39, 40, 41, 42, 43, 44], [], false⟩, ⟨[], [0, 1, 2, 3, 4, 5, 6, 7, 8, 9, 10, 11, 12, 13, 14, 15, 16, 17, 18, 19, 20, 21, 22, 23, 24, 25, 26, 27, 28, 29, 30, 31, 32, 33, 34, 35, 36, 37, 38, 39, 40, 41, 42, 43, 44, 45], [], false⟩] 41 (by kernel_rfl) (by kernel_rfl)
                    · refine ⟨?_, ?_, ?_, ?_, ?_, ?_, ?_, ?_, ?_, ?_, ?_, ?_, ?_, ?_, ?_, ?_, ?_, ?_, ?_, ?_, ?_, ?_, ?_, ?_, ?_, ?_, ?_, ?_, ?_, ?_, ?_, ?_, ?_, ?_, ?_, ?_, ?_, ?_, ?_, ?_, ?_, trivial⟩
                      · intro tm hr
                        simp [AllL, rdV] at hr
                        simp [hr, ← e31]
                        intros; first | exact KD.mk | exact KD.mkN
                      · intro tm hr
                        simp [AllL, rdV] at hr
                        simp [hr, ← e31]
                        intros; first | exact KD.mk | exact KD.mkN
                      · intro tm hr
                        simp [AllL, rdV] at hr
                        simp [hr, ← e31]
                        intros
                        refine xcall_plain en_feed_Add (s_feed_Add e23) rfl ⟨.same rfl, .same rfl, trivial⟩ ?_
                        try simp [← e31]
                        intros; first | exact KD.mk | exact KD.mkN
                      · intro tm hr
                        simp [AllL, rdV] at hr
                        simp [hr, ← e31]
                        intros; first | exact KD.mk | exact KD.mkN
                      · intro tm hr
                        simp [AllL, rdV] at hr
                        simp [hr, ← e31]
                        intros; first | exact KD.mk | exact KD.mkN
                      · intro tm hr
                        simp [AllL, rdV] at hr
                        simp [hr, ← e31]
                        intros
                        refine xcall_plain en_r13_Add (s_r13_Add e24) rfl ⟨.same rfl, .same rfl, trivial⟩ ?_
                        try simp [← e31]
                        intros; first | exact KD.mk | exact KD.mkN
                      · intro tm hr
                        simp [AllL, rdV] at hr
                        simp [hr, ← e31]
                        intros
                        refine xcall_plain en_r13_SameFeed (s_r13_SameFeed e25) rfl ⟨.same rfl, .same rfl, trivial⟩ ?_
                        try simp [← e31]
                        intros; first | exact KD.mk | exact KD.mkN
                      · intro tm hr
                        simp [AllL, rdV] at hr
                        simp [hr, ← e31]
                        intros; first | exact KD.mk | exact KD.mkN
                      · intro tm hr
                        simp [AllL, rdV] at hr
                        simp [hr, ← e31]
                        intros; first | exact KD.mk | exact KD.mkN
                      · intro tm hr
                        simp [AllL, rdV] at hr
                        simp [hr, ← e31]
                        intros; first | exact KD.mk | exact KD.mkN
                      · intro tm hr
                        simp [AllL, rdV] at hr
                        simp [hr, ← e31]
                        intros; first | exact KD.mk | exact KD.mkN
                      · intro tm hr
                        simp [AllL, rdV] at hr
                        simp [hr, ← e31]
                        intros; first | exact KD.mk | exact KD.mkN
                      · intro tm hr
                        simp [AllL, rdV] at hr
                        simp [hr, ← e31]
                        intros
                        refine xcall_plain en_feed_Answer (s_feed_Answer e26) rfl ⟨.same rfl, .same rfl, .same rfl, .same rfl, trivial⟩ ?_
                        try simp [← e31]
                        intros; first | exact KD.mk | exact KD.mkN
                      · intro tm hr
                        simp [AllL, rdV] at hr
                        simp [hr, ← e31]
                        intros; first | exact KD.mk | exact KD.mkN
                      · intro tm hr
                        simp [AllL, rdV] at hr
                        simp [hr, ← e31]
                        intros; first | exact KD.mk | exact KD.mkN
                      · intro tm hr
                        simp [AllL, rdV] at hr
                        simp [hr, ← e31]
                        intros; first | exact KD.mk | exact KD.mkN
                      · intro tm hr
                        simp [AllL, rdV] at hr
                        simp [hr, ← e31]
                        intros; first | exact KD.mk | exact KD.mkN
                      · intro tm hr
                        simp [AllL, rdV] at hr
                        simp [hr, ← e31]
                        intros
                        refine xcall_plain en_r13_Answer (s_r13_Answer e27) rfl ⟨.same rfl, .same rfl, .same rfl, .same rfl, trivial⟩ ?_
                        try simp [← e31]
                        intros; first | exact KD.mk | exact KD.mkN
                      · intro tm hr
                        simp [AllL, rdV] at hr
                        simp [hr, ← e31]
                        intros
                        refine xcall_plain en_r19_SameMsg (s_r19_SameMsg e28) rfl ⟨.same rfl, .same rfl, trivial⟩ ?_
                        try simp [← e31]
                        intros; first | exact KD.mk | exact KD.mkN
                      · intro tm hr
                        simp [AllL, rdV] at hr
                        simp [hr, ← e31]
                        intros; first | exact KD.mk | exact KD.mkN
                      · intro tm hr
                        simp [AllL, rdV] at hr
                        simp [hr, ← e31]
                        intros; first | exact KD.mk | exact KD.mkN
                      · intro tm hr
                        simp [AllL, rdV] at hr
                        simp [hr, ← e31]
                        intros; first | exact KD.mk | exact KD.mkN
                      · intro tm hr
                        simp [AllL, rdV] at hr
                        simp [hr, ← e31]
                        intros; first | exact KD.mk | exact KD.mkN
                      · intro tm hr
                        simp [AllL, rdV] at hr
                        simp [hr, ← e31]
                        intros; first | exact KD.mk | exact KD.mkN
                      · intro tm hr
                        simp [AllL, rdV] at hr
                        simp [hr, ← e31]
                        intros
                        refine xcall_plain en_r13_SameFeed (s_r13_SameFeed e29) rfl ⟨.same rfl, .same rfl, trivial⟩ ?_
                        try simp [← e31]
                        intros; first | exact KD.mk | exact KD.mkN
                      · intro tm hr
                        simp [AllL, rdV] at hr
                        simp [hr, ← e31]
                        intros; first | exact KD.mk | exact KD.mkN
                      · intro tm hr
                        simp [AllL, rdV] at hr
                        simp [hr, ← e31]
                        intros; first | exact KD.mk | exact KD.mkN
                      · intro tm hr
                        simp [AllL, rdV] at hr
                        simp [hr, ← e31]
                        intros; first | exact KD.mk | exact KD.mkN
                      · intro tm hr
                        simp [AllL, rdV] at hr
                        simp [hr, ← e31]
                        intros; first | exact KD.mk | exact KD.mkN
                      · intro tm hr
                        simp [AllL, rdV] at hr
                        simp [hr, ← e31]
                        intros; first | exact KD.mk | exact KD.mkN
                      · intro tm hr
                        simp [AllL, rdV] at hr
                        simp [hr, ← e31]
                        intros
                        refine xcall_plain en_r5_SameSpace (s_r5_SameSpace e30) rfl ⟨.same rfl, .same rfl, trivial⟩ ?_
                        try simp [← e31]
                        intros; first | exact KD.mk | exact KD.mkN
                      · intro tm hr
                        simp [AllL, rdV] at hr
                        simp [hr, ← e31]
                        intros; first | exact KD.mk | exact KD.mkN
                      · intro tm hr
                        simp [AllL, rdV] at hr
                        simp [hr, ← e31]
                        intros; first | exact KD.mk | exact KD.mkN
                      · intro tm hr
                        simp [AllL, rdV] at hr
                        simp [hr, ← e31]
                        intros; first | exact KD.mk | exact KD.mkN
                      · intro tm hr
                        simp [AllL, rdV] at hr
                        simp [hr, ← e31]
                        intros; first | exact KD.mk | exact KD.mkN
                      · intro tm hr
                        simp [AllL, rdV] at hr
                        simp [hr, ← e31]
                        intros; first | exact KD.mk | exact KD.mkN
                      · intro tm hr
                        simp [AllL, rdV] at hr
                        simp [hr, ← e31]
                        intros; first | exact KD.mk | exact KD.mkN
                      · intro tm hr
                        simp [AllL, rdV] at hr
                        simp [hr, ← e31]
                        intros; first | exact KD.mk | exact KD.mkN
                      · intro tm hr
                        simp [AllL, rdV] at hr
                        simp [hr, ← e31]
                        intros; first | exact KD.mk | exact KD.mkN
                      · intro tm hr
                        simp [AllL, rdV] at hr
                        simp [hr, ← e31]
                        intros; first | exact KD.mk | exact KD.mkN
                      · intro tm hr
                        simp [AllL, rdV] at hr
                        simp [hr, ← e31]
                        intros; first | exact KD.mk | exact KD.mkN
                    · rfl
                    · simp [tmD, putD, ← e31]; rfl
                    · simp [← e31]
                      intros
                      refine xcall_plain en_feed_Same (s_feed_Same e32) rfl ⟨.same rfl, .same rfl, trivial⟩ ?_
                      try simp [← e31]
                      intros; rfl
                    obtain rfl := Option.some.inj h
                    refine nP_i ?_
                    refine Weak.mixN [] hn0 (by decide) ?_ ?_ rfl
                    all_goals first | (simp [inv_cons, inv_nil, pickOb]; done) | rfl
                | false =>
                  replace h := iteF rfl h
                  apply AW.drawnR (V := [_, _, _, _, _, _, _, _, _, _, _, _, _, _, _, _, _, _, _, _, _, _, _, _, _, _, _, _, _, _, _, _, _, _, _, _, _, _, _, _, _]) mixed [⟨[0], [], [(6, none)], false⟩, ⟨[0], [], [(2, none)], false⟩, ⟨[0], [0, 1], [(78, some 0), (79, some 1)], false⟩, ⟨[0], [], [(6, none)], false⟩, ⟨[0], [], [(2, none)], false⟩, ⟨[0], [0, 1, 2, 3, 4], [(81, some 3), (82, some 4)], false⟩, ⟨[0], [0, 1, 2, 3, 4, 5], [(80, some 2), (83, some 5)], false⟩, ⟨[0], [0, 1, 2, 3, 4, 5, 6], [(84, some 6)], false⟩, ⟨[0], [0, 1, 2, 3, 4, 5, 6, 7], [(6, none), (85, some 7)], false⟩, ⟨[0], [0, 1, 2, 3, 4, 5, 6, 7], [(1, none), (85, some 7)], false⟩, ⟨[0], [0, 1, 2, 3, 4, 5, 6, 7], [(9, none), (85, some 7)], false⟩, ⟨[0], [0, 1, 2, 3, 4, 5, 6, 7], [(4, none), (85, some 7)], false⟩, ⟨[0], [0, 1, 2, 3, 4, 5, 6, 7, 8, 9, 10, 11], [(85, some 7), (86, some 8), (87, some 9), (88, some 10), (89, some 11)], false⟩, ⟨[0], [0, 1, 2, 3, 4, 5, 6, 7], [(6, none), (85, some 7)], false⟩, ⟨[0], [0, 1, 2, 3, 4, 5, 6, 7], [(1, none), (85, some 7)], false⟩, ⟨[0], [0, 1, 2, 3, 4, 5, 6, 7], [(9, none), (85, some 7)], false⟩, ⟨[0], [0, 1, 2, 3, 4, 5, 6, 7], [(4, none), (85, some 7)], false⟩, ⟨[0], [0, 1, 2, 3, 4, 5, 6, 7, 8, 9, 10, 11, 12, 13, 14, 15, 16], [(85, some 7), (91, some 13), (92, some 14), (93, some 15), (94, some 16)], false⟩, ⟨[0], [0, 1, 2, 3, 4, 5, 6, 7, 8, 9, 10, 11, 12, 13, 14, 15, 16, 17], [(85, some 7), (90, some 12), (95, some 17)], false⟩, ⟨[0], [0, 1, 2, 3, 4, 5, 6, 7, 8, 9, 10, 11, 12, 13, 14, 15, 16, 17, 18], [(85, some 7), (96, some 18)], false⟩, ⟨[0], [0, 1, 2, 3, 4, 5, 6, 7, 8, 9, 10, 11, 12, 13, 14, 15, 16, 17, 18, 19], [(97, some 19)], false⟩, ⟨[0], [0, 1, 2, 3, 4, 5, 6, 7, 8, 9, 10, 11, 12, 13, 14, 15, 16, 17, 18, 19, 20], [(13, none), (98, some 20)], false⟩, ⟨[0], [0, 1, 2, 3, 4, 5, 6, 7, 8, 9, 10, 11, 12, 13, 14, 15, 16, 17, 18, 19, 20], [(16, none), (98, some 20)], false⟩, ⟨[0], [0, 1, 2, 3, 4, 5, 6, 7, 8, 9, 10, 11, 12, 13, 14, 15, 16, 17, 18, 19, 20, 22], [(98, some 20), (100, some 22)], false⟩, ⟨[0], [0, 1, 2, 3, 4, 5, 6, 7, 8, 9, 10, 11, 12, 13, 14, 15, 16, 17, 18, 19, 20, 21, 22, 23], [(98, some 20), (99, some 21), (101, some 23)], false⟩, ⟨[0], [0, 1, 2, 3, 4, 5, 6, 7, 8, 9, 10, 11, 12, 13, 14, 15, 16, 17, 18, 19, 20, 21, 22, 23, 24], [(98, some 20), (102, some 24)], false⟩, ⟨[0], [0, 1, 2, 3, 4, 5, 6, 7, 8, 9, 10, 11, 12, 13, 14, 15, 16, 17, 18, 19, 20, 21, 22, 23, 24, 25], [(103, some 25)], false⟩, ⟨[0], [0, 1, 2, 3, 4, 5, 6, 7, 8, 9, 10, 11, 12, 13, 14, 15, 16, 17, 18, 19, 20, 21, 22, 23, 24, 25, 26], [(14, none), (104, some 26)], false⟩, ⟨[0], [0, 1, 2, 3, 4, 5, 6, 7, 8, 9, 10, 11, 12, 13, 14, 15, 16, 17, 18, 19, 20, 21, 22, 23, 24, 25, 26], [(16, none), (104, some 26)], false⟩, ⟨[0], [0, 1, 2, 3, 4, 5, 6, 7, 8, 9, 10, 11, 12, 13, 14, 15, 16, 17, 18, 19, 20, 21, 22, 23, 24, 25, 26, 28], [(104, some 26), (106, some 28)], false⟩, ⟨[0], [0, 1, 2, 3, 4, 5, 6, 7, 8, 9, 10, 11, 12, 13, 14, 15, 16, 17, 18, 19, 20, 21, 22, 23, 24, 25, 26, 27, 28, 29], [(104, some 26), (105, some 27), (107, some 29)], false⟩, ⟨[0], [0, 1, 2, 3, 4, 5, 6, 7, 8, 9, 10, 11, 12, 13, 14, 15, 16, 17, 18, 19, 20, 21, 22, 23, 24, 25, 26, 27, 28, 29, 30], [(104, some 26), (108, some 30)], false⟩, ⟨[0], [0, 1, 2, 3, 4, 5, 6, 7, 8, 9, 10, 11, 12, 13, 14, 15, 16, 17, 18, 19, 20, 21, 22, 23, 24, 25, 26, 27, 28, 29, 30, 31], [(109, some 31)], false⟩, ⟨[0], [0, 1, 2, 3, 4, 5, 6, 7, 8, 9, 10, 11, 12, 13, 14, 15, 16, 17, 18, 19, 20, 21, 22, 23, 24, 25, 26, 27, 28, 29, 30, 31, 32], [(15, none), (110, some 32)], false⟩, ⟨[0], [0, 1, 2, 3, 4, 5, 6, 7, 8, 9, 10, 11, 12, 13, 14, 15, 16, 17, 18, 19, 20, 21, 22, 23, 24, 25, 26, 27, 28, 29, 30, 31, 32], [(16, none), (110, some 32)], false⟩, ⟨[0], [0, 1, 2, 3, 4, 5, 6, 7, 8, 9, 10, 11, 12, 13, 14, 15, 16, 17, 18, 19, 20, 21, 22, 23, 24, 25, 26, 27, 28, 29, 30, 31, 32, 34], [(110, some 32), (112, some 34)], false⟩, ⟨[0], [0, 1, 2, 3, 4, 5, 6, 7, 8, 9, 10, 11, 12, 13, 14, 15, 16, 17, 18, 19, 20, 21, 22, 23, 24, 25, 26, 27, 28, 29, 30, 31, 32, 33, 34, 35], [(110, some 32), (111, some 33), (113, some 35)], false⟩, ⟨[0], [0, 1, 2, 3, 4, 5, 6, 7, 8, 9, 10, 11, 12, 13, 14, 15, 16, 17, 18, 19, 20, 21, 22, 23, 24, 25, 26, 27, 28, 29, 30, 31, 32, 33, 34, 35, 36], [(110, some 32), (114, some 36)], false⟩, ⟨[0], [0, 1, 2, 3, 4, 5, 6, 7, 8, 9, 10, 11, 12, 13, 14, 15, 16, 17, 18, 19, 20, 21, 22, 23, 24, 25, 26, 27, 28, 29, 30, 31, 32, 33, 34, 35, 36, 37], [(115, some 37)], false⟩, ⟨[0], [0, 1, 2, 3, 4, 5, 6, 7, 8, 9, 10, 11, 12, 13, 14, 15, 16, 17, 18, 19, 20, 21, 22, 23, 24, 25, 26, 27, 28, 29, 30, 31, 32, 33, 34, 35, 36, 37, 38], [(6, none), (116, some 38)], false⟩, ⟨[0], [0, 1, 2, 3, 4, 5, 6, 7, 8, 9, 10, 11, 12, 13, 14, 15, 16, 17, 18, 19, 20, 21, 22, 23, 24, 25, 26, 27, 28, 29, 30, 31, 32, 33, 34, 35, 36, 37, 38], [(6, none), (116, some 38)], false⟩, ⟨[], [0, 1, 2, 3, 4, 5, 6, 7, 8, 9, 10, 11, 12, 13, 14, 15, 16, 17, 18, 19, 20, 21, 22, 23, 24, 25, 26, 27, 28, 29, 30, 31, 32, 33, 34, 35, 36, 37, 38, 39, 40], [], false⟩, ⟨[], [0, 1, 2, 3, 4, 5, 6, 7, 8, 9, 10, 11, 12, 13, 14, 15, 16, 17, 18, 19, 20, 21, 22, 23, 24, 25, 26, 27, 28, 29, 30, 31, 32, 33, 34, 35, 36, 37, 38, 39, 40, 41], [], false⟩, ⟨[], [0, 1, 2, 3, 4, 5, 6, 7, 8, 9, 10, 11, 12, 13, 14, 15, 16, 17, 18, 19, 20, 21, 22, 23, 24, 25, 26, 27, 28, 29, 30, 31, 32, 33, 34, 35, 36, 37, 38, 39, 40, 41, 42], [], false⟩, ⟨[], [0, 1, 2, 3, 4, 5, 6, 7, 8, 9, 10, 11, 12, 13, 14, 15, 16, 17, 18, 19, 20, 21, 22, 23, 24, 25, 26, 27, 28, 29, 30, 31, 32, 33, 34, 35, 36, 37, 38, 39, 40, 41, 42, 43], [], false⟩, ⟨[], [0, 1, 2, 3, 4, 5, 6, 7, 8, 9, 10, 11, 12, 13, 14, 15, 16, 17, 18, 19, 20, 21, 22, 23, 24, 25, 26, 27, 28, 29, 30, 31, 32, 33, 34, 35, 36, 37, 38, 39, 40, 41, 42, 43, 44], [], false⟩, ⟨[], [0, 1, 2, 3, 4, 5, 6, 7, 8, 9, 10, 11, 12, 13, 14, 15, 16, 17, 18, 19, 20, 21, 22, 23, 24, 25, 26, 27, 28, 29, 30, 31, 32, 33, 34, 35, 36, 37, 38, 39, 40, 41, 42, 43, 44, 45], [], false⟩] 41 (by kernel_rfl) (by kernel_rfl)
                  · refine ⟨?_, ?_, ?_, ?_, ?_, ?_, ?_, ?_, ?_, ?_, ?_, ?_, ?_, ?_, ?_, ?_, ?_, ?_, ?_, ?_, ?_, ?_, ?_, ?_, ?_, ?_, ?_, ?_, ?_, ?_, ?_, ?_, ?_, ?_, ?_, ?_, ?_, ?_, ?_, ?_, ?_, trivial⟩
                    · intro tm hr
                      simp [AllL, rdV] at hr
                      simp [hr, ← e31]
                      intros; first | exact KD.mk | exact KD.mkN
                    · intro tm hr
                      simp [AllL, rdV] at hr
                      simp [hr, ← e31]
                      intros; first | exact KD.mk | exact KD.mkN
                    · intro tm hr
                      simp [AllL, rdV] at hr
                      simp [hr, ← e31]
                      intros
                      refine xcall_plain en_feed_Add (s_feed_Add e23) rfl ⟨.same rfl, .same rfl, trivial⟩ ?_
                      try simp [← e31]
                      intros; first | exact KD.mk | exact KD.mkN
                    · intro tm hr
                      simp [AllL, rdV] at hr
                      simp [hr, ← e31]
                      intros; first | exact KD.mk | exact KD.mkN
                    · intro tm hr
                      simp [AllL, rdV] at hr
                      simp [hr, ← e31]
                      intros; first | exact KD.mk | exact KD.mkN
                    · intro tm hr
                      simp [AllL, rdV] at hr
                      simp [hr, ← e31]
                      intros
                      refine xcall_plain en_r13_Add (s_r13_Add e24) rfl ⟨.same rfl, .same rfl, trivial⟩ ?_
                      try simp [← e31]
                      intros; first | exact KD.mk | exact KD.mkN
                    · intro tm hr
                      simp [AllL, rdV] at hr
                      simp [hr, ← e31]
                      intros
                      refine xcall_plain en_r13_SameFeed (s_r13_SameFeed e25) rfl ⟨.same rfl, .same rfl, trivial⟩ ?_
                      try simp [← e31]
                      intros; first | exact KD.mk | exact KD.mkN
                    · intro tm hr
                      simp [AllL, rdV] at hr
                      simp [hr, ← e31]
                      intros; first | exact KD.mk | exact KD.mkN
                    · intro tm hr
                      simp [AllL, rdV] at hr
                      simp [hr, ← e31]
                      intros; first | exact KD.mk | exact KD.mkN
                    · intro tm hr
                      simp [AllL, rdV] at hr
                      simp [hr, ← e31]
                      intros; first | exact KD.mk | exact KD.mkN
                    · intro tm hr
                      simp [AllL, rdV] at hr
                      simp [hr, ← e31]
                      intros; first | exact KD.mk | exact KD.mkN
                    · intro tm hr
                      simp [AllL, rdV] at hr
                      simp [hr, ← e31]
                      intros; first | exact KD.mk | exact KD.mkN
                    · intro tm hr
                      simp [AllL, rdV] at hr
                      simp [hr, ← e31]
                      intros
                      refine xcall_plain en_feed_Answer (s_feed_Answer e26) rfl ⟨.same rfl, .same rfl, .same rfl, .same rfl, trivial⟩ ?_
                      try simp [← e31]
                      intros; first | exact KD.mk | exact KD.mkN
                    · intro tm hr
                      simp [AllL, rdV] at hr
                      simp [hr, ← e31]
                      intros; first | exact KD.mk | exact KD.mkN
                    · intro tm hr
                      simp [AllL, rdV] at hr
                      simp [hr, ← e31]
                      intros; first | exact KD.mk | exact KD.mkN
                    · intro tm hr
                      simp [AllL, rdV] at hr
                      simp [hr, ← e31]
                      intros; first | exact KD.mk | exact KD.mkN
                    · intro tm hr
                      simp [AllL, rdV] at hr
                      simp [hr, ← e31]
                      intros; first | exact KD.mk | exact KD.mkN
                    · intro tm hr
                      simp [AllL, rdV] at hr
                      simp [hr, ← e31]
                      intros
                      refine xcall_plain en_r13_Answer (s_r13_Answer e27) rfl ⟨.same rfl, .same rfl, .same rfl, .same rfl, trivial⟩ ?_
                      try simp [← e31]
                      intros; first | exact KD.mk | exact KD.mkN
                    · intro tm hr
                      simp [AllL, rdV] at hr
                      simp [hr, ← e31]
                      intros
                      refine xcall_plain en_r19_SameMsg (s_r19_SameMsg e28) rfl ⟨.same rfl, .same rfl, trivial⟩ ?_
                      try simp [← e31]
                      intros; first | exact KD.mk | exact KD.mkN
                    · intro tm hr
                      simp [AllL, rdV] at hr
                      simp [hr, ← e31]
                      intros; first | exact KD.mk | exact KD.mkN
                    · intro tm hr
                      simp [AllL, rdV] at hr
                      simp [hr, ← e31]
                      intros; first | exact KD.mk | exact KD.mkN
                    · intro tm hr
                      simp [AllL, rdV] at hr
                      simp [hr, ← e31]
                      intros; first | exact KD.mk | exact KD.mkN
                    · intro tm hr
                      simp [AllL, rdV] at hr
                      simp [hr, ← e31]
                      intros; first | exact KD.mk | exact KD.mkN
                    · intro tm hr
                      simp [AllL, rdV] at hr
                      simp [hr, ← e31]
                      intros; first | exact KD.mk | exact KD.mkN
                    · intro tm hr
                      simp [AllL, rdV] at hr
                      simp [hr, ← e31]
                      intros
                      refine xcall_plain en_r13_SameFeed (s_r13_SameFeed e29) rfl ⟨.same rfl, .same rfl, trivial⟩ ?_
                      try simp [← e31]
                      intros; first | exact KD.mk | exact KD.mkN
                    · intro tm hr
                      simp [AllL, rdV] at hr
                      simp [hr, ← e31]
                      intros; first | exact KD.mk | exact KD.mkN
                    · intro tm hr
                      simp [AllL, rdV] at hr
                      simp [hr, ← e31]
                      intros; first | exact KD.mk | exact KD.mkN
                    · intro tm hr
                      simp [AllL, rdV] at hr
                      simp [hr, ← e31]
                      intros; first | exact KD.mk | exact KD.mkN
                    · intro tm hr
                      simp [AllL, rdV] at hr
                      simp [hr, ← e31]
                      intros; first | exact KD.mk | exact KD.mkN
                    · intro tm hr
                      simp [AllL, rdV] at hr
                      simp [hr, ← e31]
                      intros; first | exact KD.mk | exact KD.mkN
                    · intro tm hr
                      simp [AllL, rdV] at hr
                      simp [hr, ← e31]
                      intros
                      refine xcall_plain en_r5_SameSpace (s_r5_SameSpace e30) rfl ⟨.same rfl, .same rfl, trivial⟩ ?_
                      try simp [← e31]
                      intros; first | exact KD.mk | exact KD.mkN
                    · intro tm hr
                      simp [AllL, rdV] at hr
                      simp [hr, ← e31]
                      intros; first | exact KD.mk | exact KD.mkN
                    · intro tm hr
                      simp [AllL, rdV] at hr
                      simp [hr, ← e31]
                      intros; first | exact KD.mk | exact KD.mkN
                    · intro tm hr
                      simp [AllL, rdV] at hr
                      simp [hr, ← e31]
                      intros; first | exact KD.mk | exact KD.mkN
                    · intro tm hr
                      simp [AllL, rdV] at hr
                      simp [hr, ← e31]
                      intros; first | exact KD.mk | exact KD.mkN
                    · intro tm hr
                      simp [AllL, rdV] at hr
                      simp [hr, ← e31]
                      intros; first | exact KD.mk | exact KD.mkN
                    · intro tm hr
                      simp [AllL, rdV] at hr
                      simp [hr, ← e31]
                      intros; first | exact KD.mk | exact KD.mkN
                    · intro tm hr
                      simp [AllL, rdV] at hr
                      simp [hr, ← e31]
                      intros; first | exact KD.mk | exact KD.mkN
                    · intro tm hr
                      simp [AllL, rdV] at hr
                      simp [hr, ← e31]
                      intros; first | exact KD.mk | exact KD.mkN
                    · intro tm hr
                      simp [AllL, rdV] at hr
                      simp [hr, ← e31]
                      intros; first | exact KD.mk | exact KD.mkN
                    · intro tm hr
                      simp [AllL, rdV] at hr
                      simp [hr, ← e31]
                      intros; first | exact KD.mk | exact KD.mkN
                  · rfl
                  · simp [tmD, putD, ← e31]; rfl
                  · simp [← e31]
                    intros; rfl
                  obtain rfl := Option.some.inj h
                  refine nP_i ?_
                  refine Weak.mixN [] hn0 (by decide) ?_ ?_ rfl
                  all_goals first | (simp [inv_cons, inv_nil, pickOb]; done) | rfl
              | false =>
                replace h := iteF rfl h
                apply AW.drawnR (V := [_, _, _, _, _, _, _, _, _, _, _, _, _, _, _, _, _, _, _, _, _, _, _, _, _, _, _, _, _, _, _, _, _, _, _, _, _, _, _, _, _]) mixed [⟨[0], [], [(6, none)], false⟩, ⟨[0], [], [(2, none)], false⟩, ⟨[0], [0, 1], [(78, some 0), (79, some 1)], false⟩, ⟨[0], [], [(6, none)], false⟩, ⟨[0], [], [(2, none)], false⟩, ⟨[0], [0, 1, 2, 3, 4], [(81, some 3), (82, some 4)], false⟩, ⟨[0], [0, 1, 2, 3, 4, 5], [(80, some 2), (83, some 5)], false⟩, ⟨[0], [0, 1, 2, 3, 4, 5, 6], [(84, some 6)], false⟩, ⟨[0], [0, 1, 2, 3, 4, 5, 6, 7], [(6, none), (85, some 7)], false⟩, ⟨[0], [0, 1, 2, 3, 4, 5, 6, 7], [(1, none), (85, some 7)], false⟩, ⟨[0], [0, 1, 2, 3, 4, 5, 6, 7], [(9, none), (85, some 7)], false⟩, ⟨[0], [0, 1, 2, 3, 4, 5, 6, 7], [(4, none), (85, some 7)], false⟩, ⟨[0], [0, 1, 2, 3, 4, 5, 6, 7, 8, 9, 10, 11], [(85, some 7), (86, some 8), (87, some 9), (88, some 10), (89, some 11)], false⟩, ⟨[0], [0, 1, 2, 3, 4, 5, 6, 7], [(6, none), (85, some 7)], false⟩, ⟨[0], [0, 1, 2, 3, 4, 5, 6, 7], [(1, none), (85, some 7)], false⟩, ⟨[0], [0, 1, 2, 3, 4, 5, 6, 7], [(9, none), (85, some 7)], false⟩, ⟨[0], [0, 1, 2, 3, 4, 5, 6, 7], [(4, none), (85, some 7)], false⟩, ⟨[0], [0, 1, 2, 3, 4, 5, 6, 7, 8, 9, 10, 11, 12, 13, 14, 15, 16], [(85, some 7), (91, some 13), (92, some 14), (93, some 15), (94, some 16)], false⟩, ⟨[0], [0, 1, 2, 3, 4, 5, 6, 7, 8, 9, 10, 11, 12, 13, 14, 15, 16, 17], [(85, some 7), (90, some 12), (95, some 17)], false⟩, ⟨[0], [0, 1, 2, 3, 4, 5, 6, 7, 8, 9, 10, 11, 12, 13, 14, 15, 16, 17, 18], [(85, some 7), (96, some 18)], false⟩, ⟨[0], [0, 1, 2, 3, 4, 5, 6, 7, 8, 9, 10, 11, 12, 13, 14, 15, 16, 17, 18, 19], [(97, some 19)], false⟩, ⟨[0], [0, 1, 2, 3, 4, 5, 6, 7, 8, 9, 10, 11, 12, 13, 14, 15, 16, 17, 18, 19, 20], [(13, none), (98, some 20)], false⟩, ⟨[0], [0, 1, 2, 3, 4, 5, 6, 7, 8, 9, 10, 11, 12, 13, 14, 15, 16, 17, 18, 19, 20], [(16, none), (98, some 20)], false⟩, ⟨[0], [0, 1, 2, 3, 4, 5, 6, 7, 8, 9, 10, 11, 12, 13, 14, 15, 16, 17, 18, 19, 20, 22], [(98, some 20), (100, some 22)], false⟩, ⟨[0], [0, 1, 2, 3, 4, 5, 6, 7, 8, 9, 10, 11, 12, 13, 14, 15, 16, 17, 18, 19, 20, 21, 22, 23], [(98, some 20), (99, some 21), (101, some 23)], false⟩, ⟨[0], [0, 1, 2, 3, 4, 5, 6, 7, 8, 9, 10, 11, 12, 13, 14, 15, 16, 17, 18, 19, 20, 21, 22, 23, 24], [(98, some 20), (102, some 24)], false⟩, ⟨[0], [0, 1, 2, 3, 4, 5, 6, 7, 8, 9, 10, 11, 12, 13, 14, 15, 16, 17, 18, 19, 20, 21, 22, 23, 24, 25], [(103, some 25)], false⟩, ⟨[0], [0, 1, 2, 3, 4, 5, 6, 7, 8, 9, 10, 11, 12, 13, 14, 15, 16, 17, 18, 19, 20, 21, 22, 23, 24, 25, 26], [(14, none), (104, some 26)], false⟩, ⟨[0], [0, 1, 2, 3, 4, 5, 6, 7, 8, 9, 10, 11, 12, 13, 14, 15, 16, 17, 18, 19, 20, 21, 22, 23, 24, 25, 26], [(16, none), (104, some 26)], false⟩, ⟨[0], [0, 1, 2, 3, 4, 5, 6, 7, 8, 9, 10, 11, 12, 13, 14, 15, 16, 17, 18, 19, 20, 21, 22, 23, 24, 25, 26, 28], [(104, some 26), (106, some 28)], false⟩, ⟨[0], [0, 1, 2, 3, 4, 5, 6, 7, 8, 9, 10, 11, 12, 13, 14, 15, 16, 17, 18, 19, 20, 21, 22, 23, 24, 25, 26, 27, 28, 29], [(104, some 26), (105, some 27), (107, some 29)], false⟩, ⟨[0], [0, 1, 2, 3, 4, 5, 6, 7, 8, 9, 10, 11, 12, 13, 14, 15, 16, 17, 18, 19, 20, 21, 22, 23, 24, 25, 26, 27, 28, 29, 30], [(104, some 26), (108, some 30)], false⟩, ⟨[0], [0, 1, 2, 3, 4, 5, 6, 7, 8, 9, 10, 11, 12, 13, 14, 15, 16, 17, 18, 19, 20, 21, 22, 23, 24, 25, 26, 27, 28, 29, 30, 31], [(109, some 31)], false⟩, ⟨[0], [0, 1, 2, 3, 4, 5, 6, 7, 8, 9, 10, 11, 12, 13, 14, 15, 16, 17, 18, 19, 20, 21, 22, 23, 24, 25, 26, 27, 28, 29, 30, 31, 32], [(15, none), (110, some 32)], false⟩, ⟨[0], [0, 1, 2, 3, 4, 5, 6, 7, 8, 9, 10, 11, 12, 13, 14, 15, 16, 17, 18, 19, 20, 21, 22, 23, 24, 25, 26, 27, 28, 29, 30, 31, 32], [(16, none), (110, some 32)], false⟩, ⟨[0], [0, 1, 2, 3, 4, 5, 6, 7, 8, 9, 10, 11, 12, 13, 14, 15, 16, 17, 18, 19, 20, 21, 22, 23, 24, 25, 26, 27, 28, 29, 30, 31, 32, 34], [(110, some 32), (112, some 34)], false⟩, ⟨[0], [0, 1, 2, 3, 4, 5, 6, 7, 8, 9, 10, 11, 12, 13, 14, 15, 16, 17, 18, 19, 20, 21, 22, 23, 24, 25, 26, 27, 28, 29, 30, 31, 32, 33, 34, 35], [(110, some 32), (111, some 33), (113, some 35)], false⟩, ⟨[0], [0, 1, 2, 3, 4, 5, 6, 7, 8, 9, 10, 11, 12, 13, 14, 15, 16, 17, 18, 19, 20, 21, 22, 23, 24, 25, 26, 27, 28, 29, 30, 31, 32, 33, 34, 35, 36], [(110, some 32), (114, some 36)], false⟩, ⟨[0], [0, 1, 2, 3, 4, 5, 6, 7, 8, 9, 10, 11, 12, 13, 14, 15, 16, 17, 18, 19, 20, 21, 22, 23, 24, 25, 26, 27, 28, 29, 30, 31, 32, 33, 34, 35, 36, 37], [(115, some 37)], false⟩, ⟨[0], [0, 1, 2, 3, 4, 5, 6, 7, 8, 9, 10, 11, 12, 13, 14, 15, 16, 17, 18, 19, 20, 21, 22, 23, 24, 25, 26, 27, 28, 29, 30, 31, 32, 33, 34, 35, 36, 37, 38], [(6, none), (116, some 38)], false⟩, ⟨[0], [0, 1, 2, 3, 4, 5, 6, 7, 8, 9, 10, 11, 12, 13, 14, 15, 16, 17, 18, 19, 20, 21, 22, 23, 24, 25, 26, 27, 28, 29, 30, 31, 32, 33, 34, 35, 36, 37, 38], [(6, none), (116, some 38)], false⟩, ⟨[], [0, 1, 2, 3, 4, 5, 6, 7, 8, 9, 10, 11, 12, 13, 14, 15, 16, 17, 18, 19, 20, 21, 22, 23, 24, 25, 26, 27, 28, 29, 30, 31, 32, 33, 34, 35, 36, 37, 38, 39, 40], [], false⟩, ⟨[], [0, 1, 2, 3, 4, 5, 6, 7, 8, 9, 10, 11, 12, 13, 14, 15, 16, 17, 18, 19, 20, 21, 22, 23, 24, 25, 26, 27, 28, 29, 30, 31, 32, 33, 34, 35, 36, 37, 38, 39, 40, 41], [], false⟩, ⟨[], [0, 1, 2, 3, 4, 5, 6, 7, 8, 9, 10, 11, 12, 13, 14, 15, 16, 17, 18, 19, 20, 21, 22, 23, 24, 25, 26, 27, 28, 29, 30, 31, 32, 33, 34, 35, 36, 37, 38, 39, 40, 41, 42], [], false⟩, ⟨[], [0, 1, 2, 3, 4, 5, 6, 7, 8, 9, 10, 11, 12, 13, 14, 15, 16, 17, 18, 19, 20, 21, 22, 23, 24, 25, 26, 27, 28, 29, 30, 31, 32, 33, 34, 35, 36, 37, 38, 39, 40, 41, 42, 43], [], false⟩, ⟨[], [0, 1, 2, 3, 4, 5, 6, 7, 8, 9, 10, 11, 12, 13, 14, 15, 16, 17, 18, 19, 20, 21, 22, 23, 24, 25, 26, 27, 28, 29, 30, 31, 32, 33, 34, 35, 36, 37, 38, 39, 40, 41, 42, 43, 44], [], false⟩, ⟨[], [0, 1, 2, 3, 4, 5, 6, 7, 8, 9, 10, 11, 12, 13, 14, 15, 16, 17, 18, 19, 20, 21, 22, 23, 24, 25, 26, 27, 28, 29, 30, 31, 32, 33, 34, 35, 36, 37, 38, 39, 40, 41, 42, 43, 44, 45], [], false⟩] 41 (by kernel_rfl) (by kernel_rfl)
                · refine ⟨?_, ?_, ?_, ?_, ?_, ?_, ?_, ?_, ?_, ?_, ?_, ?_, ?_, ?_, ?_, ?_, ?_, ?_, ?_, ?_, ?_, ?_, ?_, ?_, ?_, ?_, ?_, ?_, ?_, ?_, ?_, ?_, ?_, ?_, ?_, ?_, ?_, ?_, ?_, ?_, ?_, trivial⟩
                  · intro tm hr
                    simp [AllL, rdV] at hr
                    simp [hr]
                    intros; first | exact KD.mk | exact KD.mkN
                  · intro tm hr
                    simp [AllL, rdV] at hr
                    simp [hr]
                    intros; first | exact KD.mk | exact KD.mkN
                  · intro tm hr
                    simp [AllL, rdV] at hr
                    simp [hr]
                    intros
                    refine xcall_plain en_feed_Add (s_feed_Add e23) rfl ⟨.same rfl, .same rfl, trivial⟩ ?_
                    try simp []
                    intros; first | exact KD.mk | exact KD.mkN
                  · intro tm hr
                    simp [AllL, rdV] at hr
                    simp [hr]
                    intros; first | exact KD.mk | exact KD.mkN
                  · intro tm hr
                    simp [AllL, rdV] at hr
                    simp [hr]
                    intros; first | exact KD.mk | exact KD.mkN
                  · intro tm hr
                    simp [AllL, rdV] at hr
                    simp [hr]
                    intros
                    refine xcall_plain en_r13_Add (s_r13_Add e24) rfl ⟨.same rfl, .same rfl, trivial⟩ ?_
                    try simp []
                    intros; first | exact KD.mk | exact KD.mkN
                  · intro tm hr
                    simp [AllL, rdV] at hr
                    simp [hr]
                    intros
                    refine xcall_plain en_r13_SameFeed (s_r13_SameFeed e25) rfl ⟨.same rfl, .same rfl, trivial⟩ ?_
                    try simp []
                    intros; first | exact KD.mk | exact KD.mkN
                  · intro tm hr
                    simp [AllL, rdV] at hr
                    simp [hr]
                    intros; first | exact KD.mk | exact KD.mkN
                  · intro tm hr
                    simp [AllL, rdV] at hr
                    simp [hr]
                    intros; first | exact KD.mk | exact KD.mkN
                  · intro tm hr
                    simp [AllL, rdV] at hr
                    simp [hr]
                    intros; first | exact KD.mk | exact KD.mkN
                  · intro tm hr
                    simp [AllL, rdV] at hr
                    simp [hr]
                    intros; first | exact KD.mk | exact KD.mkN
                  · intro tm hr
                    simp [AllL, rdV] at hr
                    simp [hr]
                    intros; first | exact KD.mk | exact KD.mkN
                  · intro tm hr
                    simp [AllL, rdV] at hr
                    simp [hr]
                    intros
                    refine xcall_plain en_feed_Answer (s_feed_Answer e26) rfl ⟨.same rfl, .same rfl, .same rfl, .same rfl, trivial⟩ ?_
                    try simp []
                    intros; first | exact KD.mk | exact KD.mkN
                  · intro tm hr
                    simp [AllL, rdV] at hr
                    simp [hr]
                    intros; first | exact KD.mk | exact KD.mkN
                  · intro tm hr
                    simp [AllL, rdV] at hr
                    simp [hr]
                    intros; first | exact KD.mk | exact KD.mkN
                  · intro tm hr
                    simp [AllL, rdV] at hr
                    simp [hr]
                    intros; first | exact KD.mk | exact KD.mkN
                  · intro tm hr
                    simp [AllL, rdV] at hr
                    simp [hr]
                    intros; first | exact KD.mk | exact KD.mkN
                  · intro tm hr
                    simp [AllL, rdV] at hr
                    simp [hr]
                    intros
                    refine xcall_plain en_r13_Answer (s_r13_Answer e27) rfl ⟨.same rfl, .same rfl, .same rfl, .same rfl, trivial⟩ ?_
                    try simp []
                    intros; first | exact KD.mk | exact KD.mkN
                  · intro tm hr
                    simp [AllL, rdV] at hr
                    simp [hr]
                    intros
                    refine xcall_plain en_r19_SameMsg (s_r19_SameMsg e28) rfl ⟨.same rfl, .same rfl, trivial⟩ ?_
                    try simp []
                    intros; first | exact KD.mk | exact KD.mkN
                  · intro tm hr
                    simp [AllL, rdV] at hr
                    simp [hr]
                    intros; first | exact KD.mk | exact KD.mkN
                  · intro tm hr
                    simp [AllL, rdV] at hr
                    simp [hr]
                    intros; first | exact KD.mk | exact KD.mkN
                  · intro tm hr
                    simp [AllL, rdV] at hr
                    simp [hr]
                    intros; first | exact KD.mk | exact KD.mkN
                  · intro tm hr
                    simp [AllL, rdV] at hr
                    simp [hr]
                    intros; first | exact KD.mk | exact KD.mkN
                  · intro tm hr
                    simp [AllL, rdV] at hr
                    simp [hr]
                    intros; first | exact KD.mk | exact KD.mkN
                  · intro tm hr
                    simp [AllL, rdV] at hr
                    simp [hr]
                    intros
                    refine xcall_plain en_r13_SameFeed (s_r13_SameFeed e29) rfl ⟨.same rfl, .same rfl, trivial⟩ ?_
                    try simp []
                    intros; first | exact KD.mk | exact KD.mkN
                  · intro tm hr
                    simp [AllL, rdV] at hr
                    simp [hr]
                    intros; first | exact KD.mk | exact KD.mkN
                  · intro tm hr
                    simp [AllL, rdV] at hr
                    simp [hr]
                    intros; first | exact KD.mk | exact KD.mkN
                  · intro tm hr
                    simp [AllL, rdV] at hr
                    simp [hr]
                    intros; first | exact KD.mk | exact KD.mkN
                  · intro tm hr
                    simp [AllL, rdV] at hr
                    simp [hr]
                    intros; first | exact KD.mk | exact KD.mkN
                  · intro tm hr
                    simp [AllL, rdV] at hr
                    simp [hr]
                    intros; first | exact KD.mk | exact KD.mkN
                  · intro tm hr
                    simp [AllL, rdV] at hr
                    simp [hr]
                    intros
                    refine xcall_plain en_r5_SameSpace (s_r5_SameSpace e30) rfl ⟨.same rfl, .same rfl, trivial⟩ ?_
                    try simp []
                    intros; first | exact KD.mk | exact KD.mkN
                  · intro tm hr
                    simp [AllL, rdV] at hr
                    simp [hr]
                    intros; first | exact KD.mk | exact KD.mkN
                  · intro tm hr
                    simp [AllL, rdV] at hr
                    simp [hr]
                    intros; first | exact KD.mk | exact KD.mkN
                  · intro tm hr
                    simp [AllL, rdV] at hr
                    simp [hr]
                    intros; first | exact KD.mk | exact KD.mkN
                  · intro tm hr
                    simp [AllL, rdV] at hr
                    simp [hr]
                    intros; first | exact KD.mk | exact KD.mkN
                  · intro tm hr
                    simp [AllL, rdV] at hr
                    simp [hr]
                    intros; first | exact KD.mk | exact KD.mkN
                  · intro tm hr
                    simp [AllL, rdV] at hr
                    simp [hr]
                    intros; first | exact KD.mk | exact KD.mkN
                  · intro tm hr
                    simp [AllL, rdV] at hr
                    simp [hr]
                    intros; first | exact KD.mk | exact KD.mkN
                  · intro tm hr
                    simp [AllL, rdV] at hr
                    simp [hr]
                    intros; first | exact KD.mk | exact KD.mkN
                  · intro tm hr
                    simp [AllL, rdV] at hr
                    simp [hr]
                    intros; first | exact KD.mk | exact KD.mkN
                  · intro tm hr
                    simp [AllL, rdV] at hr
                    simp [hr]
                    intros; first | exact KD.mk | exact KD.mkN
                · rfl
                · simp [tmD, putD]; rfl
                · simp
                  intros; rfl
                obtain rfl := Option.some.inj h
                refine nP_i ?_
                refine Weak.mixN [] hn0 (by decide) ?_ ?_ rfl
                all_goals first | (simp [inv_cons, inv_nil, pickOb]; done) | rfl
            | false =>
              replace h := iteF rfl h
              apply AW.drawnR (V := [_, _, _, _, _, _, _, _, _, _, _, _, _, _, _, _, _, _, _, _, _, _, _, _, _, _, _, _, _, _, _, _, _, _, _, _, _, _, _, _, _]) mixed [⟨[0], [], [(6, none)], false⟩, ⟨[0], [], [(2, none)], false⟩, ⟨[0], [0, 1], [(78, some 0), (79, some 1)], false⟩, ⟨[0], [], [(6, none)], false⟩, ⟨[0], [], [(2, none)], false⟩, ⟨[0], [0, 1, 2, 3, 4], [(81, some 3), (82, some 4)], false⟩, ⟨[0], [0, 1, 2, 3, 4, 5], [(80, some 2), (83, some 5)], false⟩, ⟨[0], [0, 1, 2, 3, 4, 5, 6], [(84, some 6)], false⟩, ⟨[0], [0, 1, 2, 3, 4, 5, 6, 7], [(6, none), (85, some 7)], false⟩, ⟨[0], [0, 1, 2, 3, 4, 5, 6, 7], [(1, none), (85, some 7)], false⟩, ⟨[0], [0, 1, 2, 3, 4, 5, 6, 7], [(9, none), (85, some 7)], false⟩, ⟨[0], [0, 1, 2, 3, 4, 5, 6, 7], [(4, none), (85, some 7)], false⟩, ⟨[0], [0, 1, 2, 3, 4, 5, 6, 7, 8, 9, 10, 11], [(85, some 7), (86, some 8), (87, some 9), (88, some 10), (89, some 11)], false⟩, ⟨[0], [0, 1, 2, 3, 4, 5, 6, 7], [(6, none), (85, some 7)], false⟩, ⟨[0], [0, 1, 2, 3, 4, 5, 6, 7], [(1, none), (85, some 7)], false⟩, ⟨[0], [0, 1, 2, 3, 4, 5, 6, 7], [(9, none), (85, some 7)], false⟩, ⟨[0], [0, 1, 2, 3, 4, 5, 6, 7], [(4, none), (85, some 7)], false⟩, ⟨[0], [0, 1, 2, 3, 4, 5, 6, 7, 8, 9, 10, 11, 12, 13, 14, 15, 16], [(85, some 7), (91, some 13), (92, some 14), (93, some 15), (94, some 16)], false⟩, ⟨[0], [0, 1, 2, 3, 4, 5, 6, 7, 8, 9, 10, 11, 12, 13, 14, 15, 16, 17], [(85, some 7), (90, some 12), (95, some 17)], false⟩, ⟨[0], [0, 1, 2, 3, 4, 5, 6, 7, 8, 9, 10, 11, 12, 13, 14, 15, 16, 17, 18], [(85, some 7), (96, some 18)], false⟩, ⟨[0], [0, 1, 2, 3, 4, 5, 6, 7, 8, 9, 10, 11, 12, 13, 14, 15, 16, 17, 18, 19], [(97, some 19)], false⟩, ⟨[0], [0, 1, 2, 3, 4, 5, 6, 7, 8, 9, 10, 11, 12, 13, 14, 15, 16, 17, 18, 19, 20], [(13, none), (98, some 20)], false⟩, ⟨[0], [0, 1, 2, 3, 4, 5, 6, 7, 8, 9, 10, 11, 12, 13, 14, 15, 16, 17, 18, 19, 20], [(16, none), (98, some 20)], false⟩, ⟨[0], [0, 1, 2, 3, 4, 5, 6, 7, 8, 9, 10, 11, 12, 13, 14, 15, 16, 17, 18, 19, 20, 22], [(98, some 20), (100, some 22)], false⟩, ⟨[0], [0, 1, 2, 3, 4, 5, 6, 7, 8, 9, 10, 11, 12, 13, 14, 15, 16, 17, 18, 19, 20, 21, 22, 23], [(98, some 20), (99, some 21), (101, some 23)], false⟩, ⟨[0], [0, 1, 2, 3, 4, 5, 6, 7, 8, 9, 10, 11, 12, 13, 14, 15, 16, 17, 18, 19, 20, 21, 22, 23, 24], [(98, some 20), (102, some 24)], false⟩, ⟨[0], [0, 1, 2, 3, 4, 5, 6, 7, 8, 9, 10, 11, 12, 13, 14, 15, 16, 17, 18, 19, 20, 21, 22, 23, 24, 25], [(103, some 25)], false⟩, ⟨[0], [0, 1, 2, 3, 4, 5, 6, 7, 8, 9, 10, 11, 12, 13, 14, 15, 16, 17, 18, 19, 20, 21, 22, 23, 24, 25, 26], [(14, none), (104, some 26)], false⟩, ⟨[0], [0, 1, 2, 3, 4, 5, 6, 7, 8, 9, 10, 11, 12, 13, 14, 15, 16, 17, 18, 19, 20, 21, 22, 23, 24, 25, 26], [(16, none), (104, some 26)], false⟩, ⟨[0], [0, 1, 2, 3, 4, 5, 6, 7, 8, 9, 10, 11, 12, 13, 14, 15, 16, 17, 18, 19, 20, 21, 22, 23, 24, 25, 26, 28], [(104, some 26), (106, some 28)], false⟩, ⟨[0], [0, 1, 2, 3, 4, 5, 6, 7, 8, 9, 10, 11, 12, 13, 14, 15, 16, 17, 18, 19, 20, 21, 22, 23, 24, 25, 26, 27, 28, 29], [(104, some 26), (105, some 27), (107, some 29)], false⟩, ⟨[0], [0, 1, 2, 3, 4, 5, 6, 7, 8, 9, 10, 11, 12, 13, 14, 15, 16, 17, 18, 19, 20, 21, 22, 23, 24, 25, 26, 27, 28, 29, 30], [(104, some 26), (108, some 30)], false⟩, ⟨[0], [0, 1, 2, 3, 4, 5, 6, 7, 8, 9, 10, 11, 12, 13, 14, 15, 16, 17, 18, 19, 20, 21, 22, 23, 24, 25, 26, 27, 28, 29, 30, 31], [(109, some 31)], false⟩, ⟨[0], [0, 1, 2, 3, 4, 5, 6, 7, 8, 9, 10, 11, 12, 13, 14, 15, 16, 17, 18, 19, 20, 21, 22, 23, 24, 25, 26, 27, 28, 29, 30, 31, 32], [(15, none), (110, some 32)], false⟩, ⟨[0], [0, 1, 2, 3, 4, 5, 6, 7, 8, 9, 10, 11, 12, 13, 14, 15, 16, 17, 18, 19, 20, 21, 22, 23, 24, 25, 26, 27, 28, 29, 30, 31, 32], [(16, none), (110, some 32)], false⟩, ⟨[0], [0, 1, 2, 3, 4, 5, 6, 7, 8, 9, 10, 11, 12, 13, 14, 15, 16, 17, 18, 19, 20, 21, 22, 23, 24, 25, 26, 27, 28, 29, 30, 31, 32, 34], [(110, some 32), (112, some 34)], false⟩, ⟨[0], [0, 1, 2, 3, 4, 5, 6, 7, 8, 9, 10, 11, 12, 13, 14, 15, 16, 17, 18, 19, 20, 21, 22, 23, 24, 25, 26, 27, 28, 29, 30, 31, 32, 33, 34, 35], [(110, some 32), (111, some 33), (113, some 35)], false⟩, ⟨[0], [0, 1, 2, 3, 4, 5, 6, 7, 8, 9, 10, 11, 12, 13, 14, 15, 16, 17, 18, 19, 20, 21, 22, 23, 24, 25, 26, 27, 28, 29, 30, 31, 32, 33, 34, 35, 36], [(110, some 32), (114, some 36)], false⟩, ⟨[0], [0, 1, 2, 3, 4, 5, 6, 7, 8, 9, 10, 11, 12, 13, 14, 15, 16, 17, 18, 19, 20, 21, 22, 23, 24, 25, 26, 27, 28, 29, 30, 31, 32, 33, 34, 35, 36, 37], [(115, some 37)], false⟩, ⟨[0], [0, 1, 2, 3, 4, 5, 6, 7, 8, 9, 10, 11, 12, 13, 14, 15, 16, 17, 18, 19, 20, 21, 22, 23, 24, 25, 26, 27, 28, 29, 30, 31, 32, 33, 34, 35, 36, 37, 38], [(6, none), (116, some 38)], false⟩, ⟨[0], [0, 1, 2, 3, 4, 5, 6, 7, 8, 9, 10, 11, 12, 13, 14, 15, 16, 17, 18, 19, 20, 21, 22, 23, 24, 25, 26, 27, 28, 29, 30, 31, 32, 33, 34, 35, 36, 37, 38], [(6, none), (116, some 38)], false⟩, ⟨[], [0, 1, 2, 3, 4, 5, 6, 7, 8, 9, 10, 11, 12, 13, 14, 15, 16, 17, 18, 19, 20, 21, 22, 23, 24, 25, 26, 27, 28, 29, 30, 31, 32, 33, 34, 35, 36, 37, 38, 39, 40], [], false⟩, ⟨[], [0, 1, 2, 3, 4, 5, 6, 7, 8, 9, 10, 11, 12, 13, 14, 15, 16, 17, 18, 19, 20, 21, 22, 23, 24, 25, 26, 27, 28, 29, 30, 31, 32, 33, 34, 35, 36, 37, 38, 39, 40, 41], [], false⟩, ⟨[], [0, 1, 2, 3, 4, 5, 6, 7, 8, 9, 10, 11, 12, 13, 14, 15, 16, 17, 18, 19, 20, 21, 22, 23, 24, 25, 26, 27, 28, 29, 30, 31, 32, 33, 34, 35, 36, 37, 38, 39, 40, 41, 42], [], false⟩, ⟨[], [0, 1, 2, 3, 4, 5, 6, 7, 8, 9, 10, 11, 12, 13, 14, 15, 16, 17, 18, 19, 20, 21, 22, 23, 24, 25, 26, 27, 28, 29, 30, 31, 32, 33, 34, 35, 36, 37, 38, 39, 40, 41, 42, 43], [], false⟩, ⟨[], [0, 1, 2, 3, 4, 5, 6, 7, 8, 9, 10, 11, 12, 13, 14, 15, 16, 17, 18, 19, 20, 21, 22, 23, 24, 25, 26, 27, 28, 29, 30, 31, 32, 33, 34, 35, 36, 37, 38, 39, 40, 41, 42, 43, 44], [], false⟩, ⟨[], [0, 1, 2, 3, 4, 5, 6, 7, 8, 9, 10, 11, 12, 13, 14, 15, 16, 17, 18, 19, 20, 21, 22, 23, 24, 25, 26, 27, 28, 29, 30, 31, 32, 33, 34, 35, 36, 37, 38, 39, 40, 41, 42, 43, 44, 45], [], false⟩] 41 (by kernel_rfl) (by kernel_rfl)
              · refine ⟨?_, ?_, ?_, ?_, ?_, ?_, ?_, ?_, ?_, ?_, ?_, ?_, ?_, ?_, ?_, ?_, ?_, ?_, ?_, ?_, ?_, ?_, ?_, ?_, ?_, ?_, ?_, ?_, ?_, ?_, ?_, ?_, ?_, ?_, ?_, ?_, ?_, ?_, ?_, ?_, ?_, trivial⟩
                · intro tm hr
                  simp [AllL, rdV] at hr
                  simp [hr]
                  intros; first | exact KD.mk | exact KD.mkN
                · intro tm hr
                  simp [AllL, rdV] at hr
                  simp [hr]
                  intros; first | exact KD.mk | exact KD.mkN
                · intro tm hr
                  simp [AllL, rdV] at hr
                  simp [hr]
                  intros
                  refine xcall_plain en_feed_Add (s_feed_Add e23) rfl ⟨.same rfl, .same rfl, trivial⟩ ?_
                  try simp []
                  intros; first | exact KD.mk | exact KD.mkN
                · intro tm hr
                  simp [AllL, rdV] at hr
                  simp [hr]
                  intros; first | exact KD.mk | exact KD.mkN
                · intro tm hr
                  simp [AllL, rdV] at hr
                  simp [hr]
                  intros; first | exact KD.mk | exact KD.mkN
                · intro tm hr
                  simp [AllL, rdV] at hr
                  simp [hr]
                  intros
                  refine xcall_plain en_r13_Add (s_r13_Add e24) rfl ⟨.same rfl, .same rfl, trivial⟩ ?_
                  try simp []
                  intros; first | exact KD.mk | exact KD.mkN
                · intro tm hr
                  simp [AllL, rdV] at hr
                  simp [hr]
                  intros
                  refine xcall_plain en_r13_SameFeed (s_r13_SameFeed e25) rfl ⟨.same rfl, .same rfl, trivial⟩ ?_
                  try simp []
                  intros; first | exact KD.mk | exact KD.mkN
                · intro tm hr
                  simp [AllL, rdV] at hr
                  simp [hr]
                  intros; first | exact KD.mk | exact KD.mkN
                · intro tm hr
                  simp [AllL, rdV] at hr
                  simp [hr]
                  intros; first | exact KD.mk | exact KD.mkN
                · intro tm hr
                  simp [AllL, rdV] at hr
                  simp [hr]
                  intros; first | exact KD.mk | exact KD.mkN
                · intro tm hr
                  simp [AllL, rdV] at hr
                  simp [hr]
                  intros; first | exact KD.mk | exact KD.mkN
                · intro tm hr
                  simp [AllL, rdV] at hr
                  simp [hr]
                  intros; first | exact KD.mk | exact KD.mkN
                · intro tm hr
                  simp [AllL, rdV] at hr
                  simp [hr]
                  intros
                  refine xcall_plain en_feed_Answer (s_feed_Answer e26) rfl ⟨.same rfl, .same rfl, .same rfl, .same rfl, trivial⟩ ?_
                  try simp []
                  intros; first | exact KD.mk | exact KD.mkN
                · intro tm hr
                  simp [AllL, rdV] at hr
                  simp [hr]
                  intros; first | exact KD.mk | exact KD.mkN
                · intro tm hr
                  simp [AllL, rdV] at hr
                  simp [hr]
                  intros; first | exact KD.mk | exact KD.mkN
                · intro tm hr
                  simp [AllL, rdV] at hr
                  simp [hr]
                  intros; first | exact KD.mk | exact KD.mkN
                · intro tm hr
                  simp [AllL, rdV] at hr
                  simp [hr]
                  intros; first | exact KD.mk | exact KD.mkN
                · intro tm hr
                  simp [AllL, rdV] at hr
                  simp [hr]
                  intros
                  refine xcall_plain en_r13_Answer (s_r13_Answer e27) rfl ⟨.same rfl, .same rfl, .same rfl, .same rfl, trivial⟩ ?_
                  try simp []
                  intros; first | exact KD.mk | exact KD.mkN
                · intro tm hr
                  simp [AllL, rdV] at hr
                  simp [hr]
                  intros
                  refine xcall_plain en_r19_SameMsg (s_r19_SameMsg e28) rfl ⟨.same rfl, .same rfl, trivial⟩ ?_
                  try simp []
                  intros; first | exact KD.mk | exact KD.mkN
                · intro tm hr
                  simp [AllL, rdV] at hr
                  simp [hr]
                  intros; first | exact KD.mk | exact KD.mkN
                · intro tm hr
                  simp [AllL, rdV] at hr
                  simp [hr]
                  intros; first | exact KD.mk | exact KD.mkN
                · intro tm hr
                  simp [AllL, rdV] at hr
                  simp [hr]
                  intros; first | exact KD.mk | exact KD.mkN
                · intro tm hr
                  simp [AllL, rdV] at hr
                  simp [hr]
                  intros; first | exact KD.mk | exact KD.mkN
                · intro tm hr
                  simp [AllL, rdV] at hr
                  simp [hr]
                  intros; first | exact KD.mk | exact KD.mkN
                · intro tm hr
                  simp [AllL, rdV] at hr
                  simp [hr]
                  intros
                  refine xcall_plain en_r13_SameFeed (s_r13_SameFeed e29) rfl ⟨.same rfl, .same rfl, trivial⟩ ?_
                  try simp []
                  intros; first | exact KD.mk | exact KD.mkN
                · intro tm hr
                  simp [AllL, rdV] at hr
                  simp [hr]
                  intros; first | exact KD.mk | exact KD.mkN
                · intro tm hr
                  simp [AllL, rdV] at hr
                  simp [hr]
                  intros; first | exact KD.mk | exact KD.mkN
                · intro tm hr
                  simp [AllL, rdV] at hr
                  simp [hr]
                  intros; first | exact KD.mk | exact KD.mkN
                · intro tm hr
                  simp [AllL, rdV] at hr
                  simp [hr]
                  intros; first | exact KD.mk | exact KD.mkN
                · intro tm hr
                  simp [AllL, rdV] at hr
                  simp [hr]
                  intros; first | exact KD.mk | exact KD.mkN
                · intro tm hr
                  simp [AllL, rdV] at hr
                  simp [hr]
                  intros; first | exact KD.mk | exact KD.mkN
                · intro tm hr
                  simp [AllL, rdV] at hr
                  simp [hr]
                  intros; first | exact KD.mk | exact KD.mkN
                · intro tm hr
                  simp [AllL, rdV] at hr
                  simp [hr]
                  intros; first | exact KD.mk | exact KD.mkN
                · intro tm hr
                  simp [AllL, rdV] at hr
                  simp [hr]
                  intros; first | exact KD.mk | exact KD.mkN
                · intro tm hr
                  simp [AllL, rdV] at hr
                  simp [hr]
                  intros; first | exact KD.mk | exact KD.mkN
                · intro tm hr
                  simp [AllL, rdV] at hr
                  simp [hr]
                  intros; first | exact KD.mk | exact KD.mkN
                · intro tm hr
                  simp [AllL, rdV] at hr
                  simp [hr]
                  intros; first | exact KD.mk | exact KD.mkN
                · intro tm hr
                  simp [AllL, rdV] at hr
                  simp [hr]
                  intros; first | exact KD.mk | exact KD.mkN
                · intro tm hr
                  simp [AllL, rdV] at hr
                  simp [hr]
                  intros; first | exact KD.mk | exact KD.mkN
                · intro tm hr
                  simp [AllL, rdV] at hr
                  simp [hr]
                  intros; first | exact KD.mk | exact KD.mkN
                · intro tm hr
                  simp [AllL, rdV] at hr
                  simp [hr]
                  intros; first | exact KD.mk | exact KD.mkN
              · rfl
              · simp [tmD, putD]; rfl
              · simp
                intros; rfl
              obtain rfl := Option.some.inj h
              refine nP_i ?_
              refine Weak.mixN [] hn0 (by decide) ?_ ?_ rfl
              all_goals first | (simp [inv_cons, inv_nil, pickOb]; done) | rfl
          | false =>
            replace h := iteF rfl h
            apply AW.drawnR (V := [_, _, _, _, _, _, _, _, _, _, _, _, _, _, _, _, _, _, _, _, _, _, _, _, _, _, _, _, _, _, _, _, _, _, _, _, _, _, _, _, _]) mixed [⟨[0], [], [(6, none)], false⟩, ⟨[0], [], [(2, none)], false⟩, ⟨[0], [0, 1], [(78, some 0), (79, some 1)], false⟩, ⟨[0], [], [(6, none)], false⟩, ⟨[0], [], [(2, none)], false⟩, ⟨[0], [0, 1, 2, 3, 4], [(81, some 3), (82, some 4)], false⟩, ⟨[0], [0, 1, 2, 3, 4, 5], [(80, some 2), (83, some 5)], false⟩, ⟨[0], [0, 1, 2, 3, 4, 5, 6], [(84, some 6)], false⟩, ⟨[0], [0, 1, 2, 3, 4, 5, 6, 7], [(6, none), (85, some 7)], false⟩, ⟨[0], [0, 1, 2, 3, 4, 5, 6, 7], [(1, none), (85, some 7)], false⟩, ⟨[0], [0, 1, 2, 3, 4, 5, 6, 7], [(9, none), (85, some 7)], false⟩, ⟨[0], [0, 1, 2, 3, 4, 5, 6, 7], [(4, none), (85, some 7)], false⟩, ⟨[0], [0, 1, 2, 3, 4, 5, 6, 7, 8, 9, 10, 11], [(85, some 7), (86, some 8), (87, some 9), (88, some 10), (89, some 11)], false⟩, ⟨[0], [0, 1, 2, 3, 4, 5, 6, 7], [(6, none), (85, some 7)], false⟩, ⟨[0], [0, 1, 2, 3, 4, 5, 6, 7], [(1, none), (85, some 7)], false⟩, ⟨[0], [0, 1, 2, 3, 4, 5, 6, 7], [(9, none), (85, some 7)], false⟩, ⟨[0], [0, 1, 2, 3, 4, 5, 6, 7], [(4, none), (85, some 7)], false⟩, ⟨[0], [0, 1, 2, 3, 4, 5, 6, 7, 8, 9, 10, 11, 12, 13, 14, 15, 16], [(85, some 7), (91, some 13), (92, some 14), (93, some 15), (94, some 16)], false⟩, ⟨[0], [0, 1, 2, 3, 4, 5, 6, 7, 8, 9, 10, 11, 12, 13, 14, 15, 16, 17], [(85, some 7), (90, some 12), (95, some 17)], false⟩, ⟨[0], [0, 1, 2, 3, 4, 5, 6, 7, 8, 9, 10, 11, 12, 13, 14, 15, 16, 17, 18], [(85, some 7), (96, some 18)], false⟩, ⟨[0], [0, 1, 2, 3, 4, 5, 6, 7, 8, 9, 10, 11, 12, 13, 14, 15, 16, 17, 18, 19], [(97, some 19)], false⟩, ⟨[0], [0, 1, 2, 3, 4, 5, 6, 7, 8, 9, 10, 11, 12, 13, 14, 15, 16, 17, 18, 19, 20], [(13, none), (98, some 20)], false⟩, ⟨[0], [0, 1, 2, 3, 4, 5, 6, 7, 8, 9, 10, 11, 12, 13, 14, 15, 16, 17, 18, 19, 20], [(16, none), (98, some 20)], false⟩, ⟨[0], [0, 1, 2, 3, 4, 5, 6, 7, 8, 9, 10, 11, 12, 13, 14, 15, 16, 17, 18, 19, 20, 22], [(98, some 20), (100, some 22)], false⟩, ⟨[0], [0, 1, 2, 3, 4, 5, 6, 7, 8, 9, 10, 11, 12, 13, 14, 15, 16, 17, 18, 19, 20, 21, 22, 23], [(98, some 20), (99, some 21), (101, some 23)], false⟩, ⟨[0], [0, 1, 2, 3, 4, 5, 6, 7, 8, 9, 10, 11, 12, 13, 14, 15, 16, 17, 18, 19, 20, 21, 22, 23, 24], [(98, some 20), (102, some 24)], false⟩, ⟨[0], [0, 1, 2, 3, 4, 5, 6, 7, 8, 9, 10, 11, 12, 13, 14, 15, 16, 17, 18, 19, 20, 21, 22, 23, 24, 25], [(103, some 25)], false⟩, ⟨[0], [0, 1, 2, 3, 4, 5, 6, 7, 8, 9, 10, 11, 12, 13, 14, 15, 16, 17, 18, 19, 20, 21, 22, 23, 24, 25, 26], [(14, none), (104, some 26)], false⟩, ⟨[0], [0, 1, 2, 3, 4, 5, 6, 7, 8, 9, 10, 11, 12, 13, 14, 15, 16, 17, 18, 19, 20, 21, 22, 23, 24, 25, 26], [(16, none), (104, some 26)], false⟩, ⟨[0], [0, 1, 2, 3, 4, 5, 6, 7, 8, 9, 10, 11, 12, 13, 14, 15, 16, 17, 18, 19, 20, 21, 22, 23, 24, 25, 26, 28], [(104, some 26), (106, some 28)], false⟩, ⟨[0], [0, 1, 2, 3, 4, 5, 6, 7, 8, 9, 10, 11, 12, 13, 14, 15, 16, 17, 18, 19, 20, 21, 22, 23, 24, 25, 26, 27, 28, 29], [(104, some 26), (105, some 27), (107, some 29)], false⟩, ⟨[0], [0, 1, 2, 3, 4, 5, 6, 7, 8, 9, 10, 11, 12, 13, 14, 15, 16, 17, 18, 19, 20, 21, 22, 23, 24, 25, 26, 27, 28, 29, 30], [(104, some 26), (108, some 30)], false⟩, ⟨[0], [0, 1, 2, 3, 4, 5, 6, 7, 8, 9, 10, 11, 12, 13, 14, 15, 16, 17, 18, 19, 20, 21, 22, 23, 24, 25, 26, 27, 28, 29, 30, 31], [(109, some 31)], false⟩, ⟨[0], [0, 1, 2, 3, 4, 5, 6, 7, 8, 9, 10, 11, 12, 13, 14, 15, 16, 17, 18, 19, 20, 21, 22, 23, 24, 25, 26, 27, 28, 29, 30, 31, 32], [(15, none), (110, some 32)], false⟩, ⟨[0], [0, 1, 2, 3, 4, 5, 6, 7, 8, 9, 10, 11, 12, 13, 14, 15, 16, 17, 18, 19, 20, 21, 22, 23, 24, 25, 26, 27, 28, 29, 30, 31, 32], [(16, none), (110, some 32)], false⟩, ⟨[0], [0, 1, 2, 3, 4, 5, 6, 7, 8, 9, 10, 11, 12, 13, 14, 15, 16, 17, 18, 19, 20, 21, 22, 23, 24, 25, 26, 27, 28, 29, 30, 31, 32, 34], [(110, some 32), (112, some 34)], false⟩, ⟨[0], [0, 1, 2, 3, 4, 5, 6, 7, 8, 9, 10, 11, 12, 13, 14, 15, 16, 17, 18, 19, 20, 21, 22, 23, 24, 25, 26, 27, 28, 29, 30, 31, 32, 33, 34, 35], [(110, some 32), (111, some 33), (113, some 35)], false⟩, ⟨[0], [0, 1, 2, 3, 4, 5, 6, 7, 8, 9, 10, 11, 12, 13, 14, 15, 16, 17, 18, 19, 20, 21, 22, 23, 24, 25, 26, 27, 28, 29, 30, 31, 32, 33, 34, 35, 36], [(110, some 32), (114, some 36)], false⟩, ⟨[0], [0, 1, 2, 3, 4, 5, 6, 7, 8, 9, 10, 11, 12, 13, 14, 15, 16, 17, 18, 19, 20, 21, 22, 23, 24, 25, 26, 27, 28, 29, 30, 31, 32, 33, 34, 35, 36, 37], [(115, some 37)], false⟩, ⟨[0], [0, 1, 2, 3, 4, 5, 6, 7, 8, 9, 10, 11, 12, 13, 14, 15, 16, 17, 18, 19, 20, 21, 22, 23, 24, 25, 26, 27, 28, 29, 30, 31, 32, 33, 34, 35, 36, 37, 38], [(6, none), (116, some 38)], false⟩, ⟨[0], [0, 1, 2, 3, 4, 5, 6, 7, 8, 9, 10, 11, 12, 13, 14, 15, 16, 17, 18, 19, 20, 21, 22, 23, 24, 25, 26, 27, 28, 29, 30, 31, 32, 33, 34, 35, 36, 37, 38], [(6, none), (116, some 38)], false⟩, ⟨[], [0, 1, 2, 3, 4, 5, 6, 7, 8, 9, 10, 11, 12, 13, 14, 15, 16, 17, 18, 19, 20, 21, 22, 23, 24, 25, 26, 27, 28, 29, 30, 31, 32, 33, 34, 35, 36, 37, 38, 39, 40], [], false⟩, ⟨[], [0, 1, 2, 3, 4, 5, 6, 7, 8, 9, 10, 11, 12, 13, 14, 15, 16, 17, 18, 19, 20, 21, 22, 23, 24, 25, 26, 27, 28, 29, 30, 31, 32, 33, 34, 35, 36, 37, 38, 39, 40, 41], [], false⟩, ⟨[], [0, 1, 2, 3, 4, 5, 6, 7, 8, 9, 10, 11, 12, 13, 14, 15, 16, 17, 18, 19, 20, 21, 22, 23, 24, 25, 26, 27, 28, 29, 30, 31, 32, 33, 34, 35, 36, 37, 38, 39, 40, 41, 42], [], false⟩, ⟨[], [0, 1, 2, 3, 4, 5, 6, 7, 8, 9, 10, 11, 12, 13, 14, 15, 16, 17, 18, 19, 20, 21, 22, 23, 24, 25, 26, 27, 28, 29, 30, 31, 32, 33, 34, 35, 36, 37, 38, 39, 40, 41, 42, 43], [], false⟩, ⟨[], [0, 1, 2, 3, 4, 5, 6, 7, 8, 9, 10, 11, 12, 13, 14, 15, 16, 17, 18, 19, 20, 21, 22, 23, 24, 25, 26, 27, 28, 29, 30, 31, 32, 33, 34, 35, 36, 37, 38, 39, 40, 41, 42, 43, 44], [], false⟩, ⟨[], [0, 1, 2, 3, 4, 5, 6, 7, 8, 9, 10, 11, 12, 13, 14, 15, 16, 17, 18, 19, 20, 21, 22, 23, 24, 25, 26, 27, 28, 29, 30, 31, 32, 33, 34, 35, 36, 37, 38, 39, 40, 41, 42, 43, 44, 45], [], false⟩] 41 (by kernel_rfl) (by kernel_rfl)
            · refine ⟨?_, ?_, ?_, ?_, ?_, ?_, ?_, ?_, ?_, ?_, ?_, ?_, ?_, ?_, ?_, ?_, ?_, ?_, ?_, ?_, ?_, ?_, ?_, ?_, ?_, ?_, ?_, ?_, ?_, ?_, ?_, ?_, ?_, ?_, ?_, ?_, ?_, ?_, ?_, ?_, ?_, trivial⟩
              · intro tm hr
                simp [AllL, rdV] at hr
                simp [hr]
                intros; first | exact KD.mk | exact KD.mkN
              · intro tm hr
                simp [AllL, rdV] at hr
                simp [hr]
                intros; first | exact KD.mk | exact KD.mkN
              · intro tm hr
                simp [AllL, rdV] at hr
                simp [hr]
                intros
                refine xcall_plain en_feed_Add (s_feed_Add e23) rfl ⟨.same rfl, .same rfl, trivial⟩ ?_
                try simp []
                intros; first | exact KD.mk | exact KD.mkN
              · intro tm hr
                simp [AllL, rdV] at hr
                simp [hr]
                intros; first | exact KD.mk | exact KD.mkN
              · intro tm hr
                simp [AllL, rdV] at hr
                simp [hr]
                intros; first | exact KD.mk | exact KD.mkN
              · intro tm hr
                simp [AllL, rdV] at hr
                simp [hr]
                intros
                refine xcall_plain en_r13_Add (s_r13_Add e24) rfl ⟨.same rfl, .same rfl, trivial⟩ ?_
                try simp []
                intros; first | exact KD.mk | exact KD.mkN
              · intro tm hr
                simp [AllL, rdV] at hr
                simp [hr]
                intros
                refine xcall_plain en_r13_SameFeed (s_r13_SameFeed e25) rfl ⟨.same rfl, .same rfl, trivial⟩ ?_
                try simp []
                intros; first | exact KD.mk | exact KD.mkN
              · intro tm hr
                simp [AllL, rdV] at hr
                simp [hr]
                intros; first | exact KD.mk | exact KD.mkN
              · intro tm hr
                simp [AllL, rdV] at hr
                simp [hr]
                intros; first | exact KD.mk | exact KD.mkN
              · intro tm hr
                simp [AllL, rdV] at hr
                simp [hr]
                intros; first | exact KD.mk | exact KD.mkN
              · intro tm hr
                simp [AllL, rdV] at hr
                simp [hr]
                intros; first | exact KD.mk | exact KD.mkN
              · intro tm hr
                simp [AllL, rdV] at hr
                simp [hr]
                intros; first | exact KD.mk | exact KD.mkN
              · intro tm hr
                simp [AllL, rdV] at hr
                simp [hr]
                intros
                refine xcall_plain en_feed_Answer (s_feed_Answer e26) rfl ⟨.same rfl, .same rfl, .same rfl, .same rfl, trivial⟩ ?_
                try simp []
                intros; first | exact KD.mk | exact KD.mkN
              · intro tm hr
                simp [AllL, rdV] at hr
                simp [hr]
                intros; first | exact KD.mk | exact KD.mkN
              · intro tm hr
                simp [AllL, rdV] at hr
                simp [hr]
                intros; first | exact KD.mk | exact KD.mkN
              · intro tm hr
                simp [AllL, rdV] at hr
                simp [hr]
                intros; first | exact KD.mk | exact KD.mkN
              · intro tm hr
                simp [AllL, rdV] at hr
                simp [hr]
                intros; first | exact KD.mk | exact KD.mkN
              · intro tm hr
                simp [AllL, rdV] at hr
                simp [hr]
                intros
                refine xcall_plain en_r13_Answer (s_r13_Answer e27) rfl ⟨.same rfl, .same rfl, .same rfl, .same rfl, trivial⟩ ?_
                try simp []
                intros; first | exact KD.mk | exact KD.mkN
              · intro tm hr
                simp [AllL, rdV] at hr
                simp [hr]
                intros
                refine xcall_plain en_r19_SameMsg (s_r19_SameMsg e28) rfl ⟨.same rfl, .same rfl, trivial⟩ ?_
                try simp []
                intros; first | exact KD.mk | exact KD.mkN
              · intro tm hr
                simp [AllL, rdV] at hr
                simp [hr]
                intros; first | exact KD.mk | exact KD.mkN
              · intro tm hr
                simp [AllL, rdV] at hr
                simp [hr]
                intros; first | exact KD.mk | exact KD.mkN
              · intro tm hr
                simp [AllL, rdV] at hr
                simp [hr]
                intros; first | exact KD.mk | exact KD.mkN
              · intro tm hr
                simp [AllL, rdV] at hr
                simp [hr]
                intros; first | exact KD.mk | exact KD.mkN
              · intro tm hr
                simp [AllL, rdV] at hr
                simp [hr]
                intros; first | exact KD.mk | exact KD.mkN
              · intro tm hr
                simp [AllL, rdV] at hr
                simp [hr]
                intros; first | exact KD.mk | exact KD.mkN
              · intro tm hr
                simp [AllL, rdV] at hr
                simp [hr]
                intros; first | exact KD.mk | exact KD.mkN
              · intro tm hr
                simp [AllL, rdV] at hr
                simp [hr]
                intros; first | exact KD.mk | exact KD.mkN
              · intro tm hr
                simp [AllL, rdV] at hr
                simp [hr]
                intros; first | exact KD.mk | exact KD.mkN
              · intro tm hr
                simp [AllL, rdV] at hr
                simp [hr]
                intros; first | exact KD.mk | exact KD.mkN
              · intro tm hr
                simp [AllL, rdV] at hr
                simp [hr]
                intros; first | exact KD.mk | exact KD.mkN
              · intro tm hr
                simp [AllL, rdV] at hr
                simp [hr]
                intros; first | exact KD.mk | exact KD.mkN
              · intro tm hr
                simp [AllL, rdV] at hr
                simp [hr]
                intros; first | exact KD.mk | exact KD.mkN
              · intro tm hr
                simp [AllL, rdV] at hr
                simp [hr]
                intros; first | exact KD.mk | exact KD.mkN
              · intro tm hr
                simp [AllL, rdV] at hr
                simp [hr]
                intros; first | exact KD.mk | exact KD.mkN
              · intro tm hr
                simp [AllL, rdV] at hr
                simp [hr]
                intros; first | exact KD.mk | exact KD.mkN
              · intro tm hr
                simp [AllL, rdV] at hr
                simp [hr]
                intros; first | exact KD.mk | exact KD.mkN
              · intro tm hr
                simp [AllL, rdV] at hr
                simp [hr]
                intros; first | exact KD.mk | exact KD.mkN
              · intro tm hr
                simp [AllL, rdV] at hr
                simp [hr]
                intros; first | exact KD.mk | exact KD.mkN
              · intro tm hr
                simp [AllL, rdV] at hr
                simp [hr]
                intros; first | exact KD.mk | exact KD.mkN
              · intro tm hr
                simp [AllL, rdV] at hr
                simp [hr]
                intros; first | exact KD.mk | exact KD.mkN
              · intro tm hr
                simp [AllL, rdV] at hr
                simp [hr]
                intros; first | exact KD.mk | exact KD.mkN
            · rfl
            · simp [tmD, putD]; rfl
            · simp
              intros; rfl
            obtain rfl := Option.some.inj h
            refine nP_i ?_
            refine Weak.mixN [] hn0 (by decide) ?_ ?_ rfl
            all_goals first | (simp [inv_cons, inv_nil, pickOb]; done) | rfl
        | false =>
          replace h := iteF rfl h
          apply AW.drawnR (V := [_, _, _, _, _, _, _, _, _, _, _, _, _, _, _, _, _, _, _, _, _, _, _, _, _, _, _, _, _, _, _, _, _, _, _, _, _, _, _, _, _]) mixed [⟨[0], [], [(6, none)], false⟩, ⟨[0], [], [(2, none)], false⟩, ⟨[0], [0, 1], [(78, some 0), (79, some 1)], false⟩, ⟨[0], [], [(6, none)], false⟩, ⟨[0], [], [(2, none)], false⟩, ⟨[0], [0, 1, 2, 3, 4], [(81, some 3), (82, some 4)], false⟩, ⟨[0], [0, 1, 2, 3, 4, 5], [(80, some 2), (83, some 5)], false⟩, ⟨[0], [0, 1, 2, 3, 4, 5, 6], [(84, some 6)], false⟩, ⟨[0], [0, 1, 2, 3, 4, 5, 6, 7], [(6, none), (85, some 7)], false⟩, ⟨[0], [0, 1, 2, 3, 4, 5, 6, 7], [(1, none), (85, some 7)], false⟩, ⟨[0], [0, 1, 2, 3, 4, 5, 6, 7], [(9, none), (85, some 7)], false⟩, ⟨[0], [0, 1, 2, 3, 4, 5, 6, 7], [(4, none), (85, some 7)], false⟩, ⟨[0], [0, 1, 2, 3, 4, 5, 6, 7, 8, 9, 10, 11], [(85, some 7), (86, some 8), (87, some 9), (88, some 10), (89, some 11)], false⟩, ⟨[0], [0, 1, 2, 3, 4, 5, 6, 7], [(6, none), (85, some 7)], false⟩, ⟨[0], [0, 1, 2, 3, 4, 5, 6, 7], [(1, none), (85, some 7)], false⟩, ⟨[0], [0, 1, 2, 3, 4, 5, 6, 7], [(9, none), (85, some 7)], false⟩, ⟨[0], [0, 1, 2, 3, 4, 5, 6, 7], [(4, none), (85, some 7)], false⟩, ⟨[0], [0, 1, 2, 3, 4, 5, 6, 7, 8, 9, 10, 11, 12, 13, 14, 15, 16], [(85, some 7), (91, some 13), (92, some 14), (93, some 15), (94, some 16)], false⟩, ⟨[0], [0, 1, 2, 3, 4, 5, 6, 7, 8, 9, 10, 11, 12, 13, 14, 15, 16, 17], [(85, some 7), (90, some 12), (95, some 17)], false⟩, ⟨[0], [0, 1, 2, 3, 4, 5, 6, 7, 8, 9, 10, 11, 12, 13, 14, 15, 16, 17, 18], [(85, some 7), (96, some 18)], false⟩, ⟨[0], [0, 1, 2, 3, 4, 5, 6, 7, 8, 9, 10, 11, 12, 13, 14, 15, 16, 17, 18, 19], [(97, some 19)], false⟩, ⟨[0], [0, 1, 2, 3, 4, 5, 6, 7, 8, 9, 10, 11, 12, 13, 14, 15, 16, 17, 18, 19, 20], [(13, none), (98, some 20)], false⟩, ⟨[0], [0, 1, 2, 3, 4, 5, 6, 7, 8, 9, 10, 11, 12, 13, 14, 15, 16, 17, 18, 19, 20], [(16, none), (98, some 20)], false⟩, ⟨[0], [0, 1, 2, 3, 4, 5, 6, 7, 8, 9, 10, 11, 12, 13, 14, 15, 16, 17, 18, 19, 20, 22], [(98, some 20), (100, some 22)], false⟩, ⟨[0], [0, 1, 2, 3, 4, 5, 6, 7, 8, 9, 10, 11, 12, 13, 14, 15, 16, 17, 18, 19, 20, 21, 22, 23], [(98, some 20), (99, some 21), (101, some 23)], false⟩, ⟨[0], [0, 1, 2, 3, 4, 5, 6, 7, 8, 9, 10, 11, 12, 13, 14, 15, 16, 17, 18, 19, 20, 21, 22, 23, 24], [(98, some 20), (102, some 24)], false⟩, ⟨[0], [0, 1, 2, 3, 4, 5, 6, 7, 8, 9, 10, 11, 12, 13, 14, 15, 16, 17, 18, 19, 20, 21, 22, 23, 24, 25], [(103, some 25)], false⟩, ⟨[0], [0, 1, 2, 3, 4, 5, 6, 7, 8, 9, 10, 11, 12, 13, 14, 15, 16, 17, 18, 19, 20, 21, 22, 23, 24, 25, 26], [(14, none), (104, some 26)], false⟩, ⟨[0], [0, 1, 2, 3, 4, 5, 6, 7, 8, 9, 10, 11, 12, 13, 14, 15, 16, 17, 18, 19, 20, 21, 22, 23, 24, 25, 26], [(16, none), (104, some 26)], false⟩, ⟨[0], [0, 1, 2, 3, 4, 5, 6, 7, 8, 9, 10, 11, 12, 13, 14, 15, 16, 17, 18, 19, 20, 21, 22, 23, 24, 25, 26, 28], [(104, some 26), (106, some 28)], false⟩, ⟨[0], [0, 1, 2, 3, 4, 5, 6, 7, 8, 9, 10, 11, 12, 13, 14, 15, 16, 17, 18, 19, 20, 21, 22, 23, 24, 25, 26, 27, 28, 29], [(104, some 26), (105, some 27), (107, some 29)], false⟩, ⟨[0], [0, 1, 2, 3, 4, 5, 6, 7, 8, 9, 10, 11, 12, 13, 14, 15, 16, 17, 18, 19, 20, 21, 22, 23, 24, 25, 26, 27, 28, 29, 30], [(104, some 26), (108, some 30)], false⟩, ⟨[0], [0, 1, 2, 3, 4, 5, 6, 7, 8, 9, 10, 11, 12, 13, 14, 15, 16, 17, 18, 19, 20, 21, 22, 23, 24, 25, 26, 27, 28, 29, 30, 31], [(109, some 31)], false⟩, ⟨[0], [0, 1, 2, 3, 4, 5, 6, 7, 8, 9, 10, 11, 12, 13, 14, 15, 16, 17, 18, 19, 20, 21, 22, 23, 24, 25, 26, 27, 28, 29, 30, 31, 32], [(15, none), (110, some 32)], false⟩, ⟨[0], [0, 1, 2, 3, 4, 5, 6, 7, 8, 9, 10, 11, 12, 13, 14, 15, 16, 17, 18, 19, 20, 21, 22, 23, 24, 25, 26, 27, 28, 29, 30, 31, 32], [(16, none), (110, some 32)], false⟩, ⟨[0], [0, 1, 2, 3, 4, 5, 6, 7, 8, 9, 10, 11, 12, 13, 14, 15, 16, 17, 18, 19, 20, 21, 22, 23, 24, 25, 26, 27, 28, 29, 30, 31, 32, 34], [(110, some 32), (112, some 34)], false⟩, ⟨[0], [0, 1, 2, 3, 4, 5, 6, 7, 8, 9, 10, 11, 12, 13, 14, 15, 16, 17, 18, 19, 20, 21, 22, 23, 24, 25, 26, 27, 28, 29, 30, 31, 32, 33, 34, 35], [(110, some 32), (111, some 33), (113, some 35)], false⟩, ⟨[0], [0, 1, 2, 3, 4, 5, 6, 7, 8, 9, 10, 11, 12, 13, 14, 15, 16, 17, 18, 19, 20, 21, 22, 23, 24, 25, 26, 27, 28, 29, 30, 31, 32, 33, 34, 35, 36], [(110, some 32), (114, some 36)], false⟩, ⟨[0], [0, 1, 2, 3, 4, 5, 6, 7, 8, 9, 10, 11, 12, 13, 14, 15, 16, 17, 18, 19, 20, 21, 22, 23, 24, 25, 26, 27, 28, 29, 30, 31, 32, 33, 34, 35, 36, 37], [(115, some 37)], false⟩, ⟨[0], [0, 1, 2, 3, 4, 5, 6, 7, 8, 9, 10, 11, 12, 13, 14, 15, 16, 17, 18, 19, 20, 21, 22, 23, 24, 25, 26, 27, 28, 29, 30, 31, 32, 33, 34, 35, 36, 37, 38], [(6, none), (116, some 38)], false⟩, ⟨[0], [0, 1, 2, 3, 4, 5, 6, 7, 8, 9, 10, 11, 12, 13, 14, 15, 16, 17, 18, 19, 20, 21, 22, 23, 24, 25, 26, 27, 28, 29, 30, 31, 32, 33, 34, 35, 36, 37, 38], [(6, none), (116, some 38)], false⟩, ⟨[], [0, 1, 2, 3, 4, 5, 6, 7, 8, 9, 10, 11, 12, 13, 14, 15, 16, 17, 18, 19, 20, 21, 22, 23, 24, 25, 26, 27, 28, 29, 30, 31, 32, 33, 34, 35, 36, 37, 38, 39, 40], [], false⟩, ⟨[], [0, 1, 2, 3, 4, 5, 6, 7, 8, 9, 10, 11, 12, 13, 14, 15, 16, 17, 18, 19, 20, 21, 22, 23, 24, 25, 26, 27, 28, 29, 30, 31, 32, 33, 34, 35, 36, 37, 38, 39, 40, 41], [], false⟩, ⟨[], [0, 1, 2, 3, 4, 5, 6, 7, 8, 9, 10, 11, 12, 13, 14, 15, 16, 17, 18, 19, 20, 21, 22, 23, 24, 25, 26, 27, 28, 29, 30, 31, 32, 33, 34, 35, 36, 37, 38, 39, 40, 41, 42], [], false⟩, ⟨[], [0, 1, 2, 3, 4, 5, 6, 7, 8, 9, 10, 11, 12, 13, 14, 15, 16, 17, 18, 19, 20, 21, 22, 23, 24, 25, 26, 27, 28, 29, 30, 31, 32, 33, 34, 35, 36, 37, 38, 39, 40, 41, 42, 43], [], false⟩, ⟨[], [0, 1, 2, 3, 4, 5, 6, 7, 8, 9, 10, 11, 12, 13, 14, 15, 16, 17, 18, 19, 20, 21, 22, 23, 24, 25, 26, 27, 28, 29, 30, 31, 32, 33, 34, 35, 36, 37, 38, 39, 40, 41, 42, 43, 44], [], false⟩, ⟨[], [0, 1, 2, 3, 4, 5, 6, 7, 8, 9, 10, 11, 12, 13, 14, 15, 16, 17, 18, 19, 20, 21, 22, 23, 24, 25, 26, 27, 28, 29, 30, 31, 32, 33, 34, 35, 36, 37, 38, 39, 40, 41, 42, 43, 44, 45], [], false⟩] 41 (by kernel_rfl) (by kernel_rfl)
          · refine ⟨?_, ?_, ?_, ?_, ?_, ?_, ?_, ?_, ?_, ?_, ?_, ?_, ?_, ?_, ?_, ?_, ?_, ?_, ?_, ?_, ?_, ?_, ?_, ?_, ?_, ?_, ?_, ?_, ?_, ?_, ?_, ?_, ?_, ?_, ?_, ?_, ?_, ?_, ?_, ?_, ?_, trivial⟩
            · intro tm hr
              simp [AllL, rdV] at hr
              simp [hr]
              intros; first | exact KD.mk | exact KD.mkN
            · intro tm hr
              simp [AllL, rdV] at hr
              simp [hr]
              intros; first | exact KD.mk | exact KD.mkN
            · intro tm hr
              simp [AllL, rdV] at hr
              simp [hr]
              intros
              refine xcall_plain en_feed_Add (s_feed_Add e23) rfl ⟨.same rfl, .same rfl, trivial⟩ ?_
              try simp []
              intros; first | exact KD.mk | exact KD.mkN
            · intro tm hr
              simp [AllL, rdV] at hr
              simp [hr]
              intros; first | exact KD.mk | exact KD.mkN
            · intro tm hr
              simp [AllL, rdV] at hr
              simp [hr]
              intros; first | exact KD.mk | exact KD.mkN
            · intro tm hr
              simp [AllL, rdV] at hr
              simp [hr]
              intros
              refine xcall_plain en_r13_Add (s_r13_Add e24) rfl ⟨.same rfl, .same rfl, trivial⟩ ?_
              try simp []
              intros; first | exact KD.mk | exact KD.mkN
            · intro tm hr
              simp [AllL, rdV] at hr
              simp [hr]
              intros
              refine xcall_plain en_r13_SameFeed (s_r13_SameFeed e25) rfl ⟨.same rfl, .same rfl, trivial⟩ ?_
              try simp []
              intros; first | exact KD.mk | exact KD.mkN
            · intro tm hr
              simp [AllL, rdV] at hr
              simp [hr]
              intros; first | exact KD.mk | exact KD.mkN
            · intro tm hr
              simp [AllL, rdV] at hr
              simp [hr]
              intros; first | exact KD.mk | exact KD.mkN
            · intro tm hr
              simp [AllL, rdV] at hr
              simp [hr]
              intros; first | exact KD.mk | exact KD.mkN
            · intro tm hr
              simp [AllL, rdV] at hr
              simp [hr]
              intros; first | exact KD.mk | exact KD.mkN
            · intro tm hr
              simp [AllL, rdV] at hr
              simp [hr]
              intros; first | exact KD.mk | exact KD.mkN
            · intro tm hr
              simp [AllL, rdV] at hr
              simp [hr]
              intros; first | exact KD.mk | exact KD.mkN
            · intro tm hr
              simp [AllL, rdV] at hr
              simp [hr]
              intros; first | exact KD.mk | exact KD.mkN
            · intro tm hr
              simp [AllL, rdV] at hr
              simp [hr]
              intros; first | exact KD.mk | exact KD.mkN
            · intro tm hr
              simp [AllL, rdV] at hr
              simp [hr]
              intros; first | exact KD.mk | exact KD.mkN
            · intro tm hr
              simp [AllL, rdV] at hr
              simp [hr]
              intros; first | exact KD.mk | exact KD.mkN
            · intro tm hr
              simp [AllL, rdV] at hr
              simp [hr]
              intros; first | exact KD.mk | exact KD.mkN
            · intro tm hr
              simp [AllL, rdV] at hr
              simp [hr]
              intros; first | exact KD.mk | exact KD.mkN
            · intro tm hr
              simp [AllL, rdV] at hr
              simp [hr]
              intros; first | exact KD.mk | exact KD.mkN
            · intro tm hr
              simp [AllL, rdV] at hr
              simp [hr]
              intros; first | exact KD.mk | exact KD.mkN
            · intro tm hr
              simp [AllL, rdV] at hr
              simp [hr]
              intros; first | exact KD.mk | exact KD.mkN
            · intro tm hr
              simp [AllL, rdV] at hr
              simp [hr]
              intros; first | exact KD.mk | exact KD.mkN
            · intro tm hr
              simp [AllL, rdV] at hr
              simp [hr]
              intros; first | exact KD.mk | exact KD.mkN
            · intro tm hr
              simp [AllL, rdV] at hr
              simp [hr]
              intros; first | exact KD.mk | exact KD.mkN
            · intro tm hr
              simp [AllL, rdV] at hr
              simp [hr]
              intros; first | exact KD.mk | exact KD.mkN
            · intro tm hr
              simp [AllL, rdV] at hr
              simp [hr]
              intros; first | exact KD.mk | exact KD.mkN
            · intro tm hr
              simp [AllL, rdV] at hr
              simp [hr]
              intros; first | exact KD.mk | exact KD.mkN
            · intro tm hr
              simp [AllL, rdV] at hr
              simp [hr]
              intros; first | exact KD.mk | exact KD.mkN
            · intro tm hr
              simp [AllL, rdV] at hr
              simp [hr]
              intros; first | exact KD.mk | exact KD.mkN
            · intro tm hr
              simp [AllL, rdV] at hr
              simp [hr]
              intros; first | exact KD.mk | exact KD.mkN
            · intro tm hr
              simp [AllL, rdV] at hr
              simp [hr]
              intros; first | exact KD.mk | exact KD.mkN
            · intro tm hr
              simp [AllL, rdV] at hr
              simp [hr]
              intros; first | exact KD.mk | exact KD.mkN
            · intro tm hr
              simp [AllL, rdV] at hr
              simp [hr]
              intros; first | exact KD.mk | exact KD.mkN
            · intro tm hr
              simp [AllL, rdV] at hr
              simp [hr]
              intros; first | exact KD.mk | exact KD.mkN
            · intro tm hr
              simp [AllL, rdV] at hr
              simp [hr]
              intros; first | exact KD.mk | exact KD.mkN
            · intro tm hr
              simp [AllL, rdV] at hr
              simp [hr]
              intros; first | exact KD.mk | exact KD.mkN
            · intro tm hr
              simp [AllL, rdV] at hr
              simp [hr]
              intros; first | exact KD.mk | exact KD.mkN
            · intro tm hr
              simp [AllL, rdV] at hr
              simp [hr]
              intros; first | exact KD.mk | exact KD.mkN
            · intro tm hr
              simp [AllL, rdV] at hr
              simp [hr]
              intros; first | exact KD.mk | exact KD.mkN
            · intro tm hr
              simp [AllL, rdV] at hr
              simp [hr]
              intros; first | exact KD.mk | exact KD.mkN
          · rfl
          · simp [tmD, putD]; rfl
          · simp
            intros; rfl
          obtain rfl := Option.some.inj h
          refine nP_i ?_
          refine Weak.mixN [] hn0 (by decide) ?_ ?_ rfl
          all_goals first | (simp [inv_cons, inv_nil, pickOb]; done) | rfl
      · rintro e s hp
        obtain ⟨rfl, hw⟩ := hp
        refine ⟨_, hw, ?_⟩
        try simp only [sp_l, sp_r, Post.seq, Post.block, Nat.reduceEqDiff, reduceIte, Nat.zero_ne_one, Nat.one_ne_zero]
        obtain rfl := Option.some.inj h
        refine AW.ret ?_
        refine Left.plain hnb (by simp [Try.f9, resV, resC, comp]; rfl) rfl rfl ?_
        simp
end Go.Proofs.Ytlkhfdccapkcdaa

/- Plain law: any feed. -/
namespace Go.Proofs.Ytlkhfdccapkcdaa
open Go Go.RowKit
set_option linter.unusedVariables false
set_option linter.unusedSimpArgs false
theorem FeedAll_ok (f : Feed) (db : List Pair) (l : List Effect) (rid : Rid) (off : Int) (m : Msg) (hf : ∀ e ∈ f.back, okI e.item) : l15_FeedAll_sh big f db l rid off m = some true := by
  refine Rn.eq ?_
  unfold l15_FeedAll_sh
  refine Rn.bn (P := fun b => b = false → okF f ∧ SrtP db ∧ okP db ∧ db.length ≤ 50 ∧ okE l ∧ l.length ≤ 50 ∧ okE m.effects ∧ m.effects.length ≤ 50 ∧ m.claims.length ≤ 20 ∧ m.nodes.length ≤ 20) ?_ fun b hb => Rn.lt (Rn.ite (fun _ => Rn.bnE awake15_ok (Rn.some rfl)) (fun h => ?_))
  · refine Rn.bn (great_ok f) fun b1 h1 => Rn.ite (fun _ => Rn.some (by simp)) (fun g1 => ?_)
    refine Rn.bn (GreatDb_ok db) fun b2 h2 => Rn.ite (fun _ => Rn.some (by simp)) (fun g2 => ?_)
    refine Rn.bn (Heavy_ok l) fun b3 h3 => Rn.ite (fun _ => Rn.some (by simp)) (fun g3 => ?_)
    refine Rn.bn (Heavy_ok m.effects) fun b4 h4 => Rn.ite (fun _ => Rn.some (by simp)) (fun g4 => ?_)
    have h1 := h1 g1
    have h2 := h2 g2
    have h3 := h3 g3
    have h4 := h4 g4
    refine Rn.bn (MayFeed_ok f h1) fun b5 h5 => Rn.lt (Rn.ite (fun _ => Rn.some (by simp)) (fun g5 => ?_))
    refine Rn.bn (MaySpace_ok db (by omega)) fun b6 h6 => Rn.lt (Rn.ite (fun _ => Rn.some (by simp)) (fun g6 => ?_))
    refine Rn.bn (MayEffects_ok l (by omega)) fun b7 _ => Rn.lt (Rn.ite (fun _ => Rn.some (by simp)) (fun _ => ?_))
    refine Rn.bn (MayEffects_ok m.effects (by omega)) fun b8 _ => Rn.lt (Rn.ite (fun _ => Rn.some (by simp)) (fun _ => ?_))
    refine Rn.lt (Rn.lt (Rn.ite (fun _ => Rn.some (by simp)) (fun g9 => Rn.lt (Rn.lt (Rn.some fun g10 => ?_)))))
    have h5 := h5 (by simpa [notB] using g5)
    have h6 := h6 (by simpa [notB] using g6)
    have g9 := gtI_n g9
    have g10 := gtI_n g10
    simp only [lenI] at g9 g10
    have hsm : ∀ i : Item, i.f.length ≤ 50 ∧ i.l.length ≤ 50 → okI i := fun i hi => ⟨by omega, by omega⟩
    exact ⟨⟨⟨by omega, hf⟩, h1, h5.1, by omega⟩, h6, fun p hp => hsm _ (h2.2 p hp), h2.1, ⟨by omega, fun e he => hsm _ (h3.2 e he)⟩, h3.1, ⟨by omega, fun e he => hsm _ (h4.2 e he)⟩, h4.1, by omega, by omega⟩
  obtain ⟨k1, k2, k3, k4, k5, k6, k7, k8, k9, k10⟩ := hb h
  obtain ⟨j1, j2, j3, j4⟩ := id k1
  refine Rn.bnE (f_Got_ok f db m j1 j2 (by omega) j4 k2 k3 k7 (by omega)) (Rn.bnE (r_Got_ok f db m j2 k2 k3 k7 (by omega)) ?_)
  refine Rn.bnE (v := true) ?_ (Rn.some rfl)
  rw [f_Add_ok f l j1 k5 (by omega), r_Add_ok f l (by omega)]
  simp only [lt_eq, bn_some, ite_t, ite_f, sm_inl, sm_inr, lenI_eq, Option.some.injEq]
  rw [r_SameFeed_refl (addF f l) (j1.app k5 (by omega)).lastN]
  simp only [lt_eq, bn_some, ite_t, ite_f, sm_inl, sm_inr, lenI_eq, Option.some.injEq]
  rw [f_Answer_ok f db rid off k1 k3 (by omega), r_Answer_ok f db rid off k1 (by omega)]
  obtain ⟨a1, a2, a3, a4⟩ := ansF_ok f db rid off j1 k3 (by omega)
  obtain ⟨b1, b2, b3, b4⟩ := gotF_ok f db m j1 (by omega) k2 k3 k7 (by omega)
  simp only [lt_eq, bn_some, ite_t, ite_f, sm_inl, sm_inr, lenI_eq, Option.some.injEq]
  rw [r_SameMsg_refl _ a1 (by rw [a3]; simp) (by rw [a4]; simp)]
  simp only [lt_eq, bn_some, ite_t, ite_f, sm_inl, sm_inr, lenI_eq, Option.some.injEq]
  rw [r_SameFeed_refl _ b1]
  simp only [lt_eq, bn_some, ite_t, ite_f, sm_inl, sm_inr, lenI_eq, Option.some.injEq]
  rw [r_SameSpace_refl _ b3 (by omega)]
  simp only [lt_eq, bn_some, ite_t, ite_f, sm_inl, sm_inr, lenI_eq, Option.some.injEq, eqB_self]
  rw [feed_Same_refl f j1]
  simp only [lt_eq, bn_some, ite_t, ite_f, sm_inl, sm_inr, lenI_eq, Option.some.injEq]
  rw [awake15_ok]
  rfl
end Go.Proofs.Ytlkhfdccapkcdaa

/- What is read as data of the program's structs. -/
namespace Go.Proofs.Ytlkhfdccapkcdaa
open Go Go.RowKit
set_option linter.unusedVariables false
set_option linter.unusedSimpArgs false
set_option linter.constructorNameAsVariable false
set_option maxRecDepth 100000
section
variable {P : Program} {n t : Nat} {ts : List T}
theorem WfT.bool (hu : P.underlying t = some .bool) (h : WfT P (n + 1) t ts) : ∃ b, ts = [.v (.bool b)] := by rw [WfT, hu] at h; exact h
theorem WfT.int {k : IntKind} (hu : P.underlying t = some (.int k)) (h : WfT P (n + 1) t ts) : ∃ i, ts = [.v (.int k i)] ∧ (Lit.int k i).wf = true := by rw [WfT, hu] at h; exact h
theorem WfT.str (hu : P.underlying t = some .string) (h : WfT P (n + 1) t ts) : ∃ s, ts = [.v (.string s)] ∧ s.size ≤ maxLen := by rw [WfT, hu] at h; exact h
theorem WfT.slice {e : Nat} (hu : P.underlying t = some (.slice e)) (h : WfT P (n + 1) t ts) : ∃ es, ts = [.sl (P.cellsOf e) es] ∧ es.length * P.bytesOf e ≤ reachBytes ∧ ∀ x ∈ es, WfT P n e x := by rw [WfT, hu] at h; exact h
theorem WfT.struct {fs : Array Go.Field} (hu : P.underlying t = some (.struct fs)) (h : WfT P (n + 1) t ts) : ∃ ps : List (List T), ts = ps.flatten ∧ All2 (fun p f => WfT P n f p) ps (fs.toList.map (·.type)) := by rw [WfT, hu] at h; exact h
end
theorem All2.cons_r {α β : Type} {R : α → β → Prop} {l : List α} {b : β} {bs : List β} (h : All2 R l (b :: bs)) : ∃ x xs, l = x :: xs ∧ R x b ∧ All2 R xs bs := by
  cases l with
  | nil => exact h.elim
  | cons x xs => exact ⟨x, xs, rfl, h⟩
theorem All2.nil_r {α β : Type} {R : α → β → Prop} {l : List α} (h : All2 R l ([] : List β)) : l = [] := by
  cases l with
  | nil => rfl
  | cons x xs => exact h.elim
def rngI (i : Int) : Prop := -9223372036854775808 ≤ i ∧ i ≤ 9223372036854775807
theorem wf_rngI {i : Int} (h : (Lit.int .i64 i).wf = true) : rngI i := by
  have h' := (Bool.and_eq_true _ _ ▸ h : _ ∧ _)
  have h1 := of_decide_eq_true h'.1
  have h2 := of_decide_eq_true h'.2
  exact ⟨h1, h2⟩
theorem wf_list {α : Type} {enc : List α → List (List T)} {R : List T → Prop} {rng : α → Prop} (hn : enc [] = []) (hc : ∀ x l, enc (x :: l) = enc [x] ++ enc l) (h1 : ∀ e, R e → ∃ x, enc [x] = [e] ∧ rng x) :
    ∀ es, (∀ x ∈ es, R x) → ∃ l, es = enc l ∧ ∀ x ∈ l, rng x
  | [], _ => ⟨[], hn.symm, fun x h => by cases h⟩
  | e :: es, h => by
    obtain ⟨x, hx, rx⟩ := h1 e (h e (by simp))
    obtain ⟨l, rfl, rl⟩ := wf_list hn hc h1 es fun y hy => h y (by simp [hy])
    refine ⟨x :: l, by rw [hc, hx]; rfl, ?_⟩
    intro y hy
    rcases List.mem_cons.1 hy with rfl | hy
    · exact rx
    · exact rl y hy
theorem wf_S (n : Nat) (e : List T) (h : WfT Try.prog (n + 1) 9 e) : ∃ x : ByteArray, encS [x] = [e] ∧ True := by
  obtain ⟨f, rfl, -⟩ := WfT.str (t := 9) Try.underlying9 h
  exact ⟨f, rfl, trivial⟩
theorem wf_Ss {n : Nat} {es : List (List T)} (h : ∀ x ∈ es, WfT Try.prog (n + 1) 9 x) : ∃ l : List ByteArray, es = encS l ∧ ∀ x ∈ l, True :=
  wf_list (enc := encS) (R := fun e => WfT Try.prog (n + 1) 9 e) (rng := fun _ => True) rfl (fun _ _ => rfl) (@wf_S n) es h
/-- Bytes. -/
def rngU (i : Int) : Prop := 0 ≤ i ∧ i ≤ 255
theorem wf_I (n : Nat) (e : List T) (h : WfT Try.prog (n + 1) 3 e) : ∃ x : Int, encI [x] = [e] ∧ rngI x := by
  obtain ⟨f, rfl, h2⟩ := WfT.int (t := 3) Try.underlying3 h
  exact ⟨f, rfl, wf_rngI h2⟩
theorem wf_Is {n : Nat} {es : List (List T)} (h : ∀ x ∈ es, WfT Try.prog (n + 1) 3 x) : ∃ l : List Int, es = encI l ∧ ∀ x ∈ l, rngI x :=
  wf_list (enc := encI) (R := fun e => WfT Try.prog (n + 1) 3 e) (rng := rngI) rfl (fun _ _ => rfl) (@wf_I n) es h
/-- What fits memory. -/
theorem wf_len {l b s m : Nat} (h : l * b ≤ reachBytes) (hb : b = s) (hs : 0 < s) (hm : reachBytes / s = m) : l ≤ m := by
  subst hb hm
  exact (Nat.le_div_iff_mul_le hs).2 h
def rngField (x : Field) : Prop := True
theorem wf_Field (n : Nat) (e : List T) (h : WfT Try.prog (n + 2) 105 e) : ∃ x : Field, encField [x] = [e] ∧ rngField x := by
  obtain ⟨q0, rfl, w0⟩ := WfT.struct (t := 105) Try.underlying105 h
  obtain ⟨p0, q1, rfl, g0, w1⟩ := All2.cons_r w0
  obtain ⟨p1, q2, rfl, g1, w2⟩ := All2.cons_r w1
  obtain rfl := All2.nil_r w2
  obtain ⟨f0, rfl, -⟩ := WfT.str (t := 9) Try.underlying9 g0
  obtain ⟨f1, rfl, -⟩ := WfT.str (t := 9) Try.underlying9 g1
  exact ⟨⟨f0, f1⟩, rfl, trivial⟩
theorem wf_Fields {n : Nat} {es : List (List T)} (h : ∀ x ∈ es, WfT Try.prog (n + 2) 105 x) : ∃ l : List Field, es = encField l ∧ ∀ x ∈ l, rngField x :=
  wf_list (enc := encField) (R := fun e => WfT Try.prog (n + 2) 105 e) (rng := rngField) rfl (fun _ _ => rfl) (@wf_Field n) es h
def rngItem (x : Item) : Prop := (rngI x.kind) ∧ (x.f.length ≤ 4398046510976 ∧ ∀ y ∈ x.f, rngField y) ∧ (x.l.length ≤ 8796093021952) ∧ (rngI x.exp)
theorem wf_Item (n : Nat) (e : List T) (h : WfT Try.prog (n + 4) 34 e) : ∃ x : Item, encItem [x] = [e] ∧ rngItem x := by
  obtain ⟨q0, rfl, w0⟩ := WfT.struct (t := 34) Try.underlying34 h
  obtain ⟨p0, q1, rfl, g0, w1⟩ := All2.cons_r w0
  obtain ⟨p1, q2, rfl, g1, w2⟩ := All2.cons_r w1
  obtain ⟨p2, q3, rfl, g2, w3⟩ := All2.cons_r w2
  obtain ⟨p3, q4, rfl, g3, w4⟩ := All2.cons_r w3
  obtain ⟨p4, q5, rfl, g4, w5⟩ := All2.cons_r w4
  obtain rfl := All2.nil_r w5
  obtain ⟨f0, rfl, v0⟩ := WfT.int (t := 3) Try.underlying3 g0
  have r0 := wf_rngI v0
  obtain ⟨f1, rfl, -⟩ := WfT.str (t := 9) Try.underlying9 g1
  obtain ⟨es2, rfl, b2, k2⟩ := WfT.slice (t := 31) Try.underlying31 g2
  obtain ⟨f2, rfl, r2⟩ := wf_Fields k2
  have b2 : f2.length ≤ 4398046510976 := wf_len (by simpa using b2) (show Try.prog.bytesOf 105 = 32 by kernel_rfl) (by decide) (by decide)
  obtain ⟨es3, rfl, b3, k3⟩ := WfT.slice (t := 32) Try.underlying32 g3
  obtain ⟨f3, rfl, r3⟩ := wf_Ss k3
  have b3 : f3.length ≤ 8796093021952 := wf_len (by simpa using b3) (show Try.prog.bytesOf 9 = 16 by kernel_rfl) (by decide) (by decide)
  obtain ⟨f4, rfl, v4⟩ := WfT.int (t := 3) Try.underlying3 g4
  have r4 := wf_rngI v4
  exact ⟨⟨f0, f1, f2, f3, f4⟩, rfl, ⟨r0, ⟨b2, r2⟩, b3, r4⟩⟩
def rngPair (x : Pair) : Prop := (rngItem x.item)
theorem wf_Pair (n : Nat) (e : List T) (h : WfT Try.prog (n + 5) 125 e) : ∃ x : Pair, encPair [x] = [e] ∧ rngPair x := by
  obtain ⟨q0, rfl, w0⟩ := WfT.struct (t := 125) Try.underlying125 h
  obtain ⟨p0, q1, rfl, g0, w1⟩ := All2.cons_r w0
  obtain ⟨p1, q2, rfl, g1, w2⟩ := All2.cons_r w1
  obtain rfl := All2.nil_r w2
  obtain ⟨f0, rfl, -⟩ := WfT.str (t := 9) Try.underlying9 g0
  obtain ⟨f1, e1, r1⟩ := wf_Item _ _ g1
  have e1 := (List.cons.inj e1).1
  subst e1
  exact ⟨⟨f0, f1⟩, rfl, r1⟩
theorem wf_Pairs {n : Nat} {es : List (List T)} (h : ∀ x ∈ es, WfT Try.prog (n + 5) 125 x) : ∃ l : List Pair, es = encPair l ∧ ∀ x ∈ l, rngPair x :=
  wf_list (enc := encPair) (R := fun e => WfT Try.prog (n + 5) 125 e) (rng := rngPair) rfl (fun _ _ => rfl) (@wf_Pair n) es h
def rngEffect (x : Effect) : Prop := (rngItem x.item)
theorem wf_Effect (n : Nat) (e : List T) (h : WfT Try.prog (n + 5) 36 e) : ∃ x : Effect, encEffect [x] = [e] ∧ rngEffect x := by
  obtain ⟨q0, rfl, w0⟩ := WfT.struct (t := 36) Try.underlying36 h
  obtain ⟨p0, q1, rfl, g0, w1⟩ := All2.cons_r w0
  obtain ⟨p1, q2, rfl, g1, w2⟩ := All2.cons_r w1
  obtain ⟨p2, q3, rfl, g2, w3⟩ := All2.cons_r w2
  obtain rfl := All2.nil_r w3
  obtain ⟨f0, rfl, -⟩ := WfT.str (t := 9) Try.underlying9 g0
  obtain ⟨f1, rfl⟩ := WfT.bool (t := 4) Try.underlying4 g1
  obtain ⟨f2, e2, r2⟩ := wf_Item _ _ g2
  have e2 := (List.cons.inj e2).1
  subst e2
  exact ⟨⟨f0, f1, f2⟩, rfl, r2⟩
theorem wf_Effects {n : Nat} {es : List (List T)} (h : ∀ x ∈ es, WfT Try.prog (n + 5) 36 x) : ∃ l : List Effect, es = encEffect l ∧ ∀ x ∈ l, rngEffect x :=
  wf_list (enc := encEffect) (R := fun e => WfT Try.prog (n + 5) 36 e) (rng := rngEffect) rfl (fun _ _ => rfl) (@wf_Effect n) es h
def rngRid (x : Rid) : Prop := (rngI x.node) ∧ (rngI x.epoch)
theorem wf_Rid (n : Nat) (e : List T) (h : WfT Try.prog (n + 2) 27 e) : ∃ x : Rid, encRid [x] = [e] ∧ rngRid x := by
  obtain ⟨q0, rfl, w0⟩ := WfT.struct (t := 27) Try.underlying27 h
  obtain ⟨p0, q1, rfl, g0, w1⟩ := All2.cons_r w0
  obtain ⟨p1, q2, rfl, g1, w2⟩ := All2.cons_r w1
  obtain rfl := All2.nil_r w2
  obtain ⟨f0, rfl, v0⟩ := WfT.int (t := 3) Try.underlying3 g0
  have r0 := wf_rngI v0
  obtain ⟨f1, rfl, v1⟩ := WfT.int (t := 3) Try.underlying3 g1
  have r1 := wf_rngI v1
  exact ⟨⟨f0, f1⟩, rfl, ⟨r0, r1⟩⟩
def rngFeed (x : Feed) : Prop := (rngRid x.rid) ∧ (rngI x.off) ∧ (x.back.length ≤ 1353245080300 ∧ ∀ y ∈ x.back, rngEffect y) ∧ (rngRid x.prev) ∧ (rngI x.upto)
theorem wf_Feed (n : Nat) (e : List T) (h : WfT Try.prog (n + 7) 29 e) : ∃ x : Feed, encFeed [x] = [e] ∧ rngFeed x := by
  obtain ⟨q0, rfl, w0⟩ := WfT.struct (t := 29) Try.underlying29 h
  obtain ⟨p0, q1, rfl, g0, w1⟩ := All2.cons_r w0
  obtain ⟨p1, q2, rfl, g1, w2⟩ := All2.cons_r w1
  obtain ⟨p2, q3, rfl, g2, w3⟩ := All2.cons_r w2
  obtain ⟨p3, q4, rfl, g3, w4⟩ := All2.cons_r w3
  obtain ⟨p4, q5, rfl, g4, w5⟩ := All2.cons_r w4
  obtain rfl := All2.nil_r w5
  obtain ⟨f0, e0, r0⟩ := wf_Rid _ _ g0
  have e0 := (List.cons.inj e0).1
  subst e0
  obtain ⟨f1, rfl, v1⟩ := WfT.int (t := 3) Try.underlying3 g1
  have r1 := wf_rngI v1
  obtain ⟨es2, rfl, b2, k2⟩ := WfT.slice (t := 24) Try.underlying24 g2
  obtain ⟨f2, rfl, r2⟩ := wf_Effects k2
  have b2 : f2.length ≤ 1353245080300 := wf_len (by simpa using b2) (show Try.prog.bytesOf 36 = 104 by kernel_rfl) (by decide) (by decide)
  obtain ⟨f3, e3, r3⟩ := wf_Rid _ _ g3
  have e3 := (List.cons.inj e3).1
  subst e3
  obtain ⟨f4, rfl, v4⟩ := WfT.int (t := 3) Try.underlying3 g4
  have r4 := wf_rngI v4
  exact ⟨⟨f0, f1, f2, f3, f4⟩, rfl, ⟨r0, r1, ⟨b2, r2⟩, r3, r4⟩⟩
def rngClaim (x : Claim) : Prop := (rngI x.frm) ∧ (rngI x.to) ∧ (rngI x.node) ∧ (rngI x.epoch)
theorem wf_Claim (n : Nat) (e : List T) (h : WfT Try.prog (n + 2) 149 e) : ∃ x : Claim, encClaim [x] = [e] ∧ rngClaim x := by
  obtain ⟨q0, rfl, w0⟩ := WfT.struct (t := 149) Try.underlying149 h
  obtain ⟨p0, q1, rfl, g0, w1⟩ := All2.cons_r w0
  obtain ⟨p1, q2, rfl, g1, w2⟩ := All2.cons_r w1
  obtain ⟨p2, q3, rfl, g2, w3⟩ := All2.cons_r w2
  obtain ⟨p3, q4, rfl, g3, w4⟩ := All2.cons_r w3
  obtain rfl := All2.nil_r w4
  obtain ⟨f0, rfl, v0⟩ := WfT.int (t := 3) Try.underlying3 g0
  have r0 := wf_rngI v0
  obtain ⟨f1, rfl, v1⟩ := WfT.int (t := 3) Try.underlying3 g1
  have r1 := wf_rngI v1
  obtain ⟨f2, rfl, v2⟩ := WfT.int (t := 3) Try.underlying3 g2
  have r2 := wf_rngI v2
  obtain ⟨f3, rfl, v3⟩ := WfT.int (t := 3) Try.underlying3 g3
  have r3 := wf_rngI v3
  exact ⟨⟨f0, f1, f2, f3⟩, rfl, ⟨r0, r1, r2, r3⟩⟩
theorem wf_Claims {n : Nat} {es : List (List T)} (h : ∀ x ∈ es, WfT Try.prog (n + 2) 149 x) : ∃ l : List Claim, es = encClaim l ∧ ∀ x ∈ l, rngClaim x :=
  wf_list (enc := encClaim) (R := fun e => WfT Try.prog (n + 2) 149 e) (rng := rngClaim) rfl (fun _ _ => rfl) (@wf_Claim n) es h
def rngMsg (x : Msg) : Prop := (rngI x.kind) ∧ (rngI x.frm) ∧ (rngI x.to) ∧ (rngI x.epoch) ∧ (x.claims.length ≤ 4398046510976 ∧ ∀ y ∈ x.claims, rngClaim y) ∧ (x.nodes.length ≤ 17592186043904 ∧ ∀ y ∈ x.nodes, rngI y) ∧ (rngI x.node) ∧ (rngI x.slot) ∧ (rngI x.num) ∧ (rngRid x.rid) ∧ (rngRid x.prev) ∧ (rngI x.off) ∧ (x.effects.length ≤ 1353245080300 ∧ ∀ y ∈ x.effects, rngEffect y)
theorem wf_Msg (n : Nat) (e : List T) (h : WfT Try.prog (n + 7) 62 e) : ∃ x : Msg, encMsg [x] = [e] ∧ rngMsg x := by
  obtain ⟨q0, rfl, w0⟩ := WfT.struct (t := 62) Try.underlying62 h
  obtain ⟨p0, q1, rfl, g0, w1⟩ := All2.cons_r w0
  obtain ⟨p1, q2, rfl, g1, w2⟩ := All2.cons_r w1
  obtain ⟨p2, q3, rfl, g2, w3⟩ := All2.cons_r w2
  obtain ⟨p3, q4, rfl, g3, w4⟩ := All2.cons_r w3
  obtain ⟨p4, q5, rfl, g4, w5⟩ := All2.cons_r w4
  obtain ⟨p5, q6, rfl, g5, w6⟩ := All2.cons_r w5
  obtain ⟨p6, q7, rfl, g6, w7⟩ := All2.cons_r w6
  obtain ⟨p7, q8, rfl, g7, w8⟩ := All2.cons_r w7
  obtain ⟨p8, q9, rfl, g8, w9⟩ := All2.cons_r w8
  obtain ⟨p9, q10, rfl, g9, w10⟩ := All2.cons_r w9
  obtain ⟨p10, q11, rfl, g10, w11⟩ := All2.cons_r w10
  obtain ⟨p11, q12, rfl, g11, w12⟩ := All2.cons_r w11
  obtain ⟨p12, q13, rfl, g12, w13⟩ := All2.cons_r w12
  obtain rfl := All2.nil_r w13
  obtain ⟨f0, rfl, v0⟩ := WfT.int (t := 3) Try.underlying3 g0
  have r0 := wf_rngI v0
  obtain ⟨f1, rfl, v1⟩ := WfT.int (t := 3) Try.underlying3 g1
  have r1 := wf_rngI v1
  obtain ⟨f2, rfl, v2⟩ := WfT.int (t := 3) Try.underlying3 g2
  have r2 := wf_rngI v2
  obtain ⟨f3, rfl, v3⟩ := WfT.int (t := 3) Try.underlying3 g3
  have r3 := wf_rngI v3
  obtain ⟨es4, rfl, b4, k4⟩ := WfT.slice (t := 59) Try.underlying59 g4
  obtain ⟨f4, rfl, r4⟩ := wf_Claims k4
  have b4 : f4.length ≤ 4398046510976 := wf_len (by simpa using b4) (show Try.prog.bytesOf 149 = 32 by kernel_rfl) (by decide) (by decide)
  obtain ⟨es5, rfl, b5, k5⟩ := WfT.slice (t := 60) Try.underlying60 g5
  obtain ⟨f5, rfl, r5⟩ := wf_Is k5
  have b5 : f5.length ≤ 17592186043904 := wf_len (by simpa using b5) (show Try.prog.bytesOf 3 = 8 by kernel_rfl) (by decide) (by decide)
  obtain ⟨f6, rfl, v6⟩ := WfT.int (t := 3) Try.underlying3 g6
  have r6 := wf_rngI v6
  obtain ⟨f7, rfl, v7⟩ := WfT.int (t := 3) Try.underlying3 g7
  have r7 := wf_rngI v7
  obtain ⟨f8, rfl, v8⟩ := WfT.int (t := 3) Try.underlying3 g8
  have r8 := wf_rngI v8
  obtain ⟨f9, e9, r9⟩ := wf_Rid _ _ g9
  have e9 := (List.cons.inj e9).1
  subst e9
  obtain ⟨f10, e10, r10⟩ := wf_Rid _ _ g10
  have e10 := (List.cons.inj e10).1
  subst e10
  obtain ⟨f11, rfl, v11⟩ := WfT.int (t := 3) Try.underlying3 g11
  have r11 := wf_rngI v11
  obtain ⟨es12, rfl, b12, k12⟩ := WfT.slice (t := 24) Try.underlying24 g12
  obtain ⟨f12, rfl, r12⟩ := wf_Effects k12
  have b12 : f12.length ≤ 1353245080300 := wf_len (by simpa using b12) (show Try.prog.bytesOf 36 = 104 by kernel_rfl) (by decide) (by decide)
  exact ⟨⟨f0, f1, f2, f3, f4, f5, f6, f7, f8, f9, f10, f11, f12⟩, rfl, ⟨r0, r1, r2, r3, ⟨b4, r4⟩, ⟨b5, r5⟩, r6, r7, r8, r9, r10, r11, ⟨b12, r12⟩⟩⟩
end Go.Proofs.Ytlkhfdccapkcdaa

/- What all rows need. -/
namespace Go.Proofs.Ytlkhfdccapkcdaa
open Go Go.RowKit
open Go.ChangeShapes Go.WideShapes Go.ChangeAt Go.RowKit
theorem Try.own : ownKnob Try.prog.godebug = none := by kernel_rfl
theorem Try.laidOut : laidOutB Try.prog = true := by kernel_rfl
end Go.Proofs.Ytlkhfdccapkcdaa

