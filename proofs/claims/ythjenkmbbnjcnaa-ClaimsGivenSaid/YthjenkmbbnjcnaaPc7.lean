/- Part 7 of the proof. -/
import Derived.Test.YthjenkmbbnjcnaaPc6
import Derived.Test.YthjenkmbbnjcnaaRows
import Derived.ProofKit
/- Walks, printed: claims_Owned, l13_ClaimsGiven -/
namespace Go.Proofs.Ythjenkmbbnjcnaa
open Go Go.RowKit
set_option linter.unusedVariables false
set_option linter.unusedSimpArgs false
def claims_Owned_sh (n : Nat) (a0 : List Claim) (a1 : Int) : Option (List Span) :=
lt (lenI a0) fun v1 =>
bn (iter n (fun (y2 : Int × List Span) =>
lt (ltI y2.1 v1) fun v5 =>
ite' v5 (bn (bn (nth a0 y2.1) fun v7 =>
lt (eqI v7.node a1) fun v8 =>
ite' v8 (chk (room (y2.2.length + 1) 16) <|
lt (y2.2 ++ [(⟨v7.frm, v7.to⟩ : Span)]) fun v10 =>
some (v10)) (some (y2.2))) fun (y6 : List Span) =>
lt (addI .i64 y2.1 1) fun v11 =>
some (.inl (v11, y6))) (some (.inr y2.2))) (0, [])) fun (y3 : List Span) =>
chk (room y3.length 1) <|
bn (spans_Norm_t_sh n y3) fun v13 =>
some v13
set_option maxRecDepth 8000 in
set_option maxHeartbeats 8000000 in
theorem s_claims_Owned {n : Nat} {a0 : List Claim} {a1 : Int} {r : List Span} (h : claims_Owned_sh n a0 a1 = some r) : Sound Try.prog 23 [.l (.d false 4 (encClaim a0)), .l (.s (.int .i64 a1))] [] (.l (.d false 2 (encSpan r))) [] := by
 unfold claims_Owned_sh at h
 refine Sound.of_aw (fn := Try.f23) (c := _) Try.func23 rfl (by simp [Try.f23]) fun cx hG hnb => ?_
 rw [show Try.f23.ntmps = 29 from rfl]
 have hn0 : cx.nb = 0 := hnb
 simp only [st0_mk, initTm, List.map_cons, List.map_nil]
 apply AW.step
 ·simp
  intros; rfl
 apply AW.step
 ·simp
  intros; rfl
 refine AW.seq ?_
 replace h := ltE h; obtain ⟨v1, e1, h⟩ := h
 apply AW.step
 ·simp [lenI_cast e1]
  intros; rfl
 refine AW.block ?_
 replace h := bnE h; obtain ⟨y3, g3, h⟩ := h
 refine AW.iterP g3 (mk := fun gh ls q => (⟨[(1, .l (.s (.int .i64 a1))), (5, .l (.r 0 2 0 q.2.length)), (8, .l (.d false 4 (encClaim a0))), (9, .l (.s (.int .i64 v1))), (10, .l (.s (.int .i64 q.1)))], [some ⟨43, 2, true, none, lvs (encSpan q.2)⟩], 29, gh, ls⟩ : St)) (N := fun gh ls => (xP 0 (cx := cx) (fun q => (⟨[(5, .l (.r 0 2 0 q.length))], [some ⟨43, 2, true, none, lvs (encSpan q)⟩], 29, gh, ls⟩ : St)))) ?_ noX ?_ ?_
 ·refine W.nilRow 5 43 2 0 (by simp) rfl rfl ?_
  refine Weak.mixN [some 0] hn0 (by decide) ?_ ?_ rfl
  all_goals first | (simp [inv_cons, inv_nil, pickOb]; done) | rfl
 ·clear h; intro y2 y4 h
  replace h := ltE h; obtain ⟨v5, e5, h⟩ := h
  apply AW.step
  ·simp [← e5]
   intros; rfl
  refine AW.seq ?_
  cases v5 with
  | true =>
   replace h := iteT rfl h
   refine AW.cond_true (by simp) ?_
   refine AW.skip ?_
   try simp only [sp_l, sp_r, Post.seq, Post.block, Nat.reduceEqDiff, reduceIte, Nat.zero_ne_one, Nat.one_ne_zero]
   try simp only [sp_l, sp_r, Post.seq, Post.block, Nat.reduceEqDiff, reduceIte, Nat.zero_ne_one, Nat.one_ne_zero]
   replace h := bnE h; obtain ⟨y6, g6, h⟩ := h
   refine AW.flow (p := fun gh ls => (nP (cx := cx) (fun q => (⟨[(1, .l (.s (.int .i64 a1))), (5, .l (.r 0 2 0 q.length)), (8, .l (.d false 4 (encClaim a0))), (9, .l (.s (.int .i64 v1))), (10, .l (.s (.int .i64 y2.1)))], [some ⟨43, 2, true, none, lvs (encSpan q)⟩], 29, gh, ls⟩ : St))) y6) ?_ ?_
   ·replace h := g6; clear g6
    refine AW.block ?_
    replace h := bnE h; obtain ⟨v7, e7, h⟩ := h
    apply AW.step
    ·simp [nth_d e7]
     intros; rfl
    replace h := ltE h; obtain ⟨v8, e8, h⟩ := h
    apply AW.step
    ·simp [← e8]
     intros; rfl
    cases v8 with
    | true =>
     replace h := iteT rfl h
     refine AW.cond_true (by simp) ?_
     replace h := chkE h; obtain ⟨e9, h⟩ := h
     replace h := ltE h; obtain ⟨v10, e10, h⟩ := h
     apply AW.last
     ·simp [← encSpan_append, ← e10, app_len1 e10]
      intros
      refine xrow_own ?_
      try simp [← encSpan_append, ← e10, app_len1 e10]
      intros
      refine xapp_pushN (acc := encSpan y2.2) (ys := encSpan [(⟨v7.frm, v7.to⟩ : Span)]) (cap := none) (k := 1) tb_el29 tb_ti43 (by simp) (by simp [encSpan, lvs]) (encSpan_sz _) (by simp) (by simp) (by first | (simp; done) | simpa using (room_d e9).1) ?_
      try simp [← encSpan_append, ← e10, app_len1 e10]
      intros; rfl
     obtain rfl := Option.some.inj h
     refine nP_i ?_
     refine Weak.mixN [some 3] hn0 (by decide) ?_ ?_ rfl
     all_goals first | (simp [inv_cons, inv_nil, pickOb, lvs_encSpan1]; done) | rfl
    | false =>
     replace h := iteF rfl h
     refine AW.cond_false (by simp) ?_
     refine AW.skip ?_
     try simp only [sp_l, sp_r, Post.seq, Post.block, Nat.reduceEqDiff, reduceIte, Nat.zero_ne_one, Nat.one_ne_zero]
     obtain rfl := Option.some.inj h
     refine nP_i ?_
     refine Weak.mixN [some 0] hn0 (by decide) ?_ ?_ rfl
     all_goals first | (simp [inv_cons, inv_nil, pickOb]; done) | rfl
   ·rintro e s hp
    obtain ⟨rfl, hw⟩ := hp
    refine ⟨_, hw, ?_⟩
    try simp only [sp_l, sp_r, Post.seq, Post.block, Nat.reduceEqDiff, reduceIte, Nat.zero_ne_one, Nat.one_ne_zero]
    replace h := ltE h; obtain ⟨v11, e11, h⟩ := h
    apply AW.last
    ·simp [← e11]
     intros; rfl
    obtain rfl := Option.some.inj h
    refine nP_i ?_
    refine Weak.mixN [some 0] hn0 (by decide) ?_ ?_ rfl
    all_goals first | (simp [inv_cons, inv_nil, pickOb]; done) | rfl
  | false =>
   replace h := iteF rfl h
   refine AW.cond_false (by simp) ?_
   refine AW.exit ?_
   try simp only [sp_l, sp_r, Post.seq, Post.block, Nat.reduceEqDiff, reduceIte, Nat.zero_ne_one, Nat.one_ne_zero]
   obtain rfl := Option.some.inj h
   refine xP_i ?_
   refine Weak.mixN [some 0] hn0 (by decide) ?_ ?_ rfl
   all_goals first | (simp [inv_cons, inv_nil, pickOb]; done) | rfl
 ·rintro e s hp
  obtain ⟨rfl, hw⟩ := hp
  refine ⟨_, hw, ?_⟩
  try simp only [sp_l, sp_r, Post.seq, Post.block, Nat.reduceEqDiff, reduceIte, Nat.zero_ne_one, Nat.one_ne_zero]
  replace h := chkE h; obtain ⟨e12, h⟩ := h
  replace h := bnE h; obtain ⟨v13, e13, h⟩ := h
  apply AW.step
  ·simp
   intros
   refine xcall_plain en_spans_Norm_t (s_spans_Norm_t e13) rfl ⟨.rowd (by simp) rfl (by omega) (encSpan_sz _) (by simp) (by first | exact (room_d e12).2 | simpa using (room_d e12).2 | simp), trivial⟩ ?_
   try simp
   intros; rfl
  obtain rfl := Option.some.inj h
  refine AW.ret ?_
  refine Left.plain hnb (by simp [Try.f23, resV, resC, comp]; rfl) rfl rfl ?_
  simp
theorem en_claims_Owned : Enters Try.prog 23 := enters Try.func23 (by kernel_rfl) rfl
def l13_ClaimsGiven_sh (n : Nat) (a0 : List Int) (a1 : List Int) (a2 : Int) (a3 : Int) : Option Bool :=
bn (lt (lenI a0) fun v2 =>
lt (gtI v2 60) fun v3 =>
ite' v3 (some (true)) (lt (lenI a1) fun v4 =>
lt (gtI v4 30) fun v5 =>
some (v5))) fun (y1 : Bool) =>
lt (y1) fun v6 =>
ite' v6 (bn (l13_awake_sh n) fun v7 =>
some v7) (bn (l13_Make_sh n a0) fun v8 =>
bn (l2_Make_sh n a1) fun v9 =>
lt (cvI .i64 a2) fun v10 =>
bn (remI .i64 v10 8) fun v11 =>
lt (cvI .i64 a3) fun v12 =>
bn (remI .i64 v12 16384) fun v13 =>
bn (claims_Give_sh n v8 v9 v11 10) fun v14 =>
bn (claims_Of_sh n v14 v13) fun v15 =>
bn (claims_Of_sh n v8 v13) fun v16 =>
bn (bn (r1_Has_sh n v9 v13) fun v18 =>
ite' v18 (lt (neI v15.1 v11) fun v19 =>
ite' v19 (some (true)) (lt (neI v15.2.1 10) fun v20 =>
ite' v20 (some (true)) (lt (notB v15.2.2) fun v21 =>
ite' v21 (some (true)) (bn (r1_Has_sh n v9 v13) fun v22 =>
lt (notB v22) fun v23 =>
ite' v23 (lt (neI v15.1 v16.1) fun v24 =>
ite' v24 (some (true)) (lt (neI v15.2.1 v16.2.1) fun v25 =>
ite' v25 (some (true)) (lt (neB v15.2.2 v16.2.2) fun v26 =>
some (v26)))) (some (false)))))) (bn (r1_Has_sh n v9 v13) fun v27 =>
lt (notB v27) fun v28 =>
ite' v28 (lt (neI v15.1 v16.1) fun v29 =>
ite' v29 (some (true)) (lt (neI v15.2.1 v16.2.1) fun v30 =>
ite' v30 (some (true)) (lt (neB v15.2.2 v16.2.2) fun v31 =>
some (v31)))) (some (false)))) fun (y17 : Bool) =>
lt (y17) fun v32 =>
ite' v32 (some false) (bn (bn (claims_Join_sh n v14 v8) fun v34 =>
bn (r13_SameClaims_sh n v34 v14) fun v35 =>
ite' v35 (bn (claims_Owned_sh n v14 v11) fun v36 =>
bn (r1_Mix_sh n 1 v9 v36) fun v37 =>
lt (lenI v37) fun v38 =>
lt (eqI v38 0) fun v39 =>
ite' v39 (bn (l13_awake_sh n) fun v40 =>
some (v40)) (some (false))) (some (false))) fun (y33 : Bool) =>
some y33))
set_option maxRecDepth 8000 in
set_option maxHeartbeats 8000000 in
theorem s_l13_ClaimsGiven {n : Nat} {a0 : List Int} {a1 : List Int} {a2 : Int} {a3 : Int} {r : Bool} (h : l13_ClaimsGiven_sh n a0 a1 a2 a3 = some r) : Sound Try.prog 5 [.l (.d false 1 (encIu16 a0)), .l (.d false 1 (encIu16 a1)), .l (.s (.int .u8 a2)), .l (.s (.int .u16 a3))] [] (.l (.s (.bool r))) [] := by
 unfold l13_ClaimsGiven_sh at h
 refine Sound.of_aw (fn := Try.f5) (c := _) Try.func5 rfl (by simp [Try.f5]) fun cx hG hnb => ?_
 rw [show Try.f5.ntmps = 111 from rfl]
 have hn0 : cx.nb = 0 := hnb
 simp only [st0_mk, initTm, List.map_cons, List.map_nil]
 apply AW.step
 ·simp
  intros; rfl
 refine AW.seq ?_
 replace h := bnE h; obtain ⟨y1, g1, h⟩ := h
 refine AW.flow (p := fun gh ls => (nP (cx := cx) (fun q => (⟨[(0, .l (.d false 1 (encIu16 a0))), (1, .l (.d false 1 (encIu16 a1))), (2, .l (.s (.int .u8 a2))), (3, .l (.s (.int .u16 a3))), (27, .l (.s (.bool q)))], [], 111, gh, ls⟩ : St))) y1) ?_ ?_
 ·replace h := g1; clear g1
  replace h := ltE h; obtain ⟨v2, e2, h⟩ := h
  replace h := ltE h; obtain ⟨v3, e3, h⟩ := h
  cases v3 with
  | true =>
   replace h := iteT rfl h
   apply AW.last
   ·simp [lenI_cast e2, ← e3]
    intros; rfl
   obtain rfl := Option.some.inj h
   refine nP_i ?_
   refine Weak.mixN [] hn0 (by decide) ?_ ?_ rfl
   all_goals first | (simp [inv_cons, inv_nil, pickOb]; done) | rfl
  | false =>
   replace h := iteF rfl h
   replace h := ltE h; obtain ⟨v4, e4, h⟩ := h
   replace h := ltE h; obtain ⟨v5, e5, h⟩ := h
   apply AW.last
   ·simp [lenI_cast e2, ← e3, lenI_cast e4, ← e5]
    intros; rfl
   obtain rfl := Option.some.inj h
   refine nP_i ?_
   refine Weak.mixN [] hn0 (by decide) ?_ ?_ rfl
   all_goals first | (simp [inv_cons, inv_nil, pickOb]; done) | rfl
 ·rintro e s hp
  obtain ⟨rfl, hw⟩ := hp
  refine ⟨_, hw, ?_⟩
  try simp only [sp_l, sp_r, Post.seq, Post.block, Nat.reduceEqDiff, reduceIte, Nat.zero_ne_one, Nat.one_ne_zero]
  replace h := ltE h; obtain ⟨v6, e6, h⟩ := h
  rw [← e6]
  cases v6 with
  | true =>
   replace h := iteT rfl h
   refine AW.cond_true (by simp) ?_
   replace h := bnE h; obtain ⟨v7, e7, h⟩ := h
   apply AW.step
   ·simp
    intros
    refine xcall_plain en_l13_awake (s_l13_awake e7) rfl trivial ?_
    try simp
    intros; rfl
   obtain rfl := Option.some.inj h
   refine AW.ret ?_
   refine Left.plain hnb (by simp [Try.f5, resV, resC, comp]; rfl) rfl rfl ?_
   simp
  | false =>
   replace h := iteF rfl h
   refine AW.cond_false (by simp) ?_
   refine AW.skip ?_
   try simp only [sp_l, sp_r, Post.seq, Post.block, Nat.reduceEqDiff, reduceIte, Nat.zero_ne_one, Nat.one_ne_zero]
   try simp only [sp_l, sp_r, Post.seq, Post.block, Nat.reduceEqDiff, reduceIte, Nat.zero_ne_one, Nat.one_ne_zero]
   replace h := bnE h; obtain ⟨v8, e8, h⟩ := h
   replace h := bnE h; obtain ⟨v9, e9, h⟩ := h
   apply AW.step
   ·simp
    intros
    refine xcall_plain en_l13_Make (s_l13_Make e8) rfl ⟨.same rfl, trivial⟩ ?_
    try simp
    intros
    refine xcall_plain en_l2_Make (s_l2_Make e9) rfl ⟨.same rfl, trivial⟩ ?_
    try simp
    intros; rfl
   replace h := ltE h; obtain ⟨v10, e10, h⟩ := h
   replace h := bnE h; obtain ⟨v11, e11, h⟩ := h
   replace h := ltE h; obtain ⟨v12, e12, h⟩ := h
   replace h := bnE h; obtain ⟨v13, e13, h⟩ := h
   apply AW.step
   ·simp [← e10, e11, ← e12, e13]
    intros; rfl
   replace h := bnE h; obtain ⟨v14, e14, h⟩ := h
   apply AW.step
   ·simp
    intros
    refine xcall_plain en_claims_Give (s_claims_Give e14) rfl ⟨.same rfl, .same rfl, .same rfl, .same rfl, trivial⟩ ?_
    try simp
    intros; rfl
   replace h := bnE h; obtain ⟨v15, e15, h⟩ := h
   apply AW.step
   ·simp
    intros
    refine xcall_plain en_claims_Of (s_claims_Of e15) rfl ⟨.same rfl, .same rfl, trivial⟩ ?_
    try simp
    intros; rfl
   replace h := bnE h; obtain ⟨v16, e16, h⟩ := h
   apply AW.step
   ·simp
    intros
    refine xcall_plain en_claims_Of (s_claims_Of e16) rfl ⟨.same rfl, .same rfl, trivial⟩ ?_
    try simp
    intros; rfl
   refine AW.seq ?_
   replace h := bnE h; obtain ⟨y17, g17, h⟩ := h
   refine AW.flow (p := fun gh ls => (nP (cx := cx) (fun q => (⟨[(9, .l (.d false 4 (encClaim v8))), (10, .l (.d false 2 (encSpan v9))), (11, .l (.s (.int .i64 v11))), (13, .l (.d false 4 (encClaim v14))), (93, .l (.s (.bool q)))], [], 111, gh, ls⟩ : St))) y17) ?_ ?_
   ·replace h := g17; clear g17
    replace h := bnE h; obtain ⟨v18, e18, h⟩ := h
    cases v18 with
    | true =>
     replace h := iteT rfl h
     replace h := ltE h; obtain ⟨v19, e19, h⟩ := h
     cases v19 with
     | true =>
      replace h := iteT rfl h
      apply AW.last
      ·simp [← e19]
       intros
       refine xcall_plain en_r1_Has (s_r1_Has e18) rfl ⟨.same rfl, .same rfl, trivial⟩ ?_
       try simp [← e19]
       intros; rfl
      obtain rfl := Option.some.inj h
      refine nP_i ?_
      refine Weak.mixN [] hn0 (by decide) ?_ ?_ rfl
      all_goals first | (simp [inv_cons, inv_nil, pickOb]; done) | rfl
     | false =>
      replace h := iteF rfl h
      replace h := ltE h; obtain ⟨v20, e20, h⟩ := h
      cases v20 with
      | true =>
       replace h := iteT rfl h
       apply AW.last
       ·simp [← e19, ← e20]
        intros
        refine xcall_plain en_r1_Has (s_r1_Has e18) rfl ⟨.same rfl, .same rfl, trivial⟩ ?_
        try simp [← e19, ← e20]
        intros; rfl
       obtain rfl := Option.some.inj h
       refine nP_i ?_
       refine Weak.mixN [] hn0 (by decide) ?_ ?_ rfl
       all_goals first | (simp [inv_cons, inv_nil, pickOb]; done) | rfl
      | false =>
       replace h := iteF rfl h
       replace h := ltE h; obtain ⟨v21, e21, h⟩ := h
       cases v21 with
       | true =>
        replace h := iteT rfl h
        apply AW.last
        ·simp [← e19, ← e20, ← e21]
         intros
         refine xcall_plain en_r1_Has (s_r1_Has e18) rfl ⟨.same rfl, .same rfl, trivial⟩ ?_
         try simp [← e19, ← e20, ← e21]
         intros; rfl
        obtain rfl := Option.some.inj h
        refine nP_i ?_
        refine Weak.mixN [] hn0 (by decide) ?_ ?_ rfl
        all_goals first | (simp [inv_cons, inv_nil, pickOb]; done) | rfl
       | false =>
        replace h := iteF rfl h
        replace h := bnE h; obtain ⟨v22, e22, h⟩ := h
        replace h := ltE h; obtain ⟨v23, e23, h⟩ := h
        cases v23 with
        | true =>
         replace h := iteT rfl h
         replace h := ltE h; obtain ⟨v24, e24, h⟩ := h
         cases v24 with
         | true =>
          replace h := iteT rfl h
          apply AW.last
          ·simp [← e19, ← e20, ← e21, ← e23, ← e24]
           intros
           refine xcall_plain en_r1_Has (s_r1_Has e18) rfl ⟨.same rfl, .same rfl, trivial⟩ ?_
           try simp [← e19, ← e20, ← e21, ← e23, ← e24]
           intros
           refine xcall_plain en_r1_Has (s_r1_Has e22) rfl ⟨.same rfl, .same rfl, trivial⟩ ?_
           try simp [← e19, ← e20, ← e21, ← e23, ← e24]
           intros; rfl
          obtain rfl := Option.some.inj h
          refine nP_i ?_
          refine Weak.mixN [] hn0 (by decide) ?_ ?_ rfl
          all_goals first | (simp [inv_cons, inv_nil, pickOb]; done) | rfl
         | false =>
          replace h := iteF rfl h
          replace h := ltE h; obtain ⟨v25, e25, h⟩ := h
          cases v25 with
          | true =>
           replace h := iteT rfl h
           apply AW.last
           ·simp [← e19, ← e20, ← e21, ← e23, ← e24, ← e25]
            intros
            refine xcall_plain en_r1_Has (s_r1_Has e18) rfl ⟨.same rfl, .same rfl, trivial⟩ ?_
            try simp [← e19, ← e20, ← e21, ← e23, ← e24, ← e25]
            intros
            refine xcall_plain en_r1_Has (s_r1_Has e22) rfl ⟨.same rfl, .same rfl, trivial⟩ ?_
            try simp [← e19, ← e20, ← e21, ← e23, ← e24, ← e25]
            intros; rfl
           obtain rfl := Option.some.inj h
           refine nP_i ?_
           refine Weak.mixN [] hn0 (by decide) ?_ ?_ rfl
           all_goals first | (simp [inv_cons, inv_nil, pickOb]; done) | rfl
          | false =>
           replace h := iteF rfl h
           replace h := ltE h; obtain ⟨v26, e26, h⟩ := h
           apply AW.last
           ·simp [← e19, ← e20, ← e21, ← e23, ← e24, ← e25, ← e26]
            intros
            refine xcall_plain en_r1_Has (s_r1_Has e18) rfl ⟨.same rfl, .same rfl, trivial⟩ ?_
            try simp [← e19, ← e20, ← e21, ← e23, ← e24, ← e25, ← e26]
            intros
            refine xcall_plain en_r1_Has (s_r1_Has e22) rfl ⟨.same rfl, .same rfl, trivial⟩ ?_
            try simp [← e19, ← e20, ← e21, ← e23, ← e24, ← e25, ← e26]
            intros; rfl
           obtain rfl := Option.some.inj h
           refine nP_i ?_
           refine Weak.mixN [] hn0 (by decide) ?_ ?_ rfl
           all_goals first | (simp [inv_cons, inv_nil, pickOb]; done) | rfl
        | false =>
         replace h := iteF rfl h
         apply AW.last
         ·simp [← e19, ← e20, ← e21, ← e23]
          intros
          refine xcall_plain en_r1_Has (s_r1_Has e18) rfl ⟨.same rfl, .same rfl, trivial⟩ ?_
          try simp [← e19, ← e20, ← e21, ← e23]
          intros
          refine xcall_plain en_r1_Has (s_r1_Has e22) rfl ⟨.same rfl, .same rfl, trivial⟩ ?_
          try simp [← e19, ← e20, ← e21, ← e23]
          intros; rfl
         obtain rfl := Option.some.inj h
         refine nP_i ?_
         refine Weak.mixN [] hn0 (by decide) ?_ ?_ rfl
         all_goals first | (simp [inv_cons, inv_nil, pickOb]; done) | rfl
    | false =>
     replace h := iteF rfl h
     replace h := bnE h; obtain ⟨v27, e27, h⟩ := h
     replace h := ltE h; obtain ⟨v28, e28, h⟩ := h
     cases v28 with
     | true =>
      replace h := iteT rfl h
      replace h := ltE h; obtain ⟨v29, e29, h⟩ := h
      cases v29 with
      | true =>
       replace h := iteT rfl h
       apply AW.last
       ·simp [← e28, ← e29]
        intros
        refine xcall_plain en_r1_Has (s_r1_Has e18) rfl ⟨.same rfl, .same rfl, trivial⟩ ?_
        try simp [← e28, ← e29]
        intros
        refine xcall_plain en_r1_Has (s_r1_Has e27) rfl ⟨.same rfl, .same rfl, trivial⟩ ?_
        try simp [← e28, ← e29]
        intros; rfl
       obtain rfl := Option.some.inj h
       refine nP_i ?_
       refine Weak.mixN [] hn0 (by decide) ?_ ?_ rfl
       all_goals first | (simp [inv_cons, inv_nil, pickOb]; done) | rfl
      | false =>
       replace h := iteF rfl h
       replace h := ltE h; obtain ⟨v30, e30, h⟩ := h
       cases v30 with
       | true =>
        replace h := iteT rfl h
        apply AW.last
        ·simp [← e28, ← e29, ← e30]
         intros
         refine xcall_plain en_r1_Has (s_r1_Has e18) rfl ⟨.same rfl, .same rfl, trivial⟩ ?_
         try simp [← e28, ← e29, ← e30]
         intros
         refine xcall_plain en_r1_Has (s_r1_Has e27) rfl ⟨.same rfl, .same rfl, trivial⟩ ?_
         try simp [← e28, ← e29, ← e30]
         intros; rfl
        obtain rfl := Option.some.inj h
        refine nP_i ?_
        refine Weak.mixN [] hn0 (by decide) ?_ ?_ rfl
        all_goals first | (simp [inv_cons, inv_nil, pickOb]; done) | rfl
       | false =>
        replace h := iteF rfl h
        replace h := ltE h; obtain ⟨v31, e31, h⟩ := h
        apply AW.last
        ·simp [← e28, ← e29, ← e30, ← e31]
         intros
         refine xcall_plain en_r1_Has (s_r1_Has e18) rfl ⟨.same rfl, .same rfl, trivial⟩ ?_
         try simp [← e28, ← e29, ← e30, ← e31]
         intros
         refine xcall_plain en_r1_Has (s_r1_Has e27) rfl ⟨.same rfl, .same rfl, trivial⟩ ?_
         try simp [← e28, ← e29, ← e30, ← e31]
         intros; rfl
        obtain rfl := Option.some.inj h
        refine nP_i ?_
        refine Weak.mixN [] hn0 (by decide) ?_ ?_ rfl
        all_goals first | (simp [inv_cons, inv_nil, pickOb]; done) | rfl
     | false =>
      replace h := iteF rfl h
      apply AW.last
      ·simp [← e28]
       intros
       refine xcall_plain en_r1_Has (s_r1_Has e18) rfl ⟨.same rfl, .same rfl, trivial⟩ ?_
       try simp [← e28]
       intros
       refine xcall_plain en_r1_Has (s_r1_Has e27) rfl ⟨.same rfl, .same rfl, trivial⟩ ?_
       try simp [← e28]
       intros; rfl
      obtain rfl := Option.some.inj h
      refine nP_i ?_
      refine Weak.mixN [] hn0 (by decide) ?_ ?_ rfl
      all_goals first | (simp [inv_cons, inv_nil, pickOb]; done) | rfl
   ·rintro e s hp
    obtain ⟨rfl, hw⟩ := hp
    refine ⟨_, hw, ?_⟩
    try simp only [sp_l, sp_r, Post.seq, Post.block, Nat.reduceEqDiff, reduceIte, Nat.zero_ne_one, Nat.one_ne_zero]
    replace h := ltE h; obtain ⟨v32, e32, h⟩ := h
    rw [← e32]
    cases v32 with
    | true =>
     replace h := iteT rfl h
     refine AW.cond_true (by simp) ?_
     apply AW.step
     ·simp
      intros; rfl
     obtain rfl := Option.some.inj h
     refine AW.ret ?_
     refine Left.plain hnb (by simp [Try.f5, resV, resC, comp]; rfl) rfl rfl ?_
     simp
    | false =>
     replace h := iteF rfl h
     refine AW.cond_false (by simp) ?_
     refine AW.skip ?_
     try simp only [sp_l, sp_r, Post.seq, Post.block, Nat.reduceEqDiff, reduceIte, Nat.zero_ne_one, Nat.one_ne_zero]
     try simp only [sp_l, sp_r, Post.seq, Post.block, Nat.reduceEqDiff, reduceIte, Nat.zero_ne_one, Nat.one_ne_zero]
     replace h := bnE h; obtain ⟨y33, g33, h⟩ := h
     refine AW.flow (p := fun gh ls => (nP (cx := cx) (fun q => (⟨[(8, .l (.s (.bool q)))], [], 111, gh, ls⟩ : St))) y33) ?_ ?_
     ·replace h := g33; clear g33
      replace h := bnE h; obtain ⟨v34, e34, h⟩ := h
      replace h := bnE h; obtain ⟨v35, e35, h⟩ := h
      cases v35 with
      | true =>
       replace h := iteT rfl h
       replace h := bnE h; obtain ⟨v36, e36, h⟩ := h
       replace h := bnE h; obtain ⟨v37, e37, h⟩ := h
       replace h := ltE h; obtain ⟨v38, e38, h⟩ := h
       replace h := ltE h; obtain ⟨v39, e39, h⟩ := h
       cases v39 with
       | true =>
        replace h := iteT rfl h
        replace h := bnE h; obtain ⟨v40, e40, h⟩ := h
        apply AW.last
        ·simp [lenI_cast e38, ← e39]
         intros
         refine xcall_plain en_claims_Join (s_claims_Join e34) rfl ⟨.same rfl, .same rfl, trivial⟩ ?_
         try simp [lenI_cast e38, ← e39]
         intros
         refine xcall_plain en_r13_SameClaims (s_r13_SameClaims e35) rfl ⟨.same rfl, .same rfl, trivial⟩ ?_
         try simp [lenI_cast e38, ← e39]
         intros
         refine xcall_plain en_claims_Owned (s_claims_Owned e36) rfl ⟨.same rfl, .same rfl, trivial⟩ ?_
         try simp [lenI_cast e38, ← e39]
         intros
         refine xcall_plain en_r1_Mix (s_r1_Mix e37) rfl ⟨.same rfl, .same rfl, .same rfl, trivial⟩ ?_
         try simp [lenI_cast e38, ← e39]
         intros
         refine xcall_plain en_l13_awake (s_l13_awake e40) rfl trivial ?_
         try simp [lenI_cast e38, ← e39]
         intros; rfl
        obtain rfl := Option.some.inj h
        refine nP_i ?_
        refine Weak.mixN [] hn0 (by decide) ?_ ?_ rfl
        all_goals first | (simp [inv_cons, inv_nil, pickOb]; done) | rfl
       | false =>
        replace h := iteF rfl h
        apply AW.last
        ·simp [lenI_cast e38, ← e39]
         intros
         refine xcall_plain en_claims_Join (s_claims_Join e34) rfl ⟨.same rfl, .same rfl, trivial⟩ ?_
         try simp [lenI_cast e38, ← e39]
         intros
         refine xcall_plain en_r13_SameClaims (s_r13_SameClaims e35) rfl ⟨.same rfl, .same rfl, trivial⟩ ?_
         try simp [lenI_cast e38, ← e39]
         intros
         refine xcall_plain en_claims_Owned (s_claims_Owned e36) rfl ⟨.same rfl, .same rfl, trivial⟩ ?_
         try simp [lenI_cast e38, ← e39]
         intros
         refine xcall_plain en_r1_Mix (s_r1_Mix e37) rfl ⟨.same rfl, .same rfl, .same rfl, trivial⟩ ?_
         try simp [lenI_cast e38, ← e39]
         intros; rfl
        obtain rfl := Option.some.inj h
        refine nP_i ?_
        refine Weak.mixN [] hn0 (by decide) ?_ ?_ rfl
        all_goals first | (simp [inv_cons, inv_nil, pickOb]; done) | rfl
      | false =>
       replace h := iteF rfl h
       apply AW.last
       ·simp
        intros
        refine xcall_plain en_claims_Join (s_claims_Join e34) rfl ⟨.same rfl, .same rfl, trivial⟩ ?_
        try simp
        intros
        refine xcall_plain en_r13_SameClaims (s_r13_SameClaims e35) rfl ⟨.same rfl, .same rfl, trivial⟩ ?_
        try simp
        intros; rfl
       obtain rfl := Option.some.inj h
       refine nP_i ?_
       refine Weak.mixN [] hn0 (by decide) ?_ ?_ rfl
       all_goals first | (simp [inv_cons, inv_nil, pickOb]; done) | rfl
     ·rintro e s hp
      obtain ⟨rfl, hw⟩ := hp
      refine ⟨_, hw, ?_⟩
      try simp only [sp_l, sp_r, Post.seq, Post.block, Nat.reduceEqDiff, reduceIte, Nat.zero_ne_one, Nat.one_ne_zero]
      obtain rfl := Option.some.inj h
      refine AW.ret ?_
      refine Left.plain hnb (by simp [Try.f5, resV, resC, comp]; rfl) rfl rfl ?_
      simp
end Go.Proofs.Ythjenkmbbnjcnaa

/- What claims tell of a node's slots; what is given is owned. -/
namespace Go.Proofs.Ythjenkmbbnjcnaa
open Go Go.RowKit
set_option linter.unusedVariables false
set_option linter.unusedSimpArgs false
def minP (a b : List Span) (t : Int) : Prop := inS a t ∧ ¬ inS b t
instance (a b : List Span) (t : Int) : Decidable (minP a b t) := by unfold minP; infer_instance
/-- Minus: what the first list says, and not the second. -/
theorem Minus_ok {a b : List Span} (hl : a.length + b.length ≤ 10000) : Rn (r1_Mix_sh big 1 a b) fun r => FinP (r.map sP) (fS (minP a b)) ∧ r.length ≤ 2 + 2 * (a.length + b.length) := by
  unfold r1_Mix_sh
  refine Rn.bn (marks2_ok (by omega)) fun m hm => ?_
  obtain ⟨s1, s2, s3, s4, s5⟩ := hm
  have hst : Stp m (fS (minP a b)) := by
    refine ⟨fun s hs => ?_, fun s hs => fS_none fun h => ?_⟩
    · have h1 := Stp.inS s2 s3 (fun x hx => s4 x (List.mem_append_left _ hx)) s hs
      have h2 := Stp.inS s2 s3 (fun x hx => s4 x (List.mem_append_right _ hx)) s hs
      unfold fS minP
      simp only [h1, h2]
    · obtain ⟨⟨h1, _⟩, _⟩ := h
      omega
  have hpos : 0 < m.length := List.length_pos_of_mem s2
  refine Rn.bn (P := fun r => FinP (r.map sP) (fS (minP a b)) ∧ r.length ≤ 2 + 2 * (a.length + b.length)) (Rn.iter _ (fun j y => ∃ out : List Span, y = ((j : Int), out) ∧ out.length ≤ j ∧ (∀ x ∈ out, inB x.to) ∧ ∃ h : j < m.length, BdP m[j] (out.map sP) (fS (minP a b))) m.length (by unfold big; omega) ⟨[], rfl, by simp, by simp, hpos, hst.first s1 hpos⟩ fun j y hj hI => ?_) fun r h => Rn.chk (by simp [room]; omega) (Rn.some h)
  obtain ⟨out, rfl, t1, t2, hjm, t3⟩ := hI
  refine Rn.lt (Rn.lt (Rn.lt ?_))
  rw [addI_64 (by omega) (by omega), lenI_eq]
  refine Rn.ite (fun hd => ?_) fun hd => ?_
  · have hj1 : j + 1 < m.length := by
      have := of_decide_eq_true (p := ((j : Int) + 1 < (m.length : Int))) hd
      omega
    have hn0 : nth m (j : Int) = some m[j] := nth_some hjm
    have hn1 : nth m ((j : Int) + 1) = some m[j + 1] := nth_some (i := j + 1) hj1
    have hm0 := s1.2 _ (List.getElem_mem hjm)
    have hm1 := s1.2 _ (List.getElem_mem hj1)
    obtain ⟨g1, g2⟩ := hst.next s1 hj1 t3
    refine Rn.bn (P := fun o => o.length ≤ j + 1 ∧ (∀ x ∈ o, inB x.to) ∧ BdP m[j + 1] (o.map sP) (fS (minP a b))) ?_ fun o ho => Rn.lt (Rn.some ⟨by omega, o, ?_, ho.1, ho.2.1, hj1, ho.2.2⟩)
    · refine Rn.bnE hn0 (Rn.bnE (Has_ok a _ (by omega)) (Rn.bnE (Has_ok b _ (by omega)) (Rn.bn (P := fun y => y.1 = decide (inS a m[j])) (Rn.ite (fun h => Rn.some h.symm) fun h => Rn.some h.symm) fun y12 hy => Rn.bnE (v := decide (minP a b m[j])) ?_ ?_)))
      · rw [hy]
        unfold minP
        by_cases h1 : inS a m[j] <;> by_cases h2 : inS b m[j] <;> simp [h1, h2, lt_eq, eqI, notB, ite_t, ite_f]
      rcases Decidable.em (minP a b m[j]) with hin | hin
      · rw [decide_eq_true hin]
        refine Rn.lt (Rn.ite (fun h => by simp [notB] at h) fun _ => ?_)
        have g3 := g2 () (fS_some hin)
        rcases Decidable.em (out = []) with he | he
        · subst he
          refine Rn.bnE (v := false) rfl (Rn.lt (Rn.ite (fun h => by simp at h) fun _ => Rn.bnE hn0 (Rn.lt ?_)))
          refine Rn.bnE hn1 (Rn.lt (Rn.chk rfl (Rn.lt (Rn.some ⟨by simp, ?_, ?_⟩))))
          · intro x hx
            simp at hx
            subst hx
            simp only [inB]
            rw [subI_64 (by omega) (by omega)]
            omega
          · rw [subI_64 (by omega) (by omega)]
            exact g3
        · obtain ⟨k, x, rfl⟩ : ∃ k x, out = k ++ [x] := ⟨out.dropLast, out.getLast he, (List.dropLast_concat_getLast he).symm⟩
          have hxt := t2 x (by simp)
          unfold inB at hxt
          have el : subI .i64 (lenI (k ++ [x])) 1 = ((k.length : Nat) : Int) := by
            rw [lenI_eq, subI_64 (by omega) (by omega)]
            simp
          have hk : k.length < (k ++ [x]).length := by simp
          have hn : nth (k ++ [x]) ((k.length : Nat) : Int) = some x := by rw [nth_some hk]; simp
          rw [putP_unit rfl] at g3
          refine Rn.bnE (v := eqI x.to (m[j] - 1)) ?_ (Rn.lt (Rn.ite (fun h => ?_) fun h => ?_))
          · simp only [lt_eq]
            rw [gt_t (by rw [lenI_eq]; simp), ite_t, el, hn]
            simp only [bn_some]
            rw [hn0]
            simp only [bn_some]
            rw [subI_64 (by omega) (by omega)]
          · have hx : x.to = m[j] - 1 := of_decide_eq_true h
            rw [if_pos (by omega)] at g3
            refine Rn.lt (Rn.lt (Rn.lt ?_))
            rw [el]
            refine Rn.bnE hn1 (Rn.lt (Rn.bnE hn (Rn.lt (Rn.some ?_))))
            rw [subI_64 (by omega) (by omega), Int.toNat_natCast, List.set_append_right _ _ (by omega), Nat.sub_self]
            refine ⟨by simp at t1 ⊢; omega, ?_, g3⟩
            intro z hz
            rcases List.mem_append.1 hz with hz | hz
            · exact t2 z (by simp [hz])
            · simp at hz
              subst hz
              simp only [inB]
              omega
          · have hx : x.to ≠ m[j] - 1 := of_decide_eq_false h
            rw [if_neg (by omega)] at g3
            refine Rn.bnE hn0 (Rn.lt ?_)
            refine Rn.bnE hn1 (Rn.lt (Rn.chk (by simp [room]; simp at t1; omega) (Rn.lt (Rn.some ?_))))
            rw [subI_64 (by omega) (by omega)]
            refine ⟨by simp at t1 ⊢; omega, ?_, g3⟩
            intro z hz
            rcases List.mem_append.1 hz with hz | hz
            · exact t2 z hz
            · simp at hz
              subst hz
              simp only [inB]
              omega
      · rw [decide_eq_false hin]
        refine Rn.lt (Rn.ite (fun _ => Rn.some ⟨Nat.le_succ_of_le t1, t2, g1 (fS_none hin)⟩) fun h => by simp [notB] at h)
    · rfl
  · have hj1 : m.length ≤ j + 1 := by
      have := of_decide_eq_false (p := ((j : Int) + 1 < (m.length : Int))) hd
      omega
    exact Rn.some ⟨hst.last s1 hjm hj1 t3, show out.length ≤ 2 + 2 * (a.length + b.length) by omega⟩
/-! ### How many claims -/
theorem start_mem {β : Type} {l : List (Int × Int × β)} (h : canP l) {s : Int} {w : β} (h1 : fnP l s = some w) (h2 : fnP l (s - 1) ≠ some w) : ∃ p ∈ l, p.1 = s := by
  induction l with
  | nil => simp [fnP] at h1
  | cons p l ih =>
    rcases Decidable.em (p.1 ≤ s ∧ s ≤ p.2.1) with hc | hc
    · rw [fnP_head hc.1 hc.2] at h1
      rcases Decidable.em (p.1 = s) with e | e
      · exact ⟨p, by simp, e⟩
      · exact absurd (by rw [fnP_head (by omega) (by omega)]; exact h1) h2
    · rw [fnP_out hc] at h1
      rcases Decidable.em (p.1 ≤ s - 1 ∧ s - 1 ≤ p.2.1) with hd | hd
      · -- s is just behind p: it begins a piece of the rest
        have h3 : fnP l (s - 1) ≠ some w := by
          rw [fnP_below h hd.2]
          simp
        obtain ⟨q, hq, e⟩ := ih h.tail h1 h3
        exact ⟨q, by simp [hq], e⟩
      · rw [fnP_out hd] at h2
        obtain ⟨q, hq, e⟩ := ih h.tail h1 h2
        exact ⟨q, by simp [hq], e⟩
theorem piece_start {β : Type} {l : List (Int × Int × β)} (h : canP l) {p : Int × Int × β} (hp : p ∈ l) : fnP l p.1 = some p.2.2 ∧ fnP l (p.1 - 1) ≠ some p.2.2 := by
  refine ⟨(canP_mem h hp).2 _ (Int.le_refl _) (canP_mem h hp).1, ?_⟩
  induction l with
  | nil => simp at hp
  | cons q l ih =>
    rcases List.mem_cons.1 hp with rfl | hp'
    · have := h.head
      rw [fnP_out (by omega), fnP_below h (by omega)]
      simp
    · rcases Decidable.em (q.1 ≤ p.1 - 1 ∧ p.1 - 1 ≤ q.2.1) with hc | hc
      · rw [fnP_head hc.1 hc.2]
        intro e
        have e := Option.some.inj e
        cases l with
        | nil => simp at hp'
        | cons r l =>
          have hqr := h.2.1
          rcases List.mem_cons.1 hp' with rfl | hp2
          · exact h.2.2.1 ⟨by omega, e⟩
          · have h3 := (canP.tail h).lt p hp2
            have h4 := (canP.tail h).head
            omega
      · rw [fnP_out hc]
        exact ih h.tail hp'
theorem nodup_len : ∀ (l m : List Int), l.Pairwise (· ≠ ·) → (∀ x ∈ l, x ∈ m) → l.length ≤ m.length
  | [], m, _, _ => Nat.zero_le _
  | x :: l, m, hn, hs => by
    rw [List.pairwise_cons] at hn
    have hx := hs x (by simp)
    have := nodup_len l (m.erase x) hn.2 fun y hy => (List.mem_erase_of_ne (fun e => hn.1 y hy e.symm)).2 (hs y (by simp [hy]))
    rw [List.length_erase_of_mem hx] at this
    have h0 : 0 < m.length := List.length_pos_of_mem hx
    simp
    omega
theorem canP_starts {β : Type} : ∀ {l : List (Int × Int × β)}, canP l → (l.map fun p => p.1).Pairwise (· ≠ ·)
  | [], _ => List.Pairwise.nil
  | p :: l, h => by
    rw [List.map_cons, List.pairwise_cons]
    refine ⟨fun x hx => ?_, canP_starts h.tail⟩
    obtain ⟨q, hq, rfl⟩ := List.mem_map.1 hx
    have h1 := h.lt q hq
    have h2 := h.head
    omega
/-- A gift begins at most two new claims for each span. -/
theorem give_len {a r : List Claim} {v : List Span} {p : Int → Prop} [DecidablePred p] {w : Int × Int} (ha : GoodC a) (hr : GoodC r) (hv : SaysS v p) (hf : ∀ s, fC r s = giveF (fC a) p w s) : r.length ≤ a.length + 2 * v.length := by
  have h1 := nodup_len ((r.map cP).map fun q => q.1) (a.map (·.frm) ++ (v.map (·.frm) ++ v.map fun x => x.to + 1)) (canP_starts hr.1) fun s hs => ?_
  · simpa [Nat.two_mul] using h1
  · obtain ⟨q, hq, rfl⟩ := List.mem_map.1 hs
    obtain ⟨e1, e2⟩ := piece_start hr.1 hq
    have e1 : fC r q.1 = some q.2.2 := e1
    have e2 : fC r (q.1 - 1) ≠ some q.2.2 := e2
    rw [hf] at e1 e2
    unfold giveF at e1 e2
    generalize q.1 = s at e1 e2
    generalize q.2.2 = u at e1 e2
    rw [List.mem_append, List.mem_append, List.mem_map, List.mem_map, List.mem_map]
    by_cases h3 : p s
    · rw [if_pos h3] at e1
      by_cases h4 : p (s - 1)
      · rw [if_pos h4] at e2
        exact absurd e1 e2
      · refine .inr (.inl ?_)
        have g1 : fnP (v.map sP) s = some () := by rw [hv.2]; exact fS_some h3
        have g2 : fnP (v.map sP) (s - 1) ≠ some () := by rw [hv.2, fS_none h4]; simp
        obtain ⟨x, hx, e⟩ := start_mem hv.1 g1 g2
        obtain ⟨y, hy, rfl⟩ := List.mem_map.1 hx
        exact ⟨y, hy, e⟩
    · rw [if_neg h3] at e1
      by_cases h4 : p (s - 1)
      · -- a span ends just ahead
        refine .inr (.inr ?_)
        obtain ⟨x, hx, g1, g2⟩ := (hv.iff (s - 1)).2 h4
        have g3 : ¬ (x.frm ≤ s ∧ s ≤ x.to) := fun h => h3 ((hv.iff s).1 ⟨x, hx, h⟩)
        exact ⟨x, hx, by omega⟩
      · rw [if_neg h4] at e2
        refine .inl ?_
        obtain ⟨x, hx, e⟩ := start_mem ha.1 e1 e2
        obtain ⟨y, hy, rfl⟩ := List.mem_map.1 hx
        exact ⟨y, hy, e⟩
theorem Give13_good {a : List Claim} {l : List Span} {nd ep : Int} (ha : GoodC a) (hl : SortableS l) (h1 : 0 ≤ nd) (h2 : 1 ≤ ep) :
    Rn (r13_Give_sh big a l nd ep) fun r => GoodC r ∧ (∀ s, fC r s = giveF (fC a) (inS l) (nd, ep) s) ∧ r.length ≤ a.length + 2 * l.length := by
  refine (Give13_ok ha (by have := hl.1; omega) h1 h2).mono fun r hr => ?_
  have hg := hr.good (giveF_tells ha.tells inS_rng h1 h2)
  obtain ⟨v, -, h3, h4⟩ := normP_ok hl
  have := give_len ha hg h3 fun s => hr.2 s
  exact ⟨hg, fun s => hr.2 s, by omega⟩
/-- Claims by numbers: few, of four nodes, since six epochs. -/
structure Made (a : List Claim) (n : Nat) : Prop where
  good : GoodC a
  few : a.length ≤ n
  low : ∀ s v, fC a s = some v → v.1 ≤ 3 ∧ v.2 ≤ 6
theorem Make_ok2 {ns : List Int} (hn : rngH ns) (hl : ns.length ≤ 60) : Rn (l13_Make_sh big ns) fun r => Made r 30 := by
  unfold l13_Make_sh
  refine Rn.bn (P := fun r => Made r 30) (Rn.iter _ (fun j a => ∃ r : List Claim, a = (r, ((4 * j : Nat) : Int)) ∧ Made r (2 * j) ∧ 4 * j ≤ ns.length) 100 (by unfold big; omega) ⟨[], rfl, ⟨⟨trivial, fun c hc => by simp at hc⟩, by simp, fun s v h => by simp [fC, fnP] at h⟩, by omega⟩ fun j a hj hI => ?_) fun r hr => Rn.some hr
  obtain ⟨r, rfl, r1, r2⟩ := hI
  refine Rn.bn (P := fun y => y = true → 4 * j + 3 < ns.length) ?_ fun y hy => Rn.lt (Rn.ite (fun hd => ?_) fun hd => Rn.some ⟨r1.good, by have := r1.few; show r.length ≤ 30; omega, r1.low⟩)
  · refine Rn.lt (Rn.lt (Rn.lt ?_))
    simp only
    rw [addI_64 (by omega) (by omega)]
    refine Rn.ite (fun hd => Rn.lt (Rn.some fun _ => ?_)) fun hd => Rn.some (by simp)
    have := of_decide_eq_true (p := (((4 * j : Nat) : Int) + 3 < (ns.length : Int))) hd
    omega
  · have hjl := hy hd
    refine Rn.lt ?_
    have e1 : addI .i64 ((4 * j : Nat) : Int) 2 = ((4 * j + 2 : Nat) : Int) := by rw [addI_64 (by omega) (by omega)]; omega
    have e2 : addI .i64 ((4 * j : Nat) : Int) 3 = ((4 * j + 3 : Nat) : Int) := by rw [addI_64 (by omega) (by omega)]; omega
    have e3 : addI .i64 ((4 * j : Nat) : Int) 4 = ((4 * (j + 1) : Nat) : Int) := by rw [addI_64 (by omega) (by omega)]; omega
    simp only
    rw [e1, e2, e3, seglh_nat (show 4 * j ≤ 4 * j + 2 by omega) (by omega)]
    refine Rn.bnE rfl (Rn.bn (l2Make_ok (fun x hx => hn x (List.mem_of_mem_drop (List.mem_of_mem_take hx))) (by simp; omega)) fun s hs => ?_)
    have h2 := hn _ (List.getElem_mem (show 4 * j + 2 < ns.length by omega))
    have h3 := hn _ (List.getElem_mem hjl)
    refine Rn.bnE (nth_some (show 4 * j + 2 < ns.length by omega)) (Rn.lt ?_)
    rw [cvI_64 (by omega) (by omega)]
    refine Rn.bnE (vrem h2.1 (by omega)) (Rn.lt (Rn.bnE (nth_some hjl) (Rn.lt ?_)))
    rw [cvI_64 (by omega) (by omega)]
    refine Rn.bnE (vrem h3.1 (by omega)) (Rn.lt ?_)
    rw [addI_64 (by omega) (by omega)]
    simp at hs
    refine Rn.bn (Give13_good r1.good ⟨by omega, .inl (by unfold sortMost; omega)⟩ (by omega) (by omega)) fun g hg => Rn.lt (Rn.some ⟨by omega, g, rfl, ⟨hg.1, by have := hg.2.2; have := r1.few; omega, fun s v h => ?_⟩, by omega⟩)
    rw [hg.2.1] at h
    unfold giveF at h
    split at h
    · have := Option.some.inj h
      subst this
      exact ⟨by simp only; omega, by simp only; omega⟩
    · exact r1.low s v h
theorem OfP_ok (l : List Claim) (s : Int) (hl : l.length ≤ 1000000) : claims_Of_sh big l s = some (match fC l s with | some v => (v.1, v.2, true) | none => (0, 0, false)) := by
  refine Rn.eqv ?_
  unfold claims_Of_sh
  refine Rn.lt (Rn.bn (P := fun y => y = match fC l s with | some v => .inr (v.1, v.2, true) | none => .inl ()) (Rn.iter _ (fun j a => a = (j : Int) ∧ fC l s = fC (l.drop j) s) l.length (by unfold big; omega) ⟨rfl, by simp⟩ fun j a hj hI => ?_) fun y hy => ?_)
  · obtain ⟨rfl, hI⟩ := hI
    refine Rn.lt (Rn.ite (fun hd => ?_) fun hd => ?_)
    · have hjl : j < l.length := by
        have := of_decide_eq_true (p := ((j : Int) < (l.length : Int))) hd
        omega
      have hnth := nth_some hjl
      rw [List.drop_eq_getElem_cons hjl] at hI
      generalize l[j] = c at hI hnth
      refine Rn.bnE hnth ?_
      rcases Decidable.em (c.frm ≤ s ∧ s ≤ c.to) with hc | hc
      · refine Rn.bnE (v := true) ?_ (Rn.lt (Rn.ite (fun _ => Rn.some ?_) (fun h => by simp at h)))
        · simp only [lt_eq]
          rw [le_t hc.1, ite_t, le_t hc.2]
        · rw [hI, show fC (c :: List.drop (j + 1) l) s = some (c.node, c.epoch) from fnP_head (p := cP c) hc.1 hc.2]
      · refine Rn.bnE (v := false) ?_ (Rn.lt (Rn.ite (fun h => by simp at h) fun _ => Rn.lt (Rn.some ⟨hjl, ?_, ?_⟩)))
        · simp only [lt_eq]
          rcases Decidable.em (c.frm ≤ s) with h1 | h1
          · rw [le_t h1, ite_t, le_f (by omega)]
          · rw [le_f (by omega), ite_f]
        · rw [addI_64 (by omega) (by omega)]
          rfl
        · rw [hI]
          exact fnP_out (p := cP c) hc
    · have hjl : j = l.length := by
        have := of_decide_eq_false (p := ((j : Int) < (l.length : Int))) hd
        omega
      subst hjl
      rw [List.drop_length] at hI
      refine Rn.some ?_
      rw [hI]
      rfl
  · subst hy
    cases fC l s with
    | some v => exact Rn.some rfl
    | none => exact Rn.some rfl
/-! ### A node's slots -/
def ownP (f : Int → Option (Int × Int)) (nd : Int) (s : Int) : Prop := (f s).map (·.1) = some nd
instance (f : Int → Option (Int × Int)) (nd s : Int) : Decidable (ownP f nd s) := by unfold ownP; infer_instance
theorem GoodC.iff {l : List Claim} (h : GoodC l) (s : Int) (v : Int × Int) : fC l s = some v ↔ ∃ c ∈ l, (c.frm ≤ s ∧ s ≤ c.to) ∧ (c.node, c.epoch) = v := by
  constructor
  · intro hv
    have key : ∀ l : List Claim, fC l s = some v → ∃ c ∈ l, (c.frm ≤ s ∧ s ≤ c.to) ∧ (c.node, c.epoch) = v := by
      intro l
      induction l with
      | nil => intro h; simp [fC, fnP] at h
      | cons c l ih =>
        intro hf
        rcases Decidable.em (c.frm ≤ s ∧ s ≤ c.to) with h1 | h1
        · have : fC (c :: l) s = some (c.node, c.epoch) := fnP_head (p := cP c) h1.1 h1.2
          rw [this] at hf
          exact ⟨c, by simp, h1, Option.some.inj hf⟩
        · have : fC (c :: l) s = fC l s := fnP_out (p := cP c) h1
          rw [this] at hf
          obtain ⟨x, hx, h2⟩ := ih hf
          exact ⟨x, by simp [hx], h2⟩
    exact key l hv
  · rintro ⟨c, hc, h1, rfl⟩
    exact (canP_mem h.1 (List.mem_map_of_mem hc)).2 s h1.1 h1.2
theorem GoodC.rises {l : List Claim} (h : GoodC l) : l.Pairwise fun x y => x.frm ≤ y.frm := by
  have : ∀ l : List Claim, canP (l.map cP) → l.Pairwise fun x y => x.frm ≤ y.frm := by
    intro l
    induction l with
    | nil => intro _; exact List.Pairwise.nil
    | cons c l ih =>
      intro hc
      rw [List.pairwise_cons]
      refine ⟨fun y hy => ?_, ih (canP.tail (p := cP c) hc)⟩
      have h1 : c.to < y.frm := canP.lt (p := cP c) hc (cP y) (List.mem_map_of_mem hy)
      have h2 : c.frm ≤ c.to := canP.head (p := cP c) hc
      omega
  exact this l h.1
theorem normT : @spans_Norm_t_sh = @spans_Norm_sh := rfl
theorem Owned_ok {l : List Claim} {nd : Int} (hl : GoodC l) (h200 : l.length ≤ 200) : Rn (claims_Owned_sh big l nd) fun r => SaysS r (ownP (fC l) nd) ∧ r.length ≤ l.length := by
  unfold claims_Owned_sh
  refine Rn.lt (Rn.bn (P := fun r => Rises r ∧ r.length ≤ l.length ∧ ∀ t, (∃ x ∈ r, x.frm ≤ t ∧ t ≤ x.to) ↔ ∃ c ∈ l, (c.frm ≤ t ∧ t ≤ c.to) ∧ c.node = nd) (Rn.iter _ (fun j y => ∃ r : List Span, y = ((j : Int), r) ∧ Rises r ∧ r.length ≤ j ∧ (∀ x ∈ r, ∃ c ∈ l.take j, x.frm = c.frm) ∧ ∀ t, (∃ x ∈ r, x.frm ≤ t ∧ t ≤ x.to) ↔ ∃ c ∈ l.take j, (c.frm ≤ t ∧ t ≤ c.to) ∧ c.node = nd) l.length (by unfold big; omega) ⟨[], rfl, List.Pairwise.nil, by simp, by simp, by simp⟩ fun j y hj hI => ?_) fun r hr => ?_)
  · obtain ⟨r, rfl, r1, r2, r3, r4⟩ := hI
    refine Rn.lt (Rn.ite (fun hd => ?_) fun hd => ?_)
    · have hjl : j < l.length := by
        have := of_decide_eq_true (p := ((j : Int) < (l.length : Int))) hd
        omega
      have hnth := nth_some hjl
      have htk : l.take (j + 1) = l.take j ++ [l[j]] := (List.take_append_getElem hjl).symm
      have hbef : ∀ y ∈ l.take j, y.frm ≤ l[j].frm := by
        intro y hy
        obtain ⟨i, hi, rfl⟩ := List.mem_take_iff_getElem.1 hy
        exact List.pairwise_iff_getElem.1 hl.rises i j (by omega) hjl (by omega)
      generalize l[j] = c at hnth htk hbef
      refine Rn.bn (P := fun r' => Rises r' ∧ r'.length ≤ j + 1 ∧ (∀ x ∈ r', ∃ c ∈ l.take (j + 1), x.frm = c.frm) ∧ ∀ t, (∃ x ∈ r', x.frm ≤ t ∧ t ≤ x.to) ↔ ∃ c ∈ l.take (j + 1), (c.frm ≤ t ∧ t ≤ c.to) ∧ c.node = nd) ?_ fun r' hr' => Rn.lt (Rn.some ⟨hjl, r', ?_, hr'⟩)
      · refine Rn.bnE hnth (Rn.lt (Rn.ite (fun hc => Rn.chk (by simp [room]; omega) (Rn.lt (Rn.some ⟨?_, by simp; omega, fun x hx => ?_, fun t => ?_⟩))) fun hc => Rn.some ⟨r1, Nat.le_succ_of_le r2, fun x hx => ?_, fun t => ?_⟩))
        · refine List.pairwise_append.2 ⟨r1, List.pairwise_singleton _ _, fun u hu w hw => ?_⟩
          simp at hw
          subst hw
          obtain ⟨y, hy, e⟩ := r3 u hu
          have := hbef y hy
          simp only
          omega
        · rw [htk]
          rcases List.mem_append.1 hx with hx | hx
          · obtain ⟨y, hy, e⟩ := r3 x hx
            exact ⟨y, by simp [hy], e⟩
          · simp at hx
            subst hx
            exact ⟨c, by simp, rfl⟩
        · have hn : c.node = nd := of_decide_eq_true hc
          rw [htk]
          constructor
          · rintro ⟨x, hx, h⟩
            rcases List.mem_append.1 hx with hx | hx
            · obtain ⟨y, hy, h2⟩ := (r4 t).1 ⟨x, hx, h⟩
              exact ⟨y, by simp [hy], h2⟩
            · simp at hx
              subst hx
              exact ⟨c, by simp, h, hn⟩
          · rintro ⟨y, hy, h, h2⟩
            rcases List.mem_append.1 hy with hy | hy
            · obtain ⟨x, hx, h3⟩ := (r4 t).2 ⟨y, hy, h, h2⟩
              exact ⟨x, by simp [hx], h3⟩
            · simp at hy
              subst hy
              exact ⟨⟨y.frm, y.to⟩, by simp, h⟩
        · obtain ⟨y, hy, e⟩ := r3 x hx
          exact ⟨y, by rw [htk]; simp [hy], e⟩
        · have hn : c.node ≠ nd := of_decide_eq_false hc
          rw [r4 t, htk]
          constructor
          · rintro ⟨y, hy, h⟩
            exact ⟨y, by simp [hy], h⟩
          · rintro ⟨y, hy, h, h2⟩
            rcases List.mem_append.1 hy with hy | hy
            · exact ⟨y, hy, h, h2⟩
            · simp at hy
              subst hy
              exact absurd h2 hn
      · rw [addI_64 (by first | omega | (simp only; omega)) (by first | omega | (simp only; omega))]
        rfl
    · have hjl : j = l.length := by
        have := of_decide_eq_false (p := ((j : Int) < (l.length : Int))) hd
        omega
      subst hjl
      rw [List.take_length] at r4
      exact Rn.some ⟨r1, r2, r4⟩
  · obtain ⟨r1, r2, r3⟩ := hr
    refine Rn.chk (by simp [room]; omega) ?_
    rw [normT]
    refine Rn.bn (normP_ok ⟨by omega, .inr r1⟩) fun v hv => Rn.some ⟨?_, by omega⟩
    refine SaysS.of hv.1.1 fun t => ?_
    rw [hv.1.iff]
    unfold inS ownP
    rw [r3 t]
    constructor
    · rintro ⟨h1, c, hc, h2, h3⟩
      rw [(hl.iff t _).2 ⟨c, hc, h2, rfl⟩, ← h3]
      rfl
    · intro h
      cases hf : fC l t with
      | none => rw [hf] at h; simp at h
      | some w =>
        rw [hf] at h
        obtain ⟨c, hc, h2, rfl⟩ := (hl.iff t w).1 hf
        have := (hl.tells t _ hf).1
        exact ⟨by omega, c, hc, h2, by simpa using h⟩
theorem SaysS.empty {l : List Span} {p : Int → Prop} [DecidablePred p] (h : SaysS l p) (hp : ∀ t, ¬ p t) : l = [] := by
  cases l with
  | nil => rfl
  | cons x l => exact absurd ((h.iff x.frm).1 ⟨x, by simp, Int.le_refl _, h.1.head⟩) (hp _)
theorem ClaimsGiven_ok (ns ss : List Int) (nd sl : Int) (h1 : rngH ns) (h2 : rngH ss) (h3 : 0 ≤ nd ∧ nd ≤ 255) (h4 : 0 ≤ sl ∧ sl ≤ 65535) : l13_ClaimsGiven_sh big ns ss nd sl = some true := by
  refine Rn.eqv ?_
  unfold l13_ClaimsGiven_sh
  refine Rn.bn (P := fun y => y = false → ns.length ≤ 60 ∧ ss.length ≤ 30) ?_ fun y hy => Rn.lt (Rn.ite (fun _ => Rn.bnE awake13_ok (Rn.some rfl)) fun hf => ?_)
  · refine Rn.lt (Rn.lt (Rn.ite (fun h => Rn.some (by simp)) fun a1 => Rn.lt (Rn.lt (Rn.some fun a2 => ?_))))
    have b1 := of_decide_eq_false (p := (60 : Int) < (ns.length : Int)) a1
    have b2 := of_decide_eq_false (p := (30 : Int) < (ss.length : Int)) a2
    omega
  obtain ⟨l1, l2⟩ := hy hf
  refine Rn.bn (Make_ok2 h1 l1) fun a ha => Rn.bn (l2Make_ok h2 (by omega)) fun s hs => Rn.lt ?_
  have hss : SortableS s := ⟨by omega, .inl (by unfold sortMost; omega)⟩
  rw [cvI_64 (by omega) (by omega), cvI_64 (show -9223372036854775808 ≤ sl by omega) (by omega)]
  refine Rn.bnE (vrem h3.1 (by omega)) (Rn.lt (Rn.bnE (vrem h4.1 (by omega)) ?_))
  obtain ⟨n, en⟩ : ∃ n, n = nd % 8 := ⟨_, rfl⟩
  obtain ⟨k, ek⟩ : ∃ k, k = sl % 16384 := ⟨_, rfl⟩
  rw [← en, ← ek]
  refine Rn.bn (GiveP_good ha.good hss (show 0 ≤ n by omega) (show (1 : Int) ≤ 10 by omega)) fun g hg => ?_
  obtain ⟨gg, fg⟩ := hg
  have hglen := gg.len
  have halen := ha.good.len
  have hga : g.length ≤ 60 := by
    obtain ⟨v, -, q1, q2⟩ := normP_ok hss
    have := give_len ha.good gg q1 fg
    have := ha.few
    omega
  refine Rn.bnE (OfP_ok g k (by omega)) (Rn.bnE (OfP_ok a k (by omega)) ?_)
  have hH := Has_ok s k (by omega)
  refine Rn.bnE (v := false) ?_ (Rn.lt (Rn.ite (fun h => by simp at h) fun _ => ?_))
  · rw [hH, fg k]
    unfold giveF
    by_cases hin : inS s k
    · rw [decide_eq_true hin, if_pos hin]
      simp [bn_some, lt_eq, ite_t, ite_f, neI, notB]
    · rw [decide_eq_false hin, if_neg hin]
      simp [bn_some, lt_eq, ite_t, ite_f, neI, notB, neB]
  · refine Rn.bn (P := fun y => y = true) ?_ fun y hy => Rn.some hy
    refine Rn.bn (Join_good gg ha.good) fun j hj => Rn.bnE (Same_ok hj.1 gg fun t => ?_) (Rn.ite (fun _ => ?_) fun h => by simp at h)
    · rw [hj.2, fg t]
      unfold giveF
      split
      · unfold joinV
        rw [if_pos]
        cases hf : fC a t with
        | none => exact .inl (show (0 : Int) < 10 by omega)
        | some v =>
          have := ha.low t v hf
          exact .inl (show v.2 < 10 by omega)
      · exact joinV_self (ha.good.tells.okV t)
    · refine Rn.bn (Owned_ok gg (by omega)) fun o ho => Rn.bn (Minus_ok (by have := ho.2; omega)) fun m hm => ?_
      have hm1 : SaysS m (minP s o) := hm.1
      have hnil : m = [] := hm1.empty fun t ht => by
        obtain ⟨t1, t2⟩ := ht
        refine t2 ((ho.1.inS (fun u hu => ?_) t).2 ?_)
        · unfold ownP at hu
          cases hf : fC g u with
          | none => rw [hf] at hu; simp at hu
          | some w => exact (gg.tells u w hf).1
        · unfold ownP
          rw [fg t]
          unfold giveF
          rw [if_pos t1]
          rfl
      subst hnil
      refine Rn.lt (Rn.lt ?_)
      rw [show eqI (lenI ([] : List Span)) 0 = true from rfl]
      exact Rn.ite (fun _ => Rn.bnE awake13_ok (Rn.some rfl)) fun h => by simp at h
end Go.Proofs.Ythjenkmbbnjcnaa

/- What is read as data of the program's structs. -/
namespace Go.Proofs.Ythjenkmbbnjcnaa
open Go Go.RowKit
set_option linter.unusedVariables false
set_option linter.unusedSimpArgs false
set_option linter.constructorNameAsVariable false
set_option maxRecDepth 100000
section
variable {P : Program} {n t : Nat} {ts : List T}
theorem WfT.bool (hu : P.underlying t = some .bool) (h : WfT P (n + 1) t ts) : ∃ b, ts = [.v (.bool b)] := by rw [WfT, hu] at h; exact h
theorem WfT.int {k : IntKind} (hu : P.underlying t = some (.int k)) (h : WfT P (n + 1) t ts) : ∃ i, ts = [.v (.int k i)] ∧ (Lit.int k i).wf = true := by rw [WfT, hu] at h; exact h
theorem WfT.slice {e : Nat} (hu : P.underlying t = some (.slice e)) (h : WfT P (n + 1) t ts) : ∃ es, ts = [.sl (P.cellsOf e) es] ∧ es.length * P.bytesOf e ≤ reachBytes ∧ ∀ x ∈ es, WfT P n e x := by rw [WfT, hu] at h; exact h
theorem WfT.struct {fs : Array Go.Field} (hu : P.underlying t = some (.struct fs)) (h : WfT P (n + 1) t ts) : ∃ ps : List (List T), ts = ps.flatten ∧ All2 (fun p f => WfT P n f p) ps (fs.toList.map (·.type)) := by rw [WfT, hu] at h; exact h
end
theorem All2.cons_r {α β : Type} {R : α → β → Prop} {l : List α} {b : β} {bs : List β} (h : All2 R l (b :: bs)) : ∃ x xs, l = x :: xs ∧ R x b ∧ All2 R xs bs := by
  cases l with
  | nil => exact h.elim
  | cons x xs => exact ⟨x, xs, rfl, h⟩
theorem All2.nil_r {α β : Type} {R : α → β → Prop} {l : List α} (h : All2 R l ([] : List β)) : l = [] := by
  cases l with
  | nil => rfl
  | cons x xs => exact h.elim
def rngI (i : Int) : Prop := -9223372036854775808 ≤ i ∧ i ≤ 9223372036854775807
theorem wf_list {α : Type} {enc : List α → List (List T)} {R : List T → Prop} {rng : α → Prop} (hn : enc [] = []) (hc : ∀ x l, enc (x :: l) = enc [x] ++ enc l) (h1 : ∀ e, R e → ∃ x, enc [x] = [e] ∧ rng x) :
    ∀ es, (∀ x ∈ es, R x) → ∃ l, es = enc l ∧ ∀ x ∈ l, rng x
  | [], _ => ⟨[], hn.symm, fun x h => by cases h⟩
  | e :: es, h => by
    obtain ⟨x, hx, rx⟩ := h1 e (h e (by simp))
    obtain ⟨l, rfl, rl⟩ := wf_list hn hc h1 es fun y hy => h y (by simp [hy])
    refine ⟨x :: l, by rw [hc, hx]; rfl, ?_⟩
    intro y hy
    rcases List.mem_cons.1 hy with rfl | hy
    · exact rx
    · exact rl y hy
/-- Bytes. -/
def rngU (i : Int) : Prop := 0 ≤ i ∧ i ≤ 255
theorem wf_rngU {i : Int} (h : (Lit.int .u8 i).wf = true) : rngU i := by
  have h' := (Bool.and_eq_true _ _ ▸ h : _ ∧ _)
  exact ⟨of_decide_eq_true h'.1, of_decide_eq_true h'.2⟩
def rngField (x : Field) : Prop := True
def rngItem (x : Item) : Prop := (rngI x.kind) ∧ (x.f.length ≤ 4398046510976 ∧ ∀ y ∈ x.f, rngField y) ∧ (x.l.length ≤ 8796093021952) ∧ (rngI x.exp)
def rngPair (x : Pair) : Prop := (rngItem x.item)
def rngEffect (x : Effect) : Prop := (rngItem x.item)
def rngRid (x : Rid) : Prop := (rngI x.node) ∧ (rngI x.epoch)
def rngFeed (x : Feed) : Prop := (rngRid x.rid) ∧ (rngI x.off) ∧ (x.back.length ≤ 1353245080300 ∧ ∀ y ∈ x.back, rngEffect y) ∧ (rngRid x.prev) ∧ (rngI x.upto)
def rngClaim (x : Claim) : Prop := (rngI x.frm) ∧ (rngI x.to) ∧ (rngI x.node) ∧ (rngI x.epoch)
def rngMsg (x : Msg) : Prop := (rngI x.kind) ∧ (rngI x.frm) ∧ (rngI x.to) ∧ (rngI x.epoch) ∧ (x.claims.length ≤ 4398046510976 ∧ ∀ y ∈ x.claims, rngClaim y) ∧ (x.nodes.length ≤ 17592186043904 ∧ ∀ y ∈ x.nodes, rngI y) ∧ (rngI x.node) ∧ (rngI x.slot) ∧ (rngI x.num) ∧ (rngRid x.rid) ∧ (rngRid x.prev) ∧ (rngI x.off) ∧ (x.effects.length ≤ 1353245080300 ∧ ∀ y ∈ x.effects, rngEffect y)
end Go.Proofs.Ythjenkmbbnjcnaa

/- What all rows need. -/
namespace Go.Proofs.Ythjenkmbbnjcnaa
open Go Go.RowKit
open Go.ChangeShapes Go.WideShapes Go.ChangeAt Go.RowKit
theorem Try.own : ownKnob Try.prog.godebug = none := by kernel_rfl
theorem Try.laidOut : laidOutB Try.prog = true := by kernel_rfl
end Go.Proofs.Ythjenkmbbnjcnaa

/- Lists of numbers of 16 bits, and of booleans, read as data. -/
namespace Go.Proofs.Ythjenkmbbnjcnaa
open Go Go.RowKit
set_option linter.unusedVariables false
set_option linter.unusedSimpArgs false
set_option linter.constructorNameAsVariable false
set_option maxRecDepth 100000
def rngH1 (i : Int) : Prop := 0 ≤ i ∧ i ≤ 65535
theorem wf_rngH {i : Int} (h : (Lit.int .u16 i).wf = true) : rngH1 i := by
  have h' := (Bool.and_eq_true _ _ ▸ h : _ ∧ _)
  exact ⟨of_decide_eq_true h'.1, of_decide_eq_true h'.2⟩
theorem wf_H (n : Nat) (e : List T) (h : WfT Try.prog (n + 1) 33 e) : ∃ x : Int, encIu16 [x] = [e] ∧ rngH1 x := by
  obtain ⟨f, rfl, h2⟩ := WfT.int (t := 33) Try.underlying33 h
  have h' := (Bool.and_eq_true _ _ ▸ h2 : _ ∧ _)
  have h1 := of_decide_eq_true h'.1
  have h2 := of_decide_eq_true h'.2
  exact ⟨f, rfl, h1, h2⟩
theorem wf_Hs {n : Nat} {es : List (List T)} (h : ∀ x ∈ es, WfT Try.prog (n + 1) 33 x) : ∃ l : List Int, es = encIu16 l ∧ ∀ x ∈ l, rngH1 x :=
  wf_list (enc := encIu16) (R := fun e => WfT Try.prog (n + 1) 33 e) (rng := rngH1) rfl (fun _ _ => rfl) (@wf_H n) es h
end Go.Proofs.Ythjenkmbbnjcnaa

