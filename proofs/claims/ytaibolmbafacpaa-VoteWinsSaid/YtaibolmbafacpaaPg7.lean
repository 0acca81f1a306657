/- Part 7 of the proof. -/
import Derived.Test.YtaibolmbafacpaaPg6
import Derived.Test.YtaibolmbafacpaaRows
import Derived.ProofKit
/- Walks, printed: r13_SameClaims, l18_VoteWins, l18_VoteApart -/
namespace Go.Proofs.Ytaibolmbafacpaa
open Go Go.RowKit
set_option linter.unusedVariables false
set_option linter.unusedSimpArgs false
def r13_SameClaims_sh (n : Nat) (a0 : List Claim) (a1 : List Claim) : Option Bool :=
lt (lenI a0) fun v1 =>
lt (lenI a1) fun v2 =>
lt (neI v1 v2) fun v3 =>
ite' v3 (some false) (bn (iter n (fun (y4 : Int) =>
lt (lenI a0) fun v7 =>
lt (ltI y4 v7) fun v8 =>
ite' v8 (bn (nth a0 y4) fun v9 =>
bn (nth a1 y4) fun v10 =>
lt (notB (andB (eqI v9.frm v10.frm) (andB (eqI v9.to v10.to) (andB (eqI v9.node v10.node) (andB (eqI v9.epoch v10.epoch) true))))) fun v11 =>
ite' v11 (some (.inr (.inr false))) (lt (addI .i64 y4 1) fun v12 =>
some (.inl v12))) (some (.inr (.inl ())))) 0) fun (y5 : Unit ⊕ Bool) =>
sm y5 (fun y13 => some true) (fun y14 => some y14))
set_option maxRecDepth 8000 in
set_option maxHeartbeats 8000000 in
theorem s_r13_SameClaims {n : Nat} {a0 : List Claim} {a1 : List Claim} {r : Bool} (h : r13_SameClaims_sh n a0 a1 = some r) : Sound Try.prog 16 [.l (.d false 4 (encClaim a0)), .l (.d false 4 (encClaim a1))] [] (.l (.s (.bool r))) [] := by
 unfold r13_SameClaims_sh at h
 refine Sound.of_aw (fn := Try.f16) (c := _) Try.func16 rfl (by simp [Try.f16]) fun cx hG hnb => ?_
 rw [show Try.f16.ntmps = 26 from rfl]
 have hn0 : cx.nb = 0 := hnb
 simp only [st0_mk, initTm, List.map_cons, List.map_nil]
 apply AW.step
 ·simp
  intros; rfl
 refine AW.seq ?_
 replace h := ltE h; obtain ⟨v1, e1, h⟩ := h
 replace h := ltE h; obtain ⟨v2, e2, h⟩ := h
 replace h := ltE h; obtain ⟨v3, e3, h⟩ := h
 apply AW.step
 ·simp [lenI_cast e1, lenI_cast e2, ← e3]
  intros; rfl
 cases v3 with
 | true =>
  replace h := iteT rfl h
  refine AW.cond_true (by simp) ?_
  apply AW.step
  ·simp
   intros; rfl
  obtain rfl := Option.some.inj h
  refine AW.ret ?_
  refine Left.plain hnb (by simp [Try.f16, resV, resC, comp]; rfl) rfl rfl ?_
  simp
 | false =>
  replace h := iteF rfl h
  refine AW.cond_false (by simp) ?_
  refine AW.skip ?_
  try simp only [sp_l, sp_r, Post.seq, Post.block, Nat.reduceEqDiff, reduceIte, Nat.zero_ne_one, Nat.one_ne_zero]
  try simp only [sp_l, sp_r, Post.seq, Post.block, Nat.reduceEqDiff, reduceIte, Nat.zero_ne_one, Nat.one_ne_zero]
  refine AW.seq ?_
  apply AW.step
  ·simp
   intros; rfl
  refine AW.block ?_
  replace h := bnE h; obtain ⟨y5, g5, h⟩ := h
  refine AW.iterP g5 (mk := fun gh ls q => (⟨[(0, .l (.d false 4 (encClaim a0))), (1, .l (.d false 4 (encClaim a1))), (5, .l (.s (.int .i64 q)))], [], 26, gh, ls⟩ : St)) (N := fun gh ls => (sp (xP 0 (cx := cx) (fun _ => (⟨[], [], 26, gh, ls⟩ : St))) (rP (cx := cx) (P := Try.prog) Try.f16 (fun q => .l (.s (.bool q))) (fun q => [])))) ?_ (noS noX noR) ?_ ?_
  ·refine Weak.mixN [] hn0 (by decide) ?_ ?_ rfl
   all_goals first | (simp [inv_cons, inv_nil, pickOb]; done) | rfl
  ·clear h; intro y4 y6 h
   refine AW.seq ?_
   replace h := ltE h; obtain ⟨v7, e7, h⟩ := h
   replace h := ltE h; obtain ⟨v8, e8, h⟩ := h
   apply AW.step
   ·simp [lenI_cast e7, ← e8]
    intros; rfl
   cases v8 with
   | true =>
    replace h := iteT rfl h
    refine AW.cond_true (by simp) ?_
    refine AW.skip ?_
    try simp only [sp_l, sp_r, Post.seq, Post.block, Nat.reduceEqDiff, reduceIte, Nat.zero_ne_one, Nat.one_ne_zero]
    try simp only [sp_l, sp_r, Post.seq, Post.block, Nat.reduceEqDiff, reduceIte, Nat.zero_ne_one, Nat.one_ne_zero]
    refine AW.seq ?_
    refine AW.block ?_
    replace h := bnE h; obtain ⟨v9, e9, h⟩ := h
    replace h := bnE h; obtain ⟨v10, e10, h⟩ := h
    replace h := ltE h; obtain ⟨v11, e11, h⟩ := h
    apply AW.drawnP (V := [_, _, _, _, _, _, _, _]) mixed [⟨[0], [], [(0, none)], false⟩, ⟨[0], [], [(5, none)], false⟩, ⟨[0], [0, 1], [(17, some 0), (18, some 1)], false⟩, ⟨[0], [0, 1, 2], [(19, some 2)], false⟩, ⟨[0], [], [(1, none)], false⟩, ⟨[0], [], [(5, none)], false⟩, ⟨[0], [4, 5], [(21, some 4), (22, some 5)], false⟩, ⟨[0], [4, 5, 6], [(23, some 6)], false⟩, ⟨[], [0, 1, 2, 3, 4, 5, 6, 7], [], false⟩] 8 (by kernel_rfl) (by kernel_rfl)
    ·refine ⟨?_, ?_, ?_, ?_, ?_, ?_, ?_, ?_, trivial⟩
     ·intro tm hr
      simp [AllL, rdV] at hr
      simp [hr, nth_d e9, nth_d e10, ← e11]
      intros; first | exact KD.mk | exact KD.mkN
     ·intro tm hr
      simp [AllL, rdV] at hr
      simp [hr, nth_d e9, nth_d e10, ← e11]
      intros; first | exact KD.mk | exact KD.mkN
     ·intro tm hr
      simp [AllL, rdV] at hr
      simp [hr, nth_d e9, nth_d e10, ← e11]
      intros; first | exact KD.mk | exact KD.mkN
     ·intro tm hr
      simp [AllL, rdV] at hr
      simp [hr, nth_d e9, nth_d e10, ← e11]
      intros; first | exact KD.mk | exact KD.mkN
     ·intro tm hr
      simp [AllL, rdV] at hr
      simp [hr, nth_d e9, nth_d e10, ← e11]
      intros; first | exact KD.mk | exact KD.mkN
     ·intro tm hr
      simp [AllL, rdV] at hr
      simp [hr, nth_d e9, nth_d e10, ← e11]
      intros; first | exact KD.mk | exact KD.mkN
     ·intro tm hr
      simp [AllL, rdV] at hr
      simp [hr, nth_d e9, nth_d e10, ← e11]
      intros; first | exact KD.mk | exact KD.mkN
     ·intro tm hr
      simp [AllL, rdV] at hr
      simp [hr, nth_d e9, nth_d e10, ← e11]
      intros; first | exact KD.mk | exact KD.mkN
    ·rfl
    ·simp [tmD, putD, nth_d e9, nth_d e10, ← e11]; rfl
    ·simp [nth_d e9, nth_d e10, ← e11]
     intros; rfl
    cases v11 with
    | true =>
     replace h := iteT rfl h
     refine AW.cond_true (by simp) ?_
     apply AW.step
     ·simp
      intros; rfl
     obtain rfl := Option.some.inj h
     refine AW.ret ?_
     try simp only [sp_l, sp_r, Post.seq, Post.block, Nat.reduceEqDiff, reduceIte, Nat.zero_ne_one, Nat.one_ne_zero]
     refine rP_i ?_
     refine Left.plain hnb (by simp [Try.f16, resV, resC, comp]; rfl) rfl rfl ?_
     simp
    | false =>
     replace h := iteF rfl h
     refine AW.cond_false (by simp) ?_
     refine AW.skip ?_
     try simp only [sp_l, sp_r, Post.seq, Post.block, Nat.reduceEqDiff, reduceIte, Nat.zero_ne_one, Nat.one_ne_zero]
     try simp only [sp_l, sp_r, Post.seq, Post.block, Nat.reduceEqDiff, reduceIte, Nat.zero_ne_one, Nat.one_ne_zero]
     replace h := ltE h; obtain ⟨v12, e12, h⟩ := h
     apply AW.last
     ·simp [← e12]
      intros; rfl
     obtain rfl := Option.some.inj h
     refine nP_i ?_
     refine Weak.mixN [] hn0 (by decide) ?_ ?_ rfl
     all_goals first | (simp [inv_cons, inv_nil, pickOb]; done) | rfl
   | false =>
    replace h := iteF rfl h
    refine AW.cond_false (by simp) ?_
    refine AW.exit ?_
    try simp only [sp_l, sp_r, Post.seq, Post.block, Nat.reduceEqDiff, reduceIte, Nat.zero_ne_one, Nat.one_ne_zero]
    obtain rfl := Option.some.inj h
    try simp only [sp_l, sp_r]
    refine xP_i ?_
    refine Weak.mixN [] hn0 (by decide) ?_ ?_ rfl
    all_goals first | (simp [inv_cons, inv_nil, pickOb]; done) | rfl
  ·rintro e s hp
   rcases y5 with y13 | y14
   ·replace h := smL h
    obtain ⟨rfl, hw⟩ := hp
    refine ⟨_, hw, ?_⟩
    try simp only [sp_l, sp_r, Post.seq, Post.block, Nat.reduceEqDiff, reduceIte, Nat.zero_ne_one, Nat.one_ne_zero]
    apply AW.step
    ·simp
     intros; rfl
    obtain rfl := Option.some.inj h
    refine AW.ret ?_
    refine Left.plain hnb (by simp [Try.f16, resV, resC, comp]; rfl) rfl rfl ?_
    simp
   ·replace h := smR h
    obtain ⟨rfl, hl⟩ := hp
    refine ⟨_, Weak.refl _, ?_⟩
    obtain rfl := Option.some.inj h
    exact hl
theorem en_r13_SameClaims : Enters Try.prog 16 := enters Try.func16 (by kernel_rfl) rfl
def l18_VoteWins_sh (n : Nat) (a0 : List Int) (a1 : List Bool) : Option Bool :=
bn (lt (lenI a0) fun v2 =>
lt (gtI v2 30) fun v3 =>
ite' v3 (some (true)) (lt (lenI a1) fun v4 =>
lt (ltI v4 v2) fun v5 =>
some (v5))) fun (y1 : Bool) =>
lt (y1) fun v6 =>
ite' v6 (bn (l18_awake_sh n) fun v7 =>
some v7) (bn (r23_New_sh n 8 5 5) fun v8 =>
bn (vote_Ask_sh n v8) fun v9 =>
bn (lt (lenI v9.2) fun v11 =>
lt (neI v11 7) fun v12 =>
ite' v12 (some (true)) (lt (neI v9.1.asked 2) fun v13 =>
some (v13))) fun (y10 : Bool) =>
lt (y10) fun v14 =>
ite' v14 (some false) (bn (r13_Owned_sh n v9.1.claims 0) fun v15 =>
chk (mkB 8 1) <|
lt (List.replicate 8 false) fun v17 =>
bn (iter n (fun (y18 : Int × Int × Node × List Bool) =>
lt (lenI a0) fun v21 =>
lt (ltI y18.2.1 v21) fun v22 =>
ite' v22 (bn (nth a0 y18.2.1) fun v23 =>
lt (cvI .i64 v23) fun v24 =>
bn (remI .i64 v24 8) fun v25 =>
bn (bn (nth a1 y18.2.1) fun v27 =>
lt (notB v27) fun v28 =>
ite' v28 (some (3)) (some (2))) fun (y26 : Int) =>
bn (bn (lt (ltI v25 5) fun v31 =>
ite' v31 (bn (nth a1 y18.2.1) fun v32 =>
ite' v32 (bn (nth y18.2.2.2 v25) fun v33 =>
lt (notB v33) fun v35 =>
some (v35)) (some (false))) (some (false))) fun (y30 : Bool) =>
lt (y30) fun v36 =>
ite' v36 (bn (nth y18.2.2.2 v25) fun v37 =>
lt (y18.2.2.2.set v25.toNat true) fun v39 =>
lt (addI .i64 y18.1 1) fun v42 =>
some ((v42, v39))) (some ((y18.1, y18.2.2.2)))) fun (y29 : Int × List Bool) =>
bn (vote_Count_sh n y18.2.2.1 (⟨8, v25, 5, y26, [], [], 0, 0, 0, (⟨0, 0⟩ : Rid), (⟨0, 0⟩ : Rid), 0, []⟩ : Msg)) fun v43 =>
lt (geI y29.1 3) fun v44 =>
lt (neB v43.2 v44) fun v45 =>
ite' v45 (some (.inr (.inr false))) (lt (v43.2) fun v46 =>
ite' v46 (bn (lt (eqI v43.1.master (-1)) fun v48 =>
ite' v48 (bn (r13_Give_sh n y18.2.2.1.claims v15 5 2) fun v49 =>
bn (r13_SameClaims_sh n v49 v43.1.claims) fun v50 =>
ite' v50 (lt (andB (eqI v43.1.feed.rid.node 5) (andB (eqI v43.1.feed.rid.epoch 2) true)) fun v51 =>
ite' v51 (lt (andB (eqI v43.1.feed.prev.node y18.2.2.1.feed.rid.node) (andB (eqI v43.1.feed.prev.epoch y18.2.2.1.feed.rid.epoch) true)) fun v52 =>
ite' v52 (lt (eqI v43.1.asked 0) fun v53 =>
ite' v53 (lt (lenI v43.1.votes) fun v54 =>
lt (eqI v54 0) fun v55 =>
ite' v55 (bn (l18_awake_sh n) fun v56 =>
some (v56)) (some (false))) (some (false))) (some (false))) (some (false))) (some (false))) (some (false))) fun (y47 : Bool) =>
some (.inr (.inr y47))) (lt (addI .i64 y18.2.1 1) fun v57 =>
some (.inl (y29.1, v57, v43.1, y29.2))))) (some (.inr (.inl y18.2.2.1)))) (0, 0, v9.1, v17)) fun (y19 : Node ⊕ Bool) =>
sm y19 (fun y58 => bn (lt (eqI y58.master 0) fun v61 =>
ite' v61 (bn (l18_awake_sh n) fun v62 =>
some (v62)) (some (false))) fun (y60 : Bool) =>
some y60) (fun y59 => some y59)))
set_option maxRecDepth 8000 in
set_option maxHeartbeats 8000000 in
theorem s_l18_VoteWins {n : Nat} {a0 : List Int} {a1 : List Bool} {r : Bool} (h : l18_VoteWins_sh n a0 a1 = some r) : Sound Try.prog 5 [.l (.d false 1 (encU a0)), .l (.d false 1 (encB a1))] [] (.l (.s (.bool r))) [] := by
 unfold l18_VoteWins_sh at h
 refine Sound.of_aw (fn := Try.f5) (c := _) Try.func5 rfl (by simp [Try.f5]) fun cx hG hnb => ?_
 rw [show Try.f5.ntmps = 142 from rfl]
 have hn0 : cx.nb = 0 := hnb
 simp only [st0_mk, initTm, List.map_cons, List.map_nil]
 apply AW.step
 ·simp
  intros; rfl
 refine AW.seq ?_
 replace h := bnE h; obtain ⟨y1, g1, h⟩ := h
 refine AW.flow (p := fun gh ls => (nP (cx := cx) (fun q => (⟨[(0, .l (.d false 1 (encU a0))), (1, .l (.d false 1 (encB a1))), (24, .l (.s (.bool q)))], [], 142, gh, ls⟩ : St))) y1) ?_ ?_
 ·replace h := g1; clear g1
  replace h := ltE h; obtain ⟨v2, e2, h⟩ := h
  replace h := ltE h; obtain ⟨v3, e3, h⟩ := h
  cases v3 with
  | true =>
   replace h := iteT rfl h
   apply AW.last
   ·simp [lenI_cast e2, ← e3]
    intros; rfl
   obtain rfl := Option.some.inj h
   refine nP_i ?_
   refine Weak.mixN [] hn0 (by decide) ?_ ?_ rfl
   all_goals first | (simp [inv_cons, inv_nil, pickOb]; done) | rfl
  | false =>
   replace h := iteF rfl h
   replace h := ltE h; obtain ⟨v4, e4, h⟩ := h
   replace h := ltE h; obtain ⟨v5, e5, h⟩ := h
   apply AW.last
   ·simp [lenI_cast e2, ← e3, lenI_cast e4, ← e5]
    intros; rfl
   obtain rfl := Option.some.inj h
   refine nP_i ?_
   refine Weak.mixN [] hn0 (by decide) ?_ ?_ rfl
   all_goals first | (simp [inv_cons, inv_nil, pickOb]; done) | rfl
 ·rintro e s hp
  obtain ⟨rfl, hw⟩ := hp
  refine ⟨_, hw, ?_⟩
  try simp only [sp_l, sp_r, Post.seq, Post.block, Nat.reduceEqDiff, reduceIte, Nat.zero_ne_one, Nat.one_ne_zero]
  replace h := ltE h; obtain ⟨v6, e6, h⟩ := h
  rw [← e6]
  cases v6 with
  | true =>
   replace h := iteT rfl h
   refine AW.cond_true (by simp) ?_
   replace h := bnE h; obtain ⟨v7, e7, h⟩ := h
   apply AW.step
   ·simp
    intros
    refine xcall_plain en_l18_awake (s_l18_awake e7) rfl trivial ?_
    try simp
    intros; rfl
   obtain rfl := Option.some.inj h
   refine AW.ret ?_
   refine Left.plain hnb (by simp [Try.f5, resV, resC, comp]; rfl) rfl rfl ?_
   simp
  | false =>
   replace h := iteF rfl h
   refine AW.cond_false (by simp) ?_
   refine AW.skip ?_
   try simp only [sp_l, sp_r, Post.seq, Post.block, Nat.reduceEqDiff, reduceIte, Nat.zero_ne_one, Nat.one_ne_zero]
   try simp only [sp_l, sp_r, Post.seq, Post.block, Nat.reduceEqDiff, reduceIte, Nat.zero_ne_one, Nat.one_ne_zero]
   replace h := bnE h; obtain ⟨v8, e8, h⟩ := h
   replace h := bnE h; obtain ⟨v9, e9, h⟩ := h
   apply AW.step
   ·simp
    intros
    refine xcall_plain en_r23_New (s_r23_New e8) rfl ⟨.same rfl, .same rfl, .same rfl, trivial⟩ ?_
    try simp
    intros
    refine xcall_plain en_vote_Ask (s_vote_Ask e9) rfl ⟨.same rfl, trivial⟩ ?_
    try simp
    intros; rfl
   refine AW.seq ?_
   replace h := bnE h; obtain ⟨y10, g10, h⟩ := h
   refine AW.flow (p := fun gh ls => (nP (cx := cx) (fun q => (⟨[(0, .l (.d false 1 (encU a0))), (1, .l (.d false 1 (encB a1))), (5, .l (.p 0 0)), (38, .l (.s (.bool q)))], [some ⟨38, 22, false, none, [.s (.int .i64 v9.1.count), .s (.int .i64 v9.1.id), .s (.int .i64 v9.1.master), .s (.int .i64 v9.1.epoch), .s (.int .i64 v9.1.voted), .d false 4 (encClaim v9.1.claims), .d false 6 (encPair v9.1.db), .d false 4 (encMove v9.1.moves), .s (.int .i64 v9.1.last), .d false 3 (encSeen v9.1.seen), .s (.int .i64 v9.1.feed.rid.node), .s (.int .i64 v9.1.feed.rid.epoch), .s (.int .i64 v9.1.feed.off), .d false 7 (encEffect v9.1.feed.back), .s (.int .i64 v9.1.feed.prev.node), .s (.int .i64 v9.1.feed.prev.epoch), .s (.int .i64 v9.1.feed.upto), .d false 1 (encI v9.1.watch.heard), .d false 1 (encLI v9.1.watch.says), .s (.int .i64 v9.1.asked), .d false 1 (encI v9.1.votes), .s (.int .i64 v9.1.wait)]⟩], 142, gh, ls⟩ : St))) y10) ?_ ?_
   ·replace h := g10; clear g10
    replace h := ltE h; obtain ⟨v11, e11, h⟩ := h
    replace h := ltE h; obtain ⟨v12, e12, h⟩ := h
    cases v12 with
    | true =>
     replace h := iteT rfl h
     apply AW.last
     ·simp [lenI_cast e11, ← e12]
      intros; rfl
     obtain rfl := Option.some.inj h
     refine nP_i ?_
     refine Weak.mixN [some 0] hn0 (by decide) ?_ ?_ rfl
     all_goals first | (simp [inv_cons, inv_nil, pickOb]; done) | rfl
    | false =>
     replace h := iteF rfl h
     replace h := ltE h; obtain ⟨v13, e13, h⟩ := h
     apply AW.last
     ·simp [lenI_cast e11, ← e12, ← e13]
      intros; rfl
     obtain rfl := Option.some.inj h
     refine nP_i ?_
     refine Weak.mixN [some 0] hn0 (by decide) ?_ ?_ rfl
     all_goals first | (simp [inv_cons, inv_nil, pickOb]; done) | rfl
   ·rintro e s hp
    obtain ⟨rfl, hw⟩ := hp
    refine ⟨_, hw, ?_⟩
    try simp only [sp_l, sp_r, Post.seq, Post.block, Nat.reduceEqDiff, reduceIte, Nat.zero_ne_one, Nat.one_ne_zero]
    replace h := ltE h; obtain ⟨v14, e14, h⟩ := h
    rw [← e14]
    cases v14 with
    | true =>
     replace h := iteT rfl h
     refine AW.cond_true (by simp) ?_
     apply AW.step
     ·simp
      intros; rfl
     obtain rfl := Option.some.inj h
     refine AW.ret ?_
     refine Left.plain hnb (by simp [Try.f5, resV, resC, comp]; rfl) rfl rfl ?_
     simp
    | false =>
     replace h := iteF rfl h
     refine AW.cond_false (by simp) ?_
     refine AW.skip ?_
     try simp only [sp_l, sp_r, Post.seq, Post.block, Nat.reduceEqDiff, reduceIte, Nat.zero_ne_one, Nat.one_ne_zero]
     try simp only [sp_l, sp_r, Post.seq, Post.block, Nat.reduceEqDiff, reduceIte, Nat.zero_ne_one, Nat.one_ne_zero]
     replace h := bnE h; obtain ⟨v15, e15, h⟩ := h
     apply AW.step
     ·simp
      intros
      refine xcall_plain en_r13_Owned (s_r13_Owned e15) rfl ⟨.same rfl, .same rfl, trivial⟩ ?_
      try simp
      intros; rfl
     replace h := chkE h; obtain ⟨e16, h⟩ := h
     replace h := ltE h; obtain ⟨v17, e17, h⟩ := h
     apply AW.step
     ·simp
      intros
      refine mkS_own (enc := encB) (fun _ => rfl) e17 tb_el52 tb_ti4 ⟨rfl, rfl, by decide⟩ (mkB_d e16) rfl ?_
      try simp
      intros; rfl
     apply AW.step
     ·simp
      intros; rfl
     refine AW.seq ?_
     apply AW.step
     ·simp
      intros; rfl
     refine AW.block ?_
     replace h := bnE h; obtain ⟨y19, g19, h⟩ := h
     refine AW.iterP g19 (mk := fun gh ls q => (⟨[(0, .l (.d false 1 (encU a0))), (1, .l (.d false 1 (encB a1))), (5, .l (.p 0 0)), (7, .l (.d false 2 (encSpan v15))), (8, .l (.r 1 1 0 q.2.2.2.length)), (9, .l (.s (.int .i64 q.1))), (10, .l (.s (.int .i64 q.2.1)))], [some ⟨38, 22, false, none, [.s (.int .i64 q.2.2.1.count), .s (.int .i64 q.2.2.1.id), .s (.int .i64 q.2.2.1.master), .s (.int .i64 q.2.2.1.epoch), .s (.int .i64 q.2.2.1.voted), .d false 4 (encClaim q.2.2.1.claims), .d false 6 (encPair q.2.2.1.db), .d false 4 (encMove q.2.2.1.moves), .s (.int .i64 q.2.2.1.last), .d false 3 (encSeen q.2.2.1.seen), .s (.int .i64 q.2.2.1.feed.rid.node), .s (.int .i64 q.2.2.1.feed.rid.epoch), .s (.int .i64 q.2.2.1.feed.off), .d false 7 (encEffect q.2.2.1.feed.back), .s (.int .i64 q.2.2.1.feed.prev.node), .s (.int .i64 q.2.2.1.feed.prev.epoch), .s (.int .i64 q.2.2.1.feed.upto), .d false 1 (encI q.2.2.1.watch.heard), .d false 1 (encLI q.2.2.1.watch.says), .s (.int .i64 q.2.2.1.asked), .d false 1 (encI q.2.2.1.votes), .s (.int .i64 q.2.2.1.wait)]⟩, some ⟨4, 1, true, none, lvs (encB q.2.2.2)⟩], 142, gh, ls⟩ : St)) (N := fun gh ls => (sp (xP 0 (cx := cx) (fun q => (⟨[(5, .l (.p 0 0))], [some ⟨38, 22, false, none, [.s (.int .i64 q.count), .s (.int .i64 q.id), .s (.int .i64 q.master), .s (.int .i64 q.epoch), .s (.int .i64 q.voted), .d false 4 (encClaim q.claims), .d false 6 (encPair q.db), .d false 4 (encMove q.moves), .s (.int .i64 q.last), .d false 3 (encSeen q.seen), .s (.int .i64 q.feed.rid.node), .s (.int .i64 q.feed.rid.epoch), .s (.int .i64 q.feed.off), .d false 7 (encEffect q.feed.back), .s (.int .i64 q.feed.prev.node), .s (.int .i64 q.feed.prev.epoch), .s (.int .i64 q.feed.upto), .d false 1 (encI q.watch.heard), .d false 1 (encLI q.watch.says), .s (.int .i64 q.asked), .d false 1 (encI q.votes), .s (.int .i64 q.wait)]⟩], 142, gh, ls⟩ : St))) (rP (cx := cx) (P := Try.prog) Try.f5 (fun q => .l (.s (.bool q))) (fun q => [])))) ?_ (noS noX noR) ?_ ?_
     ·refine Weak.mixN [some 0, some 1] hn0 (by decide) ?_ ?_ rfl
      all_goals first | (simp [inv_cons, inv_nil, pickOb]; done) | rfl
     ·clear h; intro y18 y20 h
      refine AW.seq ?_
      replace h := ltE h; obtain ⟨v21, e21, h⟩ := h
      replace h := ltE h; obtain ⟨v22, e22, h⟩ := h
      apply AW.step
      ·simp [lenI_cast e21, ← e22]
       intros; rfl
      cases v22 with
      | true =>
       replace h := iteT rfl h
       refine AW.cond_true (by simp) ?_
       refine AW.skip ?_
       try simp only [sp_l, sp_r, Post.seq, Post.block, Nat.reduceEqDiff, reduceIte, Nat.zero_ne_one, Nat.one_ne_zero]
       try simp only [sp_l, sp_r, Post.seq, Post.block, Nat.reduceEqDiff, reduceIte, Nat.zero_ne_one, Nat.one_ne_zero]
       refine AW.seq ?_
       refine AW.block ?_
       replace h := bnE h; obtain ⟨v23, e23, h⟩ := h
       replace h := ltE h; obtain ⟨v24, e24, h⟩ := h
       replace h := bnE h; obtain ⟨v25, e25, h⟩ := h
       apply AW.step
       ·simp [nth_d e23, ← e24, e25]
        intros; rfl
       apply AW.step
       ·simp
        intros; rfl
       replace h := bnE h; obtain ⟨y26, g26, h⟩ := h
       refine AW.flow (p := fun gh ls => (nP (cx := cx) (fun q => (⟨[(0, .l (.d false 1 (encU a0))), (1, .l (.d false 1 (encB a1))), (5, .l (.p 0 0)), (7, .l (.d false 2 (encSpan v15))), (8, .l (.r 1 1 0 y18.2.2.2.length)), (9, .l (.s (.int .i64 y18.1))), (10, .l (.s (.int .i64 y18.2.1))), (11, .l (.s (.int .i64 v25))), (12, .l (.s (.int .i64 q)))], [some ⟨38, 22, false, none, [.s (.int .i64 y18.2.2.1.count), .s (.int .i64 y18.2.2.1.id), .s (.int .i64 y18.2.2.1.master), .s (.int .i64 y18.2.2.1.epoch), .s (.int .i64 y18.2.2.1.voted), .d false 4 (encClaim y18.2.2.1.claims), .d false 6 (encPair y18.2.2.1.db), .d false 4 (encMove y18.2.2.1.moves), .s (.int .i64 y18.2.2.1.last), .d false 3 (encSeen y18.2.2.1.seen), .s (.int .i64 y18.2.2.1.feed.rid.node), .s (.int .i64 y18.2.2.1.feed.rid.epoch), .s (.int .i64 y18.2.2.1.feed.off), .d false 7 (encEffect y18.2.2.1.feed.back), .s (.int .i64 y18.2.2.1.feed.prev.node), .s (.int .i64 y18.2.2.1.feed.prev.epoch), .s (.int .i64 y18.2.2.1.feed.upto), .d false 1 (encI y18.2.2.1.watch.heard), .d false 1 (encLI y18.2.2.1.watch.says), .s (.int .i64 y18.2.2.1.asked), .d false 1 (encI y18.2.2.1.votes), .s (.int .i64 y18.2.2.1.wait)]⟩, some ⟨4, 1, true, none, lvs (encB y18.2.2.2)⟩], 142, gh, ls⟩ : St))) y26) ?_ ?_
       ·replace h := g26; clear g26
        replace h := bnE h; obtain ⟨v27, e27, h⟩ := h
        replace h := ltE h; obtain ⟨v28, e28, h⟩ := h
        apply AW.step
        ·simp [nth_d e27, ← e28]
         intros; rfl
        cases v28 with
        | true =>
         replace h := iteT rfl h
         refine AW.cond_true (by simp) ?_
         apply AW.last
         ·simp
          intros; rfl
         obtain rfl := Option.some.inj h
         refine nP_i ?_
         refine Weak.mixN [some 0, some 1] hn0 (by decide) ?_ ?_ rfl
         all_goals first | (simp [inv_cons, inv_nil, pickOb]; done) | rfl
        | false =>
         replace h := iteF rfl h
         refine AW.cond_false (by simp) ?_
         refine AW.skip ?_
         try simp only [sp_l, sp_r, Post.seq, Post.block, Nat.reduceEqDiff, reduceIte, Nat.zero_ne_one, Nat.one_ne_zero]
         obtain rfl := Option.some.inj h
         refine nP_i ?_
         refine Weak.mixN [some 0, some 1] hn0 (by decide) ?_ ?_ rfl
         all_goals first | (simp [inv_cons, inv_nil, pickOb]; done) | rfl
       ·rintro e s hp
        obtain ⟨rfl, hw⟩ := hp
        refine ⟨_, hw, ?_⟩
        try simp only [sp_l, sp_r, Post.seq, Post.block, Nat.reduceEqDiff, reduceIte, Nat.zero_ne_one, Nat.one_ne_zero]
        replace h := bnE h; obtain ⟨y29, g29, h⟩ := h
        refine AW.flow (p := fun gh ls => (nP (cx := cx) (fun q => (⟨[(0, .l (.d false 1 (encU a0))), (1, .l (.d false 1 (encB a1))), (5, .l (.p 0 0)), (7, .l (.d false 2 (encSpan v15))), (8, .l (.r 1 1 0 q.2.length)), (9, .l (.s (.int .i64 q.1))), (10, .l (.s (.int .i64 y18.2.1))), (11, .l (.s (.int .i64 v25))), (12, .l (.s (.int .i64 y26)))], [some ⟨38, 22, false, none, [.s (.int .i64 y18.2.2.1.count), .s (.int .i64 y18.2.2.1.id), .s (.int .i64 y18.2.2.1.master), .s (.int .i64 y18.2.2.1.epoch), .s (.int .i64 y18.2.2.1.voted), .d false 4 (encClaim y18.2.2.1.claims), .d false 6 (encPair y18.2.2.1.db), .d false 4 (encMove y18.2.2.1.moves), .s (.int .i64 y18.2.2.1.last), .d false 3 (encSeen y18.2.2.1.seen), .s (.int .i64 y18.2.2.1.feed.rid.node), .s (.int .i64 y18.2.2.1.feed.rid.epoch), .s (.int .i64 y18.2.2.1.feed.off), .d false 7 (encEffect y18.2.2.1.feed.back), .s (.int .i64 y18.2.2.1.feed.prev.node), .s (.int .i64 y18.2.2.1.feed.prev.epoch), .s (.int .i64 y18.2.2.1.feed.upto), .d false 1 (encI y18.2.2.1.watch.heard), .d false 1 (encLI y18.2.2.1.watch.says), .s (.int .i64 y18.2.2.1.asked), .d false 1 (encI y18.2.2.1.votes), .s (.int .i64 y18.2.2.1.wait)]⟩, some ⟨4, 1, true, none, lvs (encB q.2)⟩], 142, gh, ls⟩ : St))) y29) ?_ ?_
        ·replace h := g29; clear g29
         replace h := bnE h; obtain ⟨y30, g30, h⟩ := h
         refine AW.flow (p := fun gh ls => (nP (cx := cx) (fun q => (⟨[(0, .l (.d false 1 (encU a0))), (1, .l (.d false 1 (encB a1))), (5, .l (.p 0 0)), (7, .l (.d false 2 (encSpan v15))), (8, .l (.r 1 1 0 y18.2.2.2.length)), (9, .l (.s (.int .i64 y18.1))), (10, .l (.s (.int .i64 y18.2.1))), (11, .l (.s (.int .i64 v25))), (12, .l (.s (.int .i64 y26))), (74, .l (.s (.bool q)))], [some ⟨38, 22, false, none, [.s (.int .i64 y18.2.2.1.count), .s (.int .i64 y18.2.2.1.id), .s (.int .i64 y18.2.2.1.master), .s (.int .i64 y18.2.2.1.epoch), .s (.int .i64 y18.2.2.1.voted), .d false 4 (encClaim y18.2.2.1.claims), .d false 6 (encPair y18.2.2.1.db), .d false 4 (encMove y18.2.2.1.moves), .s (.int .i64 y18.2.2.1.last), .d false 3 (encSeen y18.2.2.1.seen), .s (.int .i64 y18.2.2.1.feed.rid.node), .s (.int .i64 y18.2.2.1.feed.rid.epoch), .s (.int .i64 y18.2.2.1.feed.off), .d false 7 (encEffect y18.2.2.1.feed.back), .s (.int .i64 y18.2.2.1.feed.prev.node), .s (.int .i64 y18.2.2.1.feed.prev.epoch), .s (.int .i64 y18.2.2.1.feed.upto), .d false 1 (encI y18.2.2.1.watch.heard), .d false 1 (encLI y18.2.2.1.watch.says), .s (.int .i64 y18.2.2.1.asked), .d false 1 (encI y18.2.2.1.votes), .s (.int .i64 y18.2.2.1.wait)]⟩, some ⟨4, 1, true, none, lvs (encB y18.2.2.2)⟩], 142, gh, ls⟩ : St))) y30) ?_ ?_
         ·replace h := g30; clear g30
          replace h := ltE h; obtain ⟨v31, e31, h⟩ := h
          cases v31 with
          | true =>
           replace h := iteT rfl h
           replace h := bnE h; obtain ⟨v32, e32, h⟩ := h
           cases v32 with
           | true =>
            replace h := iteT rfl h
            replace h := bnE h; obtain ⟨v33, e33, h⟩ := h
            have f34 := nth_lt e33
            try simp [← e31, nth_d e32, nth_d e33] at f34
            replace h := ltE h; obtain ⟨v35, e35, h⟩ := h
            apply AW.last
            ·simp [← e31, nth_d e32, nth_d e33, f34, encB_cell0 (nth_d e33).2, lvs1, ← e35]
             intros; rfl
            obtain rfl := Option.some.inj h
            refine nP_i ?_
            refine Weak.mixN [some 0, some 1] hn0 (by decide) ?_ ?_ rfl
            all_goals first | (simp [inv_cons, inv_nil, pickOb]; done) | rfl
           | false =>
            replace h := iteF rfl h
            apply AW.last
            ·simp [← e31, nth_d e32]
             intros; rfl
            obtain rfl := Option.some.inj h
            refine nP_i ?_
            refine Weak.mixN [some 0, some 1] hn0 (by decide) ?_ ?_ rfl
            all_goals first | (simp [inv_cons, inv_nil, pickOb]; done) | rfl
          | false =>
           replace h := iteF rfl h
           apply AW.last
           ·simp [← e31]
            intros; rfl
           obtain rfl := Option.some.inj h
           refine nP_i ?_
           refine Weak.mixN [some 0, some 1] hn0 (by decide) ?_ ?_ rfl
           all_goals first | (simp [inv_cons, inv_nil, pickOb]; done) | rfl
         ·rintro e s hp
          obtain ⟨rfl, hw⟩ := hp
          refine ⟨_, hw, ?_⟩
          try simp only [sp_l, sp_r, Post.seq, Post.block, Nat.reduceEqDiff, reduceIte, Nat.zero_ne_one, Nat.one_ne_zero]
          replace h := ltE h; obtain ⟨v36, e36, h⟩ := h
          rw [← e36]
          cases v36 with
          | true =>
           replace h := iteT rfl h
           refine AW.cond_true (by simp) ?_
           replace h := bnE h; obtain ⟨v37, e37, h⟩ := h
           have f38 := nth_lt e37
           try simp [nth_d e37] at f38
           replace h := ltE h; obtain ⟨v39, e39, h⟩ := h
           have f40 := encB_put0 (nth_d e37).2 e39 (cs := [.s (.bool true)]) (by simp) rfl
           try simp at f40
           have f41 := f38
           try simp only [set_len e39] at f41
           apply AW.step
           ·simp [nth_d e37, f38, encB_fit (nth_d e37).2 (show 1 ≤ 1 by decide), f40, f41]
            intros; rfl
           replace h := ltE h; obtain ⟨v42, e42, h⟩ := h
           apply AW.last
           ·simp [← e42]
            intros; rfl
           obtain rfl := Option.some.inj h
           refine nP_i ?_
           refine Weak.mixN [some 0, some 1] hn0 (by decide) ?_ ?_ rfl
           all_goals first | (simp [inv_cons, inv_nil, pickOb, set_len e39]; done) | rfl
          | false =>
           replace h := iteF rfl h
           refine AW.cond_false (by simp) ?_
           refine AW.skip ?_
           try simp only [sp_l, sp_r, Post.seq, Post.block, Nat.reduceEqDiff, reduceIte, Nat.zero_ne_one, Nat.one_ne_zero]
           obtain rfl := Option.some.inj h
           refine nP_i ?_
           refine Weak.mixN [some 0, some 1] hn0 (by decide) ?_ ?_ rfl
           all_goals first | (simp [inv_cons, inv_nil, pickOb]; done) | rfl
        ·rintro e s hp
         obtain ⟨rfl, hw⟩ := hp
         refine ⟨_, hw, ?_⟩
         try simp only [sp_l, sp_r, Post.seq, Post.block, Nat.reduceEqDiff, reduceIte, Nat.zero_ne_one, Nat.one_ne_zero]
         replace h := bnE h; obtain ⟨v43, e43, h⟩ := h
         apply AW.step
         ·simp
          intros
          refine xcall_plain en_vote_Count (s_vote_Count e43) rfl ⟨.same rfl, .g ⟨.s _, .s _, .s _, .s _, .nil _ _, .nil _ _, .s _, .s _, .s _, .s _, .s _, .s _, .s _, .s _, .nil _ _, trivial⟩, trivial⟩ ?_
          try simp
          intros; rfl
         refine AW.seq ?_
         replace h := ltE h; obtain ⟨v44, e44, h⟩ := h
         replace h := ltE h; obtain ⟨v45, e45, h⟩ := h
         apply AW.step
         ·simp [← e44, ← e45]
          intros; rfl
         cases v45 with
         | true =>
          replace h := iteT rfl h
          refine AW.cond_true (by simp) ?_
          apply AW.step
          ·simp
           intros; rfl
          obtain rfl := Option.some.inj h
          refine AW.ret ?_
          try simp only [sp_l, sp_r, Post.seq, Post.block, Nat.reduceEqDiff, reduceIte, Nat.zero_ne_one, Nat.one_ne_zero]
          refine rP_i ?_
          refine Left.plain hnb (by simp [Try.f5, resV, resC, comp]; rfl) rfl rfl ?_
          simp
         | false =>
          replace h := iteF rfl h
          refine AW.cond_false (by simp) ?_
          refine AW.skip ?_
          try simp only [sp_l, sp_r, Post.seq, Post.block, Nat.reduceEqDiff, reduceIte, Nat.zero_ne_one, Nat.one_ne_zero]
          try simp only [sp_l, sp_r, Post.seq, Post.block, Nat.reduceEqDiff, reduceIte, Nat.zero_ne_one, Nat.one_ne_zero]
          refine AW.seq ?_
          apply AW.step
          ·simp
           intros; rfl
          replace h := ltE h; obtain ⟨v46, e46, h⟩ := h
          rw [← e46]
          cases v46 with
          | true =>
           replace h := iteT rfl h
           refine AW.cond_true (by simp) ?_
           replace h := bnE h; obtain ⟨y47, g47, h⟩ := h
           refine AW.flow (p := fun gh ls => (nP (cx := cx) (fun q => (⟨[(4, .l (.s (.bool q)))], [], 142, gh, ls⟩ : St))) y47) ?_ ?_
           ·replace h := g47; clear g47
            replace h := ltE h; obtain ⟨v48, e48, h⟩ := h
            cases v48 with
            | true =>
             replace h := iteT rfl h
             replace h := bnE h; obtain ⟨v49, e49, h⟩ := h
             replace h := bnE h; obtain ⟨v50, e50, h⟩ := h
             cases v50 with
             | true =>
              replace h := iteT rfl h
              replace h := ltE h; obtain ⟨v51, e51, h⟩ := h
              cases v51 with
              | true =>
               replace h := iteT rfl h
               replace h := ltE h; obtain ⟨v52, e52, h⟩ := h
               cases v52 with
               | true =>
                replace h := iteT rfl h
                replace h := ltE h; obtain ⟨v53, e53, h⟩ := h
                cases v53 with
                | true =>
                 replace h := iteT rfl h
                 replace h := ltE h; obtain ⟨v54, e54, h⟩ := h
                 replace h := ltE h; obtain ⟨v55, e55, h⟩ := h
                 cases v55 with
                 | true =>
                  replace h := iteT rfl h
                  replace h := bnE h; obtain ⟨v56, e56, h⟩ := h
                  apply AW.drawnR (V := [_, _, _, _, _, _, _, _, _, _, _, _, _, _, _, _, _, _, _, _, _, _, _, _, _, _]) mixed [⟨[0], [], [(13, none)], false⟩, ⟨[0], [0], [(93, some 0)], false⟩, ⟨[0], [0, 1], [(94, some 1)], false⟩, ⟨[0], [0, 1, 2], [(95, some 2)], false⟩, ⟨[0], [0, 1, 2, 3], [(5, none), (96, some 3)], false⟩, ⟨[0], [0, 1, 2, 3, 4], [(96, some 3), (97, some 4)], false⟩, ⟨[0], [0, 1, 2, 3], [(7, none), (96, some 3)], false⟩, ⟨[0], [0, 1, 2, 3, 4, 5, 6], [(96, some 3), (98, some 5), (99, some 6)], false⟩, ⟨[0], [0, 1, 2, 3], [(13, none), (96, some 3)], false⟩, ⟨[0], [0, 1, 2, 3, 8], [(96, some 3), (101, some 8)], false⟩, ⟨[0], [0, 1, 2, 3, 4, 5, 6, 7, 8, 9], [(96, some 3), (100, some 7), (102, some 9)], false⟩, ⟨[0], [0, 1, 2, 3, 4, 5, 6, 7, 8, 9, 10], [(96, some 3), (103, some 10)], false⟩, ⟨[0], [0, 1, 2, 3, 4, 5, 6, 7, 8, 9, 10, 11], [(104, some 11)], false⟩, ⟨[0], [0, 1, 2, 3, 4, 5, 6, 7, 8, 9, 10, 11, 12], [(13, none), (105, some 12)], false⟩, ⟨[0], [0, 1, 2, 3, 4, 5, 6, 7, 8, 9, 10, 11, 12, 13], [(105, some 12), (106, some 13)], false⟩, ⟨[0], [0, 1, 2, 3, 4, 5, 6, 7, 8, 9, 10, 11, 12, 13, 14], [(105, some 12), (107, some 14)], false⟩, ⟨[0], [0, 1, 2, 3, 4, 5, 6, 7, 8, 9, 10, 11, 12], [(105, some 12)], false⟩, ⟨[0], [0, 1, 2, 3, 4, 5, 6, 7, 8, 9, 10, 11, 12, 13, 14, 15, 16], [(105, some 12), (108, some 15), (109, some 16)], false⟩, ⟨[0], [0, 1, 2, 3, 4, 5, 6, 7, 8, 9, 10, 11, 12, 13, 14, 15, 16, 17], [(105, some 12), (110, some 17)], false⟩, ⟨[0], [0, 1, 2, 3, 4, 5, 6, 7, 8, 9, 10, 11, 12, 13, 14, 15, 16, 17, 18], [(111, some 18)], false⟩, ⟨[0], [0, 1, 2, 3, 4, 5, 6, 7, 8, 9, 10, 11, 12, 13, 14, 15, 16, 17, 18, 19], [(13, none), (112, some 19)], false⟩, ⟨[0], [0, 1, 2, 3, 4, 5, 6, 7, 8, 9, 10, 11, 12, 13, 14, 15, 16, 17, 18, 19, 20], [(112, some 19), (113, some 20)], false⟩, ⟨[0], [0, 1, 2, 3, 4, 5, 6, 7, 8, 9, 10, 11, 12, 13, 14, 15, 16, 17, 18, 19, 20, 21], [(112, some 19), (114, some 21)], false⟩, ⟨[0], [0, 1, 2, 3, 4, 5, 6, 7, 8, 9, 10, 11, 12, 13, 14, 15, 16, 17, 18, 19], [(5, none), (112, some 19)], false⟩, ⟨[0], [0, 1, 2, 3, 4, 5, 6, 7, 8, 9, 10, 11, 12, 13, 14, 15, 16, 17, 18, 19, 23], [(112, some 19), (116, some 23)], false⟩, ⟨[0], [0, 1, 2, 3, 4, 5, 6, 7, 8, 9, 10, 11, 12, 13, 14, 15, 16, 17, 18, 19, 23, 24], [(112, some 19), (117, some 24)], false⟩, ⟨[], [0, 1, 2, 3, 4, 5, 6, 7, 8, 9, 10, 11, 12, 13, 14, 15, 16, 17, 18, 19, 20, 21, 22, 23, 24, 25], [], false⟩, ⟨[], [0, 1, 2, 3, 4, 5, 6, 7, 8, 9, 10, 11, 12, 13, 14, 15, 16, 17, 18, 19, 20, 21, 22, 23, 24, 25, 26], [], false⟩, ⟨[], [0, 1, 2, 3, 4, 5, 6, 7, 8, 9, 10, 11, 12, 13, 14, 15, 16, 17, 18, 19, 20, 21, 22, 23, 24, 25, 26, 27], [], false⟩, ⟨[], [0, 1, 2, 3, 4, 5, 6, 7, 8, 9, 10, 11, 12, 13, 14, 15, 16, 17, 18, 19, 20, 21, 22, 23, 24, 25, 26, 27, 28], [], false⟩, ⟨[], [0, 1, 2, 3, 4, 5, 6, 7, 8, 9, 10, 11, 12, 13, 14, 15, 16, 17, 18, 19, 20, 21, 22, 23, 24, 25, 26, 27, 28, 29], [], false⟩, ⟨[], [0, 1, 2, 3, 4, 5, 6, 7, 8, 9, 10, 11, 12, 13, 14, 15, 16, 17, 18, 19, 20, 21, 22, 23, 24, 25, 26, 27, 28, 29, 30], [], false⟩, ⟨[], [0, 1, 2, 3, 4, 5, 6, 7, 8, 9, 10, 11, 12, 13, 14, 15, 16, 17, 18, 19, 20, 21, 22, 23, 24, 25, 26, 27, 28, 29, 30, 31], [], false⟩, ⟨[], [0, 1, 2, 3, 4, 5, 6, 7, 8, 9, 10, 11, 12, 13, 14, 15, 16, 17, 18, 19, 20, 21, 22, 23, 24, 25, 26, 27, 28, 29, 30, 31, 32], [], false⟩, ⟨[], [0, 1, 2, 3, 4, 5, 6, 7, 8, 9, 10, 11, 12, 13, 14, 15, 16, 17, 18, 19, 20, 21, 22, 23, 24, 25, 26, 27, 28, 29, 30, 31, 32, 33], [], false⟩, ⟨[], [0, 1, 2, 3, 4, 5, 6, 7, 8, 9, 10, 11, 12, 13, 14, 15, 16, 17, 18, 19, 20, 21, 22, 23, 24, 25, 26, 27, 28, 29, 30, 31, 32, 33, 34], [], false⟩, ⟨[], [0, 1, 2, 3, 4, 5, 6, 7, 8, 9, 10, 11, 12, 13, 14, 15, 16, 17, 18, 19, 20, 21, 22, 23, 24, 25, 26, 27, 28, 29, 30, 31, 32, 33, 34, 35], [], false⟩, ⟨[], [0, 1, 2, 3, 4, 5, 6, 7, 8, 9, 10, 11, 12, 13, 14, 15, 16, 17, 18, 19, 20, 21, 22, 23, 24, 25, 26, 27, 28, 29, 30, 31, 32, 33, 34, 35, 36], [], false⟩, ⟨[], [0, 1, 2, 3, 4, 5, 6, 7, 8, 9, 10, 11, 12, 13, 14, 15, 16, 17, 18, 19, 20, 21, 22, 23, 24, 25, 26, 27, 28, 29, 30, 31, 32, 33, 34, 35, 36, 37], [], false⟩, ⟨[], [0, 1, 2, 3, 4, 5, 6, 7, 8, 9, 10, 11, 12, 13, 14, 15, 16, 17, 18, 19, 20, 21, 22, 23, 24, 25, 26, 27, 28, 29, 30, 31, 32, 33, 34, 35, 36, 37, 38], [], false⟩, ⟨[], [0, 1, 2, 3, 4, 5, 6, 7, 8, 9, 10, 11, 12, 13, 14, 15, 16, 17, 18, 19, 20, 21, 22, 23, 24, 25, 26, 27, 28, 29, 30, 31, 32, 33, 34, 35, 36, 37, 38, 39], [], false⟩, ⟨[], [0, 1, 2, 3, 4, 5, 6, 7, 8, 9, 10, 11, 12, 13, 14, 15, 16, 17, 18, 19, 20, 21, 22, 23, 24, 25, 26, 27, 28, 29, 30, 31, 32, 33, 34, 35, 36, 37, 38, 39, 40], [], false⟩, ⟨[], [0, 1, 2, 3, 4, 5, 6, 7, 8, 9, 10, 11, 12, 13, 14, 15, 16, 17, 18, 19, 20, 21, 22, 23, 24, 25, 26, 27, 28, 29, 30, 31, 32, 33, 34, 35, 36, 37, 38, 39, 40, 41], [], false⟩] 26 (by kernel_rfl) (by kernel_rfl)
                  ·refine ⟨?_, ?_, ?_, ?_, ?_, ?_, ?_, ?_, ?_, ?_, ?_, ?_, ?_, ?_, ?_, ?_, ?_, ?_, ?_, ?_, ?_, ?_, ?_, ?_, ?_, ?_, trivial⟩
                   ·intro tm hr
                    simp [AllL, rdV] at hr
                    simp [hr, ← e48, ← e51, ← e52, ← e53, lenI_cast e54, ← e55]
                    intros; first | exact KD.mk | exact KD.mkN
                   ·intro tm hr
                    simp [AllL, rdV] at hr
                    simp [hr, ← e48, ← e51, ← e52, ← e53, lenI_cast e54, ← e55]
                    intros; first | exact KD.mk | exact KD.mkN
                   ·intro tm hr
                    simp [AllL, rdV] at hr
                    simp [hr, ← e48, ← e51, ← e52, ← e53, lenI_cast e54, ← e55]
                    intros; first | exact KD.mk | exact KD.mkN
                   ·intro tm hr
                    simp [AllL, rdV] at hr
                    simp [hr, ← e48, ← e51, ← e52, ← e53, lenI_cast e54, ← e55]
                    intros; first | exact KD.mk | exact KD.mkN
                   ·intro tm hr
                    simp [AllL, rdV] at hr
                    simp [hr, ← e48, ← e51, ← e52, ← e53, lenI_cast e54, ← e55]
                    intros; first | exact KD.mk | exact KD.mkN
                   ·intro tm hr
                    simp [AllL, rdV] at hr
                    simp [hr, ← e48, ← e51, ← e52, ← e53, lenI_cast e54, ← e55]
                    intros; first | exact KD.mk | exact KD.mkN
                   ·intro tm hr
                    simp [AllL, rdV] at hr
                    simp [hr, ← e48, ← e51, ← e52, ← e53, lenI_cast e54, ← e55]
                    intros; first | exact KD.mk | exact KD.mkN
                   ·intro tm hr
                    simp [AllL, rdV] at hr
                    simp [hr, ← e48, ← e51, ← e52, ← e53, lenI_cast e54, ← e55]
                    intros
                    refine xcall_plain en_r13_Give (s_r13_Give e49) rfl ⟨.same rfl, .same rfl, .same rfl, .same rfl, trivial⟩ ?_
                    try simp [← e48, ← e51, ← e52, ← e53, lenI_cast e54, ← e55]
                    intros; first | exact KD.mk | exact KD.mkN
                   ·intro tm hr
                    simp [AllL, rdV] at hr
                    simp [hr, ← e48, ← e51, ← e52, ← e53, lenI_cast e54, ← e55]
                    intros; first | exact KD.mk | exact KD.mkN
                   ·intro tm hr
                    simp [AllL, rdV] at hr
                    simp [hr, ← e48, ← e51, ← e52, ← e53, lenI_cast e54, ← e55]
                    intros; first | exact KD.mk | exact KD.mkN
                   ·intro tm hr
                    simp [AllL, rdV] at hr
                    simp [hr, ← e48, ← e51, ← e52, ← e53, lenI_cast e54, ← e55]
                    intros
                    refine xcall_plain en_r13_SameClaims (s_r13_SameClaims e50) rfl ⟨.same rfl, .same rfl, trivial⟩ ?_
                    try simp [← e48, ← e51, ← e52, ← e53, lenI_cast e54, ← e55]
                    intros; first | exact KD.mk | exact KD.mkN
                   ·intro tm hr
                    simp [AllL, rdV] at hr
                    simp [hr, ← e48, ← e51, ← e52, ← e53, lenI_cast e54, ← e55]
                    intros; first | exact KD.mk | exact KD.mkN
                   ·intro tm hr
                    simp [AllL, rdV] at hr
                    simp [hr, ← e48, ← e51, ← e52, ← e53, lenI_cast e54, ← e55]
                    intros; first | exact KD.mk | exact KD.mkN
                   ·intro tm hr
                    simp [AllL, rdV] at hr
                    simp [hr, ← e48, ← e51, ← e52, ← e53, lenI_cast e54, ← e55]
                    intros; first | exact KD.mk | exact KD.mkN
                   ·intro tm hr
                    simp [AllL, rdV] at hr
                    simp [hr, ← e48, ← e51, ← e52, ← e53, lenI_cast e54, ← e55]
                    intros; first | exact KD.mk | exact KD.mkN
                   ·intro tm hr
                    simp [AllL, rdV] at hr
                    simp [hr, ← e48, ← e51, ← e52, ← e53, lenI_cast e54, ← e55]
                    intros; first | exact KD.mk | exact KD.mkN
                   ·intro tm hr
                    simp [AllL, rdV] at hr
                    simp [hr, ← e48, ← e51, ← e52, ← e53, lenI_cast e54, ← e55]
                    intros; first | exact KD.mk | exact KD.mkN
                   ·intro tm hr
                    simp [AllL, rdV] at hr
                    simp [hr, ← e48, ← e51, ← e52, ← e53, lenI_cast e54, ← e55]
                    intros; first | exact KD.mk | exact KD.mkN
                   ·intro tm hr
                    simp [AllL, rdV] at hr
                    simp [hr, ← e48, ← e51, ← e52, ← e53, lenI_cast e54, ← e55]
                    intros; first | exact KD.mk | exact KD.mkN
                   ·intro tm hr
                    simp [AllL, rdV] at hr
                    simp [hr, ← e48, ← e51, ← e52, ← e53, lenI_cast e54, ← e55]
                    intros; first | exact KD.mk | exact KD.mkN
                   ·intro tm hr
                    simp [AllL, rdV] at hr
                    simp [hr, ← e48, ← e51, ← e52, ← e53, lenI_cast e54, ← e55]
                    intros; first | exact KD.mk | exact KD.mkN
                   ·intro tm hr
                    simp [AllL, rdV] at hr
                    simp [hr, ← e48, ← e51, ← e52, ← e53, lenI_cast e54, ← e55]
                    intros; first | exact KD.mk | exact KD.mkN
                   ·intro tm hr
                    simp [AllL, rdV] at hr
                    simp [hr, ← e48, ← e51, ← e52, ← e53, lenI_cast e54, ← e55]
                    intros; first | exact KD.mk | exact KD.mkN
                   ·intro tm hr
                    simp [AllL, rdV] at hr
                    simp [hr, ← e48, ← e51, ← e52, ← e53, lenI_cast e54, ← e55]
                    intros; first | exact KD.mk | exact KD.mkN
                   ·intro tm hr
                    simp [AllL, rdV] at hr
                    simp [hr, ← e48, ← e51, ← e52, ← e53, lenI_cast e54, ← e55]
                    intros; first | exact KD.mk | exact KD.mkN
                   ·intro tm hr
                    simp [AllL, rdV] at hr
                    simp [hr, ← e48, ← e51, ← e52, ← e53, lenI_cast e54, ← e55]
                    intros; first | exact KD.mk | exact KD.mkN
                  ·rfl
                  ·simp [tmD, putD, ← e48, ← e51, ← e52, ← e53, lenI_cast e54, ← e55]; rfl
                  ·simp [← e48, ← e51, ← e52, ← e53, lenI_cast e54, ← e55]
                   intros
                   refine xcall_plain en_l18_awake (s_l18_awake e56) rfl trivial ?_
                   try simp [← e48, ← e51, ← e52, ← e53, lenI_cast e54, ← e55]
                   intros; rfl
                  obtain rfl := Option.some.inj h
                  refine nP_i ?_
                  refine Weak.mixN [] hn0 (by decide) ?_ ?_ rfl
                  all_goals first | (simp [inv_cons, inv_nil, pickOb]; done) | rfl
                 | false =>
                  replace h := iteF rfl h
                  apply AW.drawnR (V := [_, _, _, _, _, _, _, _, _, _, _, _, _, _, _, _, _, _, _, _, _, _, _, _, _, _]) mixed [⟨[0], [], [(13, none)], false⟩, ⟨[0], [0], [(93, some 0)], false⟩, ⟨[0], [0, 1], [(94, some 1)], false⟩, ⟨[0], [0, 1, 2], [(95, some 2)], false⟩, ⟨[0], [0, 1, 2, 3], [(5, none), (96, some 3)], false⟩, ⟨[0], [0, 1, 2, 3, 4], [(96, some 3), (97, some 4)], false⟩, ⟨[0], [0, 1, 2, 3], [(7, none), (96, some 3)], false⟩, ⟨[0], [0, 1, 2, 3, 4, 5, 6], [(96, some 3), (98, some 5), (99, some 6)], false⟩, ⟨[0], [0, 1, 2, 3], [(13, none), (96, some 3)], false⟩, ⟨[0], [0, 1, 2, 3, 8], [(96, some 3), (101, some 8)], false⟩, ⟨[0], [0, 1, 2, 3, 4, 5, 6, 7, 8, 9], [(96, some 3), (100, some 7), (102, some 9)], false⟩, ⟨[0], [0, 1, 2, 3, 4, 5, 6, 7, 8, 9, 10], [(96, some 3), (103, some 10)], false⟩, ⟨[0], [0, 1, 2, 3, 4, 5, 6, 7, 8, 9, 10, 11], [(104, some 11)], false⟩, ⟨[0], [0, 1, 2, 3, 4, 5, 6, 7, 8, 9, 10, 11, 12], [(13, none), (105, some 12)], false⟩, ⟨[0], [0, 1, 2, 3, 4, 5, 6, 7, 8, 9, 10, 11, 12, 13], [(105, some 12), (106, some 13)], false⟩, ⟨[0], [0, 1, 2, 3, 4, 5, 6, 7, 8, 9, 10, 11, 12, 13, 14], [(105, some 12), (107, some 14)], false⟩, ⟨[0], [0, 1, 2, 3, 4, 5, 6, 7, 8, 9, 10, 11, 12], [(105, some 12)], false⟩, ⟨[0], [0, 1, 2, 3, 4, 5, 6, 7, 8, 9, 10, 11, 12, 13, 14, 15, 16], [(105, some 12), (108, some 15), (109, some 16)], false⟩, ⟨[0], [0, 1, 2, 3, 4, 5, 6, 7, 8, 9, 10, 11, 12, 13, 14, 15, 16, 17], [(105, some 12), (110, some 17)], false⟩, ⟨[0], [0, 1, 2, 3, 4, 5, 6, 7, 8, 9, 10, 11, 12, 13, 14, 15, 16, 17, 18], [(111, some 18)], false⟩, ⟨[0], [0, 1, 2, 3, 4, 5, 6, 7, 8, 9, 10, 11, 12, 13, 14, 15, 16, 17, 18, 19], [(13, none), (112, some 19)], false⟩, ⟨[0], [0, 1, 2, 3, 4, 5, 6, 7, 8, 9, 10, 11, 12, 13, 14, 15, 16, 17, 18, 19, 20], [(112, some 19), (113, some 20)], false⟩, ⟨[0], [0, 1, 2, 3, 4, 5, 6, 7, 8, 9, 10, 11, 12, 13, 14, 15, 16, 17, 18, 19, 20, 21], [(112, some 19), (114, some 21)], false⟩, ⟨[0], [0, 1, 2, 3, 4, 5, 6, 7, 8, 9, 10, 11, 12, 13, 14, 15, 16, 17, 18, 19], [(5, none), (112, some 19)], false⟩, ⟨[0], [0, 1, 2, 3, 4, 5, 6, 7, 8, 9, 10, 11, 12, 13, 14, 15, 16, 17, 18, 19, 23], [(112, some 19), (116, some 23)], false⟩, ⟨[0], [0, 1, 2, 3, 4, 5, 6, 7, 8, 9, 10, 11, 12, 13, 14, 15, 16, 17, 18, 19, 23, 24], [(112, some 19), (117, some 24)], false⟩, ⟨[], [0, 1, 2, 3, 4, 5, 6, 7, 8, 9, 10, 11, 12, 13, 14, 15, 16, 17, 18, 19, 20, 21, 22, 23, 24, 25], [], false⟩, ⟨[], [0, 1, 2, 3, 4, 5, 6, 7, 8, 9, 10, 11, 12, 13, 14, 15, 16, 17, 18, 19, 20, 21, 22, 23, 24, 25, 26], [], false⟩, ⟨[], [0, 1, 2, 3, 4, 5, 6, 7, 8, 9, 10, 11, 12, 13, 14, 15, 16, 17, 18, 19, 20, 21, 22, 23, 24, 25, 26, 27], [], false⟩, ⟨[], [0, 1, 2, 3, 4, 5, 6, 7, 8, 9, 10, 11, 12, 13, 14, 15, 16, 17, 18, 19, 20, 21, 22, 23, 24, 25, 26, 27, 28], [], false⟩, ⟨[], [0, 1, 2, 3, 4, 5, 6, 7, 8, 9, 10, 11, 12, 13, 14, 15, 16, 17, 18, 19, 20, 21, 22, 23, 24, 25, 26, 27, 28, 29], [], false⟩, ⟨[], [0, 1, 2, 3, 4, 5, 6, 7, 8, 9, 10, 11, 12, 13, 14, 15, 16, 17, 18, 19, 20, 21, 22, 23, 24, 25, 26, 27, 28, 29, 30], [], false⟩, ⟨[], [0, 1, 2, 3, 4, 5, 6, 7, 8, 9, 10, 11, 12, 13, 14, 15, 16, 17, 18, 19, 20, 21, 22, 23, 24, 25, 26, 27, 28, 29, 30, 31], [], false⟩, ⟨[], [0, 1, 2, 3, 4, 5, 6, 7, 8, 9, 10, 11, 12, 13, 14, 15, 16, 17, 18, 19, 20, 21, 22, 23, 24, 25, 26, 27, 28, 29, 30, 31, 32], [], false⟩, ⟨[], [0, 1, 2, 3, 4, 5, 6, 7, 8, 9, 10, 11, 12, 13, 14, 15, 16, 17, 18, 19, 20, 21, 22, 23, 24, 25, 26, 27, 28, 29, 30, 31, 32, 33], [], false⟩, ⟨[], [0, 1, 2, 3, 4, 5, 6, 7, 8, 9, 10, 11, 12, 13, 14, 15, 16, 17, 18, 19, 20, 21, 22, 23, 24, 25, 26, 27, 28, 29, 30, 31, 32, 33, 34], [], false⟩, ⟨[], [0, 1, 2, 3, 4, 5, 6, 7, 8, 9, 10, 11, 12, 13, 14, 15, 16, 17, 18, 19, 20, 21, 22, 23, 24, 25, 26, 27, 28, 29, 30, 31, 32, 33, 34, 35], [], false⟩, ⟨[], [0, 1, 2, 3, 4, 5, 6, 7, 8, 9, 10, 11, 12, 13, 14, 15, 16, 17, 18, 19, 20, 21, 22, 23, 24, 25, 26, 27, 28, 29, 30, 31, 32, 33, 34, 35, 36], [], false⟩, ⟨[], [0, 1, 2, 3, 4, 5, 6, 7, 8, 9, 10, 11, 12, 13, 14, 15, 16, 17, 18, 19, 20, 21, 22, 23, 24, 25, 26, 27, 28, 29, 30, 31, 32, 33, 34, 35, 36, 37], [], false⟩, ⟨[], [0, 1, 2, 3, 4, 5, 6, 7, 8, 9, 10, 11, 12, 13, 14, 15, 16, 17, 18, 19, 20, 21, 22, 23, 24, 25, 26, 27, 28, 29, 30, 31, 32, 33, 34, 35, 36, 37, 38], [], false⟩, ⟨[], [0, 1, 2, 3, 4, 5, 6, 7, 8, 9, 10, 11, 12, 13, 14, 15, 16, 17, 18, 19, 20, 21, 22, 23, 24, 25, 26, 27, 28, 29, 30, 31, 32, 33, 34, 35, 36, 37, 38, 39], [], false⟩, ⟨[], [0, 1, 2, 3, 4, 5, 6, 7, 8, 9, 10, 11, 12, 13, 14, 15, 16, 17, 18, 19, 20, 21, 22, 23, 24, 25, 26, 27, 28, 29, 30, 31, 32, 33, 34, 35, 36, 37, 38, 39, 40], [], false⟩, ⟨[], [0, 1, 2, 3, 4, 5, 6, 7, 8, 9, 10, 11, 12, 13, 14, 15, 16, 17, 18, 19, 20, 21, 22, 23, 24, 25, 26, 27, 28, 29, 30, 31, 32, 33, 34, 35, 36, 37, 38, 39, 40, 41], [], false⟩] 26 (by kernel_rfl) (by kernel_rfl)
                  ·refine ⟨?_, ?_, ?_, ?_, ?_, ?_, ?_, ?_, ?_, ?_, ?_, ?_, ?_, ?_, ?_, ?_, ?_, ?_, ?_, ?_, ?_, ?_, ?_, ?_, ?_, ?_, trivial⟩
                   ·intro tm hr
                    simp [AllL, rdV] at hr
                    simp [hr, ← e48, ← e51, ← e52, ← e53, lenI_cast e54, ← e55]
                    intros; first | exact KD.mk | exact KD.mkN
                   ·intro tm hr
                    simp [AllL, rdV] at hr
                    simp [hr, ← e48, ← e51, ← e52, ← e53, lenI_cast e54, ← e55]
                    intros; first | exact KD.mk | exact KD.mkN
                   ·intro tm hr
                    simp [AllL, rdV] at hr
                    simp [hr, ← e48, ← e51, ← e52, ← e53, lenI_cast e54, ← e55]
                    intros; first | exact KD.mk | exact KD.mkN
                   ·intro tm hr
                    simp [AllL, rdV] at hr
                    simp [hr, ← e48, ← e51, ← e52, ← e53, lenI_cast e54, ← e55]
                    intros; first | exact KD.mk | exact KD.mkN
                   ·intro tm hr
                    simp [AllL, rdV] at hr
                    simp [hr, ← e48, ← e51, ← e52, ← e53, lenI_cast e54, ← e55]
                    intros; first | exact KD.mk | exact KD.mkN
                   ·intro tm hr
                    simp [AllL, rdV] at hr
                    simp [hr, ← e48, ← e51, ← e52, ← e53, lenI_cast e54, ← e55]
                    intros; first | exact KD.mk | exact KD.mkN
                   ·intro tm hr
                    simp [AllL, rdV] at hr
                    simp [hr, ← e48, ← e51, ← e52, ← e53, lenI_cast e54, ← e55]
                    intros; first | exact KD.mk | exact KD.mkN
                   ·intro tm hr
                    simp [AllL, rdV] at hr
                    simp [hr, ← e48, ← e51, ← e52, ← e53, lenI_cast e54, ← e55]
                    intros
                    refine xcall_plain en_r13_Give (s_r13_Give e49) rfl ⟨.same rfl, .same rfl, .same rfl, .same rfl, trivial⟩ ?_
                    try simp [← e48, ← e51, ← e52, ← e53, lenI_cast e54, ← e55]
                    intros; first | exact KD.mk | exact KD.mkN
                   ·intro tm hr
                    simp [AllL, rdV] at hr
                    simp [hr, ← e48, ← e51, ← e52, ← e53, lenI_cast e54, ← e55]
                    intros; first | exact KD.mk | exact KD.mkN
                   ·intro tm hr
                    simp [AllL, rdV] at hr
                    simp [hr, ← e48, ← e51, ← e52, ← e53, lenI_cast e54, ← e55]
                    intros; first | exact KD.mk | exact KD.mkN
                   ·intro tm hr
                    simp [AllL, rdV] at hr
                    simp [hr, ← e48, ← e51, ← e52, ← e53, lenI_cast e54, ← e55]
                    intros
                    refine xcall_plain en_r13_SameClaims (s_r13_SameClaims e50) rfl ⟨.same rfl, .same rfl, trivial⟩ ?_
                    try simp [← e48, ← e51, ← e52, ← e53, lenI_cast e54, ← e55]
                    intros; first | exact KD.mk | exact KD.mkN
                   ·intro tm hr
                    simp [AllL, rdV] at hr
                    simp [hr, ← e48, ← e51, ← e52, ← e53, lenI_cast e54, ← e55]
                    intros; first | exact KD.mk | exact KD.mkN
                   ·intro tm hr
                    simp [AllL, rdV] at hr
                    simp [hr, ← e48, ← e51, ← e52, ← e53, lenI_cast e54, ← e55]
                    intros; first | exact KD.mk | exact KD.mkN
                   ·intro tm hr
                    simp [AllL, rdV] at hr
                    simp [hr, ← e48, ← e51, ← e52, ← e53, lenI_cast e54, ← e55]
                    intros; first | exact KD.mk | exact KD.mkN
                   ·intro tm hr
                    simp [AllL, rdV] at hr
                    simp [hr, ← e48, ← e51, ← e52, ← e53, lenI_cast e54, ← e55]
                    intros; first | exact KD.mk | exact KD.mkN
                   ·intro tm hr
                    simp [AllL, rdV] at hr
                    simp [hr, ← e48, ← e51, ← e52, ← e53, lenI_cast e54, ← e55]
                    intros; first | exact KD.mk | exact KD.mkN
                   ·intro tm hr
                    simp [AllL, rdV] at hr
                    simp [hr, ← e48, ← e51, ← e52, ← e53, lenI_cast e54, ← e55]
                    intros; first | exact KD.mk | exact KD.mkN
                   ·intro tm hr
                    simp [AllL, rdV] at hr
                    simp [hr, ← e48, ← e51, ← e52, ← e53, lenI_cast e54, ← e55]
                    intros; first | exact KD.mk | exact KD.mkN
                   ·intro tm hr
                    simp [AllL, rdV] at hr
                    simp [hr, ← e48, ← e51, ← e52, ← e53, lenI_cast e54, ← e55]
                    intros; first | exact KD.mk | exact KD.mkN
                   ·intro tm hr
                    simp [AllL, rdV] at hr
                    simp [hr, ← e48, ← e51, ← e52, ← e53, lenI_cast e54, ← e55]
                    intros; first | exact KD.mk | exact KD.mkN
                   ·intro tm hr
                    simp [AllL, rdV] at hr
                    simp [hr, ← e48, ← e51, ← e52, ← e53, lenI_cast e54, ← e55]
                    intros; first | exact KD.mk | exact KD.mkN
                   ·intro tm hr
                    simp [AllL, rdV] at hr
                    simp [hr, ← e48, ← e51, ← e52, ← e53, lenI_cast e54, ← e55]
                    intros; first | exact KD.mk | exact KD.mkN
                   ·intro tm hr
                    simp [AllL, rdV] at hr
                    simp [hr, ← e48, ← e51, ← e52, ← e53, lenI_cast e54, ← e55]
                    intros; first | exact KD.mk | exact KD.mkN
                   ·intro tm hr
                    simp [AllL, rdV] at hr
                    simp [hr, ← e48, ← e51, ← e52, ← e53, lenI_cast e54, ← e55]
                    intros; first | exact KD.mk | exact KD.mkN
                   ·intro tm hr
                    simp [AllL, rdV] at hr
                    simp [hr, ← e48, ← e51, ← e52, ← e53, lenI_cast e54, ← e55]
                    intros; first | exact KD.mk | exact KD.mkN
                   ·intro tm hr
                    simp [AllL, rdV] at hr
                    simp [hr, ← e48, ← e51, ← e52, ← e53, lenI_cast e54, ← e55]
                    intros; first | exact KD.mk | exact KD.mkN
                  ·rfl
                  ·simp [tmD, putD, ← e48, ← e51, ← e52, ← e53, lenI_cast e54, ← e55]; rfl
                  ·simp [← e48, ← e51, ← e52, ← e53, lenI_cast e54, ← e55]
                   intros; rfl
                  obtain rfl := Option.some.inj h
                  refine nP_i ?_
                  refine Weak.mixN [] hn0 (by decide) ?_ ?_ rfl
                  all_goals first | (simp [inv_cons, inv_nil, pickOb]; done) | rfl
                | false =>
                 replace h := iteF rfl h
                 apply AW.drawnR (V := [_, _, _, _, _, _, _, _, _, _, _, _, _, _, _, _, _, _, _, _, _, _, _, _, _, _]) mixed [⟨[0], [], [(13, none)], false⟩, ⟨[0], [0], [(93, some 0)], false⟩, ⟨[0], [0, 1], [(94, some 1)], false⟩, ⟨[0], [0, 1, 2], [(95, some 2)], false⟩, ⟨[0], [0, 1, 2, 3], [(5, none), (96, some 3)], false⟩, ⟨[0], [0, 1, 2, 3, 4], [(96, some 3), (97, some 4)], false⟩, ⟨[0], [0, 1, 2, 3], [(7, none), (96, some 3)], false⟩, ⟨[0], [0, 1, 2, 3, 4, 5, 6], [(96, some 3), (98, some 5), (99, some 6)], false⟩, ⟨[0], [0, 1, 2, 3], [(13, none), (96, some 3)], false⟩, ⟨[0], [0, 1, 2, 3, 8], [(96, some 3), (101, some 8)], false⟩, ⟨[0], [0, 1, 2, 3, 4, 5, 6, 7, 8, 9], [(96, some 3), (100, some 7), (102, some 9)], false⟩, ⟨[0], [0, 1, 2, 3, 4, 5, 6, 7, 8, 9, 10], [(96, some 3), (103, some 10)], false⟩, ⟨[0], [0, 1, 2, 3, 4, 5, 6, 7, 8, 9, 10, 11], [(104, some 11)], false⟩, ⟨[0], [0, 1, 2, 3, 4, 5, 6, 7, 8, 9, 10, 11, 12], [(13, none), (105, some 12)], false⟩, ⟨[0], [0, 1, 2, 3, 4, 5, 6, 7, 8, 9, 10, 11, 12, 13], [(105, some 12), (106, some 13)], false⟩, ⟨[0], [0, 1, 2, 3, 4, 5, 6, 7, 8, 9, 10, 11, 12, 13, 14], [(105, some 12), (107, some 14)], false⟩, ⟨[0], [0, 1, 2, 3, 4, 5, 6, 7, 8, 9, 10, 11, 12], [(105, some 12)], false⟩, ⟨[0], [0, 1, 2, 3, 4, 5, 6, 7, 8, 9, 10, 11, 12, 13, 14, 15, 16], [(105, some 12), (108, some 15), (109, some 16)], false⟩, ⟨[0], [0, 1, 2, 3, 4, 5, 6, 7, 8, 9, 10, 11, 12, 13, 14, 15, 16, 17], [(105, some 12), (110, some 17)], false⟩, ⟨[0], [0, 1, 2, 3, 4, 5, 6, 7, 8, 9, 10, 11, 12, 13, 14, 15, 16, 17, 18], [(111, some 18)], false⟩, ⟨[0], [0, 1, 2, 3, 4, 5, 6, 7, 8, 9, 10, 11, 12, 13, 14, 15, 16, 17, 18, 19], [(13, none), (112, some 19)], false⟩, ⟨[0], [0, 1, 2, 3, 4, 5, 6, 7, 8, 9, 10, 11, 12, 13, 14, 15, 16, 17, 18, 19, 20], [(112, some 19), (113, some 20)], false⟩, ⟨[0], [0, 1, 2, 3, 4, 5, 6, 7, 8, 9, 10, 11, 12, 13, 14, 15, 16, 17, 18, 19, 20, 21], [(112, some 19), (114, some 21)], false⟩, ⟨[0], [0, 1, 2, 3, 4, 5, 6, 7, 8, 9, 10, 11, 12, 13, 14, 15, 16, 17, 18, 19], [(5, none), (112, some 19)], false⟩, ⟨[0], [0, 1, 2, 3, 4, 5, 6, 7, 8, 9, 10, 11, 12, 13, 14, 15, 16, 17, 18, 19, 23], [(112, some 19), (116, some 23)], false⟩, ⟨[0], [0, 1, 2, 3, 4, 5, 6, 7, 8, 9, 10, 11, 12, 13, 14, 15, 16, 17, 18, 19, 23, 24], [(112, some 19), (117, some 24)], false⟩, ⟨[], [0, 1, 2, 3, 4, 5, 6, 7, 8, 9, 10, 11, 12, 13, 14, 15, 16, 17, 18, 19, 20, 21, 22, 23, 24, 25], [], false⟩, ⟨[], [0, 1, 2, 3, 4, 5, 6, 7, 8, 9, 10, 11, 12, 13, 14, 15, 16, 17, 18, 19, 20, 21, 22, 23, 24, 25, 26], [], false⟩, ⟨[], [0, 1, 2, 3, 4, 5, 6, 7, 8, 9, 10, 11, 12, 13, 14, 15, 16, 17, 18, 19, 20, 21, 22, 23, 24, 25, 26, 27], [], false⟩, ⟨[], [0, 1, 2, 3, 4, 5, 6, 7, 8, 9, 10, 11, 12, 13, 14, 15, 16, 17, 18, 19, 20, 21, 22, 23, 24, 25, 26, 27, 28], [], false⟩, ⟨[], [0, 1, 2, 3, 4, 5, 6, 7, 8, 9, 10, 11, 12, 13, 14, 15, 16, 17, 18, 19, 20, 21, 22, 23, 24, 25, 26, 27, 28, 29], [], false⟩, ⟨[], [0, 1, 2, 3, 4, 5, 6, 7, 8, 9, 10, 11, 12, 13, 14, 15, 16, 17, 18, 19, 20, 21, 22, 23, 24, 25, 26, 27, 28, 29, 30], [], false⟩, ⟨[], [0, 1, 2, 3, 4, 5, 6, 7, 8, 9, 10, 11, 12, 13, 14, 15, 16, 17, 18, 19, 20, 21, 22, 23, 24, 25, 26, 27, 28, 29, 30, 31], [], false⟩, ⟨[], [0, 1, 2, 3, 4, 5, 6, 7, 8, 9, 10, 11, 12, 13, 14, 15, 16, 17, 18, 19, 20, 21, 22, 23, 24, 25, 26, 27, 28, 29, 30, 31, 32], [], false⟩, ⟨[], [0, 1, 2, 3, 4, 5, 6, 7, 8, 9, 10, 11, 12, 13, 14, 15, 16, 17, 18, 19, 20, 21, 22, 23, 24, 25, 26, 27, 28, 29, 30, 31, 32, 33], [], false⟩, ⟨[], [0, 1, 2, 3, 4, 5, 6, 7, 8, 9, 10, 11, 12, 13, 14, 15, 16, 17, 18, 19, 20, 21, 22, 23, 24, 25, 26, 27, 28, 29, 30, 31, 32, 33, 34], [], false⟩, ⟨[], [0, 1, 2, 3, 4, 5, 6, 7, 8, 9, 10, 11, 12, 13, 14, 15, 16, 17, 18, 19, 20, 21, 22, 23, 24, 25, 26, 27, 28, 29, 30, 31, 32, 33, 34, 35], [], false⟩, ⟨[], [0, 1, 2, 3, 4, 5, 6, 7, 8, 9, 10, 11, 12, 13, 14, 15, 16, 17, 18, 19, 20, 21, 22, 23, 24, 25, 26, 27, 28, 29, 30, 31, 32, 33, 34, 35, 36], [], false⟩, ⟨[], [0, 1, 2, 3, 4, 5, 6, 7, 8, 9, 10, 11, 12, 13, 14, 15, 16, 17, 18, 19, 20, 21, 22, 23, 24, 25, 26, 27, 28, 29, 30, 31, 32, 33, 34, 35, 36, 37], [], false⟩, ⟨[], [0, 1, 2, 3, 4, 5, 6, 7, 8, 9, 10, 11, 12, 13, 14, 15, 16, 17, 18, 19, 20, 21, 22, 23, 24, 25, 26, 27, 28, 29, 30, 31, 32, 33, 34, 35, 36, 37, 38], [], false⟩, ⟨[], [0, 1, 2, 3, 4, 5, 6, 7, 8, 9, 10, 11, 12, 13, 14, 15, 16, 17, 18, 19, 20, 21, 22, 23, 24, 25, 26, 27, 28, 29, 30, 31, 32, 33, 34, 35, 36, 37, 38, 39], [], false⟩, ⟨[], [0, 1, 2, 3, 4, 5, 6, 7, 8, 9, 10, 11, 12, 13, 14, 15, 16, 17, 18, 19, 20, 21, 22, 23, 24, 25, 26, 27, 28, 29, 30, 31, 32, 33, 34, 35, 36, 37, 38, 39, 40], [], false⟩, ⟨[], [0, 1, 2, 3, 4, 5, 6, 7, 8, 9, 10, 11, 12, 13, 14, 15, 16, 17, 18, 19, 20, 21, 22, 23, 24, 25, 26, 27, 28, 29, 30, 31, 32, 33, 34, 35, 36, 37, 38, 39, 40, 41], [], false⟩] 26 (by kernel_rfl) (by kernel_rfl)
                 ·refine ⟨?_, ?_, ?_, ?_, ?_, ?_, ?_, ?_, ?_, ?_, ?_, ?_, ?_, ?_, ?_, ?_, ?_, ?_, ?_, ?_, ?_, ?_, ?_, ?_, ?_, ?_, trivial⟩
                  ·intro tm hr
                   simp [AllL, rdV] at hr
                   simp [hr, ← e48, ← e51, ← e52, ← e53]
                   intros; first | exact KD.mk | exact KD.mkN
                  ·intro tm hr
                   simp [AllL, rdV] at hr
                   simp [hr, ← e48, ← e51, ← e52, ← e53]
                   intros; first | exact KD.mk | exact KD.mkN
                  ·intro tm hr
                   simp [AllL, rdV] at hr
                   simp [hr, ← e48, ← e51, ← e52, ← e53]
                   intros; first | exact KD.mk | exact KD.mkN
                  ·intro tm hr
                   simp [AllL, rdV] at hr
                   simp [hr, ← e48, ← e51, ← e52, ← e53]
                   intros; first | exact KD.mk | exact KD.mkN
                  ·intro tm hr
                   simp [AllL, rdV] at hr
                   simp [hr, ← e48, ← e51, ← e52, ← e53]
                   intros; first | exact KD.mk | exact KD.mkN
                  ·intro tm hr
                   simp [AllL, rdV] at hr
                   simp [hr, ← e48, ← e51, ← e52, ← e53]
                   intros; first | exact KD.mk | exact KD.mkN
                  ·intro tm hr
                   simp [AllL, rdV] at hr
                   simp [hr, ← e48, ← e51, ← e52, ← e53]
                   intros; first | exact KD.mk | exact KD.mkN
                  ·intro tm hr
                   simp [AllL, rdV] at hr
                   simp [hr, ← e48, ← e51, ← e52, ← e53]
                   intros
                   refine xcall_plain en_r13_Give (s_r13_Give e49) rfl ⟨.same rfl, .same rfl, .same rfl, .same rfl, trivial⟩ ?_
                   try simp [← e48, ← e51, ← e52, ← e53]
                   intros; first | exact KD.mk | exact KD.mkN
                  ·intro tm hr
                   simp [AllL, rdV] at hr
                   simp [hr, ← e48, ← e51, ← e52, ← e53]
                   intros; first | exact KD.mk | exact KD.mkN
                  ·intro tm hr
                   simp [AllL, rdV] at hr
                   simp [hr, ← e48, ← e51, ← e52, ← e53]
                   intros; first | exact KD.mk | exact KD.mkN
                  ·intro tm hr
                   simp [AllL, rdV] at hr
                   simp [hr, ← e48, ← e51, ← e52, ← e53]
                   intros
                   refine xcall_plain en_r13_SameClaims (s_r13_SameClaims e50) rfl ⟨.same rfl, .same rfl, trivial⟩ ?_
                   try simp [← e48, ← e51, ← e52, ← e53]
                   intros; first | exact KD.mk | exact KD.mkN
                  ·intro tm hr
                   simp [AllL, rdV] at hr
                   simp [hr, ← e48, ← e51, ← e52, ← e53]
                   intros; first | exact KD.mk | exact KD.mkN
                  ·intro tm hr
                   simp [AllL, rdV] at hr
                   simp [hr, ← e48, ← e51, ← e52, ← e53]
                   intros; first | exact KD.mk | exact KD.mkN
                  ·intro tm hr
                   simp [AllL, rdV] at hr
                   simp [hr, ← e48, ← e51, ← e52, ← e53]
                   intros; first | exact KD.mk | exact KD.mkN
                  ·intro tm hr
                   simp [AllL, rdV] at hr
                   simp [hr, ← e48, ← e51, ← e52, ← e53]
                   intros; first | exact KD.mk | exact KD.mkN
                  ·intro tm hr
                   simp [AllL, rdV] at hr
                   simp [hr, ← e48, ← e51, ← e52, ← e53]
                   intros; first | exact KD.mk | exact KD.mkN
                  ·intro tm hr
                   simp [AllL, rdV] at hr
                   simp [hr, ← e48, ← e51, ← e52, ← e53]
                   intros; first | exact KD.mk | exact KD.mkN
                  ·intro tm hr
                   simp [AllL, rdV] at hr
                   simp [hr, ← e48, ← e51, ← e52, ← e53]
                   intros; first | exact KD.mk | exact KD.mkN
                  ·intro tm hr
                   simp [AllL, rdV] at hr
                   simp [hr, ← e48, ← e51, ← e52, ← e53]
                   intros; first | exact KD.mk | exact KD.mkN
                  ·intro tm hr
                   simp [AllL, rdV] at hr
                   simp [hr, ← e48, ← e51, ← e52, ← e53]
                   intros; first | exact KD.mk | exact KD.mkN
                  ·intro tm hr
                   simp [AllL, rdV] at hr
                   simp [hr, ← e48, ← e51, ← e52, ← e53]
                   intros; first | exact KD.mk | exact KD.mkN
                  ·intro tm hr
                   simp [AllL, rdV] at hr
                   simp [hr, ← e48, ← e51, ← e52, ← e53]
                   intros; first | exact KD.mk | exact KD.mkN
                  ·intro tm hr
                   simp [AllL, rdV] at hr
                   simp [hr, ← e48, ← e51, ← e52, ← e53]
                   intros; first | exact KD.mk | exact KD.mkN
                  ·intro tm hr
                   simp [AllL, rdV] at hr
                   simp [hr, ← e48, ← e51, ← e52, ← e53]
                   intros; first | exact KD.mk | exact KD.mkN
                  ·intro tm hr
                   simp [AllL, rdV] at hr
                   simp [hr, ← e48, ← e51, ← e52, ← e53]
                   intros; first | exact KD.mk | exact KD.mkN
                  ·intro tm hr
                   simp [AllL, rdV] at hr
                   simp [hr, ← e48, ← e51, ← e52, ← e53]
                   intros; first | exact KD.mk | exact KD.mkN
                 ·rfl
                 ·simp [tmD, putD, ← e48, ← e51, ← e52, ← e53]; rfl
                 ·simp [← e48, ← e51, ← e52, ← e53]
                  intros; rfl
                 obtain rfl := Option.some.inj h
                 refine nP_i ?_
                 refine Weak.mixN [] hn0 (by decide) ?_ ?_ rfl
                 all_goals first | (simp [inv_cons, inv_nil, pickOb]; done) | rfl
               | false =>
                replace h := iteF rfl h
                apply AW.drawnR (V := [_, _, _, _, _, _, _, _, _, _, _, _, _, _, _, _, _, _, _, _, _, _, _, _, _, _]) mixed [⟨[0], [], [(13, none)], false⟩, ⟨[0], [0], [(93, some 0)], false⟩, ⟨[0], [0, 1], [(94, some 1)], false⟩, ⟨[0], [0, 1, 2], [(95, some 2)], false⟩, ⟨[0], [0, 1, 2, 3], [(5, none), (96, some 3)], false⟩, ⟨[0], [0, 1, 2, 3, 4], [(96, some 3), (97, some 4)], false⟩, ⟨[0], [0, 1, 2, 3], [(7, none), (96, some 3)], false⟩, ⟨[0], [0, 1, 2, 3, 4, 5, 6], [(96, some 3), (98, some 5), (99, some 6)], false⟩, ⟨[0], [0, 1, 2, 3], [(13, none), (96, some 3)], false⟩, ⟨[0], [0, 1, 2, 3, 8], [(96, some 3), (101, some 8)], false⟩, ⟨[0], [0, 1, 2, 3, 4, 5, 6, 7, 8, 9], [(96, some 3), (100, some 7), (102, some 9)], false⟩, ⟨[0], [0, 1, 2, 3, 4, 5, 6, 7, 8, 9, 10], [(96, some 3), (103, some 10)], false⟩, ⟨[0], [0, 1, 2, 3, 4, 5, 6, 7, 8, 9, 10, 11], [(104, some 11)], false⟩, ⟨[0], [0, 1, 2, 3, 4, 5, 6, 7, 8, 9, 10, 11, 12], [(13, none), (105, some 12)], false⟩, ⟨[0], [0, 1, 2, 3, 4, 5, 6, 7, 8, 9, 10, 11, 12, 13], [(105, some 12), (106, some 13)], false⟩, ⟨[0], [0, 1, 2, 3, 4, 5, 6, 7, 8, 9, 10, 11, 12, 13, 14], [(105, some 12), (107, some 14)], false⟩, ⟨[0], [0, 1, 2, 3, 4, 5, 6, 7, 8, 9, 10, 11, 12], [(105, some 12)], false⟩, ⟨[0], [0, 1, 2, 3, 4, 5, 6, 7, 8, 9, 10, 11, 12, 13, 14, 15, 16], [(105, some 12), (108, some 15), (109, some 16)], false⟩, ⟨[0], [0, 1, 2, 3, 4, 5, 6, 7, 8, 9, 10, 11, 12, 13, 14, 15, 16, 17], [(105, some 12), (110, some 17)], false⟩, ⟨[0], [0, 1, 2, 3, 4, 5, 6, 7, 8, 9, 10, 11, 12, 13, 14, 15, 16, 17, 18], [(111, some 18)], false⟩, ⟨[0], [0, 1, 2, 3, 4, 5, 6, 7, 8, 9, 10, 11, 12, 13, 14, 15, 16, 17, 18, 19], [(13, none), (112, some 19)], false⟩, ⟨[0], [0, 1, 2, 3, 4, 5, 6, 7, 8, 9, 10, 11, 12, 13, 14, 15, 16, 17, 18, 19, 20], [(112, some 19), (113, some 20)], false⟩, ⟨[0], [0, 1, 2, 3, 4, 5, 6, 7, 8, 9, 10, 11, 12, 13, 14, 15, 16, 17, 18, 19, 20, 21], [(112, some 19), (114, some 21)], false⟩, ⟨[0], [0, 1, 2, 3, 4, 5, 6, 7, 8, 9, 10, 11, 12, 13, 14, 15, 16, 17, 18, 19], [(5, none), (112, some 19)], false⟩, ⟨[0], [0, 1, 2, 3, 4, 5, 6, 7, 8, 9, 10, 11, 12, 13, 14, 15, 16, 17, 18, 19, 23], [(112, some 19), (116, some 23)], false⟩, ⟨[0], [0, 1, 2, 3, 4, 5, 6, 7, 8, 9, 10, 11, 12, 13, 14, 15, 16, 17, 18, 19, 23, 24], [(112, some 19), (117, some 24)], false⟩, ⟨[], [0, 1, 2, 3, 4, 5, 6, 7, 8, 9, 10, 11, 12, 13, 14, 15, 16, 17, 18, 19, 20, 21, 22, 23, 24, 25], [], false⟩, ⟨[], [0, 1, 2, 3, 4, 5, 6, 7, 8, 9, 10, 11, 12, 13, 14, 15, 16, 17, 18, 19, 20, 21, 22, 23, 24, 25, 26], [], false⟩, ⟨[], [0, 1, 2, 3, 4, 5, 6, 7, 8, 9, 10, 11, 12, 13, 14, 15, 16, 17, 18, 19, 20, 21, 22, 23, 24, 25, 26, 27], [], false⟩, ⟨[], [0, 1, 2, 3, 4, 5, 6, 7, 8, 9, 10, 11, 12, 13, 14, 15, 16, 17, 18, 19, 20, 21, 22, 23, 24, 25, 26, 27, 28], [], false⟩, ⟨[], [0, 1, 2, 3, 4, 5, 6, 7, 8, 9, 10, 11, 12, 13, 14, 15, 16, 17, 18, 19, 20, 21, 22, 23, 24, 25, 26, 27, 28, 29], [], false⟩, ⟨[], [0, 1, 2, 3, 4, 5, 6, 7, 8, 9, 10, 11, 12, 13, 14, 15, 16, 17, 18, 19, 20, 21, 22, 23, 24, 25, 26, 27, 28, 29, 30], [], false⟩, ⟨[], [0, 1, 2, 3, 4, 5, 6, 7, 8, 9, 10, 11, 12, 13, 14, 15, 16, 17, 18, 19, 20, 21, 22, 23, 24, 25, 26, 27, 28, 29, 30, 31], [], false⟩, ⟨[], [0, 1, 2, 3, 4, 5, 6, 7, 8, 9, 10, 11, 12, 13, 14, 15, 16, 17, 18, 19, 20, 21, 22, 23, 24, 25, 26, 27, 28, 29, 30, 31, 32], [], false⟩, ⟨[], [0, 1, 2, 3, 4, 5, 6, 7, 8, 9, 10, 11, 12, 13, 14, 15, 16, 17, 18, 19, 20, 21, 22, 23, 24, 25, 26, 27, 28, 29, 30, 31, 32, 33], [], false⟩, ⟨[], [0, 1, 2, 3, 4, 5, 6, 7, 8, 9, 10, 11, 12, 13, 14, 15, 16, 17, 18, 19, 20, 21, 22, 23, 24, 25, 26, 27, 28, 29, 30, 31, 32, 33, 34], [], false⟩, ⟨[], [0, 1, 2, 3, 4, 5, 6, 7, 8, 9, 10, 11, 12, 13, 14, 15, 16, 17, 18, 19, 20, 21, 22, 23, 24, 25, 26, 27, 28, 29, 30, 31, 32, 33, 34, 35], [], false⟩, ⟨[], [0, 1, 2, 3, 4, 5, 6, 7, 8, 9, 10, 11, 12, 13, 14, 15, 16, 17, 18, 19, 20, 21, 22, 23, 24, 25, 26, 27, 28, 29, 30, 31, 32, 33, 34, 35, 36], [], false⟩, ⟨[], [0, 1, 2, 3, 4, 5, 6, 7, 8, 9, 10, 11, 12, 13, 14, 15, 16, 17, 18, 19, 20, 21, 22, 23, 24, 25, 26, 27, 28, 29, 30, 31, 32, 33, 34, 35, 36, 37], [], false⟩, ⟨[], [0, 1, 2, 3, 4, 5, 6, 7, 8, 9, 10, 11, 12, 13, 14, 15, 16, 17, 18, 19, 20, 21, 22, 23, 24, 25, 26, 27, 28, 29, 30, 31, 32, 33, 34, 35, 36, 37, 38], [], false⟩, ⟨[], [0, 1, 2, 3, 4, 5, 6, 7, 8, 9, 10, 11, 12, 13, 14, 15, 16, 17, 18, 19, 20, 21, 22, 23, 24, 25, 26, 27, 28, 29, 30, 31, 32, 33, 34, 35, 36, 37, 38, 39], [], false⟩, ⟨[], [0, 1, 2, 3, 4, 5, 6, 7, 8, 9, 10, 11, 12, 13, 14, 15, 16, 17, 18, 19, 20, 21, 22, 23, 24, 25, 26, 27, 28, 29, 30, 31, 32, 33, 34, 35, 36, 37, 38, 39, 40], [], false⟩, ⟨[], [0, 1, 2, 3, 4, 5, 6, 7, 8, 9, 10, 11, 12, 13, 14, 15, 16, 17, 18, 19, 20, 21, 22, 23, 24, 25, 26, 27, 28, 29, 30, 31, 32, 33, 34, 35, 36, 37, 38, 39, 40, 41], [], false⟩] 26 (by kernel_rfl) (by kernel_rfl)
                ·refine ⟨?_, ?_, ?_, ?_, ?_, ?_, ?_, ?_, ?_, ?_, ?_, ?_, ?_, ?_, ?_, ?_, ?_, ?_, ?_, ?_, ?_, ?_, ?_, ?_, ?_, ?_, trivial⟩
                 ·intro tm hr
                  simp [AllL, rdV] at hr
                  simp [hr, ← e48, ← e51, ← e52]
                  intros; first | exact KD.mk | exact KD.mkN
                 ·intro tm hr
                  simp [AllL, rdV] at hr
                  simp [hr, ← e48, ← e51, ← e52]
                  intros; first | exact KD.mk | exact KD.mkN
                 ·intro tm hr
                  simp [AllL, rdV] at hr
                  simp [hr, ← e48, ← e51, ← e52]
                  intros; first | exact KD.mk | exact KD.mkN
                 ·intro tm hr
                  simp [AllL, rdV] at hr
                  simp [hr, ← e48, ← e51, ← e52]
                  intros; first | exact KD.mk | exact KD.mkN
                 ·intro tm hr
                  simp [AllL, rdV] at hr
                  simp [hr, ← e48, ← e51, ← e52]
                  intros; first | exact KD.mk | exact KD.mkN
                 ·intro tm hr
                  simp [AllL, rdV] at hr
                  simp [hr, ← e48, ← e51, ← e52]
                  intros; first | exact KD.mk | exact KD.mkN
                 ·intro tm hr
                  simp [AllL, rdV] at hr
                  simp [hr, ← e48, ← e51, ← e52]
                  intros; first | exact KD.mk | exact KD.mkN
                 ·intro tm hr
                  simp [AllL, rdV] at hr
                  simp [hr, ← e48, ← e51, ← e52]
                  intros
                  refine xcall_plain en_r13_Give (s_r13_Give e49) rfl ⟨.same rfl, .same rfl, .same rfl, .same rfl, trivial⟩ ?_
                  try simp [← e48, ← e51, ← e52]
                  intros; first | exact KD.mk | exact KD.mkN
                 ·intro tm hr
                  simp [AllL, rdV] at hr
                  simp [hr, ← e48, ← e51, ← e52]
                  intros; first | exact KD.mk | exact KD.mkN
                 ·intro tm hr
                  simp [AllL, rdV] at hr
                  simp [hr, ← e48, ← e51, ← e52]
                  intros; first | exact KD.mk | exact KD.mkN
                 ·intro tm hr
                  simp [AllL, rdV] at hr
                  simp [hr, ← e48, ← e51, ← e52]
                  intros
                  refine xcall_plain en_r13_SameClaims (s_r13_SameClaims e50) rfl ⟨.same rfl, .same rfl, trivial⟩ ?_
                  try simp [← e48, ← e51, ← e52]
                  intros; first | exact KD.mk | exact KD.mkN
                 ·intro tm hr
                  simp [AllL, rdV] at hr
                  simp [hr, ← e48, ← e51, ← e52]
                  intros; first | exact KD.mk | exact KD.mkN
                 ·intro tm hr
                  simp [AllL, rdV] at hr
                  simp [hr, ← e48, ← e51, ← e52]
                  intros; first | exact KD.mk | exact KD.mkN
                 ·intro tm hr
                  simp [AllL, rdV] at hr
                  simp [hr, ← e48, ← e51, ← e52]
                  intros; first | exact KD.mk | exact KD.mkN
                 ·intro tm hr
                  simp [AllL, rdV] at hr
                  simp [hr, ← e48, ← e51, ← e52]
                  intros; first | exact KD.mk | exact KD.mkN
                 ·intro tm hr
                  simp [AllL, rdV] at hr
                  simp [hr, ← e48, ← e51, ← e52]
                  intros; first | exact KD.mk | exact KD.mkN
                 ·intro tm hr
                  simp [AllL, rdV] at hr
                  simp [hr, ← e48, ← e51, ← e52]
                  intros; first | exact KD.mk | exact KD.mkN
                 ·intro tm hr
                  simp [AllL, rdV] at hr
                  simp [hr, ← e48, ← e51, ← e52]
                  intros; first | exact KD.mk | exact KD.mkN
                 ·intro tm hr
                  simp [AllL, rdV] at hr
                  simp [hr, ← e48, ← e51, ← e52]
                  intros; first | exact KD.mk | exact KD.mkN
                 ·intro tm hr
                  simp [AllL, rdV] at hr
                  simp [hr, ← e48, ← e51, ← e52]
                  intros; first | exact KD.mk | exact KD.mkN
                 ·intro tm hr
                  simp [AllL, rdV] at hr
                  simp [hr, ← e48, ← e51, ← e52]
                  intros; first | exact KD.mk | exact KD.mkN
                 ·intro tm hr
                  simp [AllL, rdV] at hr
                  simp [hr, ← e48, ← e51, ← e52]
                  intros; first | exact KD.mk | exact KD.mkN
                 ·intro tm hr
                  simp [AllL, rdV] at hr
                  simp [hr, ← e48, ← e51, ← e52]
                  intros; first | exact KD.mk | exact KD.mkN
                 ·intro tm hr
                  simp [AllL, rdV] at hr
                  simp [hr, ← e48, ← e51, ← e52]
                  intros; first | exact KD.mk | exact KD.mkN
                 ·intro tm hr
                  simp [AllL, rdV] at hr
                  simp [hr, ← e48, ← e51, ← e52]
                  intros; first | exact KD.mk | exact KD.mkN
                 ·intro tm hr
                  simp [AllL, rdV] at hr
                  simp [hr, ← e48, ← e51, ← e52]
                  intros; first | exact KD.mk | exact KD.mkN
                ·rfl
                ·simp [tmD, putD, ← e48, ← e51, ← e52]; rfl
                ·simp [← e48, ← e51, ← e52]
                 intros; rfl
                obtain rfl := Option.some.inj h
                refine nP_i ?_
                refine Weak.mixN [] hn0 (by decide) ?_ ?_ rfl
                all_goals first | (simp [inv_cons, inv_nil, pickOb]; done) | rfl
              | false =>
               replace h := iteF rfl h
               apply AW.drawnR (V := [_, _, _, _, _, _, _, _, _, _, _, _, _, _, _, _, _, _, _, _, _, _, _, _, _, _]) mixed [⟨[0], [], [(13, none)], false⟩, ⟨[0], [0], [(93, some 0)], false⟩, ⟨[0], [0, 1], [(94, some 1)], false⟩, ⟨[0], [0, 1, 2], [(95, some 2)], false⟩, ⟨[0], [0, 1, 2, 3], [(5, none), (96, some 3)], false⟩, ⟨[0], [0, 1, 2, 3, 4], [(96, some 3), (97, some 4)], false⟩, ⟨[0], [0, 1, 2, 3], [(7, none), (96, some 3)], false⟩, ⟨[0], [0, 1, 2, 3, 4, 5, 6], [(96, some 3), (98, some 5), (99, some 6)], false⟩, ⟨[0], [0, 1, 2, 3], [(13, none), (96, some 3)], false⟩, ⟨[0], [0, 1, 2, 3, 8], [(96, some 3), (101, some 8)], false⟩, ⟨[0], [0, 1, 2, 3, 4, 5, 6, 7, 8, 9], [(96, some 3), (100, some 7), (102, some 9)], false⟩, ⟨[0], [0, 1, 2, 3, 4, 5, 6, 7, 8, 9, 10], [(96, some 3), (103, some 10)], false⟩, ⟨[0], [0, 1, 2, 3, 4, 5, 6, 7, 8, 9, 10, 11], [(104, some 11)], false⟩, ⟨[0], [0, 1, 2, 3, 4, 5, 6, 7, 8, 9, 10, 11, 12], [(13, none), (105, some 12)], false⟩, ⟨[0], [0, 1, 2, 3, 4, 5, 6, 7, 8, 9, 10, 11, 12, 13], [(105, some 12), (106, some 13)], false⟩, ⟨[0], [0, 1, 2, 3, 4, 5, 6, 7, 8, 9, 10, 11, 12, 13, 14], [(105, some 12), (107, some 14)], false⟩, ⟨[0], [0, 1, 2, 3, 4, 5, 6, 7, 8, 9, 10, 11, 12], [(105, some 12)], false⟩, ⟨[0], [0, 1, 2, 3, 4, 5, 6, 7, 8, 9, 10, 11, 12, 13, 14, 15, 16], [(105, some 12), (108, some 15), (109, some 16)], false⟩, ⟨[0], [0, 1, 2, 3, 4, 5, 6, 7, 8, 9, 10, 11, 12, 13, 14, 15, 16, 17], [(105, some 12), (110, some 17)], false⟩, ⟨[0], [0, 1, 2, 3, 4, 5, 6, 7, 8, 9, 10, 11, 12, 13, 14, 15, 16, 17, 18], [(111, some 18)], false⟩, ⟨[0], [0, 1, 2, 3, 4, 5, 6, 7, 8, 9, 10, 11, 12, 13, 14, 15, 16, 17, 18, 19], [(13, none), (112, some 19)], false⟩, ⟨[0], [0, 1, 2, 3, 4, 5, 6, 7, 8, 9, 10, 11, 12, 13, 14, 15, 16, 17, 18, 19, 20], [(112, some 19), (113, some 20)], false⟩, ⟨[0], [0, 1, 2, 3, 4, 5, 6, 7, 8, 9, 10, 11, 12, 13, 14, 15, 16, 17, 18, 19, 20, 21], [(112, some 19), (114, some 21)], false⟩, ⟨[0], [0, 1, 2, 3, 4, 5, 6, 7, 8, 9, 10, 11, 12, 13, 14, 15, 16, 17, 18, 19], [(5, none), (112, some 19)], false⟩, ⟨[0], [0, 1, 2, 3, 4, 5, 6, 7, 8, 9, 10, 11, 12, 13, 14, 15, 16, 17, 18, 19, 23], [(112, some 19), (116, some 23)], false⟩, ⟨[0], [0, 1, 2, 3, 4, 5, 6, 7, 8, 9, 10, 11, 12, 13, 14, 15, 16, 17, 18, 19, 23, 24], [(112, some 19), (117, some 24)], false⟩, ⟨[], [0, 1, 2, 3, 4, 5, 6, 7, 8, 9, 10, 11, 12, 13, 14, 15, 16, 17, 18, 19, 20, 21, 22, 23, 24, 25], [], false⟩, ⟨[], [0, 1, 2, 3, 4, 5, 6, 7, 8, 9, 10, 11, 12, 13, 14, 15, 16, 17, 18, 19, 20, 21, 22, 23, 24, 25, 26], [], false⟩, ⟨[], [0, 1, 2, 3, 4, 5, 6, 7, 8, 9, 10, 11, 12, 13, 14, 15, 16, 17, 18, 19, 20, 21, 22, 23, 24, 25, 26, 27], [], false⟩, ⟨[], [0, 1, 2, 3, 4, 5, 6, 7, 8, 9, 10, 11, 12, 13, 14, 15, 16, 17, 18, 19, 20, 21, 22, 23, 24, 25, 26, 27, 28], [], false⟩, ⟨[], [0, 1, 2, 3, 4, 5, 6, 7, 8, 9, 10, 11, 12, 13, 14, 15, 16, 17, 18, 19, 20, 21, 22, 23, 24, 25, 26, 27, 28, 29], [], false⟩, ⟨[], [0, 1, 2, 3, 4, 5, 6, 7, 8, 9, 10, 11, 12, 13, 14, 15, 16, 17, 18, 19, 20, 21, 22, 23, 24, 25, 26, 27, 28, 29, 30], [], false⟩, ⟨[], [0, 1, 2, 3, 4, 5, 6, 7, 8, 9, 10, 11, 12, 13, 14, 15, 16, 17, 18, 19, 20, 21, 22, 23, 24, 25, 26, 27, 28, 29, 30, 31], [], false⟩, ⟨[], [0, 1, 2, 3, 4, 5, 6, 7, 8, 9, 10, 11, 12, 13, 14, 15, 16, 17, 18, 19, 20, 21, 22, 23, 24, 25, 26, 27, 28, 29, 30, 31, 32], [], false⟩, ⟨[], [0, 1, 2, 3, 4, 5, 6, 7, 8, 9, 10, 11, 12, 13, 14, 15, 16, 17, 18, 19, 20, 21, 22, 23, 24, 25, 26, 27, 28, 29, 30, 31, 32, 33], [], false⟩, ⟨[], [0, 1, 2, 3, 4, 5, 6, 7, 8, 9, 10, 11, 12, 13, 14, 15, 16, 17, 18, 19, 20, 21, 22, 23, 24, 25, 26, 27, 28, 29, 30, 31, 32, 33, 34], [], false⟩, ⟨[], [0, 1, 2, 3, 4, 5, 6, 7, 8, 9, 10, 11, 12, 13, 14, 15, 16, 17, 18, 19, 20, 21, 22, 23, 24, 25, 26, 27, 28, 29, 30, 31, 32, 33, 34, 35], [], false⟩, ⟨[], [0, 1, 2, 3, 4, 5, 6, 7, 8, 9, 10, 11, 12, 13, 14, 15, 16, 17, 18, 19, 20, 21, 22, 23, 24, 25, 26, 27, 28, 29, 30, 31, 32, 33, 34, 35, 36], [], false⟩, ⟨[], [0, 1, 2, 3, 4, 5, 6, 7, 8, 9, 10, 11, 12, 13, 14, 15, 16, 17, 18, 19, 20, 21, 22, 23, 24, 25, 26, 27, 28, 29, 30, 31, 32, 33, 34, 35, 36, 37], [], false⟩, ⟨[], [0, 1, 2, 3, 4, 5, 6, 7, 8, 9, 10, 11, 12, 13, 14, 15, 16, 17, 18, 19, 20, 21, 22, 23, 24, 25, 26, 27, 28, 29, 30, 31, 32, 33, 34, 35, 36, 37, 38], [], false⟩, ⟨[], [0, 1, 2, 3, 4, 5, 6, 7, 8, 9, 10, 11, 12, 13, 14, 15, 16, 17, 18, 19, 20, 21, 22, 23, 24, 25, 26, 27, 28, 29, 30, 31, 32, 33, 34, 35, 36, 37, 38, 39], [], false⟩, ⟨[], [0, 1, 2, 3, 4, 5, 6, 7, 8, 9, 10, 11, 12, 13, 14, 15, 16, 17, 18, 19, 20, 21, 22, 23, 24, 25, 26, 27, 28, 29, 30, 31, 32, 33, 34, 35, 36, 37, 38, 39, 40], [], false⟩, ⟨[], [0, 1, 2, 3, 4, 5, 6, 7, 8, 9, 10, 11, 12, 13, 14, 15, 16, 17, 18, 19, 20, 21, 22, 23, 24, 25, 26, 27, 28, 29, 30, 31, 32, 33, 34, 35, 36, 37, 38, 39, 40, 41], [], false⟩] 26 (by kernel_rfl) (by kernel_rfl)
               ·refine ⟨?_, ?_, ?_, ?_, ?_, ?_, ?_, ?_, ?_, ?_, ?_, ?_, ?_, ?_, ?_, ?_, ?_, ?_, ?_, ?_, ?_, ?_, ?_, ?_, ?_, ?_, trivial⟩
                ·intro tm hr
                 simp [AllL, rdV] at hr
                 simp [hr, ← e48, ← e51]
                 intros; first | exact KD.mk | exact KD.mkN
                ·intro tm hr
                 simp [AllL, rdV] at hr
                 simp [hr, ← e48, ← e51]
                 intros; first | exact KD.mk | exact KD.mkN
                ·intro tm hr
                 simp [AllL, rdV] at hr
                 simp [hr, ← e48, ← e51]
                 intros; first | exact KD.mk | exact KD.mkN
                ·intro tm hr
                 simp [AllL, rdV] at hr
                 simp [hr, ← e48, ← e51]
                 intros; first | exact KD.mk | exact KD.mkN
                ·intro tm hr
                 simp [AllL, rdV] at hr
                 simp [hr, ← e48, ← e51]
                 intros; first | exact KD.mk | exact KD.mkN
                ·intro tm hr
                 simp [AllL, rdV] at hr
                 simp [hr, ← e48, ← e51]
                 intros; first | exact KD.mk | exact KD.mkN
                ·intro tm hr
                 simp [AllL, rdV] at hr
                 simp [hr, ← e48, ← e51]
                 intros; first | exact KD.mk | exact KD.mkN
                ·intro tm hr
                 simp [AllL, rdV] at hr
                 simp [hr, ← e48, ← e51]
                 intros
                 refine xcall_plain en_r13_Give (s_r13_Give e49) rfl ⟨.same rfl, .same rfl, .same rfl, .same rfl, trivial⟩ ?_
                 try simp [← e48, ← e51]
                 intros; first | exact KD.mk | exact KD.mkN
                ·intro tm hr
                 simp [AllL, rdV] at hr
                 simp [hr, ← e48, ← e51]
                 intros; first | exact KD.mk | exact KD.mkN
                ·intro tm hr
                 simp [AllL, rdV] at hr
                 simp [hr, ← e48, ← e51]
                 intros; first | exact KD.mk | exact KD.mkN
                ·intro tm hr
                 simp [AllL, rdV] at hr
                 simp [hr, ← e48, ← e51]
                 intros
                 refine xcall_plain en_r13_SameClaims (s_r13_SameClaims e50) rfl ⟨.same rfl, .same rfl, trivial⟩ ?_
                 try simp [← e48, ← e51]
                 intros; first | exact KD.mk | exact KD.mkN
                ·intro tm hr
                 simp [AllL, rdV] at hr
                 simp [hr, ← e48, ← e51]
                 intros; first | exact KD.mk | exact KD.mkN
                ·intro tm hr
                 simp [AllL, rdV] at hr
                 simp [hr, ← e48, ← e51]
                 intros; first | exact KD.mk | exact KD.mkN
                ·intro tm hr
                 simp [AllL, rdV] at hr
                 simp [hr, ← e48, ← e51]
                 intros; first | exact KD.mk | exact KD.mkN
                ·intro tm hr
                 simp [AllL, rdV] at hr
                 simp [hr, ← e48, ← e51]
                 intros; first | exact KD.mk | exact KD.mkN
                ·intro tm hr
                 simp [AllL, rdV] at hr
                 simp [hr, ← e48, ← e51]
                 intros; first | exact KD.mk | exact KD.mkN
                ·intro tm hr
                 simp [AllL, rdV] at hr
                 simp [hr, ← e48, ← e51]
                 intros; first | exact KD.mk | exact KD.mkN
                ·intro tm hr
                 simp [AllL, rdV] at hr
                 simp [hr, ← e48, ← e51]
                 intros; first | exact KD.mk | exact KD.mkN
                ·intro tm hr
                 simp [AllL, rdV] at hr
                 simp [hr, ← e48, ← e51]
                 intros; first | exact KD.mk | exact KD.mkN
                ·intro tm hr
                 simp [AllL, rdV] at hr
                 simp [hr, ← e48, ← e51]
                 intros; first | exact KD.mk | exact KD.mkN
                ·intro tm hr
                 simp [AllL, rdV] at hr
                 simp [hr, ← e48, ← e51]
                 intros; first | exact KD.mk | exact KD.mkN
                ·intro tm hr
                 simp [AllL, rdV] at hr
                 simp [hr, ← e48, ← e51]
                 intros; first | exact KD.mk | exact KD.mkN
                ·intro tm hr
                 simp [AllL, rdV] at hr
                 simp [hr, ← e48, ← e51]
                 intros; first | exact KD.mk | exact KD.mkN
                ·intro tm hr
                 simp [AllL, rdV] at hr
                 simp [hr, ← e48, ← e51]
                 intros; first | exact KD.mk | exact KD.mkN
                ·intro tm hr
                 simp [AllL, rdV] at hr
                 simp [hr, ← e48, ← e51]
                 intros; first | exact KD.mk | exact KD.mkN
                ·intro tm hr
                 simp [AllL, rdV] at hr
                 simp [hr, ← e48, ← e51]
                 intros; first | exact KD.mk | exact KD.mkN
               ·rfl
               ·simp [tmD, putD, ← e48, ← e51]; rfl
               ·simp [← e48, ← e51]
                intros; rfl
               obtain rfl := Option.some.inj h
               refine nP_i ?_
               refine Weak.mixN [] hn0 (by decide) ?_ ?_ rfl
               all_goals first | (simp [inv_cons, inv_nil, pickOb]; done) | rfl
             | false =>
              replace h := iteF rfl h
              apply AW.drawnR (V := [_, _, _, _, _, _, _, _, _, _, _, _, _, _, _, _, _, _, _, _, _, _, _, _, _, _]) mixed [⟨[0], [], [(13, none)], false⟩, ⟨[0], [0], [(93, some 0)], false⟩, ⟨[0], [0, 1], [(94, some 1)], false⟩, ⟨[0], [0, 1, 2], [(95, some 2)], false⟩, ⟨[0], [0, 1, 2, 3], [(5, none), (96, some 3)], false⟩, ⟨[0], [0, 1, 2, 3, 4], [(96, some 3), (97, some 4)], false⟩, ⟨[0], [0, 1, 2, 3], [(7, none), (96, some 3)], false⟩, ⟨[0], [0, 1, 2, 3, 4, 5, 6], [(96, some 3), (98, some 5), (99, some 6)], false⟩, ⟨[0], [0, 1, 2, 3], [(13, none), (96, some 3)], false⟩, ⟨[0], [0, 1, 2, 3, 8], [(96, some 3), (101, some 8)], false⟩, ⟨[0], [0, 1, 2, 3, 4, 5, 6, 7, 8, 9], [(96, some 3), (100, some 7), (102, some 9)], false⟩, ⟨[0], [0, 1, 2, 3, 4, 5, 6, 7, 8, 9, 10], [(96, some 3), (103, some 10)], false⟩, ⟨[0], [0, 1, 2, 3, 4, 5, 6, 7, 8, 9, 10, 11], [(104, some 11)], false⟩, ⟨[0], [0, 1, 2, 3, 4, 5, 6, 7, 8, 9, 10, 11, 12], [(13, none), (105, some 12)], false⟩, ⟨[0], [0, 1, 2, 3, 4, 5, 6, 7, 8, 9, 10, 11, 12, 13], [(105, some 12), (106, some 13)], false⟩, ⟨[0], [0, 1, 2, 3, 4, 5, 6, 7, 8, 9, 10, 11, 12, 13, 14], [(105, some 12), (107, some 14)], false⟩, ⟨[0], [0, 1, 2, 3, 4, 5, 6, 7, 8, 9, 10, 11, 12], [(105, some 12)], false⟩, ⟨[0], [0, 1, 2, 3, 4, 5, 6, 7, 8, 9, 10, 11, 12, 13, 14, 15, 16], [(105, some 12), (108, some 15), (109, some 16)], false⟩, ⟨[0], [0, 1, 2, 3, 4, 5, 6, 7, 8, 9, 10, 11, 12, 13, 14, 15, 16, 17], [(105, some 12), (110, some 17)], false⟩, ⟨[0], [0, 1, 2, 3, 4, 5, 6, 7, 8, 9, 10, 11, 12, 13, 14, 15, 16, 17, 18], [(111, some 18)], false⟩, ⟨[0], [0, 1, 2, 3, 4, 5, 6, 7, 8, 9, 10, 11, 12, 13, 14, 15, 16, 17, 18, 19], [(13, none), (112, some 19)], false⟩, ⟨[0], [0, 1, 2, 3, 4, 5, 6, 7, 8, 9, 10, 11, 12, 13, 14, 15, 16, 17, 18, 19, 20], [(112, some 19), (113, some 20)], false⟩, ⟨[0], [0, 1, 2, 3, 4, 5, 6, 7, 8, 9, 10, 11, 12, 13, 14, 15, 16, 17, 18, 19, 20, 21], [(112, some 19), (114, some 21)], false⟩, ⟨[0], [0, 1, 2, 3, 4, 5, 6, 7, 8, 9, 10, 11, 12, 13, 14, 15, 16, 17, 18, 19], [(5, none), (112, some 19)], false⟩, ⟨[0], [0, 1, 2, 3, 4, 5, 6, 7, 8, 9, 10, 11, 12, 13, 14, 15, 16, 17, 18, 19, 23], [(112, some 19), (116, some 23)], false⟩, ⟨[0], [0, 1, 2, 3, 4, 5, 6, 7, 8, 9, 10, 11, 12, 13, 14, 15, 16, 17, 18, 19, 23, 24], [(112, some 19), (117, some 24)], false⟩, ⟨[], [0, 1, 2, 3, 4, 5, 6, 7, 8, 9, 10, 11, 12, 13, 14, 15, 16, 17, 18, 19, 20, 21, 22, 23, 24, 25], [], false⟩, ⟨[], [0, 1, 2, 3, 4, 5, 6, 7, 8, 9, 10, 11, 12, 13, 14, 15, 16, 17, 18, 19, 20, 21, 22, 23, 24, 25, 26], [], false⟩, ⟨[], [0, 1, 2, 3, 4, 5, 6, 7, 8, 9, 10, 11, 12, 13, 14, 15, 16, 17, 18, 19, 20, 21, 22, 23, 24, 25, 26, 27], [], false⟩, ⟨[], [0, 1, 2, 3, 4, 5, 6, 7, 8, 9, 10, 11, 12, 13, 14, 15, 16, 17, 18, 19, 20, 21, 22, 23, 24, 25, 26, 27, 28], [], false⟩, ⟨[], [0, 1, 2, 3, 4, 5, 6, 7, 8, 9, 10, 11, 12, 13, 14, 15, 16, 17, 18, 19, 20, 21, 22, 23, 24, 25, 26, 27, 28, 29], [], false⟩, ⟨[], [0, 1, 2, 3, 4, 5, 6, 7, 8, 9, 10, 11, 12, 13, 14, 15, 16, 17, 18, 19, 20, 21, 22, 23, 24, 25, 26, 27, 28, 29, 30], [], false⟩, ⟨[], [0, 1, 2, 3, 4, 5, 6, 7, 8, 9, 10, 11, 12, 13, 14, 15, 16, 17, 18, 19, 20, 21, 22, 23, 24, 25, 26, 27, 28, 29, 30, 31], [], false⟩, ⟨[], [0, 1, 2, 3, 4, 5, 6, 7, 8, 9, 10, 11, 12, 13, 14, 15, 16, 17, 18, 19, 20, 21, 22, 23, 24, 25, 26, 27, 28, 29, 30, 31, 32], [], false⟩, ⟨[], [0, 1, 2, 3, 4, 5, 6, 7, 8, 9, 10, 11, 12, 13, 14, 15, 16, 17, 18, 19, 20, 21, 22, 23, 24, 25, 26, 27, 28, 29, 30, 31, 32, 33], [], false⟩, ⟨[], [0, 1, 2, 3, 4, 5, 6, 7, 8, 9, 10, 11, 12, 13, 14, 15, 16, 17, 18, 19, 20, 21, 22, 23, 24, 25, 26, 27, 28, 29, 30, 31, 32, 33, 34], [], false⟩, ⟨[], [0, 1, 2, 3, 4, 5, 6, 7, 8, 9, 10, 11, 12, 13, 14, 15, 16, 17, 18, 19, 20, 21, 22, 23, 24, 25, 26, 27, 28, 29, 30, 31, 32, 33, 34, 35], [], false⟩, ⟨[], [0, 1, 2, 3, 4, 5, 6, 7, 8, 9, 10, 11, 12, 13, 14, 15, 16, 17, 18, 19, 20, 21, 22, 23, 24, 25, 26, 27, 28, 29, 30, 31, 32, 33, 34, 35, 36], [], false⟩, ⟨[], [0, 1, 2, 3, 4, 5, 6, 7, 8, 9, 10, 11, 12, 13, 14, 15, 16, 17, 18, 19, 20, 21, 22, 23, 24, 25, 26, 27, 28, 29, 30, 31, 32, 33, 34, 35, 36, 37], [], false⟩, ⟨[], [0, 1, 2, 3, 4, 5, 6, 7, 8, 9, 10, 11, 12, 13, 14, 15, 16, 17, 18, 19, 20, 21, 22, 23, 24, 25, 26, 27, 28, 29, 30, 31, 32, 33, 34, 35, 36, 37, 38], [], false⟩, ⟨[], [0, 1, 2, 3, 4, 5, 6, 7, 8, 9, 10, 11, 12, 13, 14, 15, 16, 17, 18, 19, 20, 21, 22, 23, 24, 25, 26, 27, 28, 29, 30, 31, 32, 33, 34, 35, 36, 37, 38, 39], [], false⟩, ⟨[], [0, 1, 2, 3, 4, 5, 6, 7, 8, 9, 10, 11, 12, 13, 14, 15, 16, 17, 18, 19, 20, 21, 22, 23, 24, 25, 26, 27, 28, 29, 30, 31, 32, 33, 34, 35, 36, 37, 38, 39, 40], [], false⟩, ⟨[], [0, 1, 2, 3, 4, 5, 6, 7, 8, 9, 10, 11, 12, 13, 14, 15, 16, 17, 18, 19, 20, 21, 22, 23, 24, 25, 26, 27, 28, 29, 30, 31, 32, 33, 34, 35, 36, 37, 38, 39, 40, 41], [], false⟩] 26 (by kernel_rfl) (by kernel_rfl)
              ·refine ⟨?_, ?_, ?_, ?_, ?_, ?_, ?_, ?_, ?_, ?_, ?_, ?_, ?_, ?_, ?_, ?_, ?_, ?_, ?_, ?_, ?_, ?_, ?_, ?_, ?_, ?_, trivial⟩
               ·intro tm hr
                simp [AllL, rdV] at hr
                simp [hr, ← e48]
                intros; first | exact KD.mk | exact KD.mkN
               ·intro tm hr
                simp [AllL, rdV] at hr
                simp [hr, ← e48]
                intros; first | exact KD.mk | exact KD.mkN
               ·intro tm hr
                simp [AllL, rdV] at hr
                simp [hr, ← e48]
                intros; first | exact KD.mk | exact KD.mkN
               ·intro tm hr
                simp [AllL, rdV] at hr
                simp [hr, ← e48]
                intros; first | exact KD.mk | exact KD.mkN
               ·intro tm hr
                simp [AllL, rdV] at hr
                simp [hr, ← e48]
                intros; first | exact KD.mk | exact KD.mkN
               ·intro tm hr
                simp [AllL, rdV] at hr
                simp [hr, ← e48]
                intros; first | exact KD.mk | exact KD.mkN
               ·intro tm hr
                simp [AllL, rdV] at hr
                simp [hr, ← e48]
                intros; first | exact KD.mk | exact KD.mkN
               ·intro tm hr
                simp [AllL, rdV] at hr
                simp [hr, ← e48]
                intros
                refine xcall_plain en_r13_Give (s_r13_Give e49) rfl ⟨.same rfl, .same rfl, .same rfl, .same rfl, trivial⟩ ?_
                try simp [← e48]
                intros; first | exact KD.mk | exact KD.mkN
               ·intro tm hr
                simp [AllL, rdV] at hr
                simp [hr, ← e48]
                intros; first | exact KD.mk | exact KD.mkN
               ·intro tm hr
                simp [AllL, rdV] at hr
                simp [hr, ← e48]
                intros; first | exact KD.mk | exact KD.mkN
               ·intro tm hr
                simp [AllL, rdV] at hr
                simp [hr, ← e48]
                intros
                refine xcall_plain en_r13_SameClaims (s_r13_SameClaims e50) rfl ⟨.same rfl, .same rfl, trivial⟩ ?_
                try simp [← e48]
                intros; first | exact KD.mk | exact KD.mkN
               ·intro tm hr
                simp [AllL, rdV] at hr
                simp [hr, ← e48]
                intros; first | exact KD.mk | exact KD.mkN
               ·intro tm hr
                simp [AllL, rdV] at hr
                simp [hr, ← e48]
                intros; first | exact KD.mk | exact KD.mkN
               ·intro tm hr
                simp [AllL, rdV] at hr
                simp [hr, ← e48]
                intros; first | exact KD.mk | exact KD.mkN
               ·intro tm hr
                simp [AllL, rdV] at hr
                simp [hr, ← e48]
                intros; first | exact KD.mk | exact KD.mkN
               ·intro tm hr
                simp [AllL, rdV] at hr
                simp [hr, ← e48]
                intros; first | exact KD.mk | exact KD.mkN
               ·intro tm hr
                simp [AllL, rdV] at hr
                simp [hr, ← e48]
                intros; first | exact KD.mk | exact KD.mkN
               ·intro tm hr
                simp [AllL, rdV] at hr
                simp [hr, ← e48]
                intros; first | exact KD.mk | exact KD.mkN
               ·intro tm hr
                simp [AllL, rdV] at hr
                simp [hr, ← e48]
                intros; first | exact KD.mk | exact KD.mkN
               ·intro tm hr
                simp [AllL, rdV] at hr
                simp [hr, ← e48]
                intros; first | exact KD.mk | exact KD.mkN
               ·intro tm hr
                simp [AllL, rdV] at hr
                simp [hr, ← e48]
                intros; first | exact KD.mk | exact KD.mkN
               ·intro tm hr
                simp [AllL, rdV] at hr
                simp [hr, ← e48]
                intros; first | exact KD.mk | exact KD.mkN
               ·intro tm hr
                simp [AllL, rdV] at hr
                simp [hr, ← e48]
                intros; first | exact KD.mk | exact KD.mkN
               ·intro tm hr
                simp [AllL, rdV] at hr
                simp [hr, ← e48]
                intros; first | exact KD.mk | exact KD.mkN
               ·intro tm hr
                simp [AllL, rdV] at hr
                simp [hr, ← e48]
                intros; first | exact KD.mk | exact KD.mkN
               ·intro tm hr
                simp [AllL, rdV] at hr
                simp [hr, ← e48]
                intros; first | exact KD.mk | exact KD.mkN
              ·rfl
              ·simp [tmD, putD, ← e48]; rfl
              ·simp [← e48]
               intros; rfl
              obtain rfl := Option.some.inj h
              refine nP_i ?_
              refine Weak.mixN [] hn0 (by decide) ?_ ?_ rfl
              all_goals first | (simp [inv_cons, inv_nil, pickOb]; done) | rfl
            | false =>
             replace h := iteF rfl h
             apply AW.drawnR (V := [_, _, _, _, _, _, _, _, _, _, _, _, _, _, _, _, _, _, _, _, _, _, _, _, _, _]) mixed [⟨[0], [], [(13, none)], false⟩, ⟨[0], [0], [(93, some 0)], false⟩, ⟨[0], [0, 1], [(94, some 1)], false⟩, ⟨[0], [0, 1, 2], [(95, some 2)], false⟩, ⟨[0], [0, 1, 2, 3], [(5, none), (96, some 3)], false⟩, ⟨[0], [0, 1, 2, 3, 4], [(96, some 3), (97, some 4)], false⟩, ⟨[0], [0, 1, 2, 3], [(7, none), (96, some 3)], false⟩, ⟨[0], [0, 1, 2, 3, 4, 5, 6], [(96, some 3), (98, some 5), (99, some 6)], false⟩, ⟨[0], [0, 1, 2, 3], [(13, none), (96, some 3)], false⟩, ⟨[0], [0, 1, 2, 3, 8], [(96, some 3), (101, some 8)], false⟩, ⟨[0], [0, 1, 2, 3, 4, 5, 6, 7, 8, 9], [(96, some 3), (100, some 7), (102, some 9)], false⟩, ⟨[0], [0, 1, 2, 3, 4, 5, 6, 7, 8, 9, 10], [(96, some 3), (103, some 10)], false⟩, ⟨[0], [0, 1, 2, 3, 4, 5, 6, 7, 8, 9, 10, 11], [(104, some 11)], false⟩, ⟨[0], [0, 1, 2, 3, 4, 5, 6, 7, 8, 9, 10, 11, 12], [(13, none), (105, some 12)], false⟩, ⟨[0], [0, 1, 2, 3, 4, 5, 6, 7, 8, 9, 10, 11, 12, 13], [(105, some 12), (106, some 13)], false⟩, ⟨[0], [0, 1, 2, 3, 4, 5, 6, 7, 8, 9, 10, 11, 12, 13, 14], [(105, some 12), (107, some 14)], false⟩, ⟨[0], [0, 1, 2, 3, 4, 5, 6, 7, 8, 9, 10, 11, 12], [(105, some 12)], false⟩, ⟨[0], [0, 1, 2, 3, 4, 5, 6, 7, 8, 9, 10, 11, 12, 13, 14, 15, 16], [(105, some 12), (108, some 15), (109, some 16)], false⟩, ⟨[0], [0, 1, 2, 3, 4, 5, 6, 7, 8, 9, 10, 11, 12, 13, 14, 15, 16, 17], [(105, some 12), (110, some 17)], false⟩, ⟨[0], [0, 1, 2, 3, 4, 5, 6, 7, 8, 9, 10, 11, 12, 13, 14, 15, 16, 17, 18], [(111, some 18)], false⟩, ⟨[0], [0, 1, 2, 3, 4, 5, 6, 7, 8, 9, 10, 11, 12, 13, 14, 15, 16, 17, 18, 19], [(13, none), (112, some 19)], false⟩, ⟨[0], [0, 1, 2, 3, 4, 5, 6, 7, 8, 9, 10, 11, 12, 13, 14, 15, 16, 17, 18, 19, 20], [(112, some 19), (113, some 20)], false⟩, ⟨[0], [0, 1, 2, 3, 4, 5, 6, 7, 8, 9, 10, 11, 12, 13, 14, 15, 16, 17, 18, 19, 20, 21], [(112, some 19), (114, some 21)], false⟩, ⟨[0], [0, 1, 2, 3, 4, 5, 6, 7, 8, 9, 10, 11, 12, 13, 14, 15, 16, 17, 18, 19], [(5, none), (112, some 19)], false⟩, ⟨[0], [0, 1, 2, 3, 4, 5, 6, 7, 8, 9, 10, 11, 12, 13, 14, 15, 16, 17, 18, 19, 23], [(112, some 19), (116, some 23)], false⟩, ⟨[0], [0, 1, 2, 3, 4, 5, 6, 7, 8, 9, 10, 11, 12, 13, 14, 15, 16, 17, 18, 19, 23, 24], [(112, some 19), (117, some 24)], false⟩, ⟨[], [0, 1, 2, 3, 4, 5, 6, 7, 8, 9, 10, 11, 12, 13, 14, 15, 16, 17, 18, 19, 20, 21, 22, 23, 24, 25], [], false⟩, ⟨[], [0, 1, 2, 3, 4, 5, 6, 7, 8, 9, 10, 11, 12, 13, 14, 15, 16, 17, 18, 19, 20, 21, 22, 23, 24, 25, 26], [], false⟩, ⟨[], [0, 1, 2, 3, 4, 5, 6, 7, 8, 9, 10, 11, 12, 13, 14, 15, 16, 17, 18, 19, 20, 21, 22, 23, 24, 25, 26, 27], [], false⟩, ⟨[], [0, 1, 2, 3, 4, 5, 6, 7, 8, 9, 10, 11, 12, 13, 14, 15, 16, 17, 18, 19, 20, 21, 22, 23, 24, 25, 26, 27, 28], [], false⟩, ⟨[], [0, 1, 2, 3, 4, 5, 6, 7, 8, 9, 10, 11, 12, 13, 14, 15, 16, 17, 18, 19, 20, 21, 22, 23, 24, 25, 26, 27, 28, 29], [], false⟩, ⟨[], [0, 1, 2, 3, 4, 5, 6, 7, 8, 9, 10, 11, 12, 13, 14, 15, 16, 17, 18, 19, 20, 21, 22, 23, 24, 25, 26, 27, 28, 29, 30], [], false⟩, ⟨[], [0, 1, 2, 3, 4, 5, 6, 7, 8, 9, 10, 11, 12, 13, 14, 15, 16, 17, 18, 19, 20, 21, 22, 23, 24, 25, 26, 27, 28, 29, 30, 31], [], false⟩, ⟨[], [0, 1, 2, 3, 4, 5, 6, 7, 8, 9, 10, 11, 12, 13, 14, 15, 16, 17, 18, 19, 20, 21, 22, 23, 24, 25, 26, 27, 28, 29, 30, 31, 32], [], false⟩, ⟨[], [0, 1, 2, 3, 4, 5, 6, 7, 8, 9, 10, 11, 12, 13, 14, 15, 16, 17, 18, 19, 20, 21, 22, 23, 24, 25, 26, 27, 28, 29, 30, 31, 32, 33], [], false⟩, ⟨[], [0, 1, 2, 3, 4, 5, 6, 7, 8, 9, 10, 11, 12, 13, 14, 15, 16, 17, 18, 19, 20, 21, 22, 23, 24, 25, 26, 27, 28, 29, 30, 31, 32, 33, 34], [], false⟩, ⟨[], [0, 1, 2, 3, 4, 5, 6, 7, 8, 9, 10, 11, 12, 13, 14, 15, 16, 17, 18, 19, 20, 21, 22, 23, 24, 25, 26, 27, 28, 29, 30, 31, 32, 33, 34, 35], [], false⟩, ⟨[], [0, 1, 2, 3, 4, 5, 6, 7, 8, 9, 10, 11, 12, 13, 14, 15, 16, 17, 18, 19, 20, 21, 22, 23, 24, 25, 26, 27, 28, 29, 30, 31, 32, 33, 34, 35, 36], [], false⟩, ⟨[], [0, 1, 2, 3, 4, 5, 6, 7, 8, 9, 10, 11, 12, 13, 14, 15, 16, 17, 18, 19, 20, 21, 22, 23, 24, 25, 26, 27, 28, 29, 30, 31, 32, 33, 34, 35, 36, 37], [], false⟩, ⟨[], [0, 1, 2, 3, 4, 5, 6, 7, 8, 9, 10, 11, 12, 13, 14, 15, 16, 17, 18, 19, 20, 21, 22, 23, 24, 25, 26, 27, 28, 29, 30, 31, 32, 33, 34, 35, 36, 37, 38], [], false⟩, ⟨[], [0, 1, 2, 3, 4, 5, 6, 7, 8, 9, 10, 11, 12, 13, 14, 15, 16, 17, 18, 19, 20, 21, 22, 23, 24, 25, 26, 27, 28, 29, 30, 31, 32, 33, 34, 35, 36, 37, 38, 39], [], false⟩, ⟨[], [0, 1, 2, 3, 4, 5, 6, 7, 8, 9, 10, 11, 12, 13, 14, 15, 16, 17, 18, 19, 20, 21, 22, 23, 24, 25, 26, 27, 28, 29, 30, 31, 32, 33, 34, 35, 36, 37, 38, 39, 40], [], false⟩, ⟨[], [0, 1, 2, 3, 4, 5, 6, 7, 8, 9, 10, 11, 12, 13, 14, 15, 16, 17, 18, 19, 20, 21, 22, 23, 24, 25, 26, 27, 28, 29, 30, 31, 32, 33, 34, 35, 36, 37, 38, 39, 40, 41], [], false⟩] 26 (by kernel_rfl) (by kernel_rfl)
             ·refine ⟨?_, ?_, ?_, ?_, ?_, ?_, ?_, ?_, ?_, ?_, ?_, ?_, ?_, ?_, ?_, ?_, ?_, ?_, ?_, ?_, ?_, ?_, ?_, ?_, ?_, ?_, trivial⟩
              ·intro tm hr
               simp [AllL, rdV] at hr
               simp [hr, ← e48]
               intros; first | exact KD.mk | exact KD.mkN
              ·intro tm hr
               simp [AllL, rdV] at hr
               simp [hr, ← e48]
               intros; first | exact KD.mk | exact KD.mkN
              ·intro tm hr
               simp [AllL, rdV] at hr
               simp [hr, ← e48]
               intros; first | exact KD.mk | exact KD.mkN
              ·intro tm hr
               simp [AllL, rdV] at hr
               simp [hr, ← e48]
               intros; first | exact KD.mk | exact KD.mkN
              ·intro tm hr
               simp [AllL, rdV] at hr
               simp [hr, ← e48]
               intros; first | exact KD.mk | exact KD.mkN
              ·intro tm hr
               simp [AllL, rdV] at hr
               simp [hr, ← e48]
               intros; first | exact KD.mk | exact KD.mkN
              ·intro tm hr
               simp [AllL, rdV] at hr
               simp [hr, ← e48]
               intros; first | exact KD.mk | exact KD.mkN
              ·intro tm hr
               simp [AllL, rdV] at hr
               simp [hr, ← e48]
               intros; first | exact KD.mk | exact KD.mkN
              ·intro tm hr
               simp [AllL, rdV] at hr
               simp [hr, ← e48]
               intros; first | exact KD.mk | exact KD.mkN
              ·intro tm hr
               simp [AllL, rdV] at hr
               simp [hr, ← e48]
               intros; first | exact KD.mk | exact KD.mkN
              ·intro tm hr
               simp [AllL, rdV] at hr
               simp [hr, ← e48]
               intros; first | exact KD.mk | exact KD.mkN
              ·intro tm hr
               simp [AllL, rdV] at hr
               simp [hr, ← e48]
               intros; first | exact KD.mk | exact KD.mkN
              ·intro tm hr
               simp [AllL, rdV] at hr
               simp [hr, ← e48]
               intros; first | exact KD.mk | exact KD.mkN
              ·intro tm hr
               simp [AllL, rdV] at hr
               simp [hr, ← e48]
               intros; first | exact KD.mk | exact KD.mkN
              ·intro tm hr
               simp [AllL, rdV] at hr
               simp [hr, ← e48]
               intros; first | exact KD.mk | exact KD.mkN
              ·intro tm hr
               simp [AllL, rdV] at hr
               simp [hr, ← e48]
               intros; first | exact KD.mk | exact KD.mkN
              ·intro tm hr
               simp [AllL, rdV] at hr
               simp [hr, ← e48]
               intros; first | exact KD.mk | exact KD.mkN
              ·intro tm hr
               simp [AllL, rdV] at hr
               simp [hr, ← e48]
               intros; first | exact KD.mk | exact KD.mkN
              ·intro tm hr
               simp [AllL, rdV] at hr
               simp [hr, ← e48]
               intros; first | exact KD.mk | exact KD.mkN
              ·intro tm hr
               simp [AllL, rdV] at hr
               simp [hr, ← e48]
               intros; first | exact KD.mk | exact KD.mkN
              ·intro tm hr
               simp [AllL, rdV] at hr
               simp [hr, ← e48]
               intros; first | exact KD.mk | exact KD.mkN
              ·intro tm hr
               simp [AllL, rdV] at hr
               simp [hr, ← e48]
               intros; first | exact KD.mk | exact KD.mkN
              ·intro tm hr
               simp [AllL, rdV] at hr
               simp [hr, ← e48]
               intros; first | exact KD.mk | exact KD.mkN
              ·intro tm hr
               simp [AllL, rdV] at hr
               simp [hr, ← e48]
               intros; first | exact KD.mk | exact KD.mkN
              ·intro tm hr
               simp [AllL, rdV] at hr
               simp [hr, ← e48]
               intros; first | exact KD.mk | exact KD.mkN
              ·intro tm hr
               simp [AllL, rdV] at hr
               simp [hr, ← e48]
               intros; first | exact KD.mk | exact KD.mkN
             ·rfl
             ·simp [tmD, putD, ← e48]; rfl
             ·simp [← e48]
              intros; rfl
             obtain rfl := Option.some.inj h
             refine nP_i ?_
             refine Weak.mixN [] hn0 (by decide) ?_ ?_ rfl
             all_goals first | (simp [inv_cons, inv_nil, pickOb]; done) | rfl
           ·rintro e s hp
            obtain ⟨rfl, hw⟩ := hp
            refine ⟨_, hw, ?_⟩
            try simp only [sp_l, sp_r, Post.seq, Post.block, Nat.reduceEqDiff, reduceIte, Nat.zero_ne_one, Nat.one_ne_zero]
            obtain rfl := Option.some.inj h
            refine AW.ret ?_
            try simp only [sp_l, sp_r, Post.seq, Post.block, Nat.reduceEqDiff, reduceIte, Nat.zero_ne_one, Nat.one_ne_zero]
            refine rP_i ?_
            refine Left.plain hnb (by simp [Try.f5, resV, resC, comp]; rfl) rfl rfl ?_
            simp
          | false =>
           replace h := iteF rfl h
           refine AW.cond_false (by simp) ?_
           refine AW.skip ?_
           try simp only [sp_l, sp_r, Post.seq, Post.block, Nat.reduceEqDiff, reduceIte, Nat.zero_ne_one, Nat.one_ne_zero]
           try simp only [sp_l, sp_r, Post.seq, Post.block, Nat.reduceEqDiff, reduceIte, Nat.zero_ne_one, Nat.one_ne_zero]
           apply AW.last
           ·simp
            intros; rfl
           try simp only [sp_l, sp_r, Post.seq, Post.block, Nat.reduceEqDiff, reduceIte, Nat.zero_ne_one, Nat.one_ne_zero]
           replace h := ltE h; obtain ⟨v57, e57, h⟩ := h
           apply AW.last
           ·simp [← e57]
            intros; rfl
           obtain rfl := Option.some.inj h
           refine nP_i ?_
           refine Weak.mixN [some 0, some 1] hn0 (by decide) ?_ ?_ rfl
           all_goals first | (simp [inv_cons, inv_nil, pickOb]; done) | rfl
      | false =>
       replace h := iteF rfl h
       refine AW.cond_false (by simp) ?_
       refine AW.exit ?_
       try simp only [sp_l, sp_r, Post.seq, Post.block, Nat.reduceEqDiff, reduceIte, Nat.zero_ne_one, Nat.one_ne_zero]
       obtain rfl := Option.some.inj h
       try simp only [sp_l, sp_r]
       refine xP_i ?_
       refine Weak.mixN [some 0] hn0 (by decide) ?_ ?_ rfl
       all_goals first | (simp [inv_cons, inv_nil, pickOb]; done) | rfl
     ·rintro e s hp
      rcases y19 with y58 | y59
      ·replace h := smL h
       obtain ⟨rfl, hw⟩ := hp
       refine ⟨_, hw, ?_⟩
       try simp only [sp_l, sp_r, Post.seq, Post.block, Nat.reduceEqDiff, reduceIte, Nat.zero_ne_one, Nat.one_ne_zero]
       replace h := bnE h; obtain ⟨y60, g60, h⟩ := h
       refine AW.flow (p := fun gh ls => (nP (cx := cx) (fun q => (⟨[(4, .l (.s (.bool q)))], [], 142, gh, ls⟩ : St))) y60) ?_ ?_
       ·replace h := g60; clear g60
        replace h := ltE h; obtain ⟨v61, e61, h⟩ := h
        cases v61 with
        | true =>
         replace h := iteT rfl h
         replace h := bnE h; obtain ⟨v62, e62, h⟩ := h
         apply AW.last
         ·simp [← e61]
          intros
          refine xcall_plain en_l18_awake (s_l18_awake e62) rfl trivial ?_
          try simp [← e61]
          intros; rfl
         obtain rfl := Option.some.inj h
         refine nP_i ?_
         refine Weak.mixN [] hn0 (by decide) ?_ ?_ rfl
         all_goals first | (simp [inv_cons, inv_nil, pickOb]; done) | rfl
        | false =>
         replace h := iteF rfl h
         apply AW.last
         ·simp [← e61]
          intros; rfl
         obtain rfl := Option.some.inj h
         refine nP_i ?_
         refine Weak.mixN [] hn0 (by decide) ?_ ?_ rfl
         all_goals first | (simp [inv_cons, inv_nil, pickOb]; done) | rfl
       ·rintro e s hp
        obtain ⟨rfl, hw⟩ := hp
        refine ⟨_, hw, ?_⟩
        try simp only [sp_l, sp_r, Post.seq, Post.block, Nat.reduceEqDiff, reduceIte, Nat.zero_ne_one, Nat.one_ne_zero]
        obtain rfl := Option.some.inj h
        refine AW.ret ?_
        refine Left.plain hnb (by simp [Try.f5, resV, resC, comp]; rfl) rfl rfl ?_
        simp
      ·replace h := smR h
       obtain ⟨rfl, hl⟩ := hp
       refine ⟨_, Weak.refl _, ?_⟩
       obtain rfl := Option.some.inj h
       exact hl
end Go.Proofs.Ytaibolmbafacpaa

/- Plain law: a replica has won just with votes of more than half of the masters. -/
namespace Go.Proofs.Ytaibolmbafacpaa
open Go Go.RowKit
set_option linter.unusedVariables false
set_option linter.unusedSimpArgs false
def watchV : Watch := ⟨[0, 0, 0, 0, 0, 0, 0, 0], [[], [], [], [], [], [], [], []]⟩
/-- A replica of the first node that has asked, with votes. -/
def askV5 (id : Int) (votes : List Int) : Node :=
  ⟨8, id, 0, 2, 0, [⟨0, 3275, 0, 1⟩, ⟨3276, 6552, 1, 1⟩, ⟨6553, 9829, 2, 1⟩, ⟨9830, 13106, 3, 1⟩, ⟨13107, 16383, 4, 1⟩], [], [], 0, [], ⟨⟨0, 0⟩, 0, [], ⟨0, 0⟩, 0⟩, watchV, 2, votes, 4⟩
/-- The same, when it has won. -/
def wonV (id : Int) : Node :=
  ⟨8, id, -1, 2, 0, [⟨0, 3275, id, 2⟩, ⟨3276, 6552, 1, 1⟩, ⟨6553, 9829, 2, 1⟩, ⟨9830, 13106, 3, 1⟩, ⟨13107, 16383, 4, 1⟩], [], [], 0, [], ⟨⟨id, 2⟩, 0, [], ⟨0, 0⟩, 0⟩, watchV, 0, [], 0⟩
def newA : Node := ⟨8, 5, 0, 1, 0, [⟨0, 3275, 0, 1⟩, ⟨3276, 6552, 1, 1⟩, ⟨6553, 9829, 2, 1⟩, ⟨9830, 13106, 3, 1⟩, ⟨13107, 16383, 4, 1⟩], [], [], 0, [], ⟨⟨0, 0⟩, 0, [], ⟨0, 0⟩, 0⟩, watchV, 0, [], 0⟩
theorem newA_ok : r23_New_sh big 8 5 5 = some newA := by kernel_rfl
def askMs (id : Int) : List Msg := ([0, 1, 2, 3, 4, 5, 6, 7].filter (fun i => decide (i ≠ id))).map fun i => ⟨7, id, i, 2, [], [], 0, 0, 0, ⟨0, 0⟩, ⟨0, 0⟩, 0, []⟩
theorem askA_ok : vote_Ask_sh big newA = some (askV5 5 [], askMs 5) := by kernel_rfl
def vMsg (frm to e : Int) : Msg := ⟨8, frm, to, e, [], [], 0, 0, 0, ⟨0, 0⟩, ⟨0, 0⟩, 0, []⟩
def wasV : List Span := [⟨0, 3275⟩]
theorem was_ok : r13_Owned_sh big (askV5 5 []).claims 0 = some wasV := by kernel_rfl
/-- Who has voted: who is in the list. -/
def votesOf (got : List Bool) : List Int := [0, 1, 2, 3, 4].filter fun i => got.getD i.toNat false
def cntOf (got : List Bool) : Int := (votesOf got).length
def gotAll : List (List Bool) :=
  ([false, true].flatMap fun a => [false, true].flatMap fun b => [false, true].flatMap fun c => [false, true].flatMap fun d => [false, true].map fun e => [a, b, c, d, e, false, false, false]).filter fun g => decide (cntOf g ≤ 2)
def gotStep (got : List Bool) (from_ : Int) (ep : Bool) : Option (Int × List Bool) :=
  bn (lt (ltI from_ 5) fun v31 =>
  ite' v31 (bn (some ep) fun v32 =>
  ite' v32 (bn (nth got from_) fun v33 =>
  lt (notB v33) fun v35 =>
  some (v35)) (some (false))) (some (false))) fun (y30 : Bool) =>
  lt (y30) fun v36 =>
  ite' v36 (bn (nth got from_) fun v37 =>
  lt (got.set from_.toNat true) fun v39 =>
  lt (addI .i64 (cntOf got) 1) fun v42 =>
  some ((v42, v39))) (some ((cntOf got, got)))
def finW (n m : Node) : Option Bool :=
  lt (eqI m.master (-1)) fun v48 =>
  ite' v48 (bn (r13_Give_sh big n.claims wasV 5 2) fun v49 =>
  bn (r13_SameClaims_sh big v49 m.claims) fun v50 =>
  ite' v50 (lt (andB (eqI m.feed.rid.node 5) (andB (eqI m.feed.rid.epoch 2) true)) fun v51 =>
  ite' v51 (lt (andB (eqI m.feed.prev.node n.feed.rid.node) (andB (eqI m.feed.prev.epoch n.feed.rid.epoch) true)) fun v52 =>
  ite' v52 (lt (eqI m.asked 0) fun v53 =>
  ite' v53 (lt (lenI m.votes) fun v54 =>
  lt (eqI v54 0) fun v55 => some v55) (some (false))) (some (false))) (some (false))) (some (false))) (some (false))
def stepW (got : List Bool) (from_ : Int) (ep : Bool) : Bool := match gotStep got from_ ep with
  | some (k, g) => decide (k = cntOf g) && (match vote_Count_sh big (askV5 5 (votesOf got)) (vMsg from_ 5 (bif ep then 2 else 3)) with
    | some (m, is) => decide (is = decide (3 ≤ k)) && (bif is then decide (m = wonV 5) else decide (m = askV5 5 (votesOf g)) && gotAll.contains g)
    | none => false)
  | none => false
theorem stepW_all : (gotAll.all fun g => [0, 1, 2, 3, 4, 5, 6, 7].all fun f => stepW g f true && stepW g f false) = true := by kernel_rfl
theorem stepW_ok {got : List Bool} {f : Int} (hg : got ∈ gotAll) (hf : 0 ≤ f ∧ f < 8) (ep : Bool) : ∃ k g m, gotStep got f ep = some (k, g) ∧ k = cntOf g ∧
    vote_Count_sh big (askV5 5 (votesOf got)) (vMsg f 5 (bif ep then 2 else 3)) = some (m, decide (3 ≤ k)) ∧ (decide (3 ≤ k) = true → m = wonV 5) ∧ (decide (3 ≤ k) = false → m = askV5 5 (votesOf g) ∧ g ∈ gotAll) := by
  have h := stepW_all
  rw [List.all_eq_true] at h
  have h2 := h got hg
  rw [List.all_eq_true] at h2
  have h3 := h2 f (by simp; omega)
  have h4 : stepW got f ep = true := by
    rw [Bool.and_eq_true] at h3
    cases ep
    · exact h3.2
    · exact h3.1
  unfold stepW at h4
  split at h4
  · rename_i k g e1
    simp only [Bool.and_eq_true, decide_eq_true_eq] at h4
    obtain ⟨h5, h6⟩ := h4
    split at h6
    · rename_i m is e2
      simp only [Bool.and_eq_true, decide_eq_true_eq] at h6
      obtain ⟨h7, h8⟩ := h6
      subst h7
      refine ⟨k, g, m, e1, h5, e2, fun hd => ?_, fun hd => ?_⟩
      · rw [hd] at h8
        simpa using h8
      · rw [hd] at h8
        simp only [cond_false, Bool.and_eq_true, decide_eq_true_eq] at h8
        exact ⟨h8.1, by simpa using h8.2⟩
    · simp at h6
  · simp at h4
theorem VoteWins_ok (votes : List Int) (epochs : List Bool) (hu : ∀ x ∈ votes, 0 ≤ x ∧ x ≤ 255) : l18_VoteWins_sh big votes epochs = some true := by
  refine Rn.eqv ?_
  unfold l18_VoteWins_sh
  refine Rn.bn (P := fun y => y = false → votes.length ≤ 30 ∧ votes.length ≤ epochs.length) (Rn.lt (Rn.lt (Rn.ite (fun _ => Rn.some (by simp)) fun h => Rn.lt (Rn.lt (Rn.some fun h2 => ?_))))) fun y hy => Rn.lt (Rn.ite (fun _ => Rn.bnE awake18_ok (Rn.some rfl)) fun h => ?_)
  · have h1 := of_decide_eq_false (p := (30 : Int) < (votes.length : Int)) h
    have h3 := of_decide_eq_false (p := (epochs.length : Int) < (votes.length : Int)) h2
    omega
  obtain ⟨h30, hle⟩ := hy h
  refine Rn.bnE newA_ok (Rn.bnE askA_ok (Rn.bnE (v := false) rfl (Rn.lt (Rn.ite (fun h => absurd h (by decide)) fun _ => Rn.bnE was_ok (Rn.chk rfl (Rn.lt ?_))))))
  refine Rn.bn (P := fun y => y = .inr true ∨ ∃ vs, y = .inl (askV5 5 vs)) (Rn.iter _ (fun q a => ∃ got, got ∈ gotAll ∧ a = (cntOf got, (q : Int), askV5 5 (votesOf got), got)) votes.length (by unfold big; omega) ⟨List.replicate 8 false, by decide, rfl⟩ fun q a hq hI => ?_) fun y hy => ?_
  rotate_left
  · rcases hy with rfl | ⟨vs, rfl⟩
    · rw [sm_inr]
      exact Rn.some rfl
    · rw [sm_inl]
      refine Rn.bnE (v := true) ?_ (Rn.some rfl)
      rw [show (askV5 5 vs).master = 0 from rfl, show eqI 0 0 = true from rfl]
      simp only [lt_eq, ite_t]
      rw [awake18_ok]
      rfl
  obtain ⟨got, hgot, rfl⟩ := hI
  refine Rn.lt (Rn.lt (Rn.ite (fun hd => ?_) (fun _ => Rn.some (.inr ⟨_, rfl⟩))))
  have hql : q < votes.length := by
    have := of_decide_eq_true (p := ((q : Int) < (votes.length : Int))) hd
    omega
  have hx := hu _ (List.getElem_mem hql)
  refine Rn.bnE (nth_some hql) (Rn.lt ?_)
  generalize votes[q] = x at hx
  rw [cvI_64 (by omega) (by omega)]
  refine Rn.bnE (vrem hx.1 (by omega)) ?_
  obtain ⟨f, hf, hf2⟩ : ∃ f : Int, f = x % 8 ∧ 0 ≤ f ∧ f < 8 := ⟨_, rfl, by omega⟩
  rw [← hf]
  have hqe : q < epochs.length := by omega
  have hne := nth_some hqe
  generalize epochs[q] = ep at hne
  obtain ⟨k, g, m, e1, e2, e3, e4, e5⟩ := stepW_ok hgot hf2 ep
  refine Rn.bnE (v := bif ep then 2 else 3) ?_ (Rn.bnE (v := (k, g)) ?_ (Rn.bnE e3 (Rn.lt (Rn.lt (Rn.ite (fun h => ?_) fun _ => Rn.lt (Rn.ite (fun h => ?_) fun h => ?_))))))
  · show bn (nth epochs (q : Int)) _ = _
    rw [hne]
    cases ep <;> rfl
  · rw [← e1]
    unfold gotStep
    rw [← hne]
  · exfalso
    have : neB (decide (3 ≤ k)) (geI k 3) = true := h
    rw [show geI k 3 = decide (3 ≤ k) from rfl] at this
    cases decide (3 ≤ k) <;> simp [neB] at this
  · have hm := e4 h
    subst hm
    refine Rn.bnE (v := true) ?_ (Rn.some (.inl rfl))
    kernel_rfl
  · obtain ⟨hm, hg⟩ := e5 h
    subst hm
    refine Rn.lt (Rn.some ⟨hql, g, hg, ?_⟩)
    rw [addI_64 (by first | omega | (simp only; omega)) (by first | omega | (simp only; omega)), ← e2]
    rfl
end Go.Proofs.Ytaibolmbafacpaa

/- What is read as data of the program's structs. -/
namespace Go.Proofs.Ytaibolmbafacpaa
open Go Go.RowKit
set_option linter.unusedVariables false
set_option linter.unusedSimpArgs false
set_option linter.constructorNameAsVariable false
set_option maxRecDepth 100000
section
variable {P : Program} {n t : Nat} {ts : List T}
theorem WfT.bool (hu : P.underlying t = some .bool) (h : WfT P (n + 1) t ts) : ∃ b, ts = [.v (.bool b)] := by rw [WfT, hu] at h; exact h
theorem WfT.int {k : IntKind} (hu : P.underlying t = some (.int k)) (h : WfT P (n + 1) t ts) : ∃ i, ts = [.v (.int k i)] ∧ (Lit.int k i).wf = true := by rw [WfT, hu] at h; exact h
theorem WfT.slice {e : Nat} (hu : P.underlying t = some (.slice e)) (h : WfT P (n + 1) t ts) : ∃ es, ts = [.sl (P.cellsOf e) es] ∧ es.length * P.bytesOf e ≤ reachBytes ∧ ∀ x ∈ es, WfT P n e x := by rw [WfT, hu] at h; exact h
theorem WfT.struct {fs : Array Go.Field} (hu : P.underlying t = some (.struct fs)) (h : WfT P (n + 1) t ts) : ∃ ps : List (List T), ts = ps.flatten ∧ All2 (fun p f => WfT P n f p) ps (fs.toList.map (·.type)) := by rw [WfT, hu] at h; exact h
end
theorem All2.cons_r {α β : Type} {R : α → β → Prop} {l : List α} {b : β} {bs : List β} (h : All2 R l (b :: bs)) : ∃ x xs, l = x :: xs ∧ R x b ∧ All2 R xs bs := by
  cases l with
  | nil => exact h.elim
  | cons x xs => exact ⟨x, xs, rfl, h⟩
theorem All2.nil_r {α β : Type} {R : α → β → Prop} {l : List α} (h : All2 R l ([] : List β)) : l = [] := by
  cases l with
  | nil => rfl
  | cons x xs => exact h.elim
def rngI (i : Int) : Prop := -9223372036854775808 ≤ i ∧ i ≤ 9223372036854775807
theorem wf_list {α : Type} {enc : List α → List (List T)} {R : List T → Prop} {rng : α → Prop} (hn : enc [] = []) (hc : ∀ x l, enc (x :: l) = enc [x] ++ enc l) (h1 : ∀ e, R e → ∃ x, enc [x] = [e] ∧ rng x) :
    ∀ es, (∀ x ∈ es, R x) → ∃ l, es = enc l ∧ ∀ x ∈ l, rng x
  | [], _ => ⟨[], hn.symm, fun x h => by cases h⟩
  | e :: es, h => by
    obtain ⟨x, hx, rx⟩ := h1 e (h e (by simp))
    obtain ⟨l, rfl, rl⟩ := wf_list hn hc h1 es fun y hy => h y (by simp [hy])
    refine ⟨x :: l, by rw [hc, hx]; rfl, ?_⟩
    intro y hy
    rcases List.mem_cons.1 hy with rfl | hy
    · exact rx
    · exact rl y hy
/-- Bytes. -/
def rngU (i : Int) : Prop := 0 ≤ i ∧ i ≤ 255
theorem wf_U (n : Nat) (e : List T) (h : WfT Try.prog (n + 1) 5 e) : ∃ x : Int, encU [x] = [e] ∧ rngU x := by
  obtain ⟨f, rfl, h2⟩ := WfT.int (t := 5) Try.underlying5 h
  have h' := (Bool.and_eq_true _ _ ▸ h2 : _ ∧ _)
  have h1 := of_decide_eq_true h'.1
  have h2 := of_decide_eq_true h'.2
  exact ⟨f, rfl, h1, h2⟩
theorem wf_Us {n : Nat} {es : List (List T)} (h : ∀ x ∈ es, WfT Try.prog (n + 1) 5 x) : ∃ l : List Int, es = encU l ∧ ∀ x ∈ l, rngU x :=
  wf_list (enc := encU) (R := fun e => WfT Try.prog (n + 1) 5 e) (rng := rngU) rfl (fun _ _ => rfl) (@wf_U n) es h
def rngField (x : Field) : Prop := True
def rngItem (x : Item) : Prop := (rngI x.kind) ∧ (x.f.length ≤ 4398046510976 ∧ ∀ y ∈ x.f, rngField y) ∧ (x.l.length ≤ 8796093021952) ∧ (rngI x.exp)
def rngPair (x : Pair) : Prop := (rngItem x.item)
def rngEffect (x : Effect) : Prop := (rngItem x.item)
def rngRid (x : Rid) : Prop := (rngI x.node) ∧ (rngI x.epoch)
def rngFeed (x : Feed) : Prop := (rngRid x.rid) ∧ (rngI x.off) ∧ (x.back.length ≤ 1353245080300 ∧ ∀ y ∈ x.back, rngEffect y) ∧ (rngRid x.prev) ∧ (rngI x.upto)
def rngClaim (x : Claim) : Prop := (rngI x.frm) ∧ (rngI x.to) ∧ (rngI x.node) ∧ (rngI x.epoch)
def rngMsg (x : Msg) : Prop := (rngI x.kind) ∧ (rngI x.frm) ∧ (rngI x.to) ∧ (rngI x.epoch) ∧ (x.claims.length ≤ 4398046510976 ∧ ∀ y ∈ x.claims, rngClaim y) ∧ (x.nodes.length ≤ 17592186043904 ∧ ∀ y ∈ x.nodes, rngI y) ∧ (rngI x.node) ∧ (rngI x.slot) ∧ (rngI x.num) ∧ (rngRid x.rid) ∧ (rngRid x.prev) ∧ (rngI x.off) ∧ (x.effects.length ≤ 1353245080300 ∧ ∀ y ∈ x.effects, rngEffect y)
end Go.Proofs.Ytaibolmbafacpaa

/- What all rows need. -/
namespace Go.Proofs.Ytaibolmbafacpaa
open Go Go.RowKit
open Go.ChangeShapes Go.WideShapes Go.ChangeAt Go.RowKit
theorem Try.own : ownKnob Try.prog.godebug = none := by kernel_rfl
theorem Try.laidOut : laidOutB Try.prog = true := by kernel_rfl
end Go.Proofs.Ytaibolmbafacpaa

