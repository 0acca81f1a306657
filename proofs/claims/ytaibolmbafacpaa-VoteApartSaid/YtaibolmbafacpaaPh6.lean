/- Part 6 of the proof. -/
import Derived.Test.YtaibolmbafacpaaPh5
import Derived.Test.YtaibolmbafacpaaRows
import Derived.ProofKit
/- Walks, printed: r13_SameClaims, l18_VoteWins, l18_VoteApart -/
namespace Go.Proofs.Ytaibolmbafacpaa
open Go Go.RowKit
set_option linter.unusedVariables false
set_option linter.unusedSimpArgs false
def r13_SameClaims_sh (n : Nat) (a0 : List Claim) (a1 : List Claim) : Option Bool :=
lt (lenI a0) fun v1 =>
lt (lenI a1) fun v2 =>
lt (neI v1 v2) fun v3 =>
ite' v3 (some false) (bn (iter n (fun (y4 : Int) =>
lt (lenI a0) fun v7 =>
lt (ltI y4 v7) fun v8 =>
ite' v8 (bn (nth a0 y4) fun v9 =>
bn (nth a1 y4) fun v10 =>
lt (notB (andB (eqI v9.frm v10.frm) (andB (eqI v9.to v10.to) (andB (eqI v9.node v10.node) (andB (eqI v9.epoch v10.epoch) true))))) fun v11 =>
ite' v11 (some (.inr (.inr false))) (lt (addI .i64 y4 1) fun v12 =>
some (.inl v12))) (some (.inr (.inl ())))) 0) fun (y5 : Unit ⊕ Bool) =>
sm y5 (fun y13 => some true) (fun y14 => some y14))
def l18_VoteApart_sh (n : Nat) (a0 : List Int) : Option Bool :=
lt (lenI a0) fun v1 =>
lt (gtI v1 60) fun v2 =>
ite' v2 (bn (l18_awake_sh n) fun v3 =>
some v3) (bn (r23_New_sh n 8 5 5) fun v4 =>
bn (r23_New_sh n 8 5 5) fun v5 =>
bn (vote_Ask_sh n v4) fun v6 =>
bn (vote_Ask_sh n (⟨v5.count, 7, v5.master, v5.epoch, v5.voted, v5.claims, v5.db, v5.moves, v5.last, v5.seen, v5.feed, v5.watch, v5.asked, v5.votes, v5.wait⟩ : Node)) fun v7 =>
bn (lt (lenI v6.2) fun v9 =>
lt (neI v9 7) fun v10 =>
ite' v10 (some (true)) (lt (lenI v7.2) fun v11 =>
lt (neI v11 7) fun v12 =>
ite' v12 (some (true)) (lt (neI v6.1.asked v7.1.asked) fun v13 =>
some (v13)))) fun (y8 : Bool) =>
lt (y8) fun v14 =>
ite' v14 (some false) (chk (mkB 5 304) <|
lt (List.replicate 5 (⟨0, 0, 0, 0, 0, [], [], [], 0, [], (⟨(⟨0, 0⟩ : Rid), 0, [], (⟨0, 0⟩ : Rid), 0⟩ : Feed), (⟨[], []⟩ : Watch), 0, [], 0⟩ : Node)) fun v16 =>
bn (iter n (fun (y17 : Int × List Node) =>
lt (ltI y17.1 5) fun v20 =>
ite' v20 (bn (r23_New_sh n 8 y17.1 5) fun v21 =>
bn (l18_Silent_sh n v21 0) fun v22 =>
bn (nth y17.2 y17.1) fun v23 =>
lt (y17.2.set y17.1.toNat v22) fun v25 =>
lt (addI .i64 y17.1 1) fun v28 =>
some (.inl (v28, v25))) (some (.inr y17.2))) (1, v16)) fun (y18 : List Node) =>
bn (iter n (fun (y29 : Int × Int × Node × Node × List Node) =>
lt (lenI a0) fun v32 =>
lt (ltI y29.2.1 v32) fun v33 =>
ite' v33 (bn (nth a0 y29.2.1) fun v34 =>
lt (cvI .i64 v34) fun v35 =>
bn (remI .i64 v35 4) fun v36 =>
lt (addI .i64 1 v36) fun v37 =>
bn (quoI .i64 v35 4) fun v38 =>
bn (remI .i64 v38 2) fun v39 =>
lt (mulI .i64 v39 2) fun v40 =>
lt (addI .i64 5 v40) fun v41 =>
bn (nth y29.2.2.2.2 v37) fun v42 =>
bn (vote_Grant_sh n v42 (⟨7, v41, v37, 2, [], [], 0, 0, 0, (⟨0, 0⟩ : Rid), (⟨0, 0⟩ : Rid), 0, []⟩ : Msg)) fun v44 =>
lt (y29.2.2.2.2.set v37.toNat v44.1) fun v46 =>
bn (iter n (fun (y49 : Int × Int × Node × Node) =>
lt (lenI v44.2) fun v52 =>
lt (ltI y49.2.1 v52) fun v53 =>
ite' v53 (bn (bn (bn (nth v44.2 y49.2.1) fun v56 =>
lt (eqI v56.to 5) fun v57 =>
ite' v57 (bn (vote_Count_sh n y49.2.2.1 v56) fun v58 =>
lt (v58.2) fun v59 =>
ite' v59 (lt (addI .i64 y49.1 1) fun v60 =>
some ((v60, v58.1))) (some ((y49.1, v58.1)))) (some ((y49.1, y49.2.2.1)))) fun (y55 : Int × Node) =>
bn (nth v44.2 y49.2.1) fun v61 =>
lt (eqI v61.to 7) fun v62 =>
ite' v62 (bn (vote_Count_sh n y49.2.2.2 v61) fun v63 =>
lt (v63.2) fun v64 =>
ite' v64 (lt (addI .i64 y55.1 1) fun v65 =>
some ((v65, y55.2, v63.1))) (some ((y55.1, y55.2, v63.1)))) (some ((y55.1, y55.2, y49.2.2.2)))) fun (y54 : Int × Node × Node) =>
lt (addI .i64 y49.2.1 1) fun v66 =>
some (.inl (y54.1, v66, y54.2.1, y54.2.2))) (some (.inr (y49.1, y49.2.2.1, y49.2.2.2)))) (y29.1, 0, y29.2.2.1, y29.2.2.2.1)) fun (y50 : Int × Node × Node) =>
lt (addI .i64 y29.2.1 1) fun v67 =>
some (.inl (y50.1, v67, y50.2.1, y50.2.2, v46))) (some (.inr y29.1))) (0, 0, v6.1, v7.1, y18)) fun (y30 : Int) =>
bn (lt (leI y30 1) fun v69 =>
ite' v69 (bn (l18_awake_sh n) fun v70 =>
some (v70)) (some (false))) fun (y68 : Bool) =>
some y68))
set_option maxRecDepth 8000 in
set_option maxHeartbeats 8000000 in
theorem s_l18_VoteApart {n : Nat} {a0 : List Int} {r : Bool} (h : l18_VoteApart_sh n a0 = some r) : Sound Try.prog 6 [.l (.d false 1 (encU a0))] [] (.l (.s (.bool r))) [] := by
 unfold l18_VoteApart_sh at h
 refine Sound.of_aw (fn := Try.f6) (c := _) Try.func6 rfl (by simp [Try.f6]) fun cx hG hnb => ?_
 rw [show Try.f6.ntmps = 149 from rfl]
 have hn0 : cx.nb = 0 := hnb
 simp only [st0_mk, initTm, List.map_cons, List.map_nil]
 apply AW.step
 ·simp
  intros; rfl
 refine AW.seq ?_
 replace h := ltE h; obtain ⟨v1, e1, h⟩ := h
 replace h := ltE h; obtain ⟨v2, e2, h⟩ := h
 apply AW.step
 ·simp [lenI_cast e1, ← e2]
  intros; rfl
 cases v2 with
 | true =>
  replace h := iteT rfl h
  refine AW.cond_true (by simp) ?_
  replace h := bnE h; obtain ⟨v3, e3, h⟩ := h
  apply AW.step
  ·simp
   intros
   refine xcall_plain en_l18_awake (s_l18_awake e3) rfl trivial ?_
   try simp
   intros; rfl
  obtain rfl := Option.some.inj h
  refine AW.ret ?_
  refine Left.plain hnb (by simp [Try.f6, resV, resC, comp]; rfl) rfl rfl ?_
  simp
 | false =>
  replace h := iteF rfl h
  refine AW.cond_false (by simp) ?_
  refine AW.skip ?_
  try simp only [sp_l, sp_r, Post.seq, Post.block, Nat.reduceEqDiff, reduceIte, Nat.zero_ne_one, Nat.one_ne_zero]
  try simp only [sp_l, sp_r, Post.seq, Post.block, Nat.reduceEqDiff, reduceIte, Nat.zero_ne_one, Nat.one_ne_zero]
  replace h := bnE h; obtain ⟨v4, e4, h⟩ := h
  replace h := bnE h; obtain ⟨v5, e5, h⟩ := h
  apply AW.step
  ·simp
   intros
   refine xcall_plain en_r23_New (s_r23_New e4) rfl ⟨.same rfl, .same rfl, .same rfl, trivial⟩ ?_
   try simp
   intros
   refine xcall_plain en_r23_New (s_r23_New e5) rfl ⟨.same rfl, .same rfl, .same rfl, trivial⟩ ?_
   try simp
   intros; rfl
  apply AW.step
  ·simp
   intros; rfl
  replace h := bnE h; obtain ⟨v6, e6, h⟩ := h
  apply AW.step
  ·simp
   intros
   refine xcall_plain en_vote_Ask (s_vote_Ask e6) rfl ⟨.same rfl, trivial⟩ ?_
   try simp
   intros; rfl
  replace h := bnE h; obtain ⟨v7, e7, h⟩ := h
  apply AW.step
  ·simp
   intros
   refine xcall_plain en_vote_Ask (s_vote_Ask e7) rfl ⟨.same rfl, trivial⟩ ?_
   try simp
   intros; rfl
  refine AW.seq ?_
  replace h := bnE h; obtain ⟨y8, g8, h⟩ := h
  refine AW.flow (p := fun gh ls => (nP (cx := cx) (fun q => (⟨[(0, .l (.d false 1 (encU a0))), (3, .l (.p 0 0)), (4, .l (.p 1 0)), (51, .l (.s (.bool q)))], [some ⟨38, 22, false, none, [.s (.int .i64 v6.1.count), .s (.int .i64 v6.1.id), .s (.int .i64 v6.1.master), .s (.int .i64 v6.1.epoch), .s (.int .i64 v6.1.voted), .d false 4 (encClaim v6.1.claims), .d false 6 (encPair v6.1.db), .d false 4 (encMove v6.1.moves), .s (.int .i64 v6.1.last), .d false 3 (encSeen v6.1.seen), .s (.int .i64 v6.1.feed.rid.node), .s (.int .i64 v6.1.feed.rid.epoch), .s (.int .i64 v6.1.feed.off), .d false 7 (encEffect v6.1.feed.back), .s (.int .i64 v6.1.feed.prev.node), .s (.int .i64 v6.1.feed.prev.epoch), .s (.int .i64 v6.1.feed.upto), .d false 1 (encI v6.1.watch.heard), .d false 1 (encLI v6.1.watch.says), .s (.int .i64 v6.1.asked), .d false 1 (encI v6.1.votes), .s (.int .i64 v6.1.wait)]⟩, some ⟨38, 22, false, none, [.s (.int .i64 v7.1.count), .s (.int .i64 v7.1.id), .s (.int .i64 v7.1.master), .s (.int .i64 v7.1.epoch), .s (.int .i64 v7.1.voted), .d false 4 (encClaim v7.1.claims), .d false 6 (encPair v7.1.db), .d false 4 (encMove v7.1.moves), .s (.int .i64 v7.1.last), .d false 3 (encSeen v7.1.seen), .s (.int .i64 v7.1.feed.rid.node), .s (.int .i64 v7.1.feed.rid.epoch), .s (.int .i64 v7.1.feed.off), .d false 7 (encEffect v7.1.feed.back), .s (.int .i64 v7.1.feed.prev.node), .s (.int .i64 v7.1.feed.prev.epoch), .s (.int .i64 v7.1.feed.upto), .d false 1 (encI v7.1.watch.heard), .d false 1 (encLI v7.1.watch.says), .s (.int .i64 v7.1.asked), .d false 1 (encI v7.1.votes), .s (.int .i64 v7.1.wait)]⟩], 149, gh, ls⟩ : St))) y8) ?_ ?_
  ·replace h := g8; clear g8
   replace h := ltE h; obtain ⟨v9, e9, h⟩ := h
   replace h := ltE h; obtain ⟨v10, e10, h⟩ := h
   cases v10 with
   | true =>
    replace h := iteT rfl h
    apply AW.last
    ·simp [lenI_cast e9, ← e10]
     intros; rfl
    obtain rfl := Option.some.inj h
    refine nP_i ?_
    refine Weak.mixN [some 0, some 1] hn0 (by decide) ?_ ?_ rfl
    all_goals first | (simp [inv_cons, inv_nil, pickOb]; done) | rfl
   | false =>
    replace h := iteF rfl h
    replace h := ltE h; obtain ⟨v11, e11, h⟩ := h
    replace h := ltE h; obtain ⟨v12, e12, h⟩ := h
    cases v12 with
    | true =>
     replace h := iteT rfl h
     apply AW.last
     ·simp [lenI_cast e9, ← e10, lenI_cast e11, ← e12]
      intros; rfl
     obtain rfl := Option.some.inj h
     refine nP_i ?_
     refine Weak.mixN [some 0, some 1] hn0 (by decide) ?_ ?_ rfl
     all_goals first | (simp [inv_cons, inv_nil, pickOb]; done) | rfl
    | false =>
     replace h := iteF rfl h
     replace h := ltE h; obtain ⟨v13, e13, h⟩ := h
     apply AW.last
     ·simp [lenI_cast e9, ← e10, lenI_cast e11, ← e12, ← e13]
      intros; rfl
     obtain rfl := Option.some.inj h
     refine nP_i ?_
     refine Weak.mixN [some 0, some 1] hn0 (by decide) ?_ ?_ rfl
     all_goals first | (simp [inv_cons, inv_nil, pickOb]; done) | rfl
  ·rintro e s hp
   obtain ⟨rfl, hw⟩ := hp
   refine ⟨_, hw, ?_⟩
   try simp only [sp_l, sp_r, Post.seq, Post.block, Nat.reduceEqDiff, reduceIte, Nat.zero_ne_one, Nat.one_ne_zero]
   replace h := ltE h; obtain ⟨v14, e14, h⟩ := h
   rw [← e14]
   cases v14 with
   | true =>
    replace h := iteT rfl h
    refine AW.cond_true (by simp) ?_
    apply AW.step
    ·simp
     intros; rfl
    obtain rfl := Option.some.inj h
    refine AW.ret ?_
    refine Left.plain hnb (by simp [Try.f6, resV, resC, comp]; rfl) rfl rfl ?_
    simp
   | false =>
    replace h := iteF rfl h
    refine AW.cond_false (by simp) ?_
    refine AW.skip ?_
    try simp only [sp_l, sp_r, Post.seq, Post.block, Nat.reduceEqDiff, reduceIte, Nat.zero_ne_one, Nat.one_ne_zero]
    try simp only [sp_l, sp_r, Post.seq, Post.block, Nat.reduceEqDiff, reduceIte, Nat.zero_ne_one, Nat.one_ne_zero]
    apply AW.step
    ·simp
     intros; rfl
    replace h := chkE h; obtain ⟨e15, h⟩ := h
    replace h := ltE h; obtain ⟨v16, e16, h⟩ := h
    apply AW.step
    ·simp
     intros
     refine mkS_ownN (enc := encNode) (fun _ => rfl) e16 tb_el58 tb_ti38 ⟨rfl, rfl, by decide⟩ (mkB_d e15) (by simp [All2, lvs]) ?_
     try simp
     intros; rfl
    refine AW.seq ?_
    apply AW.step
    ·simp
     intros; rfl
    refine AW.block ?_
    replace h := bnE h; obtain ⟨y18, g18, h⟩ := h
    refine AW.iterP g18 (mk := fun gh ls q => (⟨[(0, .l (.d false 1 (encU a0))), (3, .l (.p 0 0)), (4, .l (.p 1 0)), (7, .l (.s (.int .i64 0))), (8, .l (.r 2 22 0 q.2.length)), (9, .l (.s (.int .i64 q.1)))], [some ⟨38, 22, false, none, [.s (.int .i64 v6.1.count), .s (.int .i64 v6.1.id), .s (.int .i64 v6.1.master), .s (.int .i64 v6.1.epoch), .s (.int .i64 v6.1.voted), .d false 4 (encClaim v6.1.claims), .d false 6 (encPair v6.1.db), .d false 4 (encMove v6.1.moves), .s (.int .i64 v6.1.last), .d false 3 (encSeen v6.1.seen), .s (.int .i64 v6.1.feed.rid.node), .s (.int .i64 v6.1.feed.rid.epoch), .s (.int .i64 v6.1.feed.off), .d false 7 (encEffect v6.1.feed.back), .s (.int .i64 v6.1.feed.prev.node), .s (.int .i64 v6.1.feed.prev.epoch), .s (.int .i64 v6.1.feed.upto), .d false 1 (encI v6.1.watch.heard), .d false 1 (encLI v6.1.watch.says), .s (.int .i64 v6.1.asked), .d false 1 (encI v6.1.votes), .s (.int .i64 v6.1.wait)]⟩, some ⟨38, 22, false, none, [.s (.int .i64 v7.1.count), .s (.int .i64 v7.1.id), .s (.int .i64 v7.1.master), .s (.int .i64 v7.1.epoch), .s (.int .i64 v7.1.voted), .d false 4 (encClaim v7.1.claims), .d false 6 (encPair v7.1.db), .d false 4 (encMove v7.1.moves), .s (.int .i64 v7.1.last), .d false 3 (encSeen v7.1.seen), .s (.int .i64 v7.1.feed.rid.node), .s (.int .i64 v7.1.feed.rid.epoch), .s (.int .i64 v7.1.feed.off), .d false 7 (encEffect v7.1.feed.back), .s (.int .i64 v7.1.feed.prev.node), .s (.int .i64 v7.1.feed.prev.epoch), .s (.int .i64 v7.1.feed.upto), .d false 1 (encI v7.1.watch.heard), .d false 1 (encLI v7.1.watch.says), .s (.int .i64 v7.1.asked), .d false 1 (encI v7.1.votes), .s (.int .i64 v7.1.wait)]⟩, some ⟨38, 22, true, none, lvs (encNode q.2)⟩], 149, gh, ls⟩ : St)) (N := fun gh ls => (xP 0 (cx := cx) (fun q => (⟨[(0, .l (.d false 1 (encU a0))), (3, .l (.p 0 0)), (4, .l (.p 1 0)), (7, .l (.s (.int .i64 0))), (8, .l (.r 2 22 0 q.length))], [some ⟨38, 22, false, none, [.s (.int .i64 v6.1.count), .s (.int .i64 v6.1.id), .s (.int .i64 v6.1.master), .s (.int .i64 v6.1.epoch), .s (.int .i64 v6.1.voted), .d false 4 (encClaim v6.1.claims), .d false 6 (encPair v6.1.db), .d false 4 (encMove v6.1.moves), .s (.int .i64 v6.1.last), .d false 3 (encSeen v6.1.seen), .s (.int .i64 v6.1.feed.rid.node), .s (.int .i64 v6.1.feed.rid.epoch), .s (.int .i64 v6.1.feed.off), .d false 7 (encEffect v6.1.feed.back), .s (.int .i64 v6.1.feed.prev.node), .s (.int .i64 v6.1.feed.prev.epoch), .s (.int .i64 v6.1.feed.upto), .d false 1 (encI v6.1.watch.heard), .d false 1 (encLI v6.1.watch.says), .s (.int .i64 v6.1.asked), .d false 1 (encI v6.1.votes), .s (.int .i64 v6.1.wait)]⟩, some ⟨38, 22, false, none, [.s (.int .i64 v7.1.count), .s (.int .i64 v7.1.id), .s (.int .i64 v7.1.master), .s (.int .i64 v7.1.epoch), .s (.int .i64 v7.1.voted), .d false 4 (encClaim v7.1.claims), .d false 6 (encPair v7.1.db), .d false 4 (encMove v7.1.moves), .s (.int .i64 v7.1.last), .d false 3 (encSeen v7.1.seen), .s (.int .i64 v7.1.feed.rid.node), .s (.int .i64 v7.1.feed.rid.epoch), .s (.int .i64 v7.1.feed.off), .d false 7 (encEffect v7.1.feed.back), .s (.int .i64 v7.1.feed.prev.node), .s (.int .i64 v7.1.feed.prev.epoch), .s (.int .i64 v7.1.feed.upto), .d false 1 (encI v7.1.watch.heard), .d false 1 (encLI v7.1.watch.says), .s (.int .i64 v7.1.asked), .d false 1 (encI v7.1.votes), .s (.int .i64 v7.1.wait)]⟩, some ⟨38, 22, true, none, lvs (encNode q)⟩], 149, gh, ls⟩ : St)))) ?_ noX ?_ ?_
    ·refine Weak.mixN [some 0, some 1, some 2] hn0 (by decide) ?_ ?_ rfl
     all_goals first | (simp [inv_cons, inv_nil, pickOb]; done) | rfl
    ·clear h; intro y17 y19 h
     refine AW.seq ?_
     replace h := ltE h; obtain ⟨v20, e20, h⟩ := h
     apply AW.step
     ·simp [← e20]
      intros; rfl
     cases v20 with
     | true =>
      replace h := iteT rfl h
      refine AW.cond_true (by simp) ?_
      refine AW.skip ?_
      try simp only [sp_l, sp_r, Post.seq, Post.block, Nat.reduceEqDiff, reduceIte, Nat.zero_ne_one, Nat.one_ne_zero]
      try simp only [sp_l, sp_r, Post.seq, Post.block, Nat.reduceEqDiff, reduceIte, Nat.zero_ne_one, Nat.one_ne_zero]
      refine AW.seq ?_
      refine AW.block ?_
      replace h := bnE h; obtain ⟨v21, e21, h⟩ := h
      replace h := bnE h; obtain ⟨v22, e22, h⟩ := h
      replace h := bnE h; obtain ⟨v23, e23, h⟩ := h
      have f24 := nth_lt e23
      try simp [nth_d e23] at f24
      replace h := ltE h; obtain ⟨v25, e25, h⟩ := h
      have f26 := encNode_putW (nth_d e23).2 e25 (cs := [.s (.int .i64 v22.count), .s (.int .i64 v22.id), .s (.int .i64 v22.master), .s (.int .i64 v22.epoch), .s (.int .i64 v22.voted), .d false 4 (encClaim v22.claims), .d false 6 (encPair v22.db), .d false 4 (encMove v22.moves), .s (.int .i64 v22.last), .d false 3 (encSeen v22.seen), .s (.int .i64 v22.feed.rid.node), .s (.int .i64 v22.feed.rid.epoch), .s (.int .i64 v22.feed.off), .d false 7 (encEffect v22.feed.back), .s (.int .i64 v22.feed.prev.node), .s (.int .i64 v22.feed.prev.epoch), .s (.int .i64 v22.feed.upto), .d false 1 (encI v22.watch.heard), .d false 1 (encLI v22.watch.says), .s (.int .i64 v22.asked), .d false 1 (encI v22.votes), .s (.int .i64 v22.wait)]) rfl
      try simp [-setAt_cons] at f26
      have f27 := f24
      try simp only [set_len e25] at f27
      apply AW.last
      ·simp [-setAt_cons, nth_d e23, f24, encNode_fit (nth_d e23).2 (show 22 ≤ 22 by decide), f26, f27]
       intros
       refine xcall_plain en_r23_New (s_r23_New e21) rfl ⟨.same rfl, .same rfl, .same rfl, trivial⟩ ?_
       try simp [-setAt_cons, nth_d e23, f24, encNode_fit (nth_d e23).2 (show 22 ≤ 22 by decide), f26, f27]
       intros
       refine xcall_plain en_l18_Silent (s_l18_Silent e22) rfl ⟨.same rfl, .same rfl, trivial⟩ ?_
       try simp [-setAt_cons, nth_d e23, f24, encNode_fit (nth_d e23).2 (show 22 ≤ 22 by decide), f26, f27]
       intros; rfl
      try simp only [sp_l, sp_r, Post.seq, Post.block, Nat.reduceEqDiff, reduceIte, Nat.zero_ne_one, Nat.one_ne_zero]
      replace h := ltE h; obtain ⟨v28, e28, h⟩ := h
      apply AW.last
      ·simp [← e28]
       intros; rfl
      obtain rfl := Option.some.inj h
      refine nP_i ?_
      refine Weak.mixN [some 0, some 1, some 2] hn0 (by decide) ?_ ?_ rfl
      all_goals first | (simp [inv_cons, inv_nil, pickOb, set_len e25]; done) | rfl
     | false =>
      replace h := iteF rfl h
      refine AW.cond_false (by simp) ?_
      refine AW.exit ?_
      try simp only [sp_l, sp_r, Post.seq, Post.block, Nat.reduceEqDiff, reduceIte, Nat.zero_ne_one, Nat.one_ne_zero]
      obtain rfl := Option.some.inj h
      refine xP_i ?_
      refine Weak.mixN [some 0, some 1, some 2] hn0 (by decide) ?_ ?_ rfl
      all_goals first | (simp [inv_cons, inv_nil, pickOb]; done) | rfl
    ·rintro e s hp
     obtain ⟨rfl, hw⟩ := hp
     refine ⟨_, hw, ?_⟩
     try simp only [sp_l, sp_r, Post.seq, Post.block, Nat.reduceEqDiff, reduceIte, Nat.zero_ne_one, Nat.one_ne_zero]
     refine AW.seq ?_
     apply AW.step
     ·simp
      intros; rfl
     refine AW.block ?_
     replace h := bnE h; obtain ⟨y30, g30, h⟩ := h
     refine AW.iterP g30 (mk := fun gh ls q => (⟨[(0, .l (.d false 1 (encU a0))), (3, .l (.p 0 0)), (4, .l (.p 1 0)), (7, .l (.s (.int .i64 q.1))), (8, .l (.r 2 22 0 q.2.2.2.2.length)), (10, .l (.s (.int .i64 q.2.1)))], [some ⟨38, 22, false, none, [.s (.int .i64 q.2.2.1.count), .s (.int .i64 q.2.2.1.id), .s (.int .i64 q.2.2.1.master), .s (.int .i64 q.2.2.1.epoch), .s (.int .i64 q.2.2.1.voted), .d false 4 (encClaim q.2.2.1.claims), .d false 6 (encPair q.2.2.1.db), .d false 4 (encMove q.2.2.1.moves), .s (.int .i64 q.2.2.1.last), .d false 3 (encSeen q.2.2.1.seen), .s (.int .i64 q.2.2.1.feed.rid.node), .s (.int .i64 q.2.2.1.feed.rid.epoch), .s (.int .i64 q.2.2.1.feed.off), .d false 7 (encEffect q.2.2.1.feed.back), .s (.int .i64 q.2.2.1.feed.prev.node), .s (.int .i64 q.2.2.1.feed.prev.epoch), .s (.int .i64 q.2.2.1.feed.upto), .d false 1 (encI q.2.2.1.watch.heard), .d false 1 (encLI q.2.2.1.watch.says), .s (.int .i64 q.2.2.1.asked), .d false 1 (encI q.2.2.1.votes), .s (.int .i64 q.2.2.1.wait)]⟩, some ⟨38, 22, false, none, [.s (.int .i64 q.2.2.2.1.count), .s (.int .i64 q.2.2.2.1.id), .s (.int .i64 q.2.2.2.1.master), .s (.int .i64 q.2.2.2.1.epoch), .s (.int .i64 q.2.2.2.1.voted), .d false 4 (encClaim q.2.2.2.1.claims), .d false 6 (encPair q.2.2.2.1.db), .d false 4 (encMove q.2.2.2.1.moves), .s (.int .i64 q.2.2.2.1.last), .d false 3 (encSeen q.2.2.2.1.seen), .s (.int .i64 q.2.2.2.1.feed.rid.node), .s (.int .i64 q.2.2.2.1.feed.rid.epoch), .s (.int .i64 q.2.2.2.1.feed.off), .d false 7 (encEffect q.2.2.2.1.feed.back), .s (.int .i64 q.2.2.2.1.feed.prev.node), .s (.int .i64 q.2.2.2.1.feed.prev.epoch), .s (.int .i64 q.2.2.2.1.feed.upto), .d false 1 (encI q.2.2.2.1.watch.heard), .d false 1 (encLI q.2.2.2.1.watch.says), .s (.int .i64 q.2.2.2.1.asked), .d false 1 (encI q.2.2.2.1.votes), .s (.int .i64 q.2.2.2.1.wait)]⟩, some ⟨38, 22, true, none, lvs (encNode q.2.2.2.2)⟩], 149, gh, ls⟩ : St)) (N := fun gh ls => (xP 2 (cx := cx) (fun q => (⟨[(7, .l (.s (.int .i64 q)))], [], 149, gh, ls⟩ : St)))) ?_ noX ?_ ?_
     ·refine Weak.mixN [some 0, some 1, some 2] hn0 (by decide) ?_ ?_ rfl
      all_goals first | (simp [inv_cons, inv_nil, pickOb]; done) | rfl
     ·clear h; intro y29 y31 h
      refine AW.seq ?_
      replace h := ltE h; obtain ⟨v32, e32, h⟩ := h
      replace h := ltE h; obtain ⟨v33, e33, h⟩ := h
      apply AW.step
      ·simp [lenI_cast e32, ← e33]
       intros; rfl
      cases v33 with
      | true =>
       replace h := iteT rfl h
       refine AW.cond_true (by simp) ?_
       refine AW.skip ?_
       try simp only [sp_l, sp_r, Post.seq, Post.block, Nat.reduceEqDiff, reduceIte, Nat.zero_ne_one, Nat.one_ne_zero]
       try simp only [sp_l, sp_r, Post.seq, Post.block, Nat.reduceEqDiff, reduceIte, Nat.zero_ne_one, Nat.one_ne_zero]
       refine AW.seq ?_
       refine AW.block ?_
       replace h := bnE h; obtain ⟨v34, e34, h⟩ := h
       replace h := ltE h; obtain ⟨v35, e35, h⟩ := h
       replace h := bnE h; obtain ⟨v36, e36, h⟩ := h
       replace h := ltE h; obtain ⟨v37, e37, h⟩ := h
       apply AW.step
       ·simp [nth_d e34, ← e35, e36, ← e37]
        intros; rfl
       replace h := bnE h; obtain ⟨v38, e38, h⟩ := h
       replace h := bnE h; obtain ⟨v39, e39, h⟩ := h
       replace h := ltE h; obtain ⟨v40, e40, h⟩ := h
       replace h := ltE h; obtain ⟨v41, e41, h⟩ := h
       apply AW.step
       ·simp [nth_d e34, ← e35, e38, e39, ← e40, ← e41]
        intros; rfl
       replace h := bnE h; obtain ⟨v42, e42, h⟩ := h
       have f43 := nth_lt e42
       try simp [nth_d e42] at f43
       replace h := bnE h; obtain ⟨v44, e44, h⟩ := h
       apply AW.step
       ·simp [nth_d e42, f43, encNode_seg0 (nth_d e42).2 (k := 22) (by decide), encNode_fit (nth_d e42).2 (show 22 ≤ 22 by decide), lvs1]
        intros
        refine xcall_plain en_vote_Grant (s_vote_Grant e44) rfl ⟨.same rfl, .g ⟨.s _, .s _, .s _, .s _, .nil _ _, .nil _ _, .s _, .s _, .s _, .s _, .s _, .s _, .s _, .s _, .nil _ _, trivial⟩, trivial⟩ ?_
        try simp [nth_d e42, f43, encNode_seg0 (nth_d e42).2 (k := 22) (by decide), encNode_fit (nth_d e42).2 (show 22 ≤ 22 by decide), lvs1]
        intros; rfl
       have f45 := nth_lt e42
       try simp [nth_d e42] at f45
       replace h := ltE h; obtain ⟨v46, e46, h⟩ := h
       have f47 := encNode_putW (nth_d e42).2 e46 (cs := [.s (.int .i64 v44.1.count), .s (.int .i64 v44.1.id), .s (.int .i64 v44.1.master), .s (.int .i64 v44.1.epoch), .s (.int .i64 v44.1.voted), .d false 4 (encClaim v44.1.claims), .d false 6 (encPair v44.1.db), .d false 4 (encMove v44.1.moves), .s (.int .i64 v44.1.last), .d false 3 (encSeen v44.1.seen), .s (.int .i64 v44.1.feed.rid.node), .s (.int .i64 v44.1.feed.rid.epoch), .s (.int .i64 v44.1.feed.off), .d false 7 (encEffect v44.1.feed.back), .s (.int .i64 v44.1.feed.prev.node), .s (.int .i64 v44.1.feed.prev.epoch), .s (.int .i64 v44.1.feed.upto), .d false 1 (encI v44.1.watch.heard), .d false 1 (encLI v44.1.watch.says), .s (.int .i64 v44.1.asked), .d false 1 (encI v44.1.votes), .s (.int .i64 v44.1.wait)]) rfl
       try simp [-setAt_cons] at f47
       have f48 := f45
       try simp only [set_len e46] at f48
       apply AW.step
       ·simp [-setAt_cons, nth_d e42, f45, encNode_fit (nth_d e42).2 (show 22 ≤ 22 by decide), f47, f48]
        intros; rfl
       apply AW.step
       ·simp
        intros; rfl
       refine AW.block ?_
       replace h := bnE h; obtain ⟨y50, g50, h⟩ := h
       refine AW.iterP g50 (mk := fun gh ls q => (⟨[(0, .l (.d false 1 (encU a0))), (3, .l (.p 0 0)), (4, .l (.p 1 0)), (7, .l (.s (.int .i64 q.1))), (8, .l (.r 2 22 0 v46.length)), (10, .l (.s (.int .i64 y29.2.1))), (14, .l (.d false 15 (encMsg v44.2))), (15, .l (.s (.int .i64 q.2.1)))], [some ⟨38, 22, false, none, [.s (.int .i64 q.2.2.1.count), .s (.int .i64 q.2.2.1.id), .s (.int .i64 q.2.2.1.master), .s (.int .i64 q.2.2.1.epoch), .s (.int .i64 q.2.2.1.voted), .d false 4 (encClaim q.2.2.1.claims), .d false 6 (encPair q.2.2.1.db), .d false 4 (encMove q.2.2.1.moves), .s (.int .i64 q.2.2.1.last), .d false 3 (encSeen q.2.2.1.seen), .s (.int .i64 q.2.2.1.feed.rid.node), .s (.int .i64 q.2.2.1.feed.rid.epoch), .s (.int .i64 q.2.2.1.feed.off), .d false 7 (encEffect q.2.2.1.feed.back), .s (.int .i64 q.2.2.1.feed.prev.node), .s (.int .i64 q.2.2.1.feed.prev.epoch), .s (.int .i64 q.2.2.1.feed.upto), .d false 1 (encI q.2.2.1.watch.heard), .d false 1 (encLI q.2.2.1.watch.says), .s (.int .i64 q.2.2.1.asked), .d false 1 (encI q.2.2.1.votes), .s (.int .i64 q.2.2.1.wait)]⟩, some ⟨38, 22, false, none, [.s (.int .i64 q.2.2.2.count), .s (.int .i64 q.2.2.2.id), .s (.int .i64 q.2.2.2.master), .s (.int .i64 q.2.2.2.epoch), .s (.int .i64 q.2.2.2.voted), .d false 4 (encClaim q.2.2.2.claims), .d false 6 (encPair q.2.2.2.db), .d false 4 (encMove q.2.2.2.moves), .s (.int .i64 q.2.2.2.last), .d false 3 (encSeen q.2.2.2.seen), .s (.int .i64 q.2.2.2.feed.rid.node), .s (.int .i64 q.2.2.2.feed.rid.epoch), .s (.int .i64 q.2.2.2.feed.off), .d false 7 (encEffect q.2.2.2.feed.back), .s (.int .i64 q.2.2.2.feed.prev.node), .s (.int .i64 q.2.2.2.feed.prev.epoch), .s (.int .i64 q.2.2.2.feed.upto), .d false 1 (encI q.2.2.2.watch.heard), .d false 1 (encLI q.2.2.2.watch.says), .s (.int .i64 q.2.2.2.asked), .d false 1 (encI q.2.2.2.votes), .s (.int .i64 q.2.2.2.wait)]⟩, some ⟨38, 22, true, none, lvs (encNode v46)⟩], 149, gh, ls⟩ : St)) (N := fun gh ls => (xP 4 (cx := cx) (fun q => (⟨[(0, .l (.d false 1 (encU a0))), (3, .l (.p 0 0)), (4, .l (.p 1 0)), (7, .l (.s (.int .i64 q.1))), (8, .l (.r 2 22 0 v46.length)), (10, .l (.s (.int .i64 y29.2.1)))], [some ⟨38, 22, false, none, [.s (.int .i64 q.2.1.count), .s (.int .i64 q.2.1.id), .s (.int .i64 q.2.1.master), .s (.int .i64 q.2.1.epoch), .s (.int .i64 q.2.1.voted), .d false 4 (encClaim q.2.1.claims), .d false 6 (encPair q.2.1.db), .d false 4 (encMove q.2.1.moves), .s (.int .i64 q.2.1.last), .d false 3 (encSeen q.2.1.seen), .s (.int .i64 q.2.1.feed.rid.node), .s (.int .i64 q.2.1.feed.rid.epoch), .s (.int .i64 q.2.1.feed.off), .d false 7 (encEffect q.2.1.feed.back), .s (.int .i64 q.2.1.feed.prev.node), .s (.int .i64 q.2.1.feed.prev.epoch), .s (.int .i64 q.2.1.feed.upto), .d false 1 (encI q.2.1.watch.heard), .d false 1 (encLI q.2.1.watch.says), .s (.int .i64 q.2.1.asked), .d false 1 (encI q.2.1.votes), .s (.int .i64 q.2.1.wait)]⟩, some ⟨38, 22, false, none, [.s (.int .i64 q.2.2.count), .s (.int .i64 q.2.2.id), .s (.int .i64 q.2.2.master), .s (.int .i64 q.2.2.epoch), .s (.int .i64 q.2.2.voted), .d false 4 (encClaim q.2.2.claims), .d false 6 (encPair q.2.2.db), .d false 4 (encMove q.2.2.moves), .s (.int .i64 q.2.2.last), .d false 3 (encSeen q.2.2.seen), .s (.int .i64 q.2.2.feed.rid.node), .s (.int .i64 q.2.2.feed.rid.epoch), .s (.int .i64 q.2.2.feed.off), .d false 7 (encEffect q.2.2.feed.back), .s (.int .i64 q.2.2.feed.prev.node), .s (.int .i64 q.2.2.feed.prev.epoch), .s (.int .i64 q.2.2.feed.upto), .d false 1 (encI q.2.2.watch.heard), .d false 1 (encLI q.2.2.watch.says), .s (.int .i64 q.2.2.asked), .d false 1 (encI q.2.2.votes), .s (.int .i64 q.2.2.wait)]⟩, some ⟨38, 22, true, none, lvs (encNode v46)⟩], 149, gh, ls⟩ : St)))) ?_ noX ?_ ?_
       ·refine Weak.mixN [some 0, some 1, some 2] hn0 (by decide) ?_ ?_ rfl
        all_goals first | (simp [inv_cons, inv_nil, pickOb, set_len e46]; done) | rfl
       ·clear h; intro y49 y51 h
        refine AW.seq ?_
        replace h := ltE h; obtain ⟨v52, e52, h⟩ := h
        replace h := ltE h; obtain ⟨v53, e53, h⟩ := h
        apply AW.step
        ·simp [lenI_cast e52, ← e53]
         intros; rfl
        cases v53 with
        | true =>
         replace h := iteT rfl h
         refine AW.cond_true (by simp) ?_
         refine AW.skip ?_
         try simp only [sp_l, sp_r, Post.seq, Post.block, Nat.reduceEqDiff, reduceIte, Nat.zero_ne_one, Nat.one_ne_zero]
         try simp only [sp_l, sp_r, Post.seq, Post.block, Nat.reduceEqDiff, reduceIte, Nat.zero_ne_one, Nat.one_ne_zero]
         replace h := bnE h; obtain ⟨y54, g54, h⟩ := h
         refine AW.flow (p := fun gh ls => (nP (cx := cx) (fun q => (⟨[(0, .l (.d false 1 (encU a0))), (3, .l (.p 0 0)), (4, .l (.p 1 0)), (7, .l (.s (.int .i64 q.1))), (8, .l (.r 2 22 0 v46.length)), (10, .l (.s (.int .i64 y29.2.1))), (14, .l (.d false 15 (encMsg v44.2))), (15, .l (.s (.int .i64 y49.2.1)))], [some ⟨38, 22, false, none, [.s (.int .i64 q.2.1.count), .s (.int .i64 q.2.1.id), .s (.int .i64 q.2.1.master), .s (.int .i64 q.2.1.epoch), .s (.int .i64 q.2.1.voted), .d false 4 (encClaim q.2.1.claims), .d false 6 (encPair q.2.1.db), .d false 4 (encMove q.2.1.moves), .s (.int .i64 q.2.1.last), .d false 3 (encSeen q.2.1.seen), .s (.int .i64 q.2.1.feed.rid.node), .s (.int .i64 q.2.1.feed.rid.epoch), .s (.int .i64 q.2.1.feed.off), .d false 7 (encEffect q.2.1.feed.back), .s (.int .i64 q.2.1.feed.prev.node), .s (.int .i64 q.2.1.feed.prev.epoch), .s (.int .i64 q.2.1.feed.upto), .d false 1 (encI q.2.1.watch.heard), .d false 1 (encLI q.2.1.watch.says), .s (.int .i64 q.2.1.asked), .d false 1 (encI q.2.1.votes), .s (.int .i64 q.2.1.wait)]⟩, some ⟨38, 22, false, none, [.s (.int .i64 q.2.2.count), .s (.int .i64 q.2.2.id), .s (.int .i64 q.2.2.master), .s (.int .i64 q.2.2.epoch), .s (.int .i64 q.2.2.voted), .d false 4 (encClaim q.2.2.claims), .d false 6 (encPair q.2.2.db), .d false 4 (encMove q.2.2.moves), .s (.int .i64 q.2.2.last), .d false 3 (encSeen q.2.2.seen), .s (.int .i64 q.2.2.feed.rid.node), .s (.int .i64 q.2.2.feed.rid.epoch), .s (.int .i64 q.2.2.feed.off), .d false 7 (encEffect q.2.2.feed.back), .s (.int .i64 q.2.2.feed.prev.node), .s (.int .i64 q.2.2.feed.prev.epoch), .s (.int .i64 q.2.2.feed.upto), .d false 1 (encI q.2.2.watch.heard), .d false 1 (encLI q.2.2.watch.says), .s (.int .i64 q.2.2.asked), .d false 1 (encI q.2.2.votes), .s (.int .i64 q.2.2.wait)]⟩, some ⟨38, 22, true, none, lvs (encNode v46)⟩], 149, gh, ls⟩ : St))) y54) ?_ ?_
         ·replace h := g54; clear g54
          refine AW.block ?_
          replace h := bnE h; obtain ⟨y55, g55, h⟩ := h
          refine AW.flow (p := fun gh ls => (nP (cx := cx) (fun q => (⟨[(0, .l (.d false 1 (encU a0))), (3, .l (.p 0 0)), (4, .l (.p 1 0)), (7, .l (.s (.int .i64 q.1))), (8, .l (.r 2 22 0 v46.length)), (10, .l (.s (.int .i64 y29.2.1))), (14, .l (.d false 15 (encMsg v44.2))), (15, .l (.s (.int .i64 y49.2.1)))], [some ⟨38, 22, false, none, [.s (.int .i64 q.2.count), .s (.int .i64 q.2.id), .s (.int .i64 q.2.master), .s (.int .i64 q.2.epoch), .s (.int .i64 q.2.voted), .d false 4 (encClaim q.2.claims), .d false 6 (encPair q.2.db), .d false 4 (encMove q.2.moves), .s (.int .i64 q.2.last), .d false 3 (encSeen q.2.seen), .s (.int .i64 q.2.feed.rid.node), .s (.int .i64 q.2.feed.rid.epoch), .s (.int .i64 q.2.feed.off), .d false 7 (encEffect q.2.feed.back), .s (.int .i64 q.2.feed.prev.node), .s (.int .i64 q.2.feed.prev.epoch), .s (.int .i64 q.2.feed.upto), .d false 1 (encI q.2.watch.heard), .d false 1 (encLI q.2.watch.says), .s (.int .i64 q.2.asked), .d false 1 (encI q.2.votes), .s (.int .i64 q.2.wait)]⟩, some ⟨38, 22, false, none, [.s (.int .i64 y49.2.2.2.count), .s (.int .i64 y49.2.2.2.id), .s (.int .i64 y49.2.2.2.master), .s (.int .i64 y49.2.2.2.epoch), .s (.int .i64 y49.2.2.2.voted), .d false 4 (encClaim y49.2.2.2.claims), .d false 6 (encPair y49.2.2.2.db), .d false 4 (encMove y49.2.2.2.moves), .s (.int .i64 y49.2.2.2.last), .d false 3 (encSeen y49.2.2.2.seen), .s (.int .i64 y49.2.2.2.feed.rid.node), .s (.int .i64 y49.2.2.2.feed.rid.epoch), .s (.int .i64 y49.2.2.2.feed.off), .d false 7 (encEffect y49.2.2.2.feed.back), .s (.int .i64 y49.2.2.2.feed.prev.node), .s (.int .i64 y49.2.2.2.feed.prev.epoch), .s (.int .i64 y49.2.2.2.feed.upto), .d false 1 (encI y49.2.2.2.watch.heard), .d false 1 (encLI y49.2.2.2.watch.says), .s (.int .i64 y49.2.2.2.asked), .d false 1 (encI y49.2.2.2.votes), .s (.int .i64 y49.2.2.2.wait)]⟩, some ⟨38, 22, true, none, lvs (encNode v46)⟩], 149, gh, ls⟩ : St))) y55) ?_ ?_
          ·replace h := g55; clear g55
           replace h := bnE h; obtain ⟨v56, e56, h⟩ := h
           replace h := ltE h; obtain ⟨v57, e57, h⟩ := h
           apply AW.step
           ·simp [nth_d e56, ← e57]
            intros; rfl
           cases v57 with
           | true =>
            replace h := iteT rfl h
            refine AW.cond_true (by simp) ?_
            replace h := bnE h; obtain ⟨v58, e58, h⟩ := h
            apply AW.drawnE (V := [_, _, _, _, _, _, _, _, _, _, _]) (M := [[some ⟨38, 22, false, none, [.s (.int .i64 y49.2.2.1.count), .s (.int .i64 y49.2.2.1.id), .s (.int .i64 y49.2.2.1.master), .s (.int .i64 y49.2.2.1.epoch), .s (.int .i64 y49.2.2.1.voted), .d false 4 (encClaim y49.2.2.1.claims), .d false 6 (encPair y49.2.2.1.db), .d false 4 (encMove y49.2.2.1.moves), .s (.int .i64 y49.2.2.1.last), .d false 3 (encSeen y49.2.2.1.seen), .s (.int .i64 y49.2.2.1.feed.rid.node), .s (.int .i64 y49.2.2.1.feed.rid.epoch), .s (.int .i64 y49.2.2.1.feed.off), .d false 7 (encEffect y49.2.2.1.feed.back), .s (.int .i64 y49.2.2.1.feed.prev.node), .s (.int .i64 y49.2.2.1.feed.prev.epoch), .s (.int .i64 y49.2.2.1.feed.upto), .d false 1 (encI y49.2.2.1.watch.heard), .d false 1 (encLI y49.2.2.1.watch.says), .s (.int .i64 y49.2.2.1.asked), .d false 1 (encI y49.2.2.1.votes), .s (.int .i64 y49.2.2.1.wait)]⟩, some ⟨38, 22, false, none, [.s (.int .i64 y49.2.2.2.count), .s (.int .i64 y49.2.2.2.id), .s (.int .i64 y49.2.2.2.master), .s (.int .i64 y49.2.2.2.epoch), .s (.int .i64 y49.2.2.2.voted), .d false 4 (encClaim y49.2.2.2.claims), .d false 6 (encPair y49.2.2.2.db), .d false 4 (encMove y49.2.2.2.moves), .s (.int .i64 y49.2.2.2.last), .d false 3 (encSeen y49.2.2.2.seen), .s (.int .i64 y49.2.2.2.feed.rid.node), .s (.int .i64 y49.2.2.2.feed.rid.epoch), .s (.int .i64 y49.2.2.2.feed.off), .d false 7 (encEffect y49.2.2.2.feed.back), .s (.int .i64 y49.2.2.2.feed.prev.node), .s (.int .i64 y49.2.2.2.feed.prev.epoch), .s (.int .i64 y49.2.2.2.feed.upto), .d false 1 (encI y49.2.2.2.watch.heard), .d false 1 (encLI y49.2.2.2.watch.says), .s (.int .i64 y49.2.2.2.asked), .d false 1 (encI y49.2.2.2.votes), .s (.int .i64 y49.2.2.2.wait)]⟩, some ⟨38, 22, true, none, lvs (encNode v46)⟩], [some ⟨38, 22, false, none, [.s (.int .i64 y49.2.2.1.count), .s (.int .i64 y49.2.2.1.id), .s (.int .i64 y49.2.2.1.master), .s (.int .i64 y49.2.2.1.epoch), .s (.int .i64 y49.2.2.1.voted), .d false 4 (encClaim y49.2.2.1.claims), .d false 6 (encPair y49.2.2.1.db), .d false 4 (encMove y49.2.2.1.moves), .s (.int .i64 y49.2.2.1.last), .d false 3 (encSeen y49.2.2.1.seen), .s (.int .i64 y49.2.2.1.feed.rid.node), .s (.int .i64 y49.2.2.1.feed.rid.epoch), .s (.int .i64 y49.2.2.1.feed.off), .d false 7 (encEffect y49.2.2.1.feed.back), .s (.int .i64 y49.2.2.1.feed.prev.node), .s (.int .i64 y49.2.2.1.feed.prev.epoch), .s (.int .i64 y49.2.2.1.feed.upto), .d false 1 (encI y49.2.2.1.watch.heard), .d false 1 (encLI y49.2.2.1.watch.says), .s (.int .i64 y49.2.2.1.asked), .d false 1 (encI y49.2.2.1.votes), .s (.int .i64 y49.2.2.1.wait)]⟩, some ⟨38, 22, false, none, [.s (.int .i64 y49.2.2.2.count), .s (.int .i64 y49.2.2.2.id), .s (.int .i64 y49.2.2.2.master), .s (.int .i64 y49.2.2.2.epoch), .s (.int .i64 y49.2.2.2.voted), .d false 4 (encClaim y49.2.2.2.claims), .d false 6 (encPair y49.2.2.2.db), .d false 4 (encMove y49.2.2.2.moves), .s (.int .i64 y49.2.2.2.last), .d false 3 (encSeen y49.2.2.2.seen), .s (.int .i64 y49.2.2.2.feed.rid.node), .s (.int .i64 y49.2.2.2.feed.rid.epoch), .s (.int .i64 y49.2.2.2.feed.off), .d false 7 (encEffect y49.2.2.2.feed.back), .s (.int .i64 y49.2.2.2.feed.prev.node), .s (.int .i64 y49.2.2.2.feed.prev.epoch), .s (.int .i64 y49.2.2.2.feed.upto), .d false 1 (encI y49.2.2.2.watch.heard), .d false 1 (encLI y49.2.2.2.watch.says), .s (.int .i64 y49.2.2.2.asked), .d false 1 (encI y49.2.2.2.votes), .s (.int .i64 y49.2.2.2.wait)]⟩, some ⟨38, 22, true, none, lvs (encNode v46)⟩, some ⟨38, 22, false, none, [.s (.int .i64 0), .s (.int .i64 0), .s (.int .i64 0), .s (.int .i64 0), .s (.int .i64 0), .s (.slice none 0 0), .s (.slice none 0 0), .s (.slice none 0 0), .s (.int .i64 0), .s (.slice none 0 0), .s (.int .i64 0), .s (.int .i64 0), .s (.int .i64 0), .s (.slice none 0 0), .s (.int .i64 0), .s (.int .i64 0), .s (.int .i64 0), .s (.slice none 0 0), .s (.slice none 0 0), .s (.int .i64 0), .s (.slice none 0 0), .s (.int .i64 0)]⟩], [some ⟨38, 22, false, none, [.s (.int .i64 y49.2.2.1.count), .s (.int .i64 y49.2.2.1.id), .s (.int .i64 y49.2.2.1.master), .s (.int .i64 y49.2.2.1.epoch), .s (.int .i64 y49.2.2.1.voted), .d false 4 (encClaim y49.2.2.1.claims), .d false 6 (encPair y49.2.2.1.db), .d false 4 (encMove y49.2.2.1.moves), .s (.int .i64 y49.2.2.1.last), .d false 3 (encSeen y49.2.2.1.seen), .s (.int .i64 y49.2.2.1.feed.rid.node), .s (.int .i64 y49.2.2.1.feed.rid.epoch), .s (.int .i64 y49.2.2.1.feed.off), .d false 7 (encEffect y49.2.2.1.feed.back), .s (.int .i64 y49.2.2.1.feed.prev.node), .s (.int .i64 y49.2.2.1.feed.prev.epoch), .s (.int .i64 y49.2.2.1.feed.upto), .d false 1 (encI y49.2.2.1.watch.heard), .d false 1 (encLI y49.2.2.1.watch.says), .s (.int .i64 y49.2.2.1.asked), .d false 1 (encI y49.2.2.1.votes), .s (.int .i64 y49.2.2.1.wait)]⟩, some ⟨38, 22, false, none, [.s (.int .i64 y49.2.2.2.count), .s (.int .i64 y49.2.2.2.id), .s (.int .i64 y49.2.2.2.master), .s (.int .i64 y49.2.2.2.epoch), .s (.int .i64 y49.2.2.2.voted), .d false 4 (encClaim y49.2.2.2.claims), .d false 6 (encPair y49.2.2.2.db), .d false 4 (encMove y49.2.2.2.moves), .s (.int .i64 y49.2.2.2.last), .d false 3 (encSeen y49.2.2.2.seen), .s (.int .i64 y49.2.2.2.feed.rid.node), .s (.int .i64 y49.2.2.2.feed.rid.epoch), .s (.int .i64 y49.2.2.2.feed.off), .d false 7 (encEffect y49.2.2.2.feed.back), .s (.int .i64 y49.2.2.2.feed.prev.node), .s (.int .i64 y49.2.2.2.feed.prev.epoch), .s (.int .i64 y49.2.2.2.feed.upto), .d false 1 (encI y49.2.2.2.watch.heard), .d false 1 (encLI y49.2.2.2.watch.says), .s (.int .i64 y49.2.2.2.asked), .d false 1 (encI y49.2.2.2.votes), .s (.int .i64 y49.2.2.2.wait)]⟩, some ⟨38, 22, true, none, lvs (encNode v46)⟩, some ⟨38, 22, false, none, [.s (.int .i64 v58.1.count), .s (.int .i64 v58.1.id), .s (.int .i64 v58.1.master), .s (.int .i64 v58.1.epoch), .s (.int .i64 v58.1.voted), .d false 4 (encClaim v58.1.claims), .d false 6 (encPair v58.1.db), .d false 4 (encMove v58.1.moves), .s (.int .i64 v58.1.last), .d false 3 (encSeen v58.1.seen), .s (.int .i64 v58.1.feed.rid.node), .s (.int .i64 v58.1.feed.rid.epoch), .s (.int .i64 v58.1.feed.off), .d false 7 (encEffect v58.1.feed.back), .s (.int .i64 v58.1.feed.prev.node), .s (.int .i64 v58.1.feed.prev.epoch), .s (.int .i64 v58.1.feed.upto), .d false 1 (encI v58.1.watch.heard), .d false 1 (encLI v58.1.watch.says), .s (.int .i64 v58.1.asked), .d false 1 (encI v58.1.votes), .s (.int .i64 v58.1.wait)]⟩]]) mixed [⟨[0, 1], [], [(3, none)], false⟩, ⟨[0, 1], [], [(14, none)], false⟩, ⟨[0, 1], [], [(15, none)], false⟩, ⟨[0, 1], [1, 2], [(114, some 1), (115, some 2)], false⟩, ⟨[0, 1], [1, 2, 3], [(116, some 3)], false⟩, ⟨[0, 1], [0, 1, 2, 3, 4], [(113, some 0), (117, some 4)], false⟩, ⟨[0, 1], [0, 1, 2, 3, 4, 5], [(118, some 5)], false⟩, ⟨[0, 1], [0, 1, 2, 3, 4, 5, 6], [(112, some 6)], false⟩, ⟨[0, 1, 2], [0, 1, 2, 3, 4, 5, 6], [(112, some 6)], false⟩, ⟨[0], [], [], true⟩, ⟨[1], [0, 1, 2, 3, 4, 5, 6, 7, 9], [(16, some 9), (119, some 7)], true⟩, ⟨[], [0, 1, 2, 3, 4, 5, 6, 7, 8, 9, 10], [], false⟩] 11 2 (by kernel_rfl) (by kernel_rfl)
            ·rfl
            ·refine ⟨⟨?_, ?_⟩, ⟨?_, ?_⟩, ⟨?_, ?_⟩, ⟨?_, ?_⟩, ⟨?_, ?_⟩, ⟨?_, ?_⟩, ⟨?_, ?_⟩, ⟨?_, ?_⟩, ⟨?_, ?_, ?_⟩, ?_, ?_, trivial⟩
             ·intro tm hr
              simp [AllL, rdV] at hr
              simp [hr, nth_d e56]
              intros; first | exact KD.mk | exact KD.mkN
             ·intro tm hr
              simp [AllL, rdV] at hr
              simp [hr, nth_d e56]
              intros; first | exact KD.mk | exact KD.mkN
             ·intro tm hr
              simp [AllL, rdV] at hr
              simp [hr, nth_d e56]
              intros; first | exact KD.mk | exact KD.mkN
             ·intro tm hr
              simp [AllL, rdV] at hr
              simp [hr, nth_d e56]
              intros; first | exact KD.mk | exact KD.mkN
             ·intro tm hr
              simp [AllL, rdV] at hr
              simp [hr, nth_d e56]
              intros; first | exact KD.mk | exact KD.mkN
             ·intro tm hr
              simp [AllL, rdV] at hr
              simp [hr, nth_d e56]
              intros; first | exact KD.mk | exact KD.mkN
             ·intro tm hr
              simp [AllL, rdV] at hr
              simp [hr, nth_d e56]
              intros; first | exact KD.mk | exact KD.mkN
             ·intro tm hr
              simp [AllL, rdV] at hr
              simp [hr, nth_d e56]
              intros; first | exact KD.mk | exact KD.mkN
             ·intro tm hr
              simp [AllL, rdV] at hr
              simp [hr, nth_d e56]
              intros; first | exact KD.mk | exact KD.mkN
             ·intro tm hr
              simp [AllL, rdV] at hr
              simp [hr, nth_d e56]
              intros; first | exact KD.mk | exact KD.mkN
             ·intro tm hr
              simp [AllL, rdV] at hr
              simp [hr, nth_d e56]
              intros
              refine xcall_plain en_vote_Count (s_vote_Count e58) rfl ⟨.same rfl, .same rfl, trivial⟩ ?_
              try simp [nth_d e56]
              intros; first | exact KD.mk | exact KD.mkN
             ·intro tm hr
              simp [AllL, rdV] at hr
              simp [hr, nth_d e56]
              intros
              refine xcall_plain en_vote_Count (s_vote_Count e58) rfl ⟨.same rfl, .same rfl, trivial⟩ ?_
              try simp [nth_d e56]
              intros; first | exact KD.mk | exact KD.mkN
             ·intro tm hr
              simp [AllL, rdV] at hr
              simp [hr, nth_d e56]
              intros; first | exact KD.mk | exact KD.mkN
             ·intro tm hr
              simp [AllL, rdV] at hr
              simp [hr, nth_d e56]
              intros; first | exact KD.mk | exact KD.mkN
             ·intro tm hr
              simp [AllL, rdV] at hr
              simp [hr, nth_d e56]
              intros; first | exact KD.mk | exact KD.mkN
             ·intro tm hr
              simp [AllL, rdV] at hr
              simp [hr, nth_d e56]
              intros; first | exact KD.mk | exact KD.mkN
             ·intro tm hr
              simp [AllL, rdV] at hr
              simp [hr, nth_d e56]
              intros; first | exact KD.mk | exact KD.mkN
             ·intro tm hr
              simp [AllL, rdV] at hr
              simp [hr, nth_d e56]
              intros; first | exact KD.mk | exact KD.mkN
             ·intro tm hr
              simp [AllL, rdV] at hr
              simp [hr, nth_d e56]
              intros; first | exact KD.mk | exact KD.mkN
             ·intro tm hr
              simp [AllL, rdV] at hr
              simp [hr, nth_d e56]
              intros; first | exact KD.mk | exact KD.mkN
             ·intro tm hr
              simp [AllL, rdV] at hr
              simp [hr, nth_d e56]
              intros; first | exact KD.mk | exact KD.mkN
            ·rfl
            ·simp [tmD, putD, nth_d e56]; rfl
            ·simp [nth_d e56]
             intros; rfl
            apply AW.step
            ·simp
             intros; rfl
            apply AW.step
            ·simp
             intros; rfl
            replace h := ltE h; obtain ⟨v59, e59, h⟩ := h
            rw [← e59]
            cases v59 with
            | true =>
             replace h := iteT rfl h
             refine AW.cond_true (by simp) ?_
             replace h := ltE h; obtain ⟨v60, e60, h⟩ := h
             apply AW.last
             ·simp [← e60]
              intros; rfl
             obtain rfl := Option.some.inj h
             refine nP_i ?_
             refine Weak.mixN [some 0, some 1, some 2] hn0 (by decide) ?_ ?_ rfl
             all_goals first | (simp [inv_cons, inv_nil, pickOb]; done) | rfl
            | false =>
             replace h := iteF rfl h
             refine AW.cond_false (by simp) ?_
             refine AW.skip ?_
             try simp only [sp_l, sp_r, Post.seq, Post.block, Nat.reduceEqDiff, reduceIte, Nat.zero_ne_one, Nat.one_ne_zero]
             obtain rfl := Option.some.inj h
             refine nP_i ?_
             refine Weak.mixN [some 0, some 1, some 2] hn0 (by decide) ?_ ?_ rfl
             all_goals first | (simp [inv_cons, inv_nil, pickOb]; done) | rfl
           | false =>
            replace h := iteF rfl h
            refine AW.cond_false (by simp) ?_
            refine AW.skip ?_
            try simp only [sp_l, sp_r, Post.seq, Post.block, Nat.reduceEqDiff, reduceIte, Nat.zero_ne_one, Nat.one_ne_zero]
            obtain rfl := Option.some.inj h
            refine nP_i ?_
            refine Weak.mixN [some 0, some 1, some 2] hn0 (by decide) ?_ ?_ rfl
            all_goals first | (simp [inv_cons, inv_nil, pickOb]; done) | rfl
          ·rintro e s hp
           obtain ⟨rfl, hw⟩ := hp
           refine ⟨_, hw, ?_⟩
           try simp only [sp_l, sp_r, Post.seq, Post.block, Nat.reduceEqDiff, reduceIte, Nat.zero_ne_one, Nat.one_ne_zero]
           replace h := bnE h; obtain ⟨v61, e61, h⟩ := h
           replace h := ltE h; obtain ⟨v62, e62, h⟩ := h
           apply AW.step
           ·simp [nth_d e61, ← e62]
            intros; rfl
           cases v62 with
           | true =>
            replace h := iteT rfl h
            refine AW.cond_true (by simp) ?_
            replace h := bnE h; obtain ⟨v63, e63, h⟩ := h
            apply AW.drawnE (V := [_, _, _, _, _, _, _, _, _, _, _]) (M := [[some ⟨38, 22, false, none, [.s (.int .i64 y55.2.count), .s (.int .i64 y55.2.id), .s (.int .i64 y55.2.master), .s (.int .i64 y55.2.epoch), .s (.int .i64 y55.2.voted), .d false 4 (encClaim y55.2.claims), .d false 6 (encPair y55.2.db), .d false 4 (encMove y55.2.moves), .s (.int .i64 y55.2.last), .d false 3 (encSeen y55.2.seen), .s (.int .i64 y55.2.feed.rid.node), .s (.int .i64 y55.2.feed.rid.epoch), .s (.int .i64 y55.2.feed.off), .d false 7 (encEffect y55.2.feed.back), .s (.int .i64 y55.2.feed.prev.node), .s (.int .i64 y55.2.feed.prev.epoch), .s (.int .i64 y55.2.feed.upto), .d false 1 (encI y55.2.watch.heard), .d false 1 (encLI y55.2.watch.says), .s (.int .i64 y55.2.asked), .d false 1 (encI y55.2.votes), .s (.int .i64 y55.2.wait)]⟩, some ⟨38, 22, false, none, [.s (.int .i64 y49.2.2.2.count), .s (.int .i64 y49.2.2.2.id), .s (.int .i64 y49.2.2.2.master), .s (.int .i64 y49.2.2.2.epoch), .s (.int .i64 y49.2.2.2.voted), .d false 4 (encClaim y49.2.2.2.claims), .d false 6 (encPair y49.2.2.2.db), .d false 4 (encMove y49.2.2.2.moves), .s (.int .i64 y49.2.2.2.last), .d false 3 (encSeen y49.2.2.2.seen), .s (.int .i64 y49.2.2.2.feed.rid.node), .s (.int .i64 y49.2.2.2.feed.rid.epoch), .s (.int .i64 y49.2.2.2.feed.off), .d false 7 (encEffect y49.2.2.2.feed.back), .s (.int .i64 y49.2.2.2.feed.prev.node), .s (.int .i64 y49.2.2.2.feed.prev.epoch), .s (.int .i64 y49.2.2.2.feed.upto), .d false 1 (encI y49.2.2.2.watch.heard), .d false 1 (encLI y49.2.2.2.watch.says), .s (.int .i64 y49.2.2.2.asked), .d false 1 (encI y49.2.2.2.votes), .s (.int .i64 y49.2.2.2.wait)]⟩, some ⟨38, 22, true, none, lvs (encNode v46)⟩], [some ⟨38, 22, false, none, [.s (.int .i64 y55.2.count), .s (.int .i64 y55.2.id), .s (.int .i64 y55.2.master), .s (.int .i64 y55.2.epoch), .s (.int .i64 y55.2.voted), .d false 4 (encClaim y55.2.claims), .d false 6 (encPair y55.2.db), .d false 4 (encMove y55.2.moves), .s (.int .i64 y55.2.last), .d false 3 (encSeen y55.2.seen), .s (.int .i64 y55.2.feed.rid.node), .s (.int .i64 y55.2.feed.rid.epoch), .s (.int .i64 y55.2.feed.off), .d false 7 (encEffect y55.2.feed.back), .s (.int .i64 y55.2.feed.prev.node), .s (.int .i64 y55.2.feed.prev.epoch), .s (.int .i64 y55.2.feed.upto), .d false 1 (encI y55.2.watch.heard), .d false 1 (encLI y55.2.watch.says), .s (.int .i64 y55.2.asked), .d false 1 (encI y55.2.votes), .s (.int .i64 y55.2.wait)]⟩, some ⟨38, 22, false, none, [.s (.int .i64 y49.2.2.2.count), .s (.int .i64 y49.2.2.2.id), .s (.int .i64 y49.2.2.2.master), .s (.int .i64 y49.2.2.2.epoch), .s (.int .i64 y49.2.2.2.voted), .d false 4 (encClaim y49.2.2.2.claims), .d false 6 (encPair y49.2.2.2.db), .d false 4 (encMove y49.2.2.2.moves), .s (.int .i64 y49.2.2.2.last), .d false 3 (encSeen y49.2.2.2.seen), .s (.int .i64 y49.2.2.2.feed.rid.node), .s (.int .i64 y49.2.2.2.feed.rid.epoch), .s (.int .i64 y49.2.2.2.feed.off), .d false 7 (encEffect y49.2.2.2.feed.back), .s (.int .i64 y49.2.2.2.feed.prev.node), .s (.int .i64 y49.2.2.2.feed.prev.epoch), .s (.int .i64 y49.2.2.2.feed.upto), .d false 1 (encI y49.2.2.2.watch.heard), .d false 1 (encLI y49.2.2.2.watch.says), .s (.int .i64 y49.2.2.2.asked), .d false 1 (encI y49.2.2.2.votes), .s (.int .i64 y49.2.2.2.wait)]⟩, some ⟨38, 22, true, none, lvs (encNode v46)⟩, some ⟨38, 22, false, none, [.s (.int .i64 0), .s (.int .i64 0), .s (.int .i64 0), .s (.int .i64 0), .s (.int .i64 0), .s (.slice none 0 0), .s (.slice none 0 0), .s (.slice none 0 0), .s (.int .i64 0), .s (.slice none 0 0), .s (.int .i64 0), .s (.int .i64 0), .s (.int .i64 0), .s (.slice none 0 0), .s (.int .i64 0), .s (.int .i64 0), .s (.int .i64 0), .s (.slice none 0 0), .s (.slice none 0 0), .s (.int .i64 0), .s (.slice none 0 0), .s (.int .i64 0)]⟩], [some ⟨38, 22, false, none, [.s (.int .i64 y55.2.count), .s (.int .i64 y55.2.id), .s (.int .i64 y55.2.master), .s (.int .i64 y55.2.epoch), .s (.int .i64 y55.2.voted), .d false 4 (encClaim y55.2.claims), .d false 6 (encPair y55.2.db), .d false 4 (encMove y55.2.moves), .s (.int .i64 y55.2.last), .d false 3 (encSeen y55.2.seen), .s (.int .i64 y55.2.feed.rid.node), .s (.int .i64 y55.2.feed.rid.epoch), .s (.int .i64 y55.2.feed.off), .d false 7 (encEffect y55.2.feed.back), .s (.int .i64 y55.2.feed.prev.node), .s (.int .i64 y55.2.feed.prev.epoch), .s (.int .i64 y55.2.feed.upto), .d false 1 (encI y55.2.watch.heard), .d false 1 (encLI y55.2.watch.says), .s (.int .i64 y55.2.asked), .d false 1 (encI y55.2.votes), .s (.int .i64 y55.2.wait)]⟩, some ⟨38, 22, false, none, [.s (.int .i64 y49.2.2.2.count), .s (.int .i64 y49.2.2.2.id), .s (.int .i64 y49.2.2.2.master), .s (.int .i64 y49.2.2.2.epoch), .s (.int .i64 y49.2.2.2.voted), .d false 4 (encClaim y49.2.2.2.claims), .d false 6 (encPair y49.2.2.2.db), .d false 4 (encMove y49.2.2.2.moves), .s (.int .i64 y49.2.2.2.last), .d false 3 (encSeen y49.2.2.2.seen), .s (.int .i64 y49.2.2.2.feed.rid.node), .s (.int .i64 y49.2.2.2.feed.rid.epoch), .s (.int .i64 y49.2.2.2.feed.off), .d false 7 (encEffect y49.2.2.2.feed.back), .s (.int .i64 y49.2.2.2.feed.prev.node), .s (.int .i64 y49.2.2.2.feed.prev.epoch), .s (.int .i64 y49.2.2.2.feed.upto), .d false 1 (encI y49.2.2.2.watch.heard), .d false 1 (encLI y49.2.2.2.watch.says), .s (.int .i64 y49.2.2.2.asked), .d false 1 (encI y49.2.2.2.votes), .s (.int .i64 y49.2.2.2.wait)]⟩, some ⟨38, 22, true, none, lvs (encNode v46)⟩, some ⟨38, 22, false, none, [.s (.int .i64 v63.1.count), .s (.int .i64 v63.1.id), .s (.int .i64 v63.1.master), .s (.int .i64 v63.1.epoch), .s (.int .i64 v63.1.voted), .d false 4 (encClaim v63.1.claims), .d false 6 (encPair v63.1.db), .d false 4 (encMove v63.1.moves), .s (.int .i64 v63.1.last), .d false 3 (encSeen v63.1.seen), .s (.int .i64 v63.1.feed.rid.node), .s (.int .i64 v63.1.feed.rid.epoch), .s (.int .i64 v63.1.feed.off), .d false 7 (encEffect v63.1.feed.back), .s (.int .i64 v63.1.feed.prev.node), .s (.int .i64 v63.1.feed.prev.epoch), .s (.int .i64 v63.1.feed.upto), .d false 1 (encI v63.1.watch.heard), .d false 1 (encLI v63.1.watch.says), .s (.int .i64 v63.1.asked), .d false 1 (encI v63.1.votes), .s (.int .i64 v63.1.wait)]⟩]]) mixed [⟨[0, 1], [], [(4, none)], false⟩, ⟨[0, 1], [], [(14, none)], false⟩, ⟨[0, 1], [], [(15, none)], false⟩, ⟨[0, 1], [1, 2], [(133, some 1), (134, some 2)], false⟩, ⟨[0, 1], [1, 2, 3], [(135, some 3)], false⟩, ⟨[0, 1], [0, 1, 2, 3, 4], [(132, some 0), (136, some 4)], false⟩, ⟨[0, 1], [0, 1, 2, 3, 4, 5], [(137, some 5)], false⟩, ⟨[0, 1], [0, 1, 2, 3, 4, 5, 6], [(131, some 6)], false⟩, ⟨[0, 1, 2], [0, 1, 2, 3, 4, 5, 6], [(131, some 6)], false⟩, ⟨[0], [], [], true⟩, ⟨[1], [0, 1, 2, 3, 4, 5, 6, 7, 9], [(18, some 9), (138, some 7)], true⟩, ⟨[], [0, 1, 2, 3, 4, 5, 6, 7, 8, 9, 10], [], false⟩] 11 2 (by kernel_rfl) (by kernel_rfl)
            ·rfl
            ·refine ⟨⟨?_, ?_⟩, ⟨?_, ?_⟩, ⟨?_, ?_⟩, ⟨?_, ?_⟩, ⟨?_, ?_⟩, ⟨?_, ?_⟩, ⟨?_, ?_⟩, ⟨?_, ?_⟩, ⟨?_, ?_, ?_⟩, ?_, ?_, trivial⟩
             ·intro tm hr
              simp [AllL, rdV] at hr
              simp [hr, nth_d e61]
              intros; first | exact KD.mk | exact KD.mkN
             ·intro tm hr
              simp [AllL, rdV] at hr
              simp [hr, nth_d e61]
              intros; first | exact KD.mk | exact KD.mkN
             ·intro tm hr
              simp [AllL, rdV] at hr
              simp [hr, nth_d e61]
              intros; first | exact KD.mk | exact KD.mkN
             ·intro tm hr
              simp [AllL, rdV] at hr
              simp [hr, nth_d e61]
              intros; first | exact KD.mk | exact KD.mkN
             ·intro tm hr
              simp [AllL, rdV] at hr
              simp [hr, nth_d e61]
              intros; first | exact KD.mk | exact KD.mkN
             ·intro tm hr
              simp [AllL, rdV] at hr
              simp [hr, nth_d e61]
              intros; first | exact KD.mk | exact KD.mkN
             ·intro tm hr
              simp [AllL, rdV] at hr
              simp [hr, nth_d e61]
              intros; first | exact KD.mk | exact KD.mkN
             ·intro tm hr
              simp [AllL, rdV] at hr
              simp [hr, nth_d e61]
              intros; first | exact KD.mk | exact KD.mkN
             ·intro tm hr
              simp [AllL, rdV] at hr
              simp [hr, nth_d e61]
              intros; first | exact KD.mk | exact KD.mkN
             ·intro tm hr
              simp [AllL, rdV] at hr
              simp [hr, nth_d e61]
              intros; first | exact KD.mk | exact KD.mkN
             ·intro tm hr
              simp [AllL, rdV] at hr
              simp [hr, nth_d e61]
              intros
              refine xcall_plain en_vote_Count (s_vote_Count e63) rfl ⟨.same rfl, .same rfl, trivial⟩ ?_
              try simp [nth_d e61]
              intros; first | exact KD.mk | exact KD.mkN
             ·intro tm hr
              simp [AllL, rdV] at hr
              simp [hr, nth_d e61]
              intros
              refine xcall_plain en_vote_Count (s_vote_Count e63) rfl ⟨.same rfl, .same rfl, trivial⟩ ?_
              try simp [nth_d e61]
              intros; first | exact KD.mk | exact KD.mkN
             ·intro tm hr
              simp [AllL, rdV] at hr
              simp [hr, nth_d e61]
              intros; first | exact KD.mk | exact KD.mkN
             ·intro tm hr
              simp [AllL, rdV] at hr
              simp [hr, nth_d e61]
              intros; first | exact KD.mk | exact KD.mkN
             ·intro tm hr
              simp [AllL, rdV] at hr
              simp [hr, nth_d e61]
              intros; first | exact KD.mk | exact KD.mkN
             ·intro tm hr
              simp [AllL, rdV] at hr
              simp [hr, nth_d e61]
              intros; first | exact KD.mk | exact KD.mkN
             ·intro tm hr
              simp [AllL, rdV] at hr
              simp [hr, nth_d e61]
              intros; first | exact KD.mk | exact KD.mkN
             ·intro tm hr
              simp [AllL, rdV] at hr
              simp [hr, nth_d e61]
              intros; first | exact KD.mk | exact KD.mkN
             ·intro tm hr
              simp [AllL, rdV] at hr
              simp [hr, nth_d e61]
              intros; first | exact KD.mk | exact KD.mkN
             ·intro tm hr
              simp [AllL, rdV] at hr
              simp [hr, nth_d e61]
              intros; first | exact KD.mk | exact KD.mkN
             ·intro tm hr
              simp [AllL, rdV] at hr
              simp [hr, nth_d e61]
              intros; first | exact KD.mk | exact KD.mkN
            ·rfl
            ·simp [tmD, putD, nth_d e61]; rfl
            ·simp [nth_d e61]
             intros; rfl
            apply AW.step
            ·simp
             intros; rfl
            apply AW.step
            ·simp
             intros; rfl
            replace h := ltE h; obtain ⟨v64, e64, h⟩ := h
            rw [← e64]
            cases v64 with
            | true =>
             replace h := iteT rfl h
             refine AW.cond_true (by simp) ?_
             replace h := ltE h; obtain ⟨v65, e65, h⟩ := h
             apply AW.last
             ·simp [← e65]
              intros; rfl
             obtain rfl := Option.some.inj h
             refine nP_i ?_
             refine Weak.mixN [some 0, some 1, some 2] hn0 (by decide) ?_ ?_ rfl
             all_goals first | (simp [inv_cons, inv_nil, pickOb]; done) | rfl
            | false =>
             replace h := iteF rfl h
             refine AW.cond_false (by simp) ?_
             refine AW.skip ?_
             try simp only [sp_l, sp_r, Post.seq, Post.block, Nat.reduceEqDiff, reduceIte, Nat.zero_ne_one, Nat.one_ne_zero]
             obtain rfl := Option.some.inj h
             refine nP_i ?_
             refine Weak.mixN [some 0, some 1, some 2] hn0 (by decide) ?_ ?_ rfl
             all_goals first | (simp [inv_cons, inv_nil, pickOb]; done) | rfl
           | false =>
            replace h := iteF rfl h
            refine AW.cond_false (by simp) ?_
            refine AW.skip ?_
            try simp only [sp_l, sp_r, Post.seq, Post.block, Nat.reduceEqDiff, reduceIte, Nat.zero_ne_one, Nat.one_ne_zero]
            obtain rfl := Option.some.inj h
            refine nP_i ?_
            refine Weak.mixN [some 0, some 1, some 2] hn0 (by decide) ?_ ?_ rfl
            all_goals first | (simp [inv_cons, inv_nil, pickOb]; done) | rfl
         ·rintro e s hp
          obtain ⟨rfl, hw⟩ := hp
          refine ⟨_, hw, ?_⟩
          try simp only [sp_l, sp_r, Post.seq, Post.block, Nat.reduceEqDiff, reduceIte, Nat.zero_ne_one, Nat.one_ne_zero]
          replace h := ltE h; obtain ⟨v66, e66, h⟩ := h
          apply AW.last
          ·simp [← e66]
           intros; rfl
          obtain rfl := Option.some.inj h
          refine nP_i ?_
          refine Weak.mixN [some 0, some 1, some 2] hn0 (by decide) ?_ ?_ rfl
          all_goals first | (simp [inv_cons, inv_nil, pickOb]; done) | rfl
        | false =>
         replace h := iteF rfl h
         refine AW.cond_false (by simp) ?_
         refine AW.exit ?_
         try simp only [sp_l, sp_r, Post.seq, Post.block, Nat.reduceEqDiff, reduceIte, Nat.zero_ne_one, Nat.one_ne_zero]
         obtain rfl := Option.some.inj h
         refine xP_i ?_
         refine Weak.mixN [some 0, some 1, some 2] hn0 (by decide) ?_ ?_ rfl
         all_goals first | (simp [inv_cons, inv_nil, pickOb]; done) | rfl
       ·rintro e s hp
        obtain ⟨rfl, hw⟩ := hp
        refine ⟨_, hw, ?_⟩
        try simp only [sp_l, sp_r, Post.seq, Post.block, Nat.reduceEqDiff, reduceIte, Nat.zero_ne_one, Nat.one_ne_zero]
        replace h := ltE h; obtain ⟨v67, e67, h⟩ := h
        apply AW.last
        ·simp [← e67]
         intros; rfl
        obtain rfl := Option.some.inj h
        refine nP_i ?_
        refine Weak.mixN [some 0, some 1, some 2] hn0 (by decide) ?_ ?_ rfl
        all_goals first | (simp [inv_cons, inv_nil, pickOb]; done) | rfl
      | false =>
       replace h := iteF rfl h
       refine AW.cond_false (by simp) ?_
       refine AW.exit ?_
       try simp only [sp_l, sp_r, Post.seq, Post.block, Nat.reduceEqDiff, reduceIte, Nat.zero_ne_one, Nat.one_ne_zero]
       obtain rfl := Option.some.inj h
       refine xP_i ?_
       refine Weak.mixN [] hn0 (by decide) ?_ ?_ rfl
       all_goals first | (simp [inv_cons, inv_nil, pickOb]; done) | rfl
     ·rintro e s hp
      obtain ⟨rfl, hw⟩ := hp
      refine ⟨_, hw, ?_⟩
      try simp only [sp_l, sp_r, Post.seq, Post.block, Nat.reduceEqDiff, reduceIte, Nat.zero_ne_one, Nat.one_ne_zero]
      replace h := bnE h; obtain ⟨y68, g68, h⟩ := h
      refine AW.flow (p := fun gh ls => (nP (cx := cx) (fun q => (⟨[(2, .l (.s (.bool q)))], [], 149, gh, ls⟩ : St))) y68) ?_ ?_
      ·replace h := g68; clear g68
       replace h := ltE h; obtain ⟨v69, e69, h⟩ := h
       cases v69 with
       | true =>
        replace h := iteT rfl h
        replace h := bnE h; obtain ⟨v70, e70, h⟩ := h
        apply AW.last
        ·simp [← e69]
         intros
         refine xcall_plain en_l18_awake (s_l18_awake e70) rfl trivial ?_
         try simp [← e69]
         intros; rfl
        obtain rfl := Option.some.inj h
        refine nP_i ?_
        refine Weak.mixN [] hn0 (by decide) ?_ ?_ rfl
        all_goals first | (simp [inv_cons, inv_nil, pickOb]; done) | rfl
       | false =>
        replace h := iteF rfl h
        apply AW.last
        ·simp [← e69]
         intros; rfl
        obtain rfl := Option.some.inj h
        refine nP_i ?_
        refine Weak.mixN [] hn0 (by decide) ?_ ?_ rfl
        all_goals first | (simp [inv_cons, inv_nil, pickOb]; done) | rfl
      ·rintro e s hp
       obtain ⟨rfl, hw⟩ := hp
       refine ⟨_, hw, ?_⟩
       try simp only [sp_l, sp_r, Post.seq, Post.block, Nat.reduceEqDiff, reduceIte, Nat.zero_ne_one, Nat.one_ne_zero]
       obtain rfl := Option.some.inj h
       refine AW.ret ?_
       refine Left.plain hnb (by simp [Try.f6, resV, resC, comp]; rfl) rfl rfl ?_
       simp
end Go.Proofs.Ytaibolmbafacpaa

/- Plain law: a replica has won just with votes of more than half of the masters. -/
namespace Go.Proofs.Ytaibolmbafacpaa
open Go Go.RowKit
set_option linter.unusedVariables false
set_option linter.unusedSimpArgs false
def watchV : Watch := ⟨[0, 0, 0, 0, 0, 0, 0, 0], [[], [], [], [], [], [], [], []]⟩
/-- A replica of the first node that has asked, with votes. -/
def askV5 (id : Int) (votes : List Int) : Node :=
  ⟨8, id, 0, 2, 0, [⟨0, 3275, 0, 1⟩, ⟨3276, 6552, 1, 1⟩, ⟨6553, 9829, 2, 1⟩, ⟨9830, 13106, 3, 1⟩, ⟨13107, 16383, 4, 1⟩], [], [], 0, [], ⟨⟨0, 0⟩, 0, [], ⟨0, 0⟩, 0⟩, watchV, 2, votes, 4⟩
/-- The same, when it has won. -/
def wonV (id : Int) : Node :=
  ⟨8, id, -1, 2, 0, [⟨0, 3275, id, 2⟩, ⟨3276, 6552, 1, 1⟩, ⟨6553, 9829, 2, 1⟩, ⟨9830, 13106, 3, 1⟩, ⟨13107, 16383, 4, 1⟩], [], [], 0, [], ⟨⟨id, 2⟩, 0, [], ⟨0, 0⟩, 0⟩, watchV, 0, [], 0⟩
def newA : Node := ⟨8, 5, 0, 1, 0, [⟨0, 3275, 0, 1⟩, ⟨3276, 6552, 1, 1⟩, ⟨6553, 9829, 2, 1⟩, ⟨9830, 13106, 3, 1⟩, ⟨13107, 16383, 4, 1⟩], [], [], 0, [], ⟨⟨0, 0⟩, 0, [], ⟨0, 0⟩, 0⟩, watchV, 0, [], 0⟩
theorem newA_ok : r23_New_sh big 8 5 5 = some newA := by kernel_rfl
def askMs (id : Int) : List Msg := ([0, 1, 2, 3, 4, 5, 6, 7].filter (fun i => decide (i ≠ id))).map fun i => ⟨7, id, i, 2, [], [], 0, 0, 0, ⟨0, 0⟩, ⟨0, 0⟩, 0, []⟩
theorem askA_ok : vote_Ask_sh big newA = some (askV5 5 [], askMs 5) := by kernel_rfl
theorem askB_ok : vote_Ask_sh big { newA with id := 7 } = some (askV5 7 [], askMs 7) := by kernel_rfl
def vMsg (frm to e : Int) : Msg := ⟨8, frm, to, e, [], [], 0, 0, 0, ⟨0, 0⟩, ⟨0, 0⟩, 0, []⟩
def wasV : List Span := [⟨0, 3275⟩]
/-- Who has voted: who is in the list. -/
def votesOf (got : List Bool) : List Int := [0, 1, 2, 3, 4].filter fun i => got.getD i.toNat false
def cntOf (got : List Bool) : Int := (votesOf got).length
def gotAll : List (List Bool) :=
  ([false, true].flatMap fun a => [false, true].flatMap fun b => [false, true].flatMap fun c => [false, true].flatMap fun d => [false, true].map fun e => [a, b, c, d, e, false, false, false]).filter fun g => decide (cntOf g ≤ 2)
def gotStep (got : List Bool) (from_ : Int) (ep : Bool) : Option (Int × List Bool) :=
  bn (lt (ltI from_ 5) fun v31 =>
  ite' v31 (bn (some ep) fun v32 =>
  ite' v32 (bn (nth got from_) fun v33 =>
  lt (notB v33) fun v35 =>
  some (v35)) (some (false))) (some (false))) fun (y30 : Bool) =>
  lt (y30) fun v36 =>
  ite' v36 (bn (nth got from_) fun v37 =>
  lt (got.set from_.toNat true) fun v39 =>
  lt (addI .i64 (cntOf got) 1) fun v42 =>
  some ((v42, v39))) (some ((cntOf got, got)))
def finW (n m : Node) : Option Bool :=
  lt (eqI m.master (-1)) fun v48 =>
  ite' v48 (bn (r13_Give_sh big n.claims wasV 5 2) fun v49 =>
  bn (r13_SameClaims_sh big v49 m.claims) fun v50 =>
  ite' v50 (lt (andB (eqI m.feed.rid.node 5) (andB (eqI m.feed.rid.epoch 2) true)) fun v51 =>
  ite' v51 (lt (andB (eqI m.feed.prev.node n.feed.rid.node) (andB (eqI m.feed.prev.epoch n.feed.rid.epoch) true)) fun v52 =>
  ite' v52 (lt (eqI m.asked 0) fun v53 =>
  ite' v53 (lt (lenI m.votes) fun v54 =>
  lt (eqI v54 0) fun v55 => some v55) (some (false))) (some (false))) (some (false))) (some (false))) (some (false))
def stepW (got : List Bool) (from_ : Int) (ep : Bool) : Bool := match gotStep got from_ ep with
  | some (k, g) => decide (k = cntOf g) && (match vote_Count_sh big (askV5 5 (votesOf got)) (vMsg from_ 5 (bif ep then 2 else 3)) with
    | some (m, is) => decide (is = decide (3 ≤ k)) && (bif is then decide (m = wonV 5) else decide (m = askV5 5 (votesOf g)) && gotAll.contains g)
    | none => false)
  | none => false
end Go.Proofs.Ytaibolmbafacpaa

/- Plain law: two that asked in one epoch do not both win. -/
namespace Go.Proofs.Ytaibolmbafacpaa
open Go Go.RowKit
set_option linter.unusedVariables false
set_option linter.unusedSimpArgs false
/-- A replica that has asked, with votes: it has won with three of them. -/
def stV (id : Int) (A : List Int) : Node := if A.length ≤ 2 then askV5 id A else wonV id
def voterV (k : Nat) (c : Int) : Node := if c = 0 then nodeV k 1 0 else nodeV k 2 2
def zeroNode : Node := ⟨0, 0, 0, 0, 0, [], [], [], 0, [], ⟨⟨0, 0⟩, 0, [], ⟨0, 0⟩, 0⟩, ⟨[], []⟩, 0, [], 0⟩
def newK (k : Nat) : Bool := match r23_New_sh big 8 k 5 with
  | some n => decide (l18_Silent_sh big n 0 = some (nodeV k 1 0))
  | none => false
theorem newK_all : ([1, 2, 3, 4].all fun k => newK k) = true := by kernel_rfl
theorem newK_ok {k : Nat} (h : k = 1 ∨ k = 2 ∨ k = 3 ∨ k = 4) : ∃ n, r23_New_sh big 8 k 5 = some n ∧ l18_Silent_sh big n 0 = some (nodeV k 1 0) := by
  have h1 := newK_all
  rw [List.all_eq_true] at h1
  have hn := h1 k (by rcases h with rfl | rfl | rfl | rfl <;> simp)
  unfold newK at hn
  split at hn
  · rename_i n hh
    exact ⟨n, hh, of_decide_eq_true hn⟩
  · simp at hn
def aMsg (k : Nat) (frm : Int) : Msg := ⟨7, frm, k, 2, [], [], 0, 0, 0, ⟨0, 0⟩, ⟨0, 0⟩, 0, []⟩
def grantB (k : Nat) (frm : Int) : Bool := decide (vote_Grant_sh big (nodeV k 1 0) (aMsg k frm) = some (nodeV k 2 2, [vMsg k frm 2])) && decide (vote_Grant_sh big (nodeV k 2 2) (aMsg k frm) = some (nodeV k 2 2, []))
theorem grantB_all : ([1, 2, 3, 4].all fun k => grantB k 5 && grantB k 7) = true := by kernel_rfl
def subs4 : List (List Int) := [false, true].flatMap fun a => [false, true].flatMap fun b => [false, true].flatMap fun c => [false, true].map fun d => ((if a then [1] else []) ++ (if b then [2] else [])) ++ ((if c then [3] else []) ++ (if d then [4] else []))
def addV (A : List Int) (v : Int) : List Int := [1, 2, 3, 4].filter fun x => A.contains x || decide (x = v)
def countB (id : Int) (A : List Int) (v : Int) : Bool := A.contains v || decide (vote_Count_sh big (stV id A) (vMsg v id 2) = some (stV id (addV A v), decide ((addV A v).length = 3)))
theorem countB_all : (subs4.all fun A => [1, 2, 3, 4].all fun v => countB 5 A v && countB 7 A v) = true := by kernel_rfl
/-- Who has voted for whom: 0 for nobody. -/
def allC : List (List Int) := [0, 5, 7].flatMap fun a => [0, 5, 7].flatMap fun b => [0, 5, 7].flatMap fun c => [0, 5, 7].map fun d => [a, b, c, d]
def forV (C : List Int) (f : Int) : List Int := [1, 2, 3, 4].filter fun v => decide (C.getD (v.toNat - 1) 0 = f)
def wonN (C : List Int) : Int := (if 3 ≤ (forV C 5).length then 1 else 0) + (if 3 ≤ (forV C 7).length then 1 else 0)
def roundB (C : List Int) (v : Nat) (f : Int) : Bool :=
  decide (C.getD (v - 1) 0 ≠ 0) || (let D := C.set (v - 1) f
  allC.contains D && subs4.contains (forV C f) && !(forV C f).contains (v : Int) && decide (forV D f = addV (forV C f) v) && decide (forV D (12 - f) = forV C (12 - f)) && decide (wonN D = wonN C + if (forV D f).length = 3 then 1 else 0))
theorem roundB_all : (allC.all fun C => decide (wonN C ≤ 1) && decide (0 ≤ wonN C) && decide (C.length = 4) && [1, 2, 3, 4].all fun v => roundB C v 5 && roundB C v 7) = true := by kernel_rfl
def innerV (l : List Msg) (w : Int) (A B : Node) : Option (Int × Node × Node) :=
  iter big (fun (y49 : Int × Int × Node × Node) =>
  lt (lenI l) fun v52 =>
  lt (ltI y49.2.1 v52) fun v53 =>
  ite' v53 (bn (bn (bn (nth l y49.2.1) fun v56 =>
  lt (eqI v56.to 5) fun v57 =>
  ite' v57 (bn (vote_Count_sh big y49.2.2.1 v56) fun v58 =>
  lt (v58.2) fun v59 =>
  ite' v59 (lt (addI .i64 y49.1 1) fun v60 =>
  some ((v60, v58.1))) (some ((y49.1, v58.1)))) (some ((y49.1, y49.2.2.1)))) fun (y55 : Int × Node) =>
  bn (nth l y49.2.1) fun v61 =>
  lt (eqI v61.to 7) fun v62 =>
  ite' v62 (bn (vote_Count_sh big y49.2.2.2 v61) fun v63 =>
  lt (v63.2) fun v64 =>
  ite' v64 (lt (addI .i64 y55.1 1) fun v65 =>
  some ((v65, y55.2, v63.1))) (some ((y55.1, y55.2, v63.1)))) (some ((y55.1, y55.2, y49.2.2.2)))) fun (y54 : Int × Node × Node) =>
  lt (addI .i64 y49.2.1 1) fun v66 =>
  some (.inl (y54.1, v66, y54.2.1, y54.2.2))) (some (.inr (y49.1, y49.2.2.1, y49.2.2.2)))) (w, 0, A, B)
theorem inner_nil (w : Int) (A B : Node) : innerV [] w A B = some (w, A, B) := by
  refine Rn.eqv ?_
  refine Rn.iter _ (fun k s => k = 0 ∧ s = (w, (k : Int), A, B)) 0 (by unfold big; omega) ⟨rfl, rfl⟩ fun k s hk hI => ?_
  obtain ⟨rfl, rfl⟩ := hI
  exact Rn.lt (Rn.lt (Rn.ite (fun h => absurd (show ltI 0 0 = true from h) (by decide)) fun _ => Rn.some rfl))
theorem inner_5 {w v : Int} {A B A' : Node} {is : Bool} (hw : 0 ≤ w ∧ w ≤ 1) (h : vote_Count_sh big A (vMsg v 5 2) = some (A', is)) : innerV [vMsg v 5 2] w A B = some (w + (if is then 1 else 0), A', B) := by
  refine Rn.eqv ?_
  refine Rn.iter _ (fun k s => (k = 0 ∧ s = (w, (k : Int), A, B)) ∨ (k = 1 ∧ s = (w + (if is then 1 else 0), (k : Int), A', B))) 1 (by unfold big; omega) (.inl ⟨rfl, rfl⟩) fun k s hk hI => ?_
  rcases hI with ⟨rfl, rfl⟩ | ⟨rfl, rfl⟩
  · refine Rn.lt (Rn.lt (Rn.ite (fun _ => ?_) fun h => absurd (show ltI 0 1 = false from h) (by decide)))
    refine Rn.bnE (v := (w + (if is then 1 else 0), A', B)) ?_ (Rn.lt (Rn.some ⟨by omega, .inr ⟨rfl, rfl⟩⟩))
    simp only [lt_eq, show nth [vMsg v 5 2] ((0 : Nat) : Int) = some (vMsg v 5 2) from rfl, bn_some, show eqI (vMsg v 5 2).to 5 = true from rfl, show eqI (vMsg v 5 2).to 7 = false from rfl, ite_t, ite_f, h]
    cases is
    · simp [ite_f, bn_some]
    · simp only [ite_t, bn_some]
      rw [addI_64 (by omega) (by omega)]
      rfl
  · exact Rn.lt (Rn.lt (Rn.ite (fun h => absurd (show ltI 1 1 = true from h) (by decide)) fun _ => Rn.some rfl))
theorem inner_7 {w v : Int} {A B B' : Node} {is : Bool} (hw : 0 ≤ w ∧ w ≤ 1) (h : vote_Count_sh big B (vMsg v 7 2) = some (B', is)) : innerV [vMsg v 7 2] w A B = some (w + (if is then 1 else 0), A, B') := by
  refine Rn.eqv ?_
  refine Rn.iter _ (fun k s => (k = 0 ∧ s = (w, (k : Int), A, B)) ∨ (k = 1 ∧ s = (w + (if is then 1 else 0), (k : Int), A, B'))) 1 (by unfold big; omega) (.inl ⟨rfl, rfl⟩) fun k s hk hI => ?_
  rcases hI with ⟨rfl, rfl⟩ | ⟨rfl, rfl⟩
  · refine Rn.lt (Rn.lt (Rn.ite (fun _ => ?_) fun h => absurd (show ltI 0 1 = false from h) (by decide)))
    refine Rn.bnE (v := (w + (if is then 1 else 0), A, B')) ?_ (Rn.lt (Rn.some ⟨by omega, .inr ⟨rfl, rfl⟩⟩))
    simp only [lt_eq, show nth [vMsg v 7 2] ((0 : Nat) : Int) = some (vMsg v 7 2) from rfl, bn_some, show eqI (vMsg v 7 2).to 5 = false from rfl, show eqI (vMsg v 7 2).to 7 = true from rfl, ite_t, ite_f, h]
    cases is
    · simp [ite_f, bn_some]
    · simp only [ite_t, bn_some]
      rw [addI_64 (by omega) (by omega)]
      rfl
  · exact Rn.lt (Rn.lt (Rn.ite (fun h => absurd (show ltI 1 1 = true from h) (by decide)) fun _ => Rn.some rfl))
def vsV (C : List Int) : List Node := [zeroNode, voterV 1 (C.getD 0 0), voterV 2 (C.getD 1 0), voterV 3 (C.getD 2 0), voterV 4 (C.getD 3 0)]
theorem vs_nth {C : List Int} {v : Nat} (h : v = 1 ∨ v = 2 ∨ v = 3 ∨ v = 4) : nth (vsV C) v = some (voterV v (C.getD (v - 1) 0)) := by rcases h with rfl | rfl | rfl | rfl <;> rfl
theorem vs_set {C : List Int} (hC : C.length = 4) {v : Nat} (h : v = 1 ∨ v = 2 ∨ v = 3 ∨ v = 4) (c : Int) : (vsV C).set v (voterV v c) = vsV (C.set (v - 1) c) := by
  match C, hC with
  | [a, b, c', d], _ => rcases h with rfl | rfl | rfl | rfl <;> rfl
theorem roundB_ok {C : List Int} (hC : C ∈ allC) : wonN C ≤ 1 ∧ 0 ≤ wonN C ∧ C.length = 4 ∧ ∀ v : Nat, (v = 1 ∨ v = 2 ∨ v = 3 ∨ v = 4) → ∀ f : Int, (f = 5 ∨ f = 7) → C.getD (v - 1) 0 = 0 →
    C.set (v - 1) f ∈ allC ∧ forV C f ∈ subs4 ∧ (forV C f).contains (v : Int) = false ∧ forV (C.set (v - 1) f) f = addV (forV C f) v ∧ forV (C.set (v - 1) f) (12 - f) = forV C (12 - f) ∧ wonN (C.set (v - 1) f) = wonN C + if (forV (C.set (v - 1) f) f).length = 3 then 1 else 0 := by
  have h := roundB_all
  rw [List.all_eq_true] at h
  have h1 := h C hC
  simp only [Bool.and_eq_true, decide_eq_true_eq] at h1
  obtain ⟨⟨⟨a1, a2⟩, a3⟩, a4⟩ := h1
  refine ⟨a1, a2, a3, fun v hv f hf h0 => ?_⟩
  rw [List.all_eq_true] at a4
  have b := a4 v (by rcases hv with rfl | rfl | rfl | rfl <;> simp)
  rw [Bool.and_eq_true] at b
  have c : roundB C v f = true := by
    rcases hf with rfl | rfl
    · exact b.1
    · exact b.2
  simp only [roundB, h0, Bool.or_eq_true, Bool.and_eq_true, decide_eq_true_eq, ne_eq, not_true_eq_false, false_or, Bool.not_eq_true'] at c
  obtain ⟨⟨⟨⟨⟨c1, c2⟩, c3⟩, c4⟩, c5⟩, c6⟩ := c
  exact ⟨by simpa using c1, by simpa using c2, c3, c4, c5, c6⟩
theorem grant_ok {v : Nat} (hv : v = 1 ∨ v = 2 ∨ v = 3 ∨ v = 4) {f : Int} (hf : f = 5 ∨ f = 7) : vote_Grant_sh big (nodeV v 1 0) (aMsg v f) = some (nodeV v 2 2, [vMsg v f 2]) ∧ vote_Grant_sh big (nodeV v 2 2) (aMsg v f) = some (nodeV v 2 2, []) := by
  have h := grantB_all
  rw [List.all_eq_true] at h
  have b := h v (by rcases hv with rfl | rfl | rfl | rfl <;> simp)
  rw [Bool.and_eq_true] at b
  have c : grantB v f = true := by
    rcases hf with rfl | rfl
    · exact b.1
    · exact b.2
  simpa [grantB] using c
theorem count_ok {A : List Int} (hA : A ∈ subs4) {v : Nat} (hv : v = 1 ∨ v = 2 ∨ v = 3 ∨ v = 4) (hn : A.contains (v : Int) = false) :
    vote_Count_sh big (stV 5 A) (vMsg v 5 2) = some (stV 5 (addV A v), decide ((addV A v).length = 3)) ∧ vote_Count_sh big (stV 7 A) (vMsg v 7 2) = some (stV 7 (addV A v), decide ((addV A v).length = 3)) := by
  have h := countB_all
  rw [List.all_eq_true] at h
  have h1 := h A hA
  rw [List.all_eq_true] at h1
  have b := h1 (v : Int) (by rcases hv with rfl | rfl | rfl | rfl <;> simp)
  rw [Bool.and_eq_true] at b
  obtain ⟨b1, b2⟩ := b
  simp only [countB, hn, Bool.false_or, decide_eq_true_eq] at b1 b2
  exact ⟨b1, b2⟩
/-- The voters, of whom k are made. -/
def madeV (k : Nat) : List Node := (List.range 5).map fun i => if 1 ≤ i ∧ i ≤ k then nodeV i 1 0 else zeroNode
theorem made_set {k : Nat} (h : k < 4) : (madeV k).set (k + 1) (nodeV (k + 1) 1 0) = madeV (k + 1) := by
  rcases (show k = 0 ∨ k = 1 ∨ k = 2 ∨ k = 3 by omega) with rfl | rfl | rfl | rfl <;> rfl
theorem VoteApart_ok (order : List Int) (hu : ∀ x ∈ order, 0 ≤ x ∧ x ≤ 255) : l18_VoteApart_sh big order = some true := by
  refine Rn.eqv ?_
  unfold l18_VoteApart_sh
  refine Rn.lt (Rn.lt (Rn.ite (fun _ => Rn.bnE awake18_ok (Rn.some rfl)) (fun hg => ?_)))
  have hlen : order.length ≤ 60 := by
    have := of_decide_eq_false (p := (60 : Int) < (order.length : Int)) hg
    omega
  refine Rn.bnE newA_ok (Rn.bnE newA_ok (Rn.bnE askA_ok (Rn.bnE askB_ok (Rn.bnE (v := false) rfl (Rn.lt (Rn.ite (fun h => absurd h (by decide)) fun _ => Rn.chk rfl (Rn.lt ?_)))))))
  refine Rn.bn (P := fun y => y = vsV [0, 0, 0, 0]) (Rn.iter _ (fun k a => a = (1 + (k : Int), madeV k)) 4 (by unfold big; omega) rfl fun k a hk hI => ?_) fun y hy => ?_
  · subst hI
    refine Rn.lt (Rn.ite (fun hd => ?_) fun hd => ?_)
    · have hk4 : k < 4 := by
        have := of_decide_eq_true (p := (1 + (k : Int) < 5)) hd
        omega
      obtain ⟨n, e1, e2⟩ := newK_ok (show k + 1 = 1 ∨ k + 1 = 2 ∨ k + 1 = 3 ∨ k + 1 = 4 by omega)
      have ek : (1 + (k : Int)) = ((k + 1 : Nat) : Int) := by omega
      have hml : k + 1 < (madeV k).length := by simp [madeV]; omega
      refine Rn.bnE (v := n) (by show r23_New_sh big 8 (1 + (k : Int)) 5 = _; rw [ek]; exact e1) (Rn.bnE e2 (Rn.bnE (v := (madeV k)[k + 1]) (by show nth (madeV k) (1 + (k : Int)) = _; rw [ek]; exact nth_some hml) (Rn.lt (Rn.lt (Rn.some ⟨hk4, ?_⟩)))))
      simp only []
      rw [addI_64 (by omega) (by omega), show (1 + (k : Int)).toNat = k + 1 by omega, made_set hk4]
      congr 1
    · have hk4 : k = 4 := by
        have := of_decide_eq_false (p := (1 + (k : Int) < 5)) hd
        omega
      subst hk4
      exact Rn.some rfl
  subst hy
  refine Rn.bn (P := fun y => y ≤ 1) (Rn.iter _ (fun q a => ∃ C, C ∈ allC ∧ a = (wonN C, (q : Int), stV 5 (forV C 5), stV 7 (forV C 7), vsV C)) order.length (by unfold big; omega) ⟨[0, 0, 0, 0], by decide, rfl⟩ fun q a hq hI => ?_) fun y hy => ?_
  rotate_left
  · refine Rn.bnE (v := true) ?_ (Rn.some rfl)
    rw [show leI y 1 = true from decide_eq_true hy]
    simp only [lt_eq, ite_t]
    rw [awake18_ok]
    rfl
  obtain ⟨C, hC, rfl⟩ := hI
  obtain ⟨r1, r2, r3, r4⟩ := roundB_ok hC
  refine Rn.lt (Rn.lt (Rn.ite (fun hd => ?_) (fun _ => Rn.some r1)))
  have hql : q < order.length := by
    have := of_decide_eq_true (p := ((q : Int) < (order.length : Int))) hd
    omega
  have hx := hu _ (List.getElem_mem hql)
  refine Rn.bnE (nth_some hql) (Rn.lt ?_)
  generalize order[q] = x at hx
  rw [cvI_64 (by omega) (by omega)]
  refine Rn.bnE (vrem hx.1 (by omega)) (Rn.lt ?_)
  rw [addI_64 (by omega) (by omega)]
  refine Rn.bnE (vquo hx.1 (by omega) (by omega)) (Rn.bnE (vrem (by omega) (by omega)) (Rn.lt ?_))
  have hm : mulI .i64 (x / 4 % 2) 2 = x / 4 % 2 * 2 := wrap64 (by omega) (by omega)
  rw [hm]
  refine Rn.lt ?_
  rw [addI_64 (by omega) (by omega)]
  obtain ⟨v, hv, hv2⟩ : ∃ v : Nat, (1 + x % 4 : Int) = v ∧ (v = 1 ∨ v = 2 ∨ v = 3 ∨ v = 4) := ⟨(1 + x % 4).toNat, by omega, by omega⟩
  obtain ⟨f, hf, hf2⟩ : ∃ f : Int, f = 5 + x / 4 % 2 * 2 ∧ (f = 5 ∨ f = 7) := ⟨_, rfl, by omega⟩
  rw [hv, ← hf]
  refine Rn.bnE (vs_nth hv2) ?_
  obtain ⟨g1, g2⟩ := grant_ok hv2 hf2
  rcases Decidable.em (C.getD (v - 1) 0 = 0) with h0 | h0
  · obtain ⟨s1, s2, s3, s4, s5, s6⟩ := r4 v hv2 f hf2 h0
    obtain ⟨c1, c2⟩ := count_ok s2 hv2 s3
    have hvo : voterV v (C.getD (v - 1) 0) = nodeV v 1 0 := if_pos h0
    have hset : (vsV C).set (v : Int).toNat (nodeV v 2 2) = vsV (C.set (v - 1) f) := by
      rw [Int.toNat_natCast, ← vs_set r3 hv2 f]
      rw [voterV, if_neg (by omega)]
    rw [hvo]
    refine Rn.bnE g1 (Rn.lt (Rn.bnE (v := (wonN (C.set (v - 1) f), stV 5 (forV (C.set (v - 1) f) 5), stV 7 (forV (C.set (v - 1) f) 7))) ?_ (Rn.lt (Rn.some ⟨hql, C.set (v - 1) f, s1, ?_⟩))))
    · show innerV [vMsg v f 2] (wonN C) (stV 5 (forV C 5)) (stV 7 (forV C 7)) = _
      rcases hf2 with rfl | rfl
      · rw [inner_5 ⟨r2, r1⟩ c1, s6, s4, show forV (C.set (v - 1) 5) 7 = forV C 7 from s5]
        congr 2
        simp only [decide_eq_true_eq]
      · rw [inner_7 ⟨r2, r1⟩ c2, s6, s4, show forV (C.set (v - 1) 7) 5 = forV C 5 from s5]
        congr 2
        simp only [decide_eq_true_eq]
    · rw [addI_64 (by first | omega | (simp only; omega)) (by first | omega | (simp only; omega)), ← hset]
      rfl
  · have hvo : voterV v (C.getD (v - 1) 0) = nodeV v 2 2 := if_neg h0
    have hset : (vsV C).set (v : Int).toNat (nodeV v 2 2) = vsV C := by
      rw [Int.toNat_natCast, ← hvo]
      rcases hv2 with rfl | rfl | rfl | rfl <;> rfl
    rw [hvo]
    refine Rn.bnE g2 (Rn.lt (Rn.bnE (inner_nil _ _ _) (Rn.lt (Rn.some ⟨hql, C, hC, ?_⟩))))
    rw [addI_64 (by first | omega | (simp only; omega)) (by first | omega | (simp only; omega))]
    show (wonN C, (q : Int) + 1, _, _, (vsV C).set (v : Int).toNat (nodeV v 2 2)) = _
    rw [hset]
    rfl
end Go.Proofs.Ytaibolmbafacpaa

/- What is read as data of the program's structs. -/
namespace Go.Proofs.Ytaibolmbafacpaa
open Go Go.RowKit
set_option linter.unusedVariables false
set_option linter.unusedSimpArgs false
set_option linter.constructorNameAsVariable false
set_option maxRecDepth 100000
section
variable {P : Program} {n t : Nat} {ts : List T}
theorem WfT.bool (hu : P.underlying t = some .bool) (h : WfT P (n + 1) t ts) : ∃ b, ts = [.v (.bool b)] := by rw [WfT, hu] at h; exact h
theorem WfT.int {k : IntKind} (hu : P.underlying t = some (.int k)) (h : WfT P (n + 1) t ts) : ∃ i, ts = [.v (.int k i)] ∧ (Lit.int k i).wf = true := by rw [WfT, hu] at h; exact h
theorem WfT.slice {e : Nat} (hu : P.underlying t = some (.slice e)) (h : WfT P (n + 1) t ts) : ∃ es, ts = [.sl (P.cellsOf e) es] ∧ es.length * P.bytesOf e ≤ reachBytes ∧ ∀ x ∈ es, WfT P n e x := by rw [WfT, hu] at h; exact h
theorem WfT.struct {fs : Array Go.Field} (hu : P.underlying t = some (.struct fs)) (h : WfT P (n + 1) t ts) : ∃ ps : List (List T), ts = ps.flatten ∧ All2 (fun p f => WfT P n f p) ps (fs.toList.map (·.type)) := by rw [WfT, hu] at h; exact h
end
theorem All2.cons_r {α β : Type} {R : α → β → Prop} {l : List α} {b : β} {bs : List β} (h : All2 R l (b :: bs)) : ∃ x xs, l = x :: xs ∧ R x b ∧ All2 R xs bs := by
  cases l with
  | nil => exact h.elim
  | cons x xs => exact ⟨x, xs, rfl, h⟩
theorem All2.nil_r {α β : Type} {R : α → β → Prop} {l : List α} (h : All2 R l ([] : List β)) : l = [] := by
  cases l with
  | nil => rfl
  | cons x xs => exact h.elim
def rngI (i : Int) : Prop := -9223372036854775808 ≤ i ∧ i ≤ 9223372036854775807
theorem wf_list {α : Type} {enc : List α → List (List T)} {R : List T → Prop} {rng : α → Prop} (hn : enc [] = []) (hc : ∀ x l, enc (x :: l) = enc [x] ++ enc l) (h1 : ∀ e, R e → ∃ x, enc [x] = [e] ∧ rng x) :
    ∀ es, (∀ x ∈ es, R x) → ∃ l, es = enc l ∧ ∀ x ∈ l, rng x
  | [], _ => ⟨[], hn.symm, fun x h => by cases h⟩
  | e :: es, h => by
    obtain ⟨x, hx, rx⟩ := h1 e (h e (by simp))
    obtain ⟨l, rfl, rl⟩ := wf_list hn hc h1 es fun y hy => h y (by simp [hy])
    refine ⟨x :: l, by rw [hc, hx]; rfl, ?_⟩
    intro y hy
    rcases List.mem_cons.1 hy with rfl | hy
    · exact rx
    · exact rl y hy
/-- Bytes. -/
def rngU (i : Int) : Prop := 0 ≤ i ∧ i ≤ 255
theorem wf_U (n : Nat) (e : List T) (h : WfT Try.prog (n + 1) 5 e) : ∃ x : Int, encU [x] = [e] ∧ rngU x := by
  obtain ⟨f, rfl, h2⟩ := WfT.int (t := 5) Try.underlying5 h
  have h' := (Bool.and_eq_true _ _ ▸ h2 : _ ∧ _)
  have h1 := of_decide_eq_true h'.1
  have h2 := of_decide_eq_true h'.2
  exact ⟨f, rfl, h1, h2⟩
theorem wf_Us {n : Nat} {es : List (List T)} (h : ∀ x ∈ es, WfT Try.prog (n + 1) 5 x) : ∃ l : List Int, es = encU l ∧ ∀ x ∈ l, rngU x :=
  wf_list (enc := encU) (R := fun e => WfT Try.prog (n + 1) 5 e) (rng := rngU) rfl (fun _ _ => rfl) (@wf_U n) es h
def rngField (x : Field) : Prop := True
def rngItem (x : Item) : Prop := (rngI x.kind) ∧ (x.f.length ≤ 4398046510976 ∧ ∀ y ∈ x.f, rngField y) ∧ (x.l.length ≤ 8796093021952) ∧ (rngI x.exp)
def rngPair (x : Pair) : Prop := (rngItem x.item)
def rngEffect (x : Effect) : Prop := (rngItem x.item)
def rngRid (x : Rid) : Prop := (rngI x.node) ∧ (rngI x.epoch)
def rngFeed (x : Feed) : Prop := (rngRid x.rid) ∧ (rngI x.off) ∧ (x.back.length ≤ 1353245080300 ∧ ∀ y ∈ x.back, rngEffect y) ∧ (rngRid x.prev) ∧ (rngI x.upto)
def rngClaim (x : Claim) : Prop := (rngI x.frm) ∧ (rngI x.to) ∧ (rngI x.node) ∧ (rngI x.epoch)
def rngMsg (x : Msg) : Prop := (rngI x.kind) ∧ (rngI x.frm) ∧ (rngI x.to) ∧ (rngI x.epoch) ∧ (x.claims.length ≤ 4398046510976 ∧ ∀ y ∈ x.claims, rngClaim y) ∧ (x.nodes.length ≤ 17592186043904 ∧ ∀ y ∈ x.nodes, rngI y) ∧ (rngI x.node) ∧ (rngI x.slot) ∧ (rngI x.num) ∧ (rngRid x.rid) ∧ (rngRid x.prev) ∧ (rngI x.off) ∧ (x.effects.length ≤ 1353245080300 ∧ ∀ y ∈ x.effects, rngEffect y)
end Go.Proofs.Ytaibolmbafacpaa

/- What all rows need. -/
namespace Go.Proofs.Ytaibolmbafacpaa
open Go Go.RowKit
open Go.ChangeShapes Go.WideShapes Go.ChangeAt Go.RowKit
theorem Try.own : ownKnob Try.prog.godebug = none := by kernel_rfl
theorem Try.laidOut : laidOutB Try.prog = true := by kernel_rfl
end Go.Proofs.Ytaibolmbafacpaa

