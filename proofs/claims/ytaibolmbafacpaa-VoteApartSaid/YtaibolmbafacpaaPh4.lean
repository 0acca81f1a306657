/- Part 4 of the proof. -/
import Derived.Test.YtaibolmbafacpaaPh3
/- Walks, printed: r13_NewWatch, r23_New, r13_copied, r13_TickWatch, r13_Heard, l18_Silent -/
namespace Go.Proofs.Ytaibolmbafacpaa
open Go Go.RowKit
set_option linter.unusedVariables false
set_option linter.unusedSimpArgs false
def r13_NewWatch_sh (n : Nat) (a0 : Int) : Option Watch :=
lt (minI a0 8) fun v1 =>
lt (maxI 0 v1) fun v2 =>
chk (mkB v2 8) <|
lt (List.replicate v2.toNat 0) fun v4 =>
chk (mkB v2 24) <|
lt (List.replicate v2.toNat []) fun v6 =>
chk (room v4.length 1) <|
some (⟨v4, v6⟩ : Watch)
set_option maxRecDepth 8000 in
set_option maxHeartbeats 8000000 in
theorem s_r13_NewWatch {n : Nat} {a0 : Int} {r : Watch} (h : r13_NewWatch_sh n a0 = some r) : Sound Try.prog 18 [.l (.s (.int .i64 a0))] [] (.g [.d false 1 (encI r.heard), .d false 1 (encLI r.says)]) [] := by
 unfold r13_NewWatch_sh at h
 refine Sound.of_aw (fn := Try.f18) (c := _) Try.func18 rfl (by simp [Try.f18]) fun cx hG hnb => ?_
 rw [show Try.f18.ntmps = 12 from rfl]
 have hn0 : cx.nb = 0 := hnb
 simp only [st0_mk, initTm, List.map_cons, List.map_nil]
 apply AW.step
 ·simp
  intros; rfl
 replace h := ltE h; obtain ⟨v1, e1, h⟩ := h
 replace h := ltE h; obtain ⟨v2, e2, h⟩ := h
 apply AW.step
 ·simp [← e1, ← e2]
  intros; rfl
 replace h := chkE h; obtain ⟨e3, h⟩ := h
 replace h := ltE h; obtain ⟨v4, e4, h⟩ := h
 replace h := chkE h; obtain ⟨e5, h⟩ := h
 replace h := ltE h; obtain ⟨v6, e6, h⟩ := h
 apply AW.drawnE (V := [_, _, _, _]) (M := [[some ⟨36, 2, false, none, [.s (.slice none 0 0), .s (.slice none 0 0)]⟩], [some ⟨36, 2, false, none, [.s (.slice none 0 0), .s (.slice none 0 0)]⟩, some ⟨3, 1, true, none, lvs (encI v4)⟩]]) mixed [⟨[0], [], [(3, none)], false⟩, ⟨[0], [0], [(7, some 0)], true⟩, ⟨[0, 1], [], [(3, none)], false⟩, ⟨[0, 1], [2], [(9, some 2)], false⟩, ⟨[], [0, 1, 2, 3], [], false⟩, ⟨[], [0, 1, 2, 3, 4], [], false⟩] 4 1 (by kernel_rfl) (by kernel_rfl)
 ·rfl
 ·refine ⟨?_, ?_, ⟨?_, ?_⟩, ⟨?_, ?_⟩, trivial⟩
  ·intro tm hr
   simp [AllL, rdV] at hr
   simp [hr]
   intros; first | exact KD.mk | exact KD.mkN
  ·intro tm hr
   simp [AllL, rdV] at hr
   simp [hr]
   intros
   refine mkS_own (enc := encI) (fun _ => rfl) e4 tb_el33 tb_ti3 ⟨rfl, rfl, by decide⟩ (mkB_d e3) rfl ?_
   try simp []
   intros; first | exact KD.mk | exact KD.mkN
  ·intro tm hr
   simp [AllL, rdV] at hr
   simp [hr]
   intros; first | exact KD.mk | exact KD.mkN
  ·intro tm hr
   simp [AllL, rdV] at hr
   simp [hr]
   intros; first | exact KD.mk | exact KD.mkN
  ·intro tm hr
   simp [AllL, rdV] at hr
   simp [hr]
   intros
   refine mkS_data (enc := encLI) (fun _ => rfl) e6 tb_el34 tb_ti33 ⟨rfl, rfl, by decide⟩ (mkB_d e5) (by simp [All2, lvs]) rfl ?_
   try simp []
   intros; first | exact KD.mk | exact KD.mkN
  ·intro tm hr
   simp [AllL, rdV] at hr
   simp [hr]
   intros
   refine mkS_data (enc := encLI) (fun _ => rfl) e6 tb_el34 tb_ti33 ⟨rfl, rfl, by decide⟩ (mkB_d e5) (by simp [All2, lvs]) rfl ?_
   try simp []
   intros; first | exact KD.mk | exact KD.mkN
 ·rfl
 ·simp [tmD, putD]; rfl
 ·simp
  intros; rfl
 replace h := chkE h; obtain ⟨e7, h⟩ := h
 refine AW.frzRow 1 (ty := 3) (cap := none) (sz := 1) (es := encI v4) (by simp) (by omega) (encI_sz _) (by first | exact (room_d e7).2 | simpa using (room_d e7).2 | simp) (by simp [Tm.frz, AV.frz, LV.frz]; rfl) (by simp [Ob.frz, LV.frz]; rfl) rfl ?_
 obtain rfl := Option.some.inj h
 refine AW.ret ?_
 refine Left.plain hnb (by simp [Try.f18, resV, resC, comp]; rfl) rfl rfl ?_
 simp
theorem en_r13_NewWatch : Enters Try.prog 18 := enters Try.func18 (by kernel_rfl) rfl
def r23_New_sh (n : Nat) (a0 : Int) (a1 : Int) (a2 : Int) : Option Node :=
lt (minI a0 8) fun v1 =>
lt (maxI 1 v1) fun v2 =>
lt (minI a2 v2) fun v3 =>
lt (maxI 1 v3) fun v4 =>
lt (subI .i64 v2 1) fun v5 =>
lt (minI a1 v5) fun v6 =>
lt (maxI 0 v6) fun v7 =>
bn (r13_NewWatch_sh n v2) fun v8 =>
bn (lt (geI v7 v4) fun v10 =>
ite' v10 (bn (remI .i64 v7 v4) fun v11 =>
some (v11)) (some (-1))) fun (y9 : Int) =>
bn (lt (geI y9 0) fun v13 =>
ite' v13 (some (y9)) (some (v7))) fun (y12 : Int) =>
bn (iter n (fun (y14 : Int × List Claim) =>
lt (ltI y14.1 v4) fun v17 =>
ite' v17 (lt (mulI .i64 y14.1 16384) fun v18 =>
bn (quoI .i64 v18 v4) fun v19 =>
lt (addI .i64 y14.1 1) fun v20 =>
lt (mulI .i64 v20 16384) fun v21 =>
bn (quoI .i64 v21 v4) fun v22 =>
lt (subI .i64 v22 1) fun v23 =>
chk (room (y14.2.length + 1) 32) <|
lt (y14.2 ++ [(⟨v19, v23, y14.1, 1⟩ : Claim)]) fun v25 =>
some (.inl (v20, v25))) (some (.inr y14.2))) (0, [])) fun (y15 : List Claim) =>
chk (room y15.length 1) <|
some (⟨v2, v7, y9, 1, 0, y15, [], [], 0, [], (⟨(⟨y12, 0⟩ : Rid), 0, [], (⟨0, 0⟩ : Rid), 0⟩ : Feed), v8, 0, [], 0⟩ : Node)
set_option maxRecDepth 8000 in
set_option maxHeartbeats 8000000 in
theorem s_r23_New {n : Nat} {a0 : Int} {a1 : Int} {a2 : Int} {r : Node} (h : r23_New_sh n a0 a1 a2 = some r) : Sound Try.prog 9 [.l (.s (.int .i64 a0)), .l (.s (.int .i64 a1)), .l (.s (.int .i64 a2))] [] (.g [.s (.int .i64 r.count), .s (.int .i64 r.id), .s (.int .i64 r.master), .s (.int .i64 r.epoch), .s (.int .i64 r.voted), .d false 4 (encClaim r.claims), .d false 6 (encPair r.db), .d false 4 (encMove r.moves), .s (.int .i64 r.last), .d false 3 (encSeen r.seen), .s (.int .i64 r.feed.rid.node), .s (.int .i64 r.feed.rid.epoch), .s (.int .i64 r.feed.off), .d false 7 (encEffect r.feed.back), .s (.int .i64 r.feed.prev.node), .s (.int .i64 r.feed.prev.epoch), .s (.int .i64 r.feed.upto), .d false 1 (encI r.watch.heard), .d false 1 (encLI r.watch.says), .s (.int .i64 r.asked), .d false 1 (encI r.votes), .s (.int .i64 r.wait)]) [] := by
 unfold r23_New_sh at h
 refine Sound.of_aw (fn := Try.f9) (c := _) Try.func9 rfl (by simp [Try.f9]) fun cx hG hnb => ?_
 rw [show Try.f9.ntmps = 72 from rfl]
 have hn0 : cx.nb = 0 := hnb
 simp only [st0_mk, initTm, List.map_cons, List.map_nil]
 apply AW.step
 ·simp
  intros; rfl
 replace h := ltE h; obtain ⟨v1, e1, h⟩ := h
 replace h := ltE h; obtain ⟨v2, e2, h⟩ := h
 apply AW.step
 ·simp [← e1, ← e2]
  intros; rfl
 replace h := ltE h; obtain ⟨v3, e3, h⟩ := h
 replace h := ltE h; obtain ⟨v4, e4, h⟩ := h
 apply AW.step
 ·simp [← e3, ← e4]
  intros; rfl
 replace h := ltE h; obtain ⟨v5, e5, h⟩ := h
 replace h := ltE h; obtain ⟨v6, e6, h⟩ := h
 replace h := ltE h; obtain ⟨v7, e7, h⟩ := h
 replace h := bnE h; obtain ⟨v8, e8, h⟩ := h
 apply AW.step
 ·simp [← e5, ← e6, ← e7]
  intros
  refine xcall_plain en_r13_NewWatch (s_r13_NewWatch e8) rfl ⟨.same rfl, trivial⟩ ?_
  try simp [← e5, ← e6, ← e7]
  intros; rfl
 replace h := bnE h; obtain ⟨y9, g9, h⟩ := h
 refine AW.flow (p := fun gh ls => (nP (cx := cx) (fun q => (⟨[(6, .l (.p 0 0)), (8, .l (.s (.int .i64 v4))), (9, .l (.p 1 0))], [some ⟨38, 22, false, none, [.s (.int .i64 0), .s (.int .i64 0), .s (.int .i64 0), .s (.int .i64 0), .s (.int .i64 0), .s (.slice none 0 0), .s (.slice none 0 0), .s (.slice none 0 0), .s (.int .i64 0), .s (.slice none 0 0), .s (.int .i64 0), .s (.int .i64 0), .s (.int .i64 0), .s (.slice none 0 0), .s (.int .i64 0), .s (.int .i64 0), .s (.int .i64 0), .s (.slice none 0 0), .s (.slice none 0 0), .s (.int .i64 0), .s (.slice none 0 0), .s (.int .i64 0)]⟩, some ⟨38, 22, false, none, [.s (.int .i64 v2), .s (.int .i64 v7), .s (.int .i64 q), .s (.int .i64 1), .s (.int .i64 0), .s (.slice none 0 0), .s (.slice none 0 0), .s (.slice none 0 0), .s (.int .i64 0), .s (.slice none 0 0), .s (.int .i64 0), .s (.int .i64 0), .s (.int .i64 0), .s (.slice none 0 0), .s (.int .i64 0), .s (.int .i64 0), .s (.int .i64 0), .d false 1 (encI v8.heard), .d false 1 (encLI v8.says), .s (.int .i64 0), .s (.slice none 0 0), .s (.int .i64 0)]⟩], 72, gh, ls⟩ : St))) y9) ?_ ?_
 ·replace h := g9; clear g9
  replace h := ltE h; obtain ⟨v10, e10, h⟩ := h
  apply AW.step
  ·simp [← e10]
   intros; rfl
  cases v10 with
  | true =>
   replace h := iteT rfl h
   refine AW.cond_true (by simp) ?_
   replace h := bnE h; obtain ⟨v11, e11, h⟩ := h
   apply AW.last
   ·simp [e11]
    intros; rfl
   obtain rfl := Option.some.inj h
   refine nP_i ?_
   refine Weak.mixN [some 0, some 1] hn0 (by decide) ?_ ?_ rfl
   all_goals first | (simp [inv_cons, inv_nil, pickOb]; done) | rfl
  | false =>
   replace h := iteF rfl h
   refine AW.cond_false (by simp) ?_
   refine AW.skip ?_
   try simp only [sp_l, sp_r, Post.seq, Post.block, Nat.reduceEqDiff, reduceIte, Nat.zero_ne_one, Nat.one_ne_zero]
   obtain rfl := Option.some.inj h
   refine nP_i ?_
   refine Weak.mixN [some 0, some 1] hn0 (by decide) ?_ ?_ rfl
   all_goals first | (simp [inv_cons, inv_nil, pickOb]; done) | rfl
 ·rintro e s hp
  obtain ⟨rfl, hw⟩ := hp
  refine ⟨_, hw, ?_⟩
  try simp only [sp_l, sp_r, Post.seq, Post.block, Nat.reduceEqDiff, reduceIte, Nat.zero_ne_one, Nat.one_ne_zero]
  apply AW.step
  ·simp
   intros; rfl
  replace h := bnE h; obtain ⟨y12, g12, h⟩ := h
  refine AW.flow (p := fun gh ls => (nP (cx := cx) (fun q => (⟨[(6, .l (.p 0 0)), (8, .l (.s (.int .i64 v4))), (9, .l (.p 1 0))], [some ⟨38, 22, false, none, [.s (.int .i64 0), .s (.int .i64 0), .s (.int .i64 0), .s (.int .i64 0), .s (.int .i64 0), .s (.slice none 0 0), .s (.slice none 0 0), .s (.slice none 0 0), .s (.int .i64 0), .s (.slice none 0 0), .s (.int .i64 0), .s (.int .i64 0), .s (.int .i64 0), .s (.slice none 0 0), .s (.int .i64 0), .s (.int .i64 0), .s (.int .i64 0), .s (.slice none 0 0), .s (.slice none 0 0), .s (.int .i64 0), .s (.slice none 0 0), .s (.int .i64 0)]⟩, some ⟨38, 22, false, none, [.s (.int .i64 v2), .s (.int .i64 v7), .s (.int .i64 y9), .s (.int .i64 1), .s (.int .i64 0), .s (.slice none 0 0), .s (.slice none 0 0), .s (.slice none 0 0), .s (.int .i64 0), .s (.slice none 0 0), .s (.int .i64 q), .s (.int .i64 0), .s (.int .i64 0), .s (.slice none 0 0), .s (.int .i64 0), .s (.int .i64 0), .s (.int .i64 0), .d false 1 (encI v8.heard), .d false 1 (encLI v8.says), .s (.int .i64 0), .s (.slice none 0 0), .s (.int .i64 0)]⟩], 72, gh, ls⟩ : St))) y12) ?_ ?_
  ·replace h := g12; clear g12
   replace h := ltE h; obtain ⟨v13, e13, h⟩ := h
   apply AW.step
   ·simp [← e13]
    intros; rfl
   cases v13 with
   | true =>
    replace h := iteT rfl h
    refine AW.cond_true (by simp) ?_
    apply AW.last
    ·simp
     intros; rfl
    obtain rfl := Option.some.inj h
    refine nP_i ?_
    refine Weak.mixN [some 0, some 1] hn0 (by decide) ?_ ?_ rfl
    all_goals first | (simp [inv_cons, inv_nil, pickOb]; done) | rfl
   | false =>
    replace h := iteF rfl h
    refine AW.cond_false (by simp) ?_
    refine AW.skip ?_
    try simp only [sp_l, sp_r, Post.seq, Post.block, Nat.reduceEqDiff, reduceIte, Nat.zero_ne_one, Nat.one_ne_zero]
    obtain rfl := Option.some.inj h
    refine nP_i ?_
    refine Weak.mixN [some 0, some 1] hn0 (by decide) ?_ ?_ rfl
    all_goals first | (simp [inv_cons, inv_nil, pickOb]; done) | rfl
  ·rintro e s hp
   obtain ⟨rfl, hw⟩ := hp
   refine ⟨_, hw, ?_⟩
   try simp only [sp_l, sp_r, Post.seq, Post.block, Nat.reduceEqDiff, reduceIte, Nat.zero_ne_one, Nat.one_ne_zero]
   refine AW.seq ?_
   apply AW.step
   ·simp
    intros; rfl
   refine AW.block ?_
   replace h := bnE h; obtain ⟨y15, g15, h⟩ := h
   refine AW.iterP g15 (mk := fun gh ls q => (⟨[(6, .l (.p 0 0)), (8, .l (.s (.int .i64 v4))), (9, .l (.p 1 0)), (10, .l (.s (.int .i64 q.1)))], [some ⟨38, 22, false, none, [.s (.int .i64 0), .s (.int .i64 0), .s (.int .i64 0), .s (.int .i64 0), .s (.int .i64 0), .s (.slice none 0 0), .s (.slice none 0 0), .s (.slice none 0 0), .s (.int .i64 0), .s (.slice none 0 0), .s (.int .i64 0), .s (.int .i64 0), .s (.int .i64 0), .s (.slice none 0 0), .s (.int .i64 0), .s (.int .i64 0), .s (.int .i64 0), .s (.slice none 0 0), .s (.slice none 0 0), .s (.int .i64 0), .s (.slice none 0 0), .s (.int .i64 0)]⟩, some ⟨38, 22, false, none, [.s (.int .i64 v2), .s (.int .i64 v7), .s (.int .i64 y9), .s (.int .i64 1), .s (.int .i64 0), .r 2 4 0 q.2.length, .s (.slice none 0 0), .s (.slice none 0 0), .s (.int .i64 0), .s (.slice none 0 0), .s (.int .i64 y12), .s (.int .i64 0), .s (.int .i64 0), .s (.slice none 0 0), .s (.int .i64 0), .s (.int .i64 0), .s (.int .i64 0), .d false 1 (encI v8.heard), .d false 1 (encLI v8.says), .s (.int .i64 0), .s (.slice none 0 0), .s (.int .i64 0)]⟩, some ⟨63, 4, true, none, lvs (encClaim q.2)⟩], 72, gh, ls⟩ : St)) (N := fun gh ls => (xP 0 (cx := cx) (fun q => (⟨[(6, .l (.p 0 0)), (9, .l (.p 1 0))], [some ⟨38, 22, false, none, [.s (.int .i64 0), .s (.int .i64 0), .s (.int .i64 0), .s (.int .i64 0), .s (.int .i64 0), .s (.slice none 0 0), .s (.slice none 0 0), .s (.slice none 0 0), .s (.int .i64 0), .s (.slice none 0 0), .s (.int .i64 0), .s (.int .i64 0), .s (.int .i64 0), .s (.slice none 0 0), .s (.int .i64 0), .s (.int .i64 0), .s (.int .i64 0), .s (.slice none 0 0), .s (.slice none 0 0), .s (.int .i64 0), .s (.slice none 0 0), .s (.int .i64 0)]⟩, some ⟨38, 22, false, none, [.s (.int .i64 v2), .s (.int .i64 v7), .s (.int .i64 y9), .s (.int .i64 1), .s (.int .i64 0), .r 2 4 0 q.length, .s (.slice none 0 0), .s (.slice none 0 0), .s (.int .i64 0), .s (.slice none 0 0), .s (.int .i64 y12), .s (.int .i64 0), .s (.int .i64 0), .s (.slice none 0 0), .s (.int .i64 0), .s (.int .i64 0), .s (.int .i64 0), .d false 1 (encI v8.heard), .d false 1 (encLI v8.says), .s (.int .i64 0), .s (.slice none 0 0), .s (.int .i64 0)]⟩, some ⟨63, 4, true, none, lvs (encClaim q)⟩], 72, gh, ls⟩ : St)))) ?_ noX ?_ ?_
   ·refine W.nilCell 1 5 63 4 2 rfl rfl rfl rfl rfl ?_
    refine Weak.mixN [some 0, some 1, some 2] hn0 (by decide) ?_ ?_ rfl
    all_goals first | (simp [inv_cons, inv_nil, pickOb]; done) | rfl
   ·clear h; intro y14 y16 h
    refine AW.seq ?_
    replace h := ltE h; obtain ⟨v17, e17, h⟩ := h
    apply AW.step
    ·simp [← e17]
     intros; rfl
    cases v17 with
    | true =>
     replace h := iteT rfl h
     refine AW.cond_true (by simp) ?_
     refine AW.skip ?_
     try simp only [sp_l, sp_r, Post.seq, Post.block, Nat.reduceEqDiff, reduceIte, Nat.zero_ne_one, Nat.one_ne_zero]
     try simp only [sp_l, sp_r, Post.seq, Post.block, Nat.reduceEqDiff, reduceIte, Nat.zero_ne_one, Nat.one_ne_zero]
     refine AW.seq ?_
     refine AW.block ?_
     replace h := ltE h; obtain ⟨v18, e18, h⟩ := h
     replace h := bnE h; obtain ⟨v19, e19, h⟩ := h
     replace h := ltE h; obtain ⟨v20, e20, h⟩ := h
     replace h := ltE h; obtain ⟨v21, e21, h⟩ := h
     replace h := bnE h; obtain ⟨v22, e22, h⟩ := h
     replace h := ltE h; obtain ⟨v23, e23, h⟩ := h
     replace h := chkE h; obtain ⟨e24, h⟩ := h
     replace h := ltE h; obtain ⟨v25, e25, h⟩ := h
     apply AW.drawnF (V := [_, _, _, _, _, _, _, _, _, _, _, _, _, _, _]) (M := [[some ⟨38, 22, false, none, [.s (.int .i64 0), .s (.int .i64 0), .s (.int .i64 0), .s (.int .i64 0), .s (.int .i64 0), .s (.slice none 0 0), .s (.slice none 0 0), .s (.slice none 0 0), .s (.int .i64 0), .s (.slice none 0 0), .s (.int .i64 0), .s (.int .i64 0), .s (.int .i64 0), .s (.slice none 0 0), .s (.int .i64 0), .s (.int .i64 0), .s (.int .i64 0), .s (.slice none 0 0), .s (.slice none 0 0), .s (.int .i64 0), .s (.slice none 0 0), .s (.int .i64 0)]⟩, some ⟨38, 22, false, none, [.s (.int .i64 v2), .s (.int .i64 v7), .s (.int .i64 y9), .s (.int .i64 1), .s (.int .i64 0), .r 2 4 0 y14.2.length, .s (.slice none 0 0), .s (.slice none 0 0), .s (.int .i64 0), .s (.slice none 0 0), .s (.int .i64 y12), .s (.int .i64 0), .s (.int .i64 0), .s (.slice none 0 0), .s (.int .i64 0), .s (.int .i64 0), .s (.int .i64 0), .d false 1 (encI v8.heard), .d false 1 (encLI v8.says), .s (.int .i64 0), .s (.slice none 0 0), .s (.int .i64 0)]⟩, some ⟨63, 4, true, none, lvs (encClaim y14.2)⟩], [some ⟨38, 22, false, none, [.s (.int .i64 0), .s (.int .i64 0), .s (.int .i64 0), .s (.int .i64 0), .s (.int .i64 0), .s (.slice none 0 0), .s (.slice none 0 0), .s (.slice none 0 0), .s (.int .i64 0), .s (.slice none 0 0), .s (.int .i64 0), .s (.int .i64 0), .s (.int .i64 0), .s (.slice none 0 0), .s (.int .i64 0), .s (.int .i64 0), .s (.int .i64 0), .s (.slice none 0 0), .s (.slice none 0 0), .s (.int .i64 0), .s (.slice none 0 0), .s (.int .i64 0)]⟩, some ⟨38, 22, false, none, [.s (.int .i64 v2), .s (.int .i64 v7), .s (.int .i64 y9), .s (.int .i64 1), .s (.int .i64 0), .r 2 4 0 y14.2.length, .s (.slice none 0 0), .s (.slice none 0 0), .s (.int .i64 0), .s (.slice none 0 0), .s (.int .i64 y12), .s (.int .i64 0), .s (.int .i64 0), .s (.slice none 0 0), .s (.int .i64 0), .s (.int .i64 0), .s (.int .i64 0), .d false 1 (encI v8.heard), .d false 1 (encLI v8.says), .s (.int .i64 0), .s (.slice none 0 0), .s (.int .i64 0)]⟩, some ⟨63, 4, true, none, lvs (encClaim y14.2)⟩, some ⟨63, 4, true, none, [.s (.int .i64 v19), .s (.int .i64 v23), .s (.int .i64 y14.1), .s (.int .i64 1)]⟩]]) mixed [⟨[0, 1], [], [(9, none)], false⟩, ⟨[0, 1], [0], [(54, some 0)], false⟩, ⟨[0], [], [(10, none)], false⟩, ⟨[0], [2], [(56, some 2)], false⟩, ⟨[0], [], [(8, none)], false⟩, ⟨[0], [2, 3, 4], [(57, some 3), (58, some 4)], false⟩, ⟨[0], [], [(10, none)], false⟩, ⟨[0], [6], [(60, some 6)], false⟩, ⟨[0], [6, 7], [(61, some 7)], false⟩, ⟨[0], [], [(8, none)], false⟩, ⟨[0], [6, 7, 8, 9], [(62, some 8), (63, some 9)], false⟩, ⟨[0], [6, 7, 8, 9, 10], [(64, some 10)], false⟩, ⟨[0], [], [(10, none)], false⟩, ⟨[0], [2, 3, 4, 5, 6, 7, 8, 9, 10, 11, 12], [(59, some 5), (65, some 11), (66, some 12)], false⟩, ⟨[0], [2, 3, 4, 5, 6, 7, 8, 9, 10, 11, 12, 13], [(67, some 13)], true⟩, ⟨[], [0, 1, 2, 3, 4, 5, 6, 7, 8, 9, 10, 11, 12, 13, 14], [], false⟩, ⟨[], [0, 1, 2, 3, 4, 5, 6, 7, 8, 9, 10, 11, 12, 13, 14, 15], [], false⟩, ⟨[], [0, 1, 2, 3, 4, 5, 6, 7, 8, 9, 10, 11, 12, 13, 14, 15, 16], [], false⟩] 15 1 (by kernel_rfl) (by kernel_rfl)
     ·rfl
     ·refine ⟨⟨?_, ?_⟩, ⟨?_, ?_⟩, ?_, ?_, ?_, ?_, ?_, ?_, ?_, ?_, ?_, ?_, ?_, ?_, ?_, trivial⟩
      ·intro tm hr
       simp [AllL, rdV] at hr
       simp [hr, ← e18, e19, ← e20, ← e21, e22, ← e23, ← encClaim_append, ← e25, app_len1 e25]
       intros; first | exact KD.mk | exact KD.mkN
      ·intro tm hr
       simp [AllL, rdV] at hr
       simp [hr, ← e18, e19, ← e20, ← e21, e22, ← e23, ← encClaim_append, ← e25, app_len1 e25]
       intros; first | exact KD.mk | exact KD.mkN
      ·intro tm hr
       simp [AllL, rdV] at hr
       simp [hr, ← e18, e19, ← e20, ← e21, e22, ← e23, ← encClaim_append, ← e25, app_len1 e25]
       intros; first | exact KD.mk | exact KD.mkN
      ·intro tm hr
       simp [AllL, rdV] at hr
       simp [hr, ← e18, e19, ← e20, ← e21, e22, ← e23, ← encClaim_append, ← e25, app_len1 e25]
       intros; first | exact KD.mk | exact KD.mkN
      ·intro tm hr
       simp [AllL, rdV] at hr
       simp [hr, ← e18, e19, ← e20, ← e21, e22, ← e23, ← encClaim_append, ← e25, app_len1 e25]
       intros; first | exact KD.mk | exact KD.mkN
      ·intro tm hr
       simp [AllL, rdV] at hr
       simp [hr, ← e18, e19, ← e20, ← e21, e22, ← e23, ← encClaim_append, ← e25, app_len1 e25]
       intros; first | exact KD.mk | exact KD.mkN
      ·intro tm hr
       simp [AllL, rdV] at hr
       simp [hr, ← e18, e19, ← e20, ← e21, e22, ← e23, ← encClaim_append, ← e25, app_len1 e25]
       intros; first | exact KD.mk | exact KD.mkN
      ·intro tm hr
       simp [AllL, rdV] at hr
       simp [hr, ← e18, e19, ← e20, ← e21, e22, ← e23, ← encClaim_append, ← e25, app_len1 e25]
       intros; first | exact KD.mk | exact KD.mkN
      ·intro tm hr
       simp [AllL, rdV] at hr
       simp [hr, ← e18, e19, ← e20, ← e21, e22, ← e23, ← encClaim_append, ← e25, app_len1 e25]
       intros; first | exact KD.mk | exact KD.mkN
      ·intro tm hr
       simp [AllL, rdV] at hr
       simp [hr, ← e18, e19, ← e20, ← e21, e22, ← e23, ← encClaim_append, ← e25, app_len1 e25]
       intros; first | exact KD.mk | exact KD.mkN
      ·intro tm hr
       simp [AllL, rdV] at hr
       simp [hr, ← e18, e19, ← e20, ← e21, e22, ← e23, ← encClaim_append, ← e25, app_len1 e25]
       intros; first | exact KD.mk | exact KD.mkN
      ·intro tm hr
       simp [AllL, rdV] at hr
       simp [hr, ← e18, e19, ← e20, ← e21, e22, ← e23, ← encClaim_append, ← e25, app_len1 e25]
       intros; first | exact KD.mk | exact KD.mkN
      ·intro tm hr
       simp [AllL, rdV] at hr
       simp [hr, ← e18, e19, ← e20, ← e21, e22, ← e23, ← encClaim_append, ← e25, app_len1 e25]
       intros; first | exact KD.mk | exact KD.mkN
      ·intro tm hr
       simp [AllL, rdV] at hr
       simp [hr, ← e18, e19, ← e20, ← e21, e22, ← e23, ← encClaim_append, ← e25, app_len1 e25]
       intros; first | exact KD.mk | exact KD.mkN
      ·intro tm hr
       simp [AllL, rdV] at hr
       simp [hr, ← e18, e19, ← e20, ← e21, e22, ← e23, ← encClaim_append, ← e25, app_len1 e25]
       intros; first | exact KD.mk | exact KD.mkN
      ·intro tm hr
       simp [AllL, rdV] at hr
       simp [hr, ← e18, e19, ← e20, ← e21, e22, ← e23, ← encClaim_append, ← e25, app_len1 e25]
       intros; first | exact KD.mk | exact KD.mkN
      ·intro tm hr
       simp [AllL, rdV] at hr
       simp [hr, ← e18, e19, ← e20, ← e21, e22, ← e23, ← encClaim_append, ← e25, app_len1 e25]
       intros
       refine xrow_own ?_
       try simp [← e18, e19, ← e20, ← e21, e22, ← e23, ← encClaim_append, ← e25, app_len1 e25]
       intros; first | exact KD.mk | exact KD.mkN
     ·rfl
     ·simp [tmD, putD, ← e18, e19, ← e20, ← e21, e22, ← e23, ← encClaim_append, ← e25, app_len1 e25]; rfl
     ·simp [← e18, e19, ← e20, ← e21, e22, ← e23, ← encClaim_append, ← e25, app_len1 e25]
      intros
      refine xapp_pushN (acc := encClaim y14.2) (ys := encClaim [(⟨v19, v23, y14.1, 1⟩ : Claim)]) (cap := none) (k := 1) tb_el24 tb_ti63 (by simp) (by simp [encClaim, lvs]) (encClaim_sz _) (by simp) (by simp) (by first | (simp; done) | simpa using (room_d e24).1) ?_
      try simp [← e18, e19, ← e20, ← e21, e22, ← e23, ← encClaim_append, ← e25, app_len1 e25]
      intros; rfl
     try simp only [sp_l, sp_r, Post.seq, Post.block, Nat.reduceEqDiff, reduceIte, Nat.zero_ne_one, Nat.one_ne_zero]
     apply AW.last
     ·simp [← e20]
      intros; rfl
     obtain rfl := Option.some.inj h
     refine nP_i ?_
     refine Weak.mixN [some 0, some 1, some 4] hn0 (by decide) ?_ ?_ rfl
     all_goals first | (simp [inv_cons, inv_nil, pickOb, lvs_encClaim1]; done) | rfl
    | false =>
     replace h := iteF rfl h
     refine AW.cond_false (by simp) ?_
     refine AW.exit ?_
     try simp only [sp_l, sp_r, Post.seq, Post.block, Nat.reduceEqDiff, reduceIte, Nat.zero_ne_one, Nat.one_ne_zero]
     obtain rfl := Option.some.inj h
     refine xP_i ?_
     refine Weak.mixN [some 0, some 1, some 2] hn0 (by decide) ?_ ?_ rfl
     all_goals first | (simp [inv_cons, inv_nil, pickOb]; done) | rfl
   ·rintro e s hp
    obtain ⟨rfl, hw⟩ := hp
    refine ⟨_, hw, ?_⟩
    try simp only [sp_l, sp_r, Post.seq, Post.block, Nat.reduceEqDiff, reduceIte, Nat.zero_ne_one, Nat.one_ne_zero]
    apply AW.step
    ·simp
     intros; rfl
    replace h := chkE h; obtain ⟨e26, h⟩ := h
    refine AW.frzRow 2 (ty := 63) (cap := none) (sz := 4) (es := encClaim y15) (by simp) (by omega) (encClaim_sz _) (by first | exact (room_d e26).2 | simpa using (room_d e26).2 | simp) (by simp [Tm.frz, AV.frz, LV.frz]; rfl) (by simp [Ob.frz, LV.frz]; rfl) rfl ?_
    refine AW.nilCellD 0 6 6 rfl rfl rfl rfl ?_
    refine AW.nilCellD 0 7 4 rfl rfl rfl rfl ?_
    refine AW.nilCellD 0 9 3 rfl rfl rfl rfl ?_
    refine AW.nilCellD 0 13 7 rfl rfl rfl rfl ?_
    refine AW.nilCellD 0 20 1 rfl rfl rfl rfl ?_
    obtain rfl := Option.some.inj h
    refine AW.ret ?_
    refine Left.plain hnb (by simp [Try.f9, resV, resC, comp]; rfl) rfl rfl ?_
    simp
theorem en_r23_New : Enters Try.prog 9 := enters Try.func9 (by kernel_rfl) rfl
def r13_copied_sh (n : Nat) (a0 : Watch) : Option Watch :=
chk (posN a0.heard.length) <|
chk (room a0.heard.length 8) <|
chk (posN a0.says.length) <|
chk (room a0.says.length 24) <|
some a0
set_option maxRecDepth 8000 in
set_option maxHeartbeats 8000000 in
theorem s_r13_copied {n : Nat} {a0 : Watch} {r : Watch} (h : r13_copied_sh n a0 = some r) : Sound Try.prog 21 [.g [.d false 1 (encI a0.heard), .d false 1 (encLI a0.says)]] [] (.g [.r 0 1 0 r.heard.length, .r 1 1 0 r.says.length]) [some ⟨3, 1, true, none, lvs (encI r.heard)⟩, some ⟨33, 1, true, none, lvs (encLI r.says)⟩] := by
 unfold r13_copied_sh at h
 refine Sound.of_aw (fn := Try.f21) (c := _) Try.func21 rfl (by simp [Try.f21]) fun cx hG hnb => ?_
 rw [show Try.f21.ntmps = 12 from rfl]
 have hn0 : cx.nb = 0 := hnb
 simp only [st0_mk, initTm, List.map_cons, List.map_nil]
 apply AW.step
 ·simp
  intros; rfl
 replace h := chkE h; obtain ⟨e1, h⟩ := h
 replace h := chkE h; obtain ⟨e2, h⟩ := h
 replace h := chkE h; obtain ⟨e3, h⟩ := h
 replace h := chkE h; obtain ⟨e4, h⟩ := h
 apply AW.drawnE (V := [_, _, _, _, _, _, _]) (M := [[some ⟨36, 2, false, none, [.d false 1 (encI a0.heard), .d false 1 (encLI a0.says)]⟩, some ⟨36, 2, false, none, [.s (.slice none 0 0), .s (.slice none 0 0)]⟩], [some ⟨36, 2, false, none, [.d false 1 (encI a0.heard), .d false 1 (encLI a0.says)]⟩, some ⟨36, 2, false, none, [.s (.slice none 0 0), .s (.slice none 0 0)]⟩, some ⟨3, 1, true, none, lvs (encI a0.heard)⟩]]) mixed [⟨[0], [], [], false⟩, ⟨[0], [], [(1, none)], false⟩, ⟨[0], [1], [(4, some 1)], false⟩, ⟨[0], [0, 1, 2], [(3, some 0), (5, some 2)], true⟩, ⟨[0, 1], [], [], false⟩, ⟨[0, 1], [], [(1, none)], false⟩, ⟨[0, 1], [5], [(8, some 5)], false⟩, ⟨[], [0, 1, 2, 3, 4, 5, 6], [], false⟩, ⟨[], [0, 1, 2, 3, 4, 5, 6, 7], [], false⟩, ⟨[], [0, 1, 2, 3, 4, 5, 6, 7, 8], [], false⟩] 7 1 (by kernel_rfl) (by kernel_rfl)
 ·rfl
 ·refine ⟨?_, ?_, ?_, ?_, ⟨?_, ?_⟩, ⟨?_, ?_⟩, ⟨?_, ?_⟩, trivial⟩
  ·intro tm hr
   simp [AllL, rdV] at hr
   simp [-xapp_e', hr]
   intros
   refine xrow_e (by simp) rfl ?_
   try simp [-xapp_e', ]
   intros; first | exact KD.mk | exact KD.mkN
  ·intro tm hr
   simp [AllL, rdV] at hr
   simp [-xapp_e', hr]
   intros; first | exact KD.mk | exact KD.mkN
  ·intro tm hr
   simp [AllL, rdV] at hr
   simp [-xapp_e', hr]
   intros; first | exact KD.mk | exact KD.mkN
  ·intro tm hr
   simp [AllL, rdV] at hr
   simp [-xapp_e', hr]
   intros
   refine xapp_epush (ys := encI a0.heard) (k := a0.heard.length) tb_el33 tb_ti3 (by rw [src_d]; simp) (by simp) (posN_d e1) (by first | (simp; done) | simpa using (room_d e2).1) ?_
   try simp [-xapp_e', ]
   intros; first | exact KD.mk | exact KD.mkN
  ·intro tm hr
   simp [AllL, rdV] at hr
   simp [-xapp_e', hr]
   intros
   refine xrow_e (by simp) rfl ?_
   try simp [-xapp_e', ]
   intros; first | exact KD.mk | exact KD.mkN
  ·intro tm hr
   simp [AllL, rdV] at hr
   simp [-xapp_e', hr]
   intros
   refine xrow_e (by simp) rfl ?_
   try simp [-xapp_e', ]
   intros; first | exact KD.mk | exact KD.mkN
  ·intro tm hr
   simp [AllL, rdV] at hr
   simp [-xapp_e', hr]
   intros; first | exact KD.mk | exact KD.mkN
  ·intro tm hr
   simp [AllL, rdV] at hr
   simp [-xapp_e', hr]
   intros; first | exact KD.mk | exact KD.mkN
  ·intro tm hr
   simp [AllL, rdV] at hr
   simp [-xapp_e', hr]
   intros; first | exact KD.mk | exact KD.mkN
  ·intro tm hr
   simp [AllL, rdV] at hr
   simp [-xapp_e', hr]
   intros; first | exact KD.mk | exact KD.mkN
 ·rfl
 ·simp [tmD, putD]; rfl
 ·simp [-xapp_e']
  intros
  refine xapp_epush (ys := encLI a0.says) (k := a0.says.length) tb_el34 tb_ti33 (by rw [src_d]; simp) (by simp) (posN_d e3) (by first | (simp; done) | simpa using (room_d e4).1) ?_
  try simp [-xapp_e', ]
  intros; rfl
 obtain rfl := Option.some.inj h
 refine AW.ret ?_
 refine Left.of (av := _) (by simp [Try.f21, resV, resC, comp]; rfl) ?_
 exact LeftV.mix 0 [some 2, some 3] hn0 rfl (by decide) rfl (by simp [pickOb, inv_cons, inv_nil]) (by simp [inv_cons, inv_nil])
theorem en_r13_copied : Enters Try.prog 21 := enters Try.func21 (by kernel_rfl) rfl
def r13_TickWatch_sh (n : Nat) (a0 : Watch) (a1 : Int) : Option Watch :=
bn (r13_copied_sh n a0) fun v1 =>
bn (iter n (fun (y2 : Int × List Int) =>
lt (lenI y2.2) fun v5 =>
lt (ltI y2.1 v5) fun v6 =>
ite' v6 (bn (lt (neI y2.1 a1) fun v8 =>
ite' v8 (bn (nth y2.2 y2.1) fun v9 =>
lt (addI .i64 v9 1) fun v11 =>
lt (minI 1000 v11) fun v12 =>
lt (y2.2.set y2.1.toNat v12) fun v14 =>
some (v14)) (some (y2.2))) fun (y7 : List Int) =>
lt (addI .i64 y2.1 1) fun v18 =>
some (.inl (v18, y7))) (some (.inr y2.2))) (0, v1.heard)) fun (y3 : List Int) =>
chk (room y3.length 1) <|
chk (room v1.says.length 1) <|
some (⟨y3, v1.says⟩ : Watch)
set_option maxRecDepth 8000 in
set_option maxHeartbeats 8000000 in
theorem s_r13_TickWatch {n : Nat} {a0 : Watch} {a1 : Int} {r : Watch} (h : r13_TickWatch_sh n a0 a1 = some r) : Sound Try.prog 17 [.g [.d false 1 (encI a0.heard), .d false 1 (encLI a0.says)], .l (.s (.int .i64 a1))] [] (.g [.d false 1 (encI r.heard), .d false 1 (encLI r.says)]) [] := by
 unfold r13_TickWatch_sh at h
 refine Sound.of_aw (fn := Try.f17) (c := _) Try.func17 rfl (by simp [Try.f17]) fun cx hG hnb => ?_
 rw [show Try.f17.ntmps = 31 from rfl]
 have hn0 : cx.nb = 0 := hnb
 simp only [st0_mk, initTm, List.map_cons, List.map_nil]
 apply AW.step
 ·simp
  intros; rfl
 replace h := bnE h; obtain ⟨v1, e1, h⟩ := h
 apply AW.step
 ·simp [outR]
  intros
  refine xcall_new en_r13_copied (s_r13_copied e1) rfl (by simp) ⟨.same rfl, trivial⟩ ?_
  try simp [outR]
  intros; rfl
 refine AW.seq ?_
 apply AW.step
 ·simp
  intros; rfl
 refine AW.block ?_
 replace h := bnE h; obtain ⟨y3, g3, h⟩ := h
 refine AW.iterP g3 (mk := fun gh ls q => (⟨[(1, .l (.s (.int .i64 a1))), (4, .l (.p 0 0)), (5, .l (.p 1 0)), (6, .l (.s (.int .i64 q.1)))], [some ⟨36, 2, false, none, [.s (.slice none 0 0), .s (.slice none 0 0)]⟩, some ⟨36, 2, false, none, [.r 2 1 0 q.2.length, .r 3 1 0 v1.says.length]⟩, some ⟨3, 1, true, none, lvs (encI q.2)⟩, some ⟨33, 1, true, none, lvs (encLI v1.says)⟩], 31, gh, ls⟩ : St)) (N := fun gh ls => (xP 0 (cx := cx) (fun q => (⟨[(4, .l (.p 0 0)), (5, .l (.p 1 0))], [some ⟨36, 2, false, none, [.s (.slice none 0 0), .s (.slice none 0 0)]⟩, some ⟨36, 2, false, none, [.r 2 1 0 q.length, .r 3 1 0 v1.says.length]⟩, some ⟨3, 1, true, none, lvs (encI q)⟩, some ⟨33, 1, true, none, lvs (encLI v1.says)⟩], 31, gh, ls⟩ : St)))) ?_ noX ?_ ?_
 ·refine Weak.mixN [some 1, some 4, some 2, some 3] hn0 (by decide) ?_ ?_ rfl
  all_goals first | (simp [inv_cons, inv_nil, pickOb]; done) | rfl
 ·clear h; intro y2 y4 h
  refine AW.seq ?_
  replace h := ltE h; obtain ⟨v5, e5, h⟩ := h
  replace h := ltE h; obtain ⟨v6, e6, h⟩ := h
  apply AW.step
  ·simp [lenI_cast e5, ← e6]
   intros; rfl
  cases v6 with
  | true =>
   replace h := iteT rfl h
   refine AW.cond_true (by simp) ?_
   refine AW.skip ?_
   try simp only [sp_l, sp_r, Post.seq, Post.block, Nat.reduceEqDiff, reduceIte, Nat.zero_ne_one, Nat.one_ne_zero]
   try simp only [sp_l, sp_r, Post.seq, Post.block, Nat.reduceEqDiff, reduceIte, Nat.zero_ne_one, Nat.one_ne_zero]
   replace h := bnE h; obtain ⟨y7, g7, h⟩ := h
   refine AW.flow (p := fun gh ls => (nP (cx := cx) (fun q => (⟨[(1, .l (.s (.int .i64 a1))), (4, .l (.p 0 0)), (5, .l (.p 1 0)), (6, .l (.s (.int .i64 y2.1)))], [some ⟨36, 2, false, none, [.s (.slice none 0 0), .s (.slice none 0 0)]⟩, some ⟨36, 2, false, none, [.r 2 1 0 q.length, .r 3 1 0 v1.says.length]⟩, some ⟨3, 1, true, none, lvs (encI q)⟩, some ⟨33, 1, true, none, lvs (encLI v1.says)⟩], 31, gh, ls⟩ : St))) y7) ?_ ?_
   ·replace h := g7; clear g7
    refine AW.block ?_
    replace h := ltE h; obtain ⟨v8, e8, h⟩ := h
    apply AW.step
    ·simp [← e8]
     intros; rfl
    cases v8 with
    | true =>
     replace h := iteT rfl h
     refine AW.cond_true (by simp) ?_
     replace h := bnE h; obtain ⟨v9, e9, h⟩ := h
     have f10 := nth_lt e9
     try simp [nth_d e9] at f10
     replace h := ltE h; obtain ⟨v11, e11, h⟩ := h
     replace h := ltE h; obtain ⟨v12, e12, h⟩ := h
     have f13 := nth_lt e9
     try simp [nth_d e9, f10, encI_cell0 (nth_d e9).2, lvs1, ← e11, ← e12] at f13
     replace h := ltE h; obtain ⟨v14, e14, h⟩ := h
     have f15 := encI_put0 (nth_d e9).2 e14 (cs := [.s (.int .i64 v12)]) (by simp) rfl
     try simp at f15
     have f16 := f10
     try simp only [set_len e14] at f16
     have f17 := f13
     try simp only [set_len e14] at f17
     apply AW.drawnR (V := [_, _, _, _, _, _, _, _, _, _]) mixed [⟨[0], [], [(5, none)], false⟩, ⟨[0], [0], [(19, some 0)], false⟩, ⟨[0], [], [(6, none)], false⟩, ⟨[0], [], [(5, none)], false⟩, ⟨[0], [3], [(22, some 3)], false⟩, ⟨[0], [], [(6, none)], false⟩, ⟨[0], [3, 4, 5], [(23, some 4), (24, some 5)], false⟩, ⟨[0], [3, 4, 5, 6], [(25, some 6)], false⟩, ⟨[0], [3, 4, 5, 6, 7], [(26, some 7)], false⟩, ⟨[0], [3, 4, 5, 6, 7, 8], [(27, some 8)], false⟩, ⟨[], [0, 1, 2, 3, 4, 5, 6, 7, 8, 9], [], false⟩, ⟨[], [0, 1, 2, 3, 4, 5, 6, 7, 8, 9, 10], [], false⟩] 10 (by kernel_rfl) (by kernel_rfl)
     ·refine ⟨?_, ?_, ?_, ?_, ?_, ?_, ?_, ?_, ?_, ?_, trivial⟩
      ·intro tm hr
       simp [AllL, rdV] at hr
       simp [hr, nth_d e9, f10, encI_cell0 (nth_d e9).2, lvs1, ← e11, ← e12, f13, encI_fit (nth_d e9).2 (show 1 ≤ 1 by decide), f15, f16, f17]
       intros; first | exact KD.mk | exact KD.mkN
      ·intro tm hr
       simp [AllL, rdV] at hr
       simp [hr, nth_d e9, f10, encI_cell0 (nth_d e9).2, lvs1, ← e11, ← e12, f13, encI_fit (nth_d e9).2 (show 1 ≤ 1 by decide), f15, f16, f17]
       intros; first | exact KD.mk | exact KD.mkN
      ·intro tm hr
       simp [AllL, rdV] at hr
       simp [hr, nth_d e9, f10, encI_cell0 (nth_d e9).2, lvs1, ← e11, ← e12, f13, encI_fit (nth_d e9).2 (show 1 ≤ 1 by decide), f15, f16, f17]
       intros; first | exact KD.mk | exact KD.mkN
      ·intro tm hr
       simp [AllL, rdV] at hr
       simp [hr, nth_d e9, f10, encI_cell0 (nth_d e9).2, lvs1, ← e11, ← e12, f13, encI_fit (nth_d e9).2 (show 1 ≤ 1 by decide), f15, f16, f17]
       intros; first | exact KD.mk | exact KD.mkN
      ·intro tm hr
       simp [AllL, rdV] at hr
       simp [hr, nth_d e9, f10, encI_cell0 (nth_d e9).2, lvs1, ← e11, ← e12, f13, encI_fit (nth_d e9).2 (show 1 ≤ 1 by decide), f15, f16, f17]
       intros; first | exact KD.mk | exact KD.mkN
      ·intro tm hr
       simp [AllL, rdV] at hr
       simp [hr, nth_d e9, f10, encI_cell0 (nth_d e9).2, lvs1, ← e11, ← e12, f13, encI_fit (nth_d e9).2 (show 1 ≤ 1 by decide), f15, f16, f17]
       intros; first | exact KD.mk | exact KD.mkN
      ·intro tm hr
       simp [AllL, rdV] at hr
       simp [hr, nth_d e9, f10, encI_cell0 (nth_d e9).2, lvs1, ← e11, ← e12, f13, encI_fit (nth_d e9).2 (show 1 ≤ 1 by decide), f15, f16, f17]
       intros; first | exact KD.mk | exact KD.mkN
      ·intro tm hr
       simp [AllL, rdV] at hr
       simp [hr, nth_d e9, f10, encI_cell0 (nth_d e9).2, lvs1, ← e11, ← e12, f13, encI_fit (nth_d e9).2 (show 1 ≤ 1 by decide), f15, f16, f17]
       intros; first | exact KD.mk | exact KD.mkN
      ·intro tm hr
       simp [AllL, rdV] at hr
       simp [hr, nth_d e9, f10, encI_cell0 (nth_d e9).2, lvs1, ← e11, ← e12, f13, encI_fit (nth_d e9).2 (show 1 ≤ 1 by decide), f15, f16, f17]
       intros; first | exact KD.mk | exact KD.mkN
      ·intro tm hr
       simp [AllL, rdV] at hr
       simp [hr, nth_d e9, f10, encI_cell0 (nth_d e9).2, lvs1, ← e11, ← e12, f13, encI_fit (nth_d e9).2 (show 1 ≤ 1 by decide), f15, f16, f17]
       intros; first | exact KD.mk | exact KD.mkN
     ·rfl
     ·simp [tmD, putD, nth_d e9, f10, encI_cell0 (nth_d e9).2, lvs1, ← e11, ← e12, f13, encI_fit (nth_d e9).2 (show 1 ≤ 1 by decide), f15, f16, f17]; rfl
     ·simp [nth_d e9, f10, encI_cell0 (nth_d e9).2, lvs1, ← e11, ← e12, f13, encI_fit (nth_d e9).2 (show 1 ≤ 1 by decide), f15, f16, f17]
      intros; rfl
     obtain rfl := Option.some.inj h
     refine nP_i ?_
     refine Weak.mixN [some 0, some 1, some 2, some 3] hn0 (by decide) ?_ ?_ rfl
     all_goals first | (simp [inv_cons, inv_nil, pickOb, set_len e14]; done) | rfl
    | false =>
     replace h := iteF rfl h
     refine AW.cond_false (by simp) ?_
     refine AW.skip ?_
     try simp only [sp_l, sp_r, Post.seq, Post.block, Nat.reduceEqDiff, reduceIte, Nat.zero_ne_one, Nat.one_ne_zero]
     obtain rfl := Option.some.inj h
     refine nP_i ?_
     refine Weak.mixN [some 0, some 1, some 2, some 3] hn0 (by decide) ?_ ?_ rfl
     all_goals first | (simp [inv_cons, inv_nil, pickOb]; done) | rfl
   ·rintro e s hp
    obtain ⟨rfl, hw⟩ := hp
    refine ⟨_, hw, ?_⟩
    try simp only [sp_l, sp_r, Post.seq, Post.block, Nat.reduceEqDiff, reduceIte, Nat.zero_ne_one, Nat.one_ne_zero]
    replace h := ltE h; obtain ⟨v18, e18, h⟩ := h
    apply AW.last
    ·simp [← e18]
     intros; rfl
    obtain rfl := Option.some.inj h
    refine nP_i ?_
    refine Weak.mixN [some 0, some 1, some 2, some 3] hn0 (by decide) ?_ ?_ rfl
    all_goals first | (simp [inv_cons, inv_nil, pickOb]; done) | rfl
  | false =>
   replace h := iteF rfl h
   refine AW.cond_false (by simp) ?_
   refine AW.exit ?_
   try simp only [sp_l, sp_r, Post.seq, Post.block, Nat.reduceEqDiff, reduceIte, Nat.zero_ne_one, Nat.one_ne_zero]
   obtain rfl := Option.some.inj h
   refine xP_i ?_
   refine Weak.mixN [some 0, some 1, some 2, some 3] hn0 (by decide) ?_ ?_ rfl
   all_goals first | (simp [inv_cons, inv_nil, pickOb]; done) | rfl
 ·rintro e s hp
  obtain ⟨rfl, hw⟩ := hp
  refine ⟨_, hw, ?_⟩
  try simp only [sp_l, sp_r, Post.seq, Post.block, Nat.reduceEqDiff, reduceIte, Nat.zero_ne_one, Nat.one_ne_zero]
  apply AW.step
  ·simp
   intros; rfl
  replace h := chkE h; obtain ⟨e19, h⟩ := h
  refine AW.frzRow 2 (ty := 3) (cap := none) (sz := 1) (es := encI y3) (by simp) (by omega) (encI_sz _) (by first | exact (room_d e19).2 | simpa using (room_d e19).2 | simp) (by simp [Tm.frz, AV.frz, LV.frz]; rfl) (by simp [Ob.frz, LV.frz]; rfl) rfl ?_
  replace h := chkE h; obtain ⟨e20, h⟩ := h
  refine AW.frzRow 3 (ty := 33) (cap := none) (sz := 1) (es := encLI v1.says) (by simp) (by omega) (encLI_sz _) (by first | exact (room_d e20).2 | simpa using (room_d e20).2 | simp) (by simp [Tm.frz, AV.frz, LV.frz]; rfl) (by simp [Ob.frz, LV.frz]; rfl) rfl ?_
  obtain rfl := Option.some.inj h
  refine AW.ret ?_
  refine Left.plain hnb (by simp [Try.f17, resV, resC, comp]; rfl) rfl rfl ?_
  simp
theorem en_r13_TickWatch : Enters Try.prog 17 := enters Try.func17 (by kernel_rfl) rfl
def r13_Heard_sh (n : Nat) (a0 : Watch) (a1 : Int) (a2 : List Int) : Option Watch :=
bn (r13_copied_sh n a0) fun v1 =>
bn (bn (lt (geI a1 0) fun v4 =>
ite' v4 (lt (lenI v1.heard) fun v5 =>
lt (ltI a1 v5) fun v6 =>
some (v6)) (some (false))) fun (y3 : Bool) =>
lt (y3) fun v7 =>
ite' v7 (bn (nth v1.heard a1) fun v8 =>
lt (v1.heard.set a1.toNat 0) fun v10 =>
chk (room a2.length 8) <|
bn (nth v1.says a1) fun v14 =>
lt (v1.says.set a1.toNat a2) fun v16 =>
some ((v10, v16))) (some ((v1.heard, v1.says)))) fun (y2 : List Int × List (List Int)) =>
chk (room y2.1.length 1) <|
chk (room y2.2.length 1) <|
some (⟨y2.1, y2.2⟩ : Watch)
set_option maxRecDepth 8000 in
set_option maxHeartbeats 8000000 in
theorem s_r13_Heard {n : Nat} {a0 : Watch} {a1 : Int} {a2 : List Int} {r : Watch} (h : r13_Heard_sh n a0 a1 a2 = some r) : Sound Try.prog 11 [.g [.d false 1 (encI a0.heard), .d false 1 (encLI a0.says)], .l (.s (.int .i64 a1)), .l (.d false 1 (encI a2))] [] (.g [.d false 1 (encI r.heard), .d false 1 (encLI r.says)]) [] := by
 unfold r13_Heard_sh at h
 refine Sound.of_aw (fn := Try.f11) (c := _) Try.func11 rfl (by simp [Try.f11]) fun cx hG hnb => ?_
 rw [show Try.f11.ntmps = 31 from rfl]
 have hn0 : cx.nb = 0 := hnb
 simp only [st0_mk, initTm, List.map_cons, List.map_nil]
 apply AW.step
 ·simp
  intros; rfl
 replace h := bnE h; obtain ⟨v1, e1, h⟩ := h
 apply AW.step
 ·simp [outR]
  intros
  refine xcall_new en_r13_copied (s_r13_copied e1) rfl (by simp) ⟨.same rfl, trivial⟩ ?_
  try simp [outR]
  intros; rfl
 replace h := bnE h; obtain ⟨y2, g2, h⟩ := h
 refine AW.flow (p := fun gh ls => (nP (cx := cx) (fun q => (⟨[(6, .l (.p 0 0)), (7, .l (.p 1 0))], [some ⟨36, 2, false, none, [.s (.slice none 0 0), .s (.slice none 0 0)]⟩, some ⟨36, 2, false, none, [.r 2 1 0 q.1.length, .r 3 1 0 q.2.length]⟩, some ⟨3, 1, true, none, lvs (encI q.1)⟩, some ⟨33, 1, true, none, lvs (encLI q.2)⟩], 31, gh, ls⟩ : St))) y2) ?_ ?_
 ·replace h := g2; clear g2
  replace h := bnE h; obtain ⟨y3, g3, h⟩ := h
  refine AW.flow (p := fun gh ls => (nP (cx := cx) (fun q => (⟨[(1, .l (.s (.int .i64 a1))), (2, .l (.d false 1 (encI a2))), (6, .l (.p 0 0)), (7, .l (.p 1 0)), (18, .l (.s (.bool q)))], [some ⟨36, 2, false, none, [.s (.slice none 0 0), .s (.slice none 0 0)]⟩, some ⟨36, 2, false, none, [.r 2 1 0 v1.heard.length, .r 3 1 0 v1.says.length]⟩, some ⟨3, 1, true, none, lvs (encI v1.heard)⟩, some ⟨33, 1, true, none, lvs (encLI v1.says)⟩], 31, gh, ls⟩ : St))) y3) ?_ ?_
  ·replace h := g3; clear g3
   replace h := ltE h; obtain ⟨v4, e4, h⟩ := h
   cases v4 with
   | true =>
    replace h := iteT rfl h
    replace h := ltE h; obtain ⟨v5, e5, h⟩ := h
    replace h := ltE h; obtain ⟨v6, e6, h⟩ := h
    apply AW.last
    ·simp [← e4, lenI_cast e5, ← e6]
     intros; rfl
    obtain rfl := Option.some.inj h
    refine nP_i ?_
    refine Weak.mixN [some 1, some 4, some 2, some 3] hn0 (by decide) ?_ ?_ rfl
    all_goals first | (simp [inv_cons, inv_nil, pickOb]; done) | rfl
   | false =>
    replace h := iteF rfl h
    apply AW.last
    ·simp [← e4]
     intros; rfl
    obtain rfl := Option.some.inj h
    refine nP_i ?_
    refine Weak.mixN [some 1, some 4, some 2, some 3] hn0 (by decide) ?_ ?_ rfl
    all_goals first | (simp [inv_cons, inv_nil, pickOb]; done) | rfl
  ·rintro e s hp
   obtain ⟨rfl, hw⟩ := hp
   refine ⟨_, hw, ?_⟩
   try simp only [sp_l, sp_r, Post.seq, Post.block, Nat.reduceEqDiff, reduceIte, Nat.zero_ne_one, Nat.one_ne_zero]
   replace h := ltE h; obtain ⟨v7, e7, h⟩ := h
   rw [← e7]
   cases v7 with
   | true =>
    replace h := iteT rfl h
    refine AW.cond_true (by simp) ?_
    replace h := bnE h; obtain ⟨v8, e8, h⟩ := h
    have f9 := nth_lt e8
    try simp [nth_d e8] at f9
    replace h := ltE h; obtain ⟨v10, e10, h⟩ := h
    have f11 := encI_put0 (nth_d e8).2 e10 (cs := [.s (.int .i64 0)]) (by simp) rfl
    try simp at f11
    have f12 := f9
    try simp only [set_len e10] at f12
    apply AW.step
    ·simp [nth_d e8, f9, encI_fit (nth_d e8).2 (show 1 ≤ 1 by decide), f11, f12]
     intros; rfl
    replace h := chkE h; obtain ⟨e13, h⟩ := h
    replace h := bnE h; obtain ⟨v14, e14, h⟩ := h
    have f15 := nth_lt e14
    try simp [nth_d e14] at f15
    replace h := ltE h; obtain ⟨v16, e16, h⟩ := h
    have f17 := encLI_put0 (nth_d e14).2 e16 (cs := [.d false 1 (encI a2)]) (by simp) rfl
    try simp at f17
    have f18 := f15
    try simp only [set_len e16] at f18
    apply AW.drawnF (V := [_, _, _, _, _, _]) (M := [[some ⟨36, 2, false, none, [.s (.slice none 0 0), .s (.slice none 0 0)]⟩, some ⟨36, 2, false, none, [.r 2 1 0 v1.heard.length, .r 3 1 0 v1.says.length]⟩, some ⟨3, 1, true, none, lvs (encI v10)⟩, some ⟨33, 1, true, none, lvs (encLI v1.says)⟩], [some ⟨36, 2, false, none, [.s (.slice none 0 0), .s (.slice none 0 0)]⟩, some ⟨36, 2, false, none, [.r 2 1 0 v1.heard.length, .r 3 1 0 v1.says.length]⟩, some ⟨3, 1, true, none, lvs (encI v10)⟩, some ⟨33, 1, true, none, lvs (encLI v1.says)⟩, some ⟨3, 1, true, none, []⟩], [some ⟨36, 2, false, none, [.s (.slice none 0 0), .s (.slice none 0 0)]⟩, some ⟨36, 2, false, none, [.r 2 1 0 v1.heard.length, .r 3 1 0 v1.says.length]⟩, some ⟨3, 1, true, none, lvs (encI v10)⟩, some ⟨33, 1, true, none, lvs (encLI v1.says)⟩, none, none]]) mixed [⟨[0, 1, 2], [], [(7, none)], false⟩, ⟨[0, 1, 2], [0], [(23, some 0)], false⟩, ⟨[0, 1, 2], [], [(1, none)], false⟩, ⟨[0], [], [], true⟩, ⟨[0, 1], [], [(2, none)], false⟩, ⟨[1], [3, 4], [(26, some 3), (27, some 4)], true⟩, ⟨[], [0, 1, 2, 3, 4, 5], [], false⟩, ⟨[], [0, 1, 2, 3, 4, 5, 6], [], false⟩] 6 2 (by kernel_rfl) (by kernel_rfl)
    ·rfl
    ·refine ⟨⟨?_, ?_, ?_⟩, ⟨?_, ?_, ?_⟩, ⟨?_, ?_, ?_⟩, ?_, ⟨?_, ?_⟩, ?_, trivial⟩
     ·intro tm hr
      simp [AllL, rdV] at hr
      simp [hr, nth_d e14, f15, encLI_fit (nth_d e14).2 (show 1 ≤ 1 by decide), f17, f18]
      intros; first | exact KD.mk | exact KD.mkN
     ·intro tm hr
      simp [AllL, rdV] at hr
      simp [hr, nth_d e14, f15, encLI_fit (nth_d e14).2 (show 1 ≤ 1 by decide), f17, f18]
      intros; first | exact KD.mk | exact KD.mkN
     ·intro tm hr
      simp [AllL, rdV] at hr
      simp [hr, nth_d e14, f15, encLI_fit (nth_d e14).2 (show 1 ≤ 1 by decide), f17, f18]
      intros; first | exact KD.mk | exact KD.mkN
     ·intro tm hr
      simp [AllL, rdV] at hr
      simp [hr, nth_d e14, f15, encLI_fit (nth_d e14).2 (show 1 ≤ 1 by decide), f17, f18]
      intros; first | exact KD.mk | exact KD.mkN
     ·intro tm hr
      simp [AllL, rdV] at hr
      simp [hr, nth_d e14, f15, encLI_fit (nth_d e14).2 (show 1 ≤ 1 by decide), f17, f18]
      intros; first | exact KD.mk | exact KD.mkN
     ·intro tm hr
      simp [AllL, rdV] at hr
      simp [hr, nth_d e14, f15, encLI_fit (nth_d e14).2 (show 1 ≤ 1 by decide), f17, f18]
      intros; first | exact KD.mk | exact KD.mkN
     ·intro tm hr
      simp [AllL, rdV] at hr
      simp [hr, nth_d e14, f15, encLI_fit (nth_d e14).2 (show 1 ≤ 1 by decide), f17, f18]
      intros; first | exact KD.mk | exact KD.mkN
     ·intro tm hr
      simp [AllL, rdV] at hr
      simp [hr, nth_d e14, f15, encLI_fit (nth_d e14).2 (show 1 ≤ 1 by decide), f17, f18]
      intros; first | exact KD.mk | exact KD.mkN
     ·intro tm hr
      simp [AllL, rdV] at hr
      simp [hr, nth_d e14, f15, encLI_fit (nth_d e14).2 (show 1 ≤ 1 by decide), f17, f18]
      intros; first | exact KD.mk | exact KD.mkN
     ·intro tm hr
      simp [AllL, rdV] at hr
      simp [hr, nth_d e14, f15, encLI_fit (nth_d e14).2 (show 1 ≤ 1 by decide), f17, f18]
      intros
      refine xrow_own ?_
      try simp [nth_d e14, f15, encLI_fit (nth_d e14).2 (show 1 ≤ 1 by decide), f17, f18]
      intros; first | exact KD.mk | exact KD.mkN
     ·intro tm hr
      simp [AllL, rdV] at hr
      simp [hr, nth_d e14, f15, encLI_fit (nth_d e14).2 (show 1 ≤ 1 by decide), f17, f18]
      intros; first | exact KD.mk | exact KD.mkN
     ·intro tm hr
      simp [AllL, rdV] at hr
      simp [hr, nth_d e14, f15, encLI_fit (nth_d e14).2 (show 1 ≤ 1 by decide), f17, f18]
      intros; first | exact KD.mk | exact KD.mkN
     ·intro tm hr
      simp [AllL, rdV] at hr
      simp [hr, nth_d e14, f15, encLI_fit (nth_d e14).2 (show 1 ≤ 1 by decide), f17, f18]
      intros
      refine xapp_data (acc := []) (ys := encI a2) (cap := none) (k := a2.length) tb_el33 tb_ti3 (by simp) (by rw [src_d]; simp) (by simp) (encI_sz _) (by simp) (by simp) (by simp) (by first | (simp; done) | simpa using (room_d e13).1) (by first | (simp; done) | simpa using (room_d e13).2) ?_
      try simp [nth_d e14, f15, encLI_fit (nth_d e14).2 (show 1 ≤ 1 by decide), f17, f18]
      intros; first | exact KD.mk | exact KD.mkN
    ·rfl
    ·simp [tmD, putD, nth_d e14, f15, encLI_fit (nth_d e14).2 (show 1 ≤ 1 by decide), f17, f18]; rfl
    ·simp [nth_d e14, f15, encLI_fit (nth_d e14).2 (show 1 ≤ 1 by decide), f17, f18]
     intros; rfl
    obtain rfl := Option.some.inj h
    refine nP_i ?_
    refine Weak.mixN [some 0, some 1, some 2, some 3] hn0 (by decide) ?_ ?_ rfl
    all_goals first | (simp [inv_cons, inv_nil, pickOb, set_len e10, set_len e16]; done) | rfl
   | false =>
    replace h := iteF rfl h
    refine AW.cond_false (by simp) ?_
    refine AW.skip ?_
    try simp only [sp_l, sp_r, Post.seq, Post.block, Nat.reduceEqDiff, reduceIte, Nat.zero_ne_one, Nat.one_ne_zero]
    obtain rfl := Option.some.inj h
    refine nP_i ?_
    refine Weak.mixN [some 0, some 1, some 2, some 3] hn0 (by decide) ?_ ?_ rfl
    all_goals first | (simp [inv_cons, inv_nil, pickOb]; done) | rfl
 ·rintro e s hp
  obtain ⟨rfl, hw⟩ := hp
  refine ⟨_, hw, ?_⟩
  try simp only [sp_l, sp_r, Post.seq, Post.block, Nat.reduceEqDiff, reduceIte, Nat.zero_ne_one, Nat.one_ne_zero]
  apply AW.step
  ·simp
   intros; rfl
  replace h := chkE h; obtain ⟨e19, h⟩ := h
  refine AW.frzRow 2 (ty := 3) (cap := none) (sz := 1) (es := encI y2.1) (by simp) (by omega) (encI_sz _) (by first | exact (room_d e19).2 | simpa using (room_d e19).2 | simp) (by simp [Tm.frz, AV.frz, LV.frz]; rfl) (by simp [Ob.frz, LV.frz]; rfl) rfl ?_
  replace h := chkE h; obtain ⟨e20, h⟩ := h
  refine AW.frzRow 3 (ty := 33) (cap := none) (sz := 1) (es := encLI y2.2) (by simp) (by omega) (encLI_sz _) (by first | exact (room_d e20).2 | simpa using (room_d e20).2 | simp) (by simp [Tm.frz, AV.frz, LV.frz]; rfl) (by simp [Ob.frz, LV.frz]; rfl) rfl ?_
  obtain rfl := Option.some.inj h
  refine AW.ret ?_
  refine Left.plain hnb (by simp [Try.f11, resV, resC, comp]; rfl) rfl rfl ?_
  simp
theorem en_r13_Heard : Enters Try.prog 11 := enters Try.func11 (by kernel_rfl) rfl
def l18_Silent_sh (n : Nat) (a0 : Node) (a1 : Int) : Option Node :=
bn (iter n (fun (y1 : Int × Node) =>
lt (ltI y1.1 6) fun v4 =>
ite' v4 (bn (r13_TickWatch_sh n y1.2.watch y1.2.id) fun v5 =>
lt (addI .i64 y1.1 1) fun v6 =>
some (.inl (v6, (⟨y1.2.count, y1.2.id, y1.2.master, y1.2.epoch, y1.2.voted, y1.2.claims, y1.2.db, y1.2.moves, y1.2.last, y1.2.seen, y1.2.feed, v5, y1.2.asked, y1.2.votes, y1.2.wait⟩ : Node)))) (some (.inr y1.2))) (0, a0)) fun (y2 : Node) =>
bn (iter n (fun (y7 : Int × Node) =>
lt (ltI y7.1 y7.2.count) fun v10 =>
ite' v10 (bn (bn (lt (neI y7.1 a1) fun v13 =>
ite' v13 (lt (neI y7.1 y7.2.id) fun v14 =>
some (v14)) (some (false))) fun (y12 : Bool) =>
lt (y12) fun v15 =>
ite' v15 (bn (r13_Heard_sh n y7.2.watch y7.1 [a1]) fun v16 =>
some ((⟨y7.2.count, y7.2.id, y7.2.master, y7.2.epoch, y7.2.voted, y7.2.claims, y7.2.db, y7.2.moves, y7.2.last, y7.2.seen, y7.2.feed, v16, y7.2.asked, y7.2.votes, y7.2.wait⟩ : Node))) (some (y7.2))) fun (y11 : Node) =>
lt (addI .i64 y7.1 1) fun v17 =>
some (.inl (v17, y11))) (some (.inr y7.2))) (0, y2)) fun (y8 : Node) =>
some y8
set_option maxRecDepth 8000 in
set_option maxHeartbeats 8000000 in
theorem s_l18_Silent {n : Nat} {a0 : Node} {a1 : Int} {r : Node} (h : l18_Silent_sh n a0 a1 = some r) : Sound Try.prog 8 [.g [.s (.int .i64 a0.count), .s (.int .i64 a0.id), .s (.int .i64 a0.master), .s (.int .i64 a0.epoch), .s (.int .i64 a0.voted), .d false 4 (encClaim a0.claims), .d false 6 (encPair a0.db), .d false 4 (encMove a0.moves), .s (.int .i64 a0.last), .d false 3 (encSeen a0.seen), .s (.int .i64 a0.feed.rid.node), .s (.int .i64 a0.feed.rid.epoch), .s (.int .i64 a0.feed.off), .d false 7 (encEffect a0.feed.back), .s (.int .i64 a0.feed.prev.node), .s (.int .i64 a0.feed.prev.epoch), .s (.int .i64 a0.feed.upto), .d false 1 (encI a0.watch.heard), .d false 1 (encLI a0.watch.says), .s (.int .i64 a0.asked), .d false 1 (encI a0.votes), .s (.int .i64 a0.wait)], .l (.s (.int .i64 a1))] [] (.g [.s (.int .i64 r.count), .s (.int .i64 r.id), .s (.int .i64 r.master), .s (.int .i64 r.epoch), .s (.int .i64 r.voted), .d false 4 (encClaim r.claims), .d false 6 (encPair r.db), .d false 4 (encMove r.moves), .s (.int .i64 r.last), .d false 3 (encSeen r.seen), .s (.int .i64 r.feed.rid.node), .s (.int .i64 r.feed.rid.epoch), .s (.int .i64 r.feed.off), .d false 7 (encEffect r.feed.back), .s (.int .i64 r.feed.prev.node), .s (.int .i64 r.feed.prev.epoch), .s (.int .i64 r.feed.upto), .d false 1 (encI r.watch.heard), .d false 1 (encLI r.watch.says), .s (.int .i64 r.asked), .d false 1 (encI r.votes), .s (.int .i64 r.wait)]) [] := by
 unfold l18_Silent_sh at h
 refine Sound.of_aw (fn := Try.f8) (c := _) Try.func8 rfl (by simp [Try.f8]) fun cx hG hnb => ?_
 rw [show Try.f8.ntmps = 40 from rfl]
 have hn0 : cx.nb = 0 := hnb
 simp only [st0_mk, initTm, List.map_cons, List.map_nil]
 apply AW.step
 ·simp
  intros; rfl
 refine AW.seq ?_
 apply AW.step
 ·simp
  intros; rfl
 refine AW.block ?_
 replace h := bnE h; obtain ⟨y2, g2, h⟩ := h
 refine AW.iterP g2 (mk := fun gh ls q => (⟨[(1, .l (.s (.int .i64 a1))), (2, .l (.p 0 0)), (4, .l (.p 1 0)), (5, .l (.s (.int .i64 q.1)))], [some ⟨38, 22, false, none, [.s (.int .i64 q.2.count), .s (.int .i64 q.2.id), .s (.int .i64 q.2.master), .s (.int .i64 q.2.epoch), .s (.int .i64 q.2.voted), .d false 4 (encClaim q.2.claims), .d false 6 (encPair q.2.db), .d false 4 (encMove q.2.moves), .s (.int .i64 q.2.last), .d false 3 (encSeen q.2.seen), .s (.int .i64 q.2.feed.rid.node), .s (.int .i64 q.2.feed.rid.epoch), .s (.int .i64 q.2.feed.off), .d false 7 (encEffect q.2.feed.back), .s (.int .i64 q.2.feed.prev.node), .s (.int .i64 q.2.feed.prev.epoch), .s (.int .i64 q.2.feed.upto), .d false 1 (encI q.2.watch.heard), .d false 1 (encLI q.2.watch.says), .s (.int .i64 q.2.asked), .d false 1 (encI q.2.votes), .s (.int .i64 q.2.wait)]⟩, some ⟨38, 22, false, none, [.s (.int .i64 0), .s (.int .i64 0), .s (.int .i64 0), .s (.int .i64 0), .s (.int .i64 0), .s (.slice none 0 0), .s (.slice none 0 0), .s (.slice none 0 0), .s (.int .i64 0), .s (.slice none 0 0), .s (.int .i64 0), .s (.int .i64 0), .s (.int .i64 0), .s (.slice none 0 0), .s (.int .i64 0), .s (.int .i64 0), .s (.int .i64 0), .s (.slice none 0 0), .s (.slice none 0 0), .s (.int .i64 0), .s (.slice none 0 0), .s (.int .i64 0)]⟩], 40, gh, ls⟩ : St)) (N := fun gh ls => (xP 0 (cx := cx) (fun q => (⟨[(1, .l (.s (.int .i64 a1))), (2, .l (.p 0 0)), (4, .l (.p 1 0))], [some ⟨38, 22, false, none, [.s (.int .i64 q.count), .s (.int .i64 q.id), .s (.int .i64 q.master), .s (.int .i64 q.epoch), .s (.int .i64 q.voted), .d false 4 (encClaim q.claims), .d false 6 (encPair q.db), .d false 4 (encMove q.moves), .s (.int .i64 q.last), .d false 3 (encSeen q.seen), .s (.int .i64 q.feed.rid.node), .s (.int .i64 q.feed.rid.epoch), .s (.int .i64 q.feed.off), .d false 7 (encEffect q.feed.back), .s (.int .i64 q.feed.prev.node), .s (.int .i64 q.feed.prev.epoch), .s (.int .i64 q.feed.upto), .d false 1 (encI q.watch.heard), .d false 1 (encLI q.watch.says), .s (.int .i64 q.asked), .d false 1 (encI q.votes), .s (.int .i64 q.wait)]⟩, some ⟨38, 22, false, none, [.s (.int .i64 0), .s (.int .i64 0), .s (.int .i64 0), .s (.int .i64 0), .s (.int .i64 0), .s (.slice none 0 0), .s (.slice none 0 0), .s (.slice none 0 0), .s (.int .i64 0), .s (.slice none 0 0), .s (.int .i64 0), .s (.int .i64 0), .s (.int .i64 0), .s (.slice none 0 0), .s (.int .i64 0), .s (.int .i64 0), .s (.int .i64 0), .s (.slice none 0 0), .s (.slice none 0 0), .s (.int .i64 0), .s (.slice none 0 0), .s (.int .i64 0)]⟩], 40, gh, ls⟩ : St)))) ?_ noX ?_ ?_
 ·refine Weak.mixN [some 0, some 1] hn0 (by decide) ?_ ?_ rfl
  all_goals first | (simp [inv_cons, inv_nil, pickOb]; done) | rfl
 ·clear h; intro y1 y3 h
  refine AW.seq ?_
  replace h := ltE h; obtain ⟨v4, e4, h⟩ := h
  apply AW.step
  ·simp [← e4]
   intros; rfl
  cases v4 with
  | true =>
   replace h := iteT rfl h
   refine AW.cond_true (by simp) ?_
   refine AW.skip ?_
   try simp only [sp_l, sp_r, Post.seq, Post.block, Nat.reduceEqDiff, reduceIte, Nat.zero_ne_one, Nat.one_ne_zero]
   try simp only [sp_l, sp_r, Post.seq, Post.block, Nat.reduceEqDiff, reduceIte, Nat.zero_ne_one, Nat.one_ne_zero]
   refine AW.seq ?_
   refine AW.block ?_
   replace h := bnE h; obtain ⟨v5, e5, h⟩ := h
   apply AW.last
   ·simp
    intros
    refine xcall_plain en_r13_TickWatch (s_r13_TickWatch e5) rfl ⟨.same rfl, .same rfl, trivial⟩ ?_
    try simp
    intros; rfl
   try simp only [sp_l, sp_r, Post.seq, Post.block, Nat.reduceEqDiff, reduceIte, Nat.zero_ne_one, Nat.one_ne_zero]
   replace h := ltE h; obtain ⟨v6, e6, h⟩ := h
   apply AW.last
   ·simp [← e6]
    intros; rfl
   obtain rfl := Option.some.inj h
   refine nP_i ?_
   refine Weak.mixN [some 0, some 1] hn0 (by decide) ?_ ?_ rfl
   all_goals first | (simp [inv_cons, inv_nil, pickOb]; done) | rfl
  | false =>
   replace h := iteF rfl h
   refine AW.cond_false (by simp) ?_
   refine AW.exit ?_
   try simp only [sp_l, sp_r, Post.seq, Post.block, Nat.reduceEqDiff, reduceIte, Nat.zero_ne_one, Nat.one_ne_zero]
   obtain rfl := Option.some.inj h
   refine xP_i ?_
   refine Weak.mixN [some 0, some 1] hn0 (by decide) ?_ ?_ rfl
   all_goals first | (simp [inv_cons, inv_nil, pickOb]; done) | rfl
 ·rintro e s hp
  obtain ⟨rfl, hw⟩ := hp
  refine ⟨_, hw, ?_⟩
  try simp only [sp_l, sp_r, Post.seq, Post.block, Nat.reduceEqDiff, reduceIte, Nat.zero_ne_one, Nat.one_ne_zero]
  refine AW.seq ?_
  apply AW.step
  ·simp
   intros; rfl
  refine AW.block ?_
  replace h := bnE h; obtain ⟨y8, g8, h⟩ := h
  refine AW.iterP g8 (mk := fun gh ls q => (⟨[(1, .l (.s (.int .i64 a1))), (2, .l (.p 0 0)), (4, .l (.p 1 0)), (6, .l (.s (.int .i64 q.1)))], [some ⟨38, 22, false, none, [.s (.int .i64 q.2.count), .s (.int .i64 q.2.id), .s (.int .i64 q.2.master), .s (.int .i64 q.2.epoch), .s (.int .i64 q.2.voted), .d false 4 (encClaim q.2.claims), .d false 6 (encPair q.2.db), .d false 4 (encMove q.2.moves), .s (.int .i64 q.2.last), .d false 3 (encSeen q.2.seen), .s (.int .i64 q.2.feed.rid.node), .s (.int .i64 q.2.feed.rid.epoch), .s (.int .i64 q.2.feed.off), .d false 7 (encEffect q.2.feed.back), .s (.int .i64 q.2.feed.prev.node), .s (.int .i64 q.2.feed.prev.epoch), .s (.int .i64 q.2.feed.upto), .d false 1 (encI q.2.watch.heard), .d false 1 (encLI q.2.watch.says), .s (.int .i64 q.2.asked), .d false 1 (encI q.2.votes), .s (.int .i64 q.2.wait)]⟩, some ⟨38, 22, false, none, [.s (.int .i64 0), .s (.int .i64 0), .s (.int .i64 0), .s (.int .i64 0), .s (.int .i64 0), .s (.slice none 0 0), .s (.slice none 0 0), .s (.slice none 0 0), .s (.int .i64 0), .s (.slice none 0 0), .s (.int .i64 0), .s (.int .i64 0), .s (.int .i64 0), .s (.slice none 0 0), .s (.int .i64 0), .s (.int .i64 0), .s (.int .i64 0), .s (.slice none 0 0), .s (.slice none 0 0), .s (.int .i64 0), .s (.slice none 0 0), .s (.int .i64 0)]⟩], 40, gh, ls⟩ : St)) (N := fun gh ls => (xP 2 (cx := cx) (fun q => (⟨[(2, .l (.p 0 0)), (4, .l (.p 1 0))], [some ⟨38, 22, false, none, [.s (.int .i64 q.count), .s (.int .i64 q.id), .s (.int .i64 q.master), .s (.int .i64 q.epoch), .s (.int .i64 q.voted), .d false 4 (encClaim q.claims), .d false 6 (encPair q.db), .d false 4 (encMove q.moves), .s (.int .i64 q.last), .d false 3 (encSeen q.seen), .s (.int .i64 q.feed.rid.node), .s (.int .i64 q.feed.rid.epoch), .s (.int .i64 q.feed.off), .d false 7 (encEffect q.feed.back), .s (.int .i64 q.feed.prev.node), .s (.int .i64 q.feed.prev.epoch), .s (.int .i64 q.feed.upto), .d false 1 (encI q.watch.heard), .d false 1 (encLI q.watch.says), .s (.int .i64 q.asked), .d false 1 (encI q.votes), .s (.int .i64 q.wait)]⟩, some ⟨38, 22, false, none, [.s (.int .i64 0), .s (.int .i64 0), .s (.int .i64 0), .s (.int .i64 0), .s (.int .i64 0), .s (.slice none 0 0), .s (.slice none 0 0), .s (.slice none 0 0), .s (.int .i64 0), .s (.slice none 0 0), .s (.int .i64 0), .s (.int .i64 0), .s (.int .i64 0), .s (.slice none 0 0), .s (.int .i64 0), .s (.int .i64 0), .s (.int .i64 0), .s (.slice none 0 0), .s (.slice none 0 0), .s (.int .i64 0), .s (.slice none 0 0), .s (.int .i64 0)]⟩], 40, gh, ls⟩ : St)))) ?_ noX ?_ ?_
  ·refine Weak.mixN [some 0, some 1] hn0 (by decide) ?_ ?_ rfl
   all_goals first | (simp [inv_cons, inv_nil, pickOb]; done) | rfl
  ·clear h; intro y7 y9 h
   refine AW.seq ?_
   replace h := ltE h; obtain ⟨v10, e10, h⟩ := h
   apply AW.step
   ·simp [← e10]
    intros; rfl
   cases v10 with
   | true =>
    replace h := iteT rfl h
    refine AW.cond_true (by simp) ?_
    refine AW.skip ?_
    try simp only [sp_l, sp_r, Post.seq, Post.block, Nat.reduceEqDiff, reduceIte, Nat.zero_ne_one, Nat.one_ne_zero]
    try simp only [sp_l, sp_r, Post.seq, Post.block, Nat.reduceEqDiff, reduceIte, Nat.zero_ne_one, Nat.one_ne_zero]
    replace h := bnE h; obtain ⟨y11, g11, h⟩ := h
    refine AW.flow (p := fun gh ls => (nP (cx := cx) (fun q => (⟨[(1, .l (.s (.int .i64 a1))), (2, .l (.p 0 0)), (4, .l (.p 1 0)), (6, .l (.s (.int .i64 y7.1)))], [some ⟨38, 22, false, none, [.s (.int .i64 q.count), .s (.int .i64 q.id), .s (.int .i64 q.master), .s (.int .i64 q.epoch), .s (.int .i64 q.voted), .d false 4 (encClaim q.claims), .d false 6 (encPair q.db), .d false 4 (encMove q.moves), .s (.int .i64 q.last), .d false 3 (encSeen q.seen), .s (.int .i64 q.feed.rid.node), .s (.int .i64 q.feed.rid.epoch), .s (.int .i64 q.feed.off), .d false 7 (encEffect q.feed.back), .s (.int .i64 q.feed.prev.node), .s (.int .i64 q.feed.prev.epoch), .s (.int .i64 q.feed.upto), .d false 1 (encI q.watch.heard), .d false 1 (encLI q.watch.says), .s (.int .i64 q.asked), .d false 1 (encI q.votes), .s (.int .i64 q.wait)]⟩, some ⟨38, 22, false, none, [.s (.int .i64 0), .s (.int .i64 0), .s (.int .i64 0), .s (.int .i64 0), .s (.int .i64 0), .s (.slice none 0 0), .s (.slice none 0 0), .s (.slice none 0 0), .s (.int .i64 0), .s (.slice none 0 0), .s (.int .i64 0), .s (.int .i64 0), .s (.int .i64 0), .s (.slice none 0 0), .s (.int .i64 0), .s (.int .i64 0), .s (.int .i64 0), .s (.slice none 0 0), .s (.slice none 0 0), .s (.int .i64 0), .s (.slice none 0 0), .s (.int .i64 0)]⟩], 40, gh, ls⟩ : St))) y11) ?_ ?_
    ·replace h := g11; clear g11
     refine AW.block ?_
     replace h := bnE h; obtain ⟨y12, g12, h⟩ := h
     refine AW.flow (p := fun gh ls => (nP (cx := cx) (fun q => (⟨[(1, .l (.s (.int .i64 a1))), (2, .l (.p 0 0)), (4, .l (.p 1 0)), (6, .l (.s (.int .i64 y7.1))), (31, .l (.s (.bool q)))], [some ⟨38, 22, false, none, [.s (.int .i64 y7.2.count), .s (.int .i64 y7.2.id), .s (.int .i64 y7.2.master), .s (.int .i64 y7.2.epoch), .s (.int .i64 y7.2.voted), .d false 4 (encClaim y7.2.claims), .d false 6 (encPair y7.2.db), .d false 4 (encMove y7.2.moves), .s (.int .i64 y7.2.last), .d false 3 (encSeen y7.2.seen), .s (.int .i64 y7.2.feed.rid.node), .s (.int .i64 y7.2.feed.rid.epoch), .s (.int .i64 y7.2.feed.off), .d false 7 (encEffect y7.2.feed.back), .s (.int .i64 y7.2.feed.prev.node), .s (.int .i64 y7.2.feed.prev.epoch), .s (.int .i64 y7.2.feed.upto), .d false 1 (encI y7.2.watch.heard), .d false 1 (encLI y7.2.watch.says), .s (.int .i64 y7.2.asked), .d false 1 (encI y7.2.votes), .s (.int .i64 y7.2.wait)]⟩, some ⟨38, 22, false, none, [.s (.int .i64 0), .s (.int .i64 0), .s (.int .i64 0), .s (.int .i64 0), .s (.int .i64 0), .s (.slice none 0 0), .s (.slice none 0 0), .s (.slice none 0 0), .s (.int .i64 0), .s (.slice none 0 0), .s (.int .i64 0), .s (.int .i64 0), .s (.int .i64 0), .s (.slice none 0 0), .s (.int .i64 0), .s (.int .i64 0), .s (.int .i64 0), .s (.slice none 0 0), .s (.slice none 0 0), .s (.int .i64 0), .s (.slice none 0 0), .s (.int .i64 0)]⟩], 40, gh, ls⟩ : St))) y12) ?_ ?_
     ·replace h := g12; clear g12
      replace h := ltE h; obtain ⟨v13, e13, h⟩ := h
      cases v13 with
      | true =>
       replace h := iteT rfl h
       replace h := ltE h; obtain ⟨v14, e14, h⟩ := h
       apply AW.last
       ·simp [← e13, ← e14]
        intros; rfl
       obtain rfl := Option.some.inj h
       refine nP_i ?_
       refine Weak.mixN [some 0, some 1] hn0 (by decide) ?_ ?_ rfl
       all_goals first | (simp [inv_cons, inv_nil, pickOb]; done) | rfl
      | false =>
       replace h := iteF rfl h
       apply AW.last
       ·simp [← e13]
        intros; rfl
       obtain rfl := Option.some.inj h
       refine nP_i ?_
       refine Weak.mixN [some 0, some 1] hn0 (by decide) ?_ ?_ rfl
       all_goals first | (simp [inv_cons, inv_nil, pickOb]; done) | rfl
     ·rintro e s hp
      obtain ⟨rfl, hw⟩ := hp
      refine ⟨_, hw, ?_⟩
      try simp only [sp_l, sp_r, Post.seq, Post.block, Nat.reduceEqDiff, reduceIte, Nat.zero_ne_one, Nat.one_ne_zero]
      replace h := ltE h; obtain ⟨v15, e15, h⟩ := h
      rw [← e15]
      cases v15 with
      | true =>
       replace h := iteT rfl h
       refine AW.cond_true (by simp) ?_
       replace h := bnE h; obtain ⟨v16, e16, h⟩ := h
       apply AW.last
       ·simp
        intros
        refine xrow_data (es := encI [a1]) (by simp [encI, lvs, All2]) (encI_sz _) (by omega) (by simp) ?_
        try simp
        intros
        refine xcall_plain en_r13_Heard (s_r13_Heard e16) rfl ⟨.same rfl, .same rfl, .same rfl, trivial⟩ ?_
        try simp
        intros; rfl
       obtain rfl := Option.some.inj h
       refine nP_i ?_
       refine Weak.mixN [some 0, some 1] hn0 (by decide) ?_ ?_ rfl
       all_goals first | (simp [inv_cons, inv_nil, pickOb]; done) | rfl
      | false =>
       replace h := iteF rfl h
       refine AW.cond_false (by simp) ?_
       refine AW.skip ?_
       try simp only [sp_l, sp_r, Post.seq, Post.block, Nat.reduceEqDiff, reduceIte, Nat.zero_ne_one, Nat.one_ne_zero]
       obtain rfl := Option.some.inj h
       refine nP_i ?_
       refine Weak.mixN [some 0, some 1] hn0 (by decide) ?_ ?_ rfl
       all_goals first | (simp [inv_cons, inv_nil, pickOb]; done) | rfl
    ·rintro e s hp
     obtain ⟨rfl, hw⟩ := hp
     refine ⟨_, hw, ?_⟩
     try simp only [sp_l, sp_r, Post.seq, Post.block, Nat.reduceEqDiff, reduceIte, Nat.zero_ne_one, Nat.one_ne_zero]
     replace h := ltE h; obtain ⟨v17, e17, h⟩ := h
     apply AW.last
     ·simp [← e17]
      intros; rfl
     obtain rfl := Option.some.inj h
     refine nP_i ?_
     refine Weak.mixN [some 0, some 1] hn0 (by decide) ?_ ?_ rfl
     all_goals first | (simp [inv_cons, inv_nil, pickOb]; done) | rfl
   | false =>
    replace h := iteF rfl h
    refine AW.cond_false (by simp) ?_
    refine AW.exit ?_
    try simp only [sp_l, sp_r, Post.seq, Post.block, Nat.reduceEqDiff, reduceIte, Nat.zero_ne_one, Nat.one_ne_zero]
    obtain rfl := Option.some.inj h
    refine xP_i ?_
    refine Weak.mixN [some 0, some 1] hn0 (by decide) ?_ ?_ rfl
    all_goals first | (simp [inv_cons, inv_nil, pickOb]; done) | rfl
  ·rintro e s hp
   obtain ⟨rfl, hw⟩ := hp
   refine ⟨_, hw, ?_⟩
   try simp only [sp_l, sp_r, Post.seq, Post.block, Nat.reduceEqDiff, reduceIte, Nat.zero_ne_one, Nat.one_ne_zero]
   apply AW.step
   ·simp
    intros; rfl
   obtain rfl := Option.some.inj h
   refine AW.ret ?_
   refine Left.plain hnb (by simp [Try.f8, resV, resC, comp]; rfl) rfl rfl ?_
   simp
theorem en_l18_Silent : Enters Try.prog 8 := enters Try.func8 (by kernel_rfl) rfl
end Go.Proofs.Ytaibolmbafacpaa

/- Walks, printed: bits_Len64, bits_Len, cmp_isNaN_int, cmp_Less_int, slices_insertionSortOrdered_int, slices_pdqsortOrdered_int, slices_Sort_int, claims_Masters, watch_ -/
namespace Go.Proofs.Ytaibolmbafacpaa
open Go Go.RowKit
set_option linter.unusedVariables false
set_option linter.unusedSimpArgs false
def bits_Len64_sh (n : Nat) (a0 : Int) : Option Int :=
bn (lt (geI a0 4294967296) fun v2 =>
ite' v2 (bn (shrI .u64 a0 32) fun v3 =>
some ((v3, 32))) (some ((a0, 0)))) fun (y1 : Int × Int) =>
bn (lt (geI y1.1 65536) fun v5 =>
ite' v5 (bn (shrI .u64 y1.1 16) fun v6 =>
lt (addI .i64 y1.2 16) fun v7 =>
some ((v6, v7))) (some ((y1.1, y1.2)))) fun (y4 : Int × Int) =>
bn (lt (geI y4.1 256) fun v9 =>
ite' v9 (bn (shrI .u64 y4.1 8) fun v10 =>
lt (addI .i64 y4.2 8) fun v11 =>
some ((v10, v11))) (some ((y4.1, y4.2)))) fun (y8 : Int × Int) =>
lt (cvI .u8 y8.1) fun v12 =>
bn (atS ⟨#[0, 1, 2, 2, 3, 3, 3, 3, 4, 4, 4, 4, 4, 4, 4, 4, 5, 5, 5, 5, 5, 5, 5, 5, 5, 5, 5, 5, 5, 5, 5, 5, 6, 6, 6, 6, 6, 6, 6, 6, 6, 6, 6, 6, 6, 6, 6, 6, 6, 6, 6, 6, 6, 6, 6, 6, 6, 6, 6, 6, 6, 6, 6, 6, 7, 7, 7, 7, 7, 7, 7, 7, 7, 7, 7, 7, 7, 7, 7, 7, 7, 7, 7, 7, 7, 7, 7, 7, 7, 7, 7, 7, 7, 7, 7, 7, 7, 7, 7, 7, 7, 7, 7, 7, 7, 7, 7, 7, 7, 7, 7, 7, 7, 7, 7, 7, 7, 7, 7, 7, 7, 7, 7, 7, 7, 7, 7, 7, 8, 8, 8, 8, 8, 8, 8, 8, 8, 8, 8, 8, 8, 8, 8, 8, 8, 8, 8, 8, 8, 8, 8, 8, 8, 8, 8, 8, 8, 8, 8, 8, 8, 8, 8, 8, 8, 8, 8, 8, 8, 8, 8, 8, 8, 8, 8, 8, 8, 8, 8, 8, 8, 8, 8, 8, 8, 8, 8, 8, 8, 8, 8, 8, 8, 8, 8, 8, 8, 8, 8, 8, 8, 8, 8, 8, 8, 8, 8, 8, 8, 8, 8, 8, 8, 8, 8, 8, 8, 8, 8, 8, 8, 8, 8, 8, 8, 8, 8, 8, 8, 8, 8, 8, 8, 8, 8, 8, 8, 8, 8, 8, 8, 8, 8, 8, 8, 8, 8, 8, 8, 8, 8, 8, 8, 8, 8, 8]⟩ v12) fun v13 =>
lt (cvI .i64 v13) fun v15 =>
lt (addI .i64 y8.2 v15) fun v16 =>
some v16
set_option maxRecDepth 8000 in
set_option maxHeartbeats 8000000 in
theorem s_bits_Len64 {n : Nat} {a0 : Int} {r : Int} (h : bits_Len64_sh n a0 = some r) : Sound Try.prog 71 [.l (.s (.int .u64 a0))] [] (.l (.s (.int .i64 r))) [] := by
 unfold bits_Len64_sh at h
 refine Sound.of_aw (fn := Try.f71) (c := _) Try.func71 rfl (by simp [Try.f71]) fun cx hG hnb => ?_
 rw [show Try.f71.ntmps = 25 from rfl]
 have hn0 : cx.nb = 0 := hnb
 simp only [st0_mk, initTm, List.map_cons, List.map_nil]
 apply AW.step
 ·simp
  intros; rfl
 replace h := bnE h; obtain ⟨y1, g1, h⟩ := h
 refine AW.flow (p := fun gh ls => (nP (cx := cx) (fun q => (⟨[(0, .l (.s (.int .u64 q.1))), (2, .l (.s (.int .i64 q.2)))], [], 25, gh, ls⟩ : St))) y1) ?_ ?_
 ·replace h := g1; clear g1
  replace h := ltE h; obtain ⟨v2, e2, h⟩ := h
  apply AW.step
  ·simp [← e2]
   intros; rfl
  cases v2 with
  | true =>
   replace h := iteT rfl h
   refine AW.cond_true (by simp) ?_
   replace h := bnE h; obtain ⟨v3, e3, h⟩ := h
   apply AW.step
   ·simp [e3]
    intros; rfl
   apply AW.last
   ·simp
    intros; rfl
   obtain rfl := Option.some.inj h
   refine nP_i ?_
   refine Weak.mixN [] hn0 (by decide) ?_ ?_ rfl
   all_goals first | (simp [inv_cons, inv_nil, pickOb]; done) | rfl
  | false =>
   replace h := iteF rfl h
   refine AW.cond_false (by simp) ?_
   refine AW.skip ?_
   try simp only [sp_l, sp_r, Post.seq, Post.block, Nat.reduceEqDiff, reduceIte, Nat.zero_ne_one, Nat.one_ne_zero]
   obtain rfl := Option.some.inj h
   refine nP_i ?_
   refine Weak.mixN [] hn0 (by decide) ?_ ?_ rfl
   all_goals first | (simp [inv_cons, inv_nil, pickOb]; done) | rfl
 ·rintro e s hp
  obtain ⟨rfl, hw⟩ := hp
  refine ⟨_, hw, ?_⟩
  try simp only [sp_l, sp_r, Post.seq, Post.block, Nat.reduceEqDiff, reduceIte, Nat.zero_ne_one, Nat.one_ne_zero]
  replace h := bnE h; obtain ⟨y4, g4, h⟩ := h
  refine AW.flow (p := fun gh ls => (nP (cx := cx) (fun q => (⟨[(0, .l (.s (.int .u64 q.1))), (2, .l (.s (.int .i64 q.2)))], [], 25, gh, ls⟩ : St))) y4) ?_ ?_
  ·replace h := g4; clear g4
   replace h := ltE h; obtain ⟨v5, e5, h⟩ := h
   apply AW.step
   ·simp [← e5]
    intros; rfl
   cases v5 with
   | true =>
    replace h := iteT rfl h
    refine AW.cond_true (by simp) ?_
    replace h := bnE h; obtain ⟨v6, e6, h⟩ := h
    apply AW.step
    ·simp [e6]
     intros; rfl
    replace h := ltE h; obtain ⟨v7, e7, h⟩ := h
    apply AW.last
    ·simp [← e7]
     intros; rfl
    obtain rfl := Option.some.inj h
    refine nP_i ?_
    refine Weak.mixN [] hn0 (by decide) ?_ ?_ rfl
    all_goals first | (simp [inv_cons, inv_nil, pickOb]; done) | rfl
   | false =>
    replace h := iteF rfl h
    refine AW.cond_false (by simp) ?_
    refine AW.skip ?_
    try simp only [sp_l, sp_r, Post.seq, Post.block, Nat.reduceEqDiff, reduceIte, Nat.zero_ne_one, Nat.one_ne_zero]
    obtain rfl := Option.some.inj h
    refine nP_i ?_
    refine Weak.mixN [] hn0 (by decide) ?_ ?_ rfl
    all_goals first | (simp [inv_cons, inv_nil, pickOb]; done) | rfl
  ·rintro e s hp
   obtain ⟨rfl, hw⟩ := hp
   refine ⟨_, hw, ?_⟩
   try simp only [sp_l, sp_r, Post.seq, Post.block, Nat.reduceEqDiff, reduceIte, Nat.zero_ne_one, Nat.one_ne_zero]
   replace h := bnE h; obtain ⟨y8, g8, h⟩ := h
   refine AW.flow (p := fun gh ls => (nP (cx := cx) (fun q => (⟨[(0, .l (.s (.int .u64 q.1))), (2, .l (.s (.int .i64 q.2)))], [], 25, gh, ls⟩ : St))) y8) ?_ ?_
   ·replace h := g8; clear g8
    replace h := ltE h; obtain ⟨v9, e9, h⟩ := h
    apply AW.step
    ·simp [← e9]
     intros; rfl
    cases v9 with
    | true =>
     replace h := iteT rfl h
     refine AW.cond_true (by simp) ?_
     replace h := bnE h; obtain ⟨v10, e10, h⟩ := h
     apply AW.step
     ·simp [e10]
      intros; rfl
     replace h := ltE h; obtain ⟨v11, e11, h⟩ := h
     apply AW.last
     ·simp [← e11]
      intros; rfl
     obtain rfl := Option.some.inj h
     refine nP_i ?_
     refine Weak.mixN [] hn0 (by decide) ?_ ?_ rfl
     all_goals first | (simp [inv_cons, inv_nil, pickOb]; done) | rfl
    | false =>
     replace h := iteF rfl h
     refine AW.cond_false (by simp) ?_
     refine AW.skip ?_
     try simp only [sp_l, sp_r, Post.seq, Post.block, Nat.reduceEqDiff, reduceIte, Nat.zero_ne_one, Nat.one_ne_zero]
     obtain rfl := Option.some.inj h
     refine nP_i ?_
     refine Weak.mixN [] hn0 (by decide) ?_ ?_ rfl
     all_goals first | (simp [inv_cons, inv_nil, pickOb]; done) | rfl
   ·rintro e s hp
    obtain ⟨rfl, hw⟩ := hp
    refine ⟨_, hw, ?_⟩
    try simp only [sp_l, sp_r, Post.seq, Post.block, Nat.reduceEqDiff, reduceIte, Nat.zero_ne_one, Nat.one_ne_zero]
    replace h := ltE h; obtain ⟨v12, e12, h⟩ := h
    replace h := bnE h; obtain ⟨v13, e13, h⟩ := h
    have f14 := atS_d e13
    try simp [← e12] at f14
    replace h := ltE h; obtain ⟨v15, e15, h⟩ := h
    replace h := ltE h; obtain ⟨v16, e16, h⟩ := h
    apply AW.step
    ·simp [← e12, f14, ← e15, ← e16]
     intros; rfl
    obtain rfl := Option.some.inj h
    refine AW.ret ?_
    refine Left.plain hnb (by simp [Try.f71, resV, resC, comp]; rfl) rfl rfl ?_
    simp
theorem en_bits_Len64 : Enters Try.prog 71 := enters Try.func71 (by kernel_rfl) rfl
def bits_Len_sh (n : Nat) (a0 : Int) : Option Int :=
bn (bits_Len64_sh n a0) fun v1 =>
some v1
set_option maxRecDepth 8000 in
set_option maxHeartbeats 8000000 in
theorem s_bits_Len {n : Nat} {a0 : Int} {r : Int} (h : bits_Len_sh n a0 = some r) : Sound Try.prog 56 [.l (.s (.int .u64 a0))] [] (.l (.s (.int .i64 r))) [] := by
 unfold bits_Len_sh at h
 refine Sound.of_aw (fn := Try.f56) (c := _) Try.func56 rfl (by simp [Try.f56]) fun cx hG hnb => ?_
 rw [show Try.f56.ntmps = 8 from rfl]
 have hn0 : cx.nb = 0 := hnb
 simp only [st0_mk, initTm, List.map_cons, List.map_nil]
 apply AW.step
 ·simp
  intros; rfl
 refine AW.seq ?_
 refine AW.cond_false (by simp) ?_
 refine AW.skip ?_
 try simp only [sp_l, sp_r, Post.seq, Post.block, Nat.reduceEqDiff, reduceIte, Nat.zero_ne_one, Nat.one_ne_zero]
 try simp only [sp_l, sp_r, Post.seq, Post.block, Nat.reduceEqDiff, reduceIte, Nat.zero_ne_one, Nat.one_ne_zero]
 replace h := bnE h; obtain ⟨v1, e1, h⟩ := h
 apply AW.step
 ·simp
  intros
  refine xcall_plain en_bits_Len64 (s_bits_Len64 e1) rfl ⟨.same rfl, trivial⟩ ?_
  try simp
  intros; rfl
 obtain rfl := Option.some.inj h
 refine AW.ret ?_
 refine Left.plain hnb (by simp [Try.f56, resV, resC, comp]; rfl) rfl rfl ?_
 simp
theorem en_bits_Len : Enters Try.prog 56 := enters Try.func56 (by kernel_rfl) rfl
def cmp_isNaN_int_sh (n : Nat) (a0 : Int) : Option Bool :=
lt (neI a0 a0) fun v1 =>
some v1
set_option maxRecDepth 8000 in
set_option maxHeartbeats 8000000 in
theorem s_cmp_isNaN_int {n : Nat} {a0 : Int} {r : Bool} (h : cmp_isNaN_int_sh n a0 = some r) : Sound Try.prog 57 [.l (.s (.int .i64 a0))] [] (.l (.s (.bool r))) [] := by
 unfold cmp_isNaN_int_sh at h
 refine Sound.of_aw (fn := Try.f57) (c := _) Try.func57 rfl (by simp [Try.f57]) fun cx hG hnb => ?_
 rw [show Try.f57.ntmps = 6 from rfl]
 have hn0 : cx.nb = 0 := hnb
 simp only [st0_mk, initTm, List.map_cons, List.map_nil]
 apply AW.step
 ·simp
  intros; rfl
 replace h := ltE h; obtain ⟨v1, e1, h⟩ := h
 apply AW.step
 ·simp [← e1]
  intros; rfl
 obtain rfl := Option.some.inj h
 refine AW.ret ?_
 refine Left.plain hnb (by simp [Try.f57, resV, resC, comp]; rfl) rfl rfl ?_
 simp
theorem en_cmp_isNaN_int : Enters Try.prog 57 := enters Try.func57 (by kernel_rfl) rfl
def cmp_Less_int_sh (n : Nat) (a0 : Int) (a1 : Int) : Option Bool :=
bn (bn (cmp_isNaN_int_sh n a0) fun v2 =>
ite' v2 (bn (cmp_isNaN_int_sh n a1) fun v3 =>
lt (notB v3) fun v4 =>
ite' v4 (some (true)) (lt (ltI a0 a1) fun v5 =>
some (v5))) (lt (ltI a0 a1) fun v6 =>
some (v6))) fun (y1 : Bool) =>
some y1
set_option maxRecDepth 8000 in
set_option maxHeartbeats 8000000 in
theorem s_cmp_Less_int {n : Nat} {a0 : Int} {a1 : Int} {r : Bool} (h : cmp_Less_int_sh n a0 a1 = some r) : Sound Try.prog 46 [.l (.s (.int .i64 a0)), .l (.s (.int .i64 a1))] [] (.l (.s (.bool r))) [] := by
 unfold cmp_Less_int_sh at h
 refine Sound.of_aw (fn := Try.f46) (c := _) Try.func46 rfl (by simp [Try.f46]) fun cx hG hnb => ?_
 rw [show Try.f46.ntmps = 17 from rfl]
 have hn0 : cx.nb = 0 := hnb
 simp only [st0_mk, initTm, List.map_cons, List.map_nil]
 apply AW.step
 ·simp
  intros; rfl
 replace h := bnE h; obtain ⟨y1, g1, h⟩ := h
 refine AW.flow (p := fun gh ls => (nP (cx := cx) (fun q => (⟨[(4, .l (.s (.bool q)))], [], 17, gh, ls⟩ : St))) y1) ?_ ?_
 ·replace h := g1; clear g1
  replace h := bnE h; obtain ⟨v2, e2, h⟩ := h
  cases v2 with
  | true =>
   replace h := iteT rfl h
   replace h := bnE h; obtain ⟨v3, e3, h⟩ := h
   replace h := ltE h; obtain ⟨v4, e4, h⟩ := h
   cases v4 with
   | true =>
    replace h := iteT rfl h
    apply AW.last
    ·simp [← e4]
     intros
     refine xcall_plain en_cmp_isNaN_int (s_cmp_isNaN_int e2) rfl ⟨.same rfl, trivial⟩ ?_
     try simp [← e4]
     intros
     refine xcall_plain en_cmp_isNaN_int (s_cmp_isNaN_int e3) rfl ⟨.same rfl, trivial⟩ ?_
     try simp [← e4]
     intros; rfl
    obtain rfl := Option.some.inj h
    refine nP_i ?_
    refine Weak.mixN [] hn0 (by decide) ?_ ?_ rfl
    all_goals first | (simp [inv_cons, inv_nil, pickOb]; done) | rfl
   | false =>
    replace h := iteF rfl h
    replace h := ltE h; obtain ⟨v5, e5, h⟩ := h
    apply AW.last
    ·simp [← e4, ← e5]
     intros
     refine xcall_plain en_cmp_isNaN_int (s_cmp_isNaN_int e2) rfl ⟨.same rfl, trivial⟩ ?_
     try simp [← e4, ← e5]
     intros
     refine xcall_plain en_cmp_isNaN_int (s_cmp_isNaN_int e3) rfl ⟨.same rfl, trivial⟩ ?_
     try simp [← e4, ← e5]
     intros; rfl
    obtain rfl := Option.some.inj h
    refine nP_i ?_
    refine Weak.mixN [] hn0 (by decide) ?_ ?_ rfl
    all_goals first | (simp [inv_cons, inv_nil, pickOb]; done) | rfl
  | false =>
   replace h := iteF rfl h
   replace h := ltE h; obtain ⟨v6, e6, h⟩ := h
   apply AW.last
   ·simp [← e6]
    intros
    refine xcall_plain en_cmp_isNaN_int (s_cmp_isNaN_int e2) rfl ⟨.same rfl, trivial⟩ ?_
    try simp [← e6]
    intros; rfl
   obtain rfl := Option.some.inj h
   refine nP_i ?_
   refine Weak.mixN [] hn0 (by decide) ?_ ?_ rfl
   all_goals first | (simp [inv_cons, inv_nil, pickOb]; done) | rfl
 ·rintro e s hp
  obtain ⟨rfl, hw⟩ := hp
  refine ⟨_, hw, ?_⟩
  try simp only [sp_l, sp_r, Post.seq, Post.block, Nat.reduceEqDiff, reduceIte, Nat.zero_ne_one, Nat.one_ne_zero]
  obtain rfl := Option.some.inj h
  refine AW.ret ?_
  refine Left.plain hnb (by simp [Try.f46, resV, resC, comp]; rfl) rfl rfl ?_
  simp
theorem en_cmp_Less_int : Enters Try.prog 46 := enters Try.func46 (by kernel_rfl) rfl
def slices_insertionSortOrdered_int_sh (n : Nat) (a0 : List Int) (a1 : Int) (a2 : Int) : Option (List Int) :=
lt (addI .i64 a1 1) fun v1 =>
bn (iter n (fun (y2 : Int × List Int) =>
lt (ltI y2.1 a2) fun v5 =>
ite' v5 (bn (iter n (fun (y6 : Int × List Int) =>
bn (lt (gtI y6.1 a1) fun v10 =>
ite' v10 (bn (nth y6.2 y6.1) fun v11 =>
lt (subI .i64 y6.1 1) fun v13 =>
bn (nth y6.2 v13) fun v14 =>
bn (cmp_Less_int_sh n v11 v14) fun v16 =>
some (v16)) (some (false))) fun (y9 : Bool) =>
lt (y9) fun v17 =>
ite' v17 (lt (subI .i64 y6.1 1) fun v18 =>
bn (nth y6.2 v18) fun v19 =>
bn (nth y6.2 y6.1) fun v21 =>
lt (y6.2.set y6.1.toNat v19) fun v24 =>
bn (nth v24 v18) fun v29 =>
lt (v24.set v18.toNat v21) fun v31 =>
some (.inl (v18, v31))) (some (.inr y6.2))) (y2.1, y2.2)) fun (y7 : List Int) =>
lt (addI .i64 y2.1 1) fun v40 =>
some (.inl (v40, y7))) (some (.inr y2.2))) (v1, a0)) fun (y3 : List Int) =>
some y3
set_option maxRecDepth 8000 in
set_option maxHeartbeats 8000000 in
theorem s_slices_insertionSortOrdered_int {n : Nat} {a0 : List Int} {a1 : Int} {a2 : Int} {r : List Int} (h : slices_insertionSortOrdered_int_sh n a0 a1 a2 = some r) : Sound Try.prog 62 [.l (.r 0 1 0 a0.length), .l (.s (.int .i64 a1)), .l (.s (.int .i64 a2))] [⟨3, 1, false, some 0, lvs (encI a0)⟩] (.t []) [some ⟨3, 1, false, some 0, lvs (encI r)⟩] := by
 unfold slices_insertionSortOrdered_int_sh at h
 refine Sound.of_aw (fn := Try.f62) (c := _) Try.func62 rfl (by simp [Try.f62]) fun cx hG hnb => ?_
 rw [show Try.f62.ntmps = 49 from rfl]
 have hn0 : cx.nb = 1 := hnb
 simp only [st0_mk, initTm, List.map_cons, List.map_nil]
 replace h := ltE h; obtain ⟨v1, e1, h⟩ := h
 apply AW.step
 ·simp [← e1]
  intros; rfl
 refine AW.block ?_
 replace h := bnE h; obtain ⟨y3, g3, h⟩ := h
 refine AW.iterP g3 (mk := fun gh ls q => (⟨[(0, .l (.r 0 1 0 q.2.length)), (1, .l (.s (.int .i64 a1))), (2, .l (.s (.int .i64 a2))), (6, .l (.s (.int .i64 q.1)))], [some ⟨3, 1, false, some 0, lvs (encI q.2)⟩], 49, gh, ls⟩ : St)) (N := fun gh ls => (xP 0 (cx := cx) (fun q => (⟨[], [some ⟨3, 1, false, some 0, lvs (encI q)⟩], 49, gh, ls⟩ : St)))) ?_ noX ?_ ?_
 ·refine Weak.mixB 1 [some 0] hn0 (by decide) (by decide) ?_ ?_ ?_
  all_goals first | (simp [inv_cons, inv_nil, pickOb]; done) | rfl
 ·clear h; intro y2 y4 h
  refine AW.seq ?_
  replace h := ltE h; obtain ⟨v5, e5, h⟩ := h
  apply AW.step
  ·simp [← e5]
   intros; rfl
  cases v5 with
  | true =>
   replace h := iteT rfl h
   refine AW.cond_true (by simp) ?_
   refine AW.skip ?_
   try simp only [sp_l, sp_r, Post.seq, Post.block, Nat.reduceEqDiff, reduceIte, Nat.zero_ne_one, Nat.one_ne_zero]
   try simp only [sp_l, sp_r, Post.seq, Post.block, Nat.reduceEqDiff, reduceIte, Nat.zero_ne_one, Nat.one_ne_zero]
   refine AW.seq ?_
   refine AW.block ?_
   apply AW.step
   ·simp
    intros; rfl
   refine AW.block ?_
   replace h := bnE h; obtain ⟨y7, g7, h⟩ := h
   refine AW.iterP g7 (mk := fun gh ls q => (⟨[(0, .l (.r 0 1 0 q.2.length)), (1, .l (.s (.int .i64 a1))), (2, .l (.s (.int .i64 a2))), (6, .l (.s (.int .i64 y2.1))), (7, .l (.s (.int .i64 q.1)))], [some ⟨3, 1, false, some 0, lvs (encI q.2)⟩], 49, gh, ls⟩ : St)) (N := fun gh ls => (xP 2 (cx := cx) (fun q => (⟨[(0, .l (.r 0 1 0 q.length)), (1, .l (.s (.int .i64 a1))), (2, .l (.s (.int .i64 a2))), (6, .l (.s (.int .i64 y2.1)))], [some ⟨3, 1, false, some 0, lvs (encI q)⟩], 49, gh, ls⟩ : St)))) ?_ noX ?_ ?_
   ·refine Weak.mixB 1 [some 0] hn0 (by decide) (by decide) ?_ ?_ ?_
    all_goals first | (simp [inv_cons, inv_nil, pickOb]; done) | rfl
   ·clear h; intro y6 y8 h
    refine AW.seq ?_
    replace h := bnE h; obtain ⟨y9, g9, h⟩ := h
    refine AW.flow (p := fun gh ls => (nP (cx := cx) (fun q => (⟨[(0, .l (.r 0 1 0 y6.2.length)), (1, .l (.s (.int .i64 a1))), (2, .l (.s (.int .i64 a2))), (6, .l (.s (.int .i64 y2.1))), (7, .l (.s (.int .i64 y6.1))), (30, .l (.s (.bool q)))], [some ⟨3, 1, false, some 0, lvs (encI y6.2)⟩], 49, gh, ls⟩ : St))) y9) ?_ ?_
    ·replace h := g9; clear g9
     replace h := ltE h; obtain ⟨v10, e10, h⟩ := h
     cases v10 with
     | true =>
      replace h := iteT rfl h
      replace h := bnE h; obtain ⟨v11, e11, h⟩ := h
      have f12 := nth_lt e11
      try simp [← e10, nth_d e11] at f12
      replace h := ltE h; obtain ⟨v13, e13, h⟩ := h
      replace h := bnE h; obtain ⟨v14, e14, h⟩ := h
      have f15 := nth_lt e14
      try simp [← e10, nth_d e11, f12, encI_cell0 (nth_d e11).2, lvs1, ← e13, nth_d e14] at f15
      replace h := bnE h; obtain ⟨v16, e16, h⟩ := h
      apply AW.drawnR (V := [_, _, _, _, _, _, _, _, _, _, _, _, _]) mixed [⟨[0], [], [(7, none)], false⟩, ⟨[0], [], [(1, none)], false⟩, ⟨[0], [0, 1], [(16, some 0), (17, some 1)], false⟩, ⟨[0], [0, 1, 2], [(18, some 2)], false⟩, ⟨[0], [0, 1, 2, 3], [(0, none), (19, some 3)], false⟩, ⟨[0], [0, 1, 2, 3], [(7, none), (19, some 3)], false⟩, ⟨[0], [0, 1, 2, 3, 4, 5], [(19, some 3), (20, some 4), (21, some 5)], false⟩, ⟨[0], [0, 1, 2, 3, 4, 5, 6], [(19, some 3), (22, some 6)], false⟩, ⟨[0], [0, 1, 2, 3], [(0, none), (19, some 3)], false⟩, ⟨[0], [0, 1, 2, 3], [(7, none), (19, some 3)], false⟩, ⟨[0], [0, 1, 2, 3, 9], [(19, some 3), (25, some 9)], false⟩, ⟨[0], [0, 1, 2, 3, 8, 9, 10], [(19, some 3), (24, some 8), (26, some 10)], false⟩, ⟨[0], [0, 1, 2, 3, 8, 9, 10, 11], [(19, some 3), (27, some 11)], false⟩, ⟨[], [0, 1, 2, 3, 4, 5, 6, 7, 8, 9, 10, 11, 12], [], false⟩, ⟨[], [0, 1, 2, 3, 4, 5, 6, 7, 8, 9, 10, 11, 12, 13], [], false⟩] 13 (by kernel_rfl) (by kernel_rfl)
      ·refine ⟨?_, ?_, ?_, ?_, ?_, ?_, ?_, ?_, ?_, ?_, ?_, ?_, ?_, trivial⟩
       ·intro tm hr
        simp [AllL, rdV] at hr
        simp [hr, ← e10, nth_d e11, f12, encI_cell0 (nth_d e11).2, lvs1, ← e13, nth_d e14, f15, encI_cell0 (nth_d e14).2]
        intros; first | exact KD.mk | exact KD.mkN
       ·intro tm hr
        simp [AllL, rdV] at hr
        simp [hr, ← e10, nth_d e11, f12, encI_cell0 (nth_d e11).2, lvs1, ← e13, nth_d e14, f15, encI_cell0 (nth_d e14).2]
        intros; first | exact KD.mk | exact KD.mkN
       ·intro tm hr
        simp [AllL, rdV] at hr
        simp [hr, ← e10, nth_d e11, f12, encI_cell0 (nth_d e11).2, lvs1, ← e13, nth_d e14, f15, encI_cell0 (nth_d e14).2]
        intros; first | exact KD.mk | exact KD.mkN
       ·intro tm hr
        simp [AllL, rdV] at hr
        simp [hr, ← e10, nth_d e11, f12, encI_cell0 (nth_d e11).2, lvs1, ← e13, nth_d e14, f15, encI_cell0 (nth_d e14).2]
        intros; first | exact KD.mk | exact KD.mkN
       ·intro tm hr
        simp [AllL, rdV] at hr
        simp [hr, ← e10, nth_d e11, f12, encI_cell0 (nth_d e11).2, lvs1, ← e13, nth_d e14, f15, encI_cell0 (nth_d e14).2]
        intros; first | exact KD.mk | exact KD.mkN
       ·intro tm hr
        simp [AllL, rdV] at hr
        simp [hr, ← e10, nth_d e11, f12, encI_cell0 (nth_d e11).2, lvs1, ← e13, nth_d e14, f15, encI_cell0 (nth_d e14).2]
        intros; first | exact KD.mk | exact KD.mkN
       ·intro tm hr
        simp [AllL, rdV] at hr
        simp [hr, ← e10, nth_d e11, f12, encI_cell0 (nth_d e11).2, lvs1, ← e13, nth_d e14, f15, encI_cell0 (nth_d e14).2]
        intros; first | exact KD.mk | exact KD.mkN
       ·intro tm hr
        simp [AllL, rdV] at hr
        simp [hr, ← e10, nth_d e11, f12, encI_cell0 (nth_d e11).2, lvs1, ← e13, nth_d e14, f15, encI_cell0 (nth_d e14).2]
        intros; first | exact KD.mk | exact KD.mkN
       ·intro tm hr
        simp [AllL, rdV] at hr
        simp [hr, ← e10, nth_d e11, f12, encI_cell0 (nth_d e11).2, lvs1, ← e13, nth_d e14, f15, encI_cell0 (nth_d e14).2]
        intros; first | exact KD.mk | exact KD.mkN
       ·intro tm hr
        simp [AllL, rdV] at hr
        simp [hr, ← e10, nth_d e11, f12, encI_cell0 (nth_d e11).2, lvs1, ← e13, nth_d e14, f15, encI_cell0 (nth_d e14).2]
        intros; first | exact KD.mk | exact KD.mkN
       ·intro tm hr
        simp [AllL, rdV] at hr
        simp [hr, ← e10, nth_d e11, f12, encI_cell0 (nth_d e11).2, lvs1, ← e13, nth_d e14, f15, encI_cell0 (nth_d e14).2]
        intros; first | exact KD.mk | exact KD.mkN
       ·intro tm hr
        simp [AllL, rdV] at hr
        simp [hr, ← e10, nth_d e11, f12, encI_cell0 (nth_d e11).2, lvs1, ← e13, nth_d e14, f15, encI_cell0 (nth_d e14).2]
        intros; first | exact KD.mk | exact KD.mkN
       ·intro tm hr
        simp [AllL, rdV] at hr
        simp [hr, ← e10, nth_d e11, f12, encI_cell0 (nth_d e11).2, lvs1, ← e13, nth_d e14, f15, encI_cell0 (nth_d e14).2]
        intros; first | exact KD.mk | exact KD.mkN
      ·rfl
      ·simp [tmD, putD, ← e10, nth_d e11, f12, encI_cell0 (nth_d e11).2, lvs1, ← e13, nth_d e14, f15, encI_cell0 (nth_d e14).2]; rfl
      ·simp [← e10, nth_d e11, f12, encI_cell0 (nth_d e11).2, lvs1, ← e13, nth_d e14, f15, encI_cell0 (nth_d e14).2]
       intros
       refine xcall_plain en_cmp_Less_int (s_cmp_Less_int e16) rfl ⟨.same rfl, .same rfl, trivial⟩ ?_
       try simp [← e10, nth_d e11, f12, encI_cell0 (nth_d e11).2, lvs1, ← e13, nth_d e14, f15, encI_cell0 (nth_d e14).2]
       intros; rfl
      obtain rfl := Option.some.inj h
      refine nP_i ?_
      refine Weak.mixB 1 [some 0] hn0 (by decide) (by decide) ?_ ?_ ?_
      all_goals first | (simp [inv_cons, inv_nil, pickOb]; done) | rfl
     | false =>
      replace h := iteF rfl h
      apply AW.drawnR (V := [_, _, _, _, _, _, _, _, _, _, _, _, _]) mixed [⟨[0], [], [(7, none)], false⟩, ⟨[0], [], [(1, none)], false⟩, ⟨[0], [0, 1], [(16, some 0), (17, some 1)], false⟩, ⟨[0], [0, 1, 2], [(18, some 2)], false⟩, ⟨[0], [0, 1, 2, 3], [(0, none), (19, some 3)], false⟩, ⟨[0], [0, 1, 2, 3], [(7, none), (19, some 3)], false⟩, ⟨[0], [0, 1, 2, 3, 4, 5], [(19, some 3), (20, some 4), (21, some 5)], false⟩, ⟨[0], [0, 1, 2, 3, 4, 5, 6], [(19, some 3), (22, some 6)], false⟩, ⟨[0], [0, 1, 2, 3], [(0, none), (19, some 3)], false⟩, ⟨[0], [0, 1, 2, 3], [(7, none), (19, some 3)], false⟩, ⟨[0], [0, 1, 2, 3, 9], [(19, some 3), (25, some 9)], false⟩, ⟨[0], [0, 1, 2, 3, 8, 9, 10], [(19, some 3), (24, some 8), (26, some 10)], false⟩, ⟨[0], [0, 1, 2, 3, 8, 9, 10, 11], [(19, some 3), (27, some 11)], false⟩, ⟨[], [0, 1, 2, 3, 4, 5, 6, 7, 8, 9, 10, 11, 12], [], false⟩, ⟨[], [0, 1, 2, 3, 4, 5, 6, 7, 8, 9, 10, 11, 12, 13], [], false⟩] 13 (by kernel_rfl) (by kernel_rfl)
      ·refine ⟨?_, ?_, ?_, ?_, ?_, ?_, ?_, ?_, ?_, ?_, ?_, ?_, ?_, trivial⟩
       ·intro tm hr
        simp [AllL, rdV] at hr
        simp [hr, ← e10]
        intros; first | exact KD.mk | exact KD.mkN
       ·intro tm hr
        simp [AllL, rdV] at hr
        simp [hr, ← e10]
        intros; first | exact KD.mk | exact KD.mkN
       ·intro tm hr
        simp [AllL, rdV] at hr
        simp [hr, ← e10]
        intros; first | exact KD.mk | exact KD.mkN
       ·intro tm hr
        simp [AllL, rdV] at hr
        simp [hr, ← e10]
        intros; first | exact KD.mk | exact KD.mkN
       ·intro tm hr
        simp [AllL, rdV] at hr
        simp [hr, ← e10]
        intros; first | exact KD.mk | exact KD.mkN
       ·intro tm hr
        simp [AllL, rdV] at hr
        simp [hr, ← e10]
        intros; first | exact KD.mk | exact KD.mkN
       ·intro tm hr
        simp [AllL, rdV] at hr
        simp [hr, ← e10]
        intros; first | exact KD.mk | exact KD.mkN
       ·intro tm hr
        simp [AllL, rdV] at hr
        simp [hr, ← e10]
        intros; first | exact KD.mk | exact KD.mkN
       ·intro tm hr
        simp [AllL, rdV] at hr
        simp [hr, ← e10]
        intros; first | exact KD.mk | exact KD.mkN
       ·intro tm hr
        simp [AllL, rdV] at hr
        simp [hr, ← e10]
        intros; first | exact KD.mk | exact KD.mkN
       ·intro tm hr
        simp [AllL, rdV] at hr
        simp [hr, ← e10]
        intros; first | exact KD.mk | exact KD.mkN
       ·intro tm hr
        simp [AllL, rdV] at hr
        simp [hr, ← e10]
        intros; first | exact KD.mk | exact KD.mkN
       ·intro tm hr
        simp [AllL, rdV] at hr
        simp [hr, ← e10]
        intros; first | exact KD.mk | exact KD.mkN
      ·rfl
      ·simp [tmD, putD, ← e10]; rfl
      ·simp [← e10]
       intros; rfl
      obtain rfl := Option.some.inj h
      refine nP_i ?_
      refine Weak.mixB 1 [some 0] hn0 (by decide) (by decide) ?_ ?_ ?_
      all_goals first | (simp [inv_cons, inv_nil, pickOb]; done) | rfl
    ·rintro e s hp
     obtain ⟨rfl, hw⟩ := hp
     refine ⟨_, hw, ?_⟩
     try simp only [sp_l, sp_r, Post.seq, Post.block, Nat.reduceEqDiff, reduceIte, Nat.zero_ne_one, Nat.one_ne_zero]
     replace h := ltE h; obtain ⟨v17, e17, h⟩ := h
     rw [← e17]
     cases v17 with
     | true =>
      replace h := iteT rfl h
      refine AW.cond_true (by simp) ?_
      refine AW.skip ?_
      try simp only [sp_l, sp_r, Post.seq, Post.block, Nat.reduceEqDiff, reduceIte, Nat.zero_ne_one, Nat.one_ne_zero]
      try simp only [sp_l, sp_r, Post.seq, Post.block, Nat.reduceEqDiff, reduceIte, Nat.zero_ne_one, Nat.one_ne_zero]
      refine AW.seq ?_
      refine AW.block ?_
      replace h := ltE h; obtain ⟨v18, e18, h⟩ := h
      replace h := bnE h; obtain ⟨v19, e19, h⟩ := h
      have f20 := nth_lt e19
      try simp [← e18, nth_d e19] at f20
      replace h := bnE h; obtain ⟨v21, e21, h⟩ := h
      have f22 := nth_lt e21
      try simp [← e18, nth_d e19, f20, encI_cell0 (nth_d e19).2, lvs1, nth_d e21] at f22
      have f23 := nth_lt e21
      try simp [← e18, nth_d e19, f20, encI_cell0 (nth_d e19).2, lvs1, nth_d e21, f22, encI_cell0 (nth_d e21).2] at f23
      replace h := ltE h; obtain ⟨v24, e24, h⟩ := h
      have f25 := encI_put0 (nth_d e21).2 e24 (cs := [.s (.int .i64 v19)]) (by simp) rfl
      try simp at f25
      have f26 := f20
      try simp only [set_len e24] at f26
      have f27 := f22
      try simp only [set_len e24] at f27
      have f28 := f23
      try simp only [set_len e24] at f28
      replace h := bnE h; obtain ⟨v29, e29, h⟩ := h
      have f30 := nth_lt e29
      try simp [← e18, nth_d e19, f20, encI_cell0 (nth_d e19).2, lvs1, nth_d e21, f22, encI_cell0 (nth_d e21).2, f23, encI_fit (nth_d e21).2 (show 1 ≤ 1 by decide), f25, f26, f27, f28, nth_d e29] at f30
      replace h := ltE h; obtain ⟨v31, e31, h⟩ := h
      have f32 := encI_put0 (nth_d e29).2 e31 (cs := [.s (.int .i64 v21)]) (by simp) rfl
      try simp at f32
      have f33 := f20
      try simp only [set_len e31] at f33
      have f34 := f22
      try simp only [set_len e31] at f34
      have f35 := f23
      try simp only [set_len e31] at f35
      have f36 := f26
      try simp only [set_len e31] at f36
      have f37 := f27
      try simp only [set_len e31] at f37
      have f38 := f28
      try simp only [set_len e31] at f38
      have f39 := f30
      try simp only [set_len e31] at f39
      apply AW.drawnF (V := [_, _, _, _, _, _, _, _, _, _, _, _, _, _, _, _]) (M := [[some ⟨3, 1, false, some 0, lvs (encI y6.2)⟩], [some ⟨3, 1, false, some 0, lvs (encI v24)⟩]]) mixed [⟨[0], [], [(0, none)], false⟩, ⟨[0], [], [(7, none)], false⟩, ⟨[0, 1], [], [(0, none)], false⟩, ⟨[0, 1], [], [(7, none)], false⟩, ⟨[0, 1], [3], [(36, some 3)], false⟩, ⟨[0], [], [(0, none)], false⟩, ⟨[0], [], [(7, none)], false⟩, ⟨[0], [6], [(39, some 6)], false⟩, ⟨[0], [5, 6, 7], [(38, some 5), (40, some 7)], false⟩, ⟨[0], [5, 6, 7, 8], [(41, some 8)], false⟩, ⟨[0], [], [(0, none)], false⟩, ⟨[0], [], [(7, none)], false⟩, ⟨[0], [10, 11], [(43, some 10), (44, some 11)], false⟩, ⟨[0], [10, 11, 12], [(45, some 12)], false⟩, ⟨[0], [0, 1, 5, 6, 7, 8, 9, 10, 11, 12, 13], [(33, some 0), (34, some 1)], false⟩, ⟨[0], [0, 1, 5, 6, 7, 8, 9, 10, 11, 12, 13, 14], [(42, some 9), (47, some 14)], true⟩, ⟨[], [0, 1, 2, 3, 4, 5, 6, 7, 8, 9, 10, 11, 12, 13, 14, 15], [], false⟩, ⟨[], [0, 1, 2, 3, 4, 5, 6, 7, 8, 9, 10, 11, 12, 13, 14, 15, 16], [], false⟩] 16 1 (by kernel_rfl) (by kernel_rfl)
      ·rfl
      ·refine ⟨?_, ?_, ⟨?_, ?_⟩, ⟨?_, ?_⟩, ⟨?_, ?_⟩, ?_, ?_, ?_, ?_, ?_, ?_, ?_, ?_, ?_, ?_, ?_, trivial⟩
       ·intro tm hr
        simp [AllL, rdV] at hr
        simp [hr, ← e18, nth_d e19, f20, encI_cell0 (nth_d e19).2, lvs1, nth_d e21, f22, encI_cell0 (nth_d e21).2, f23, encI_fit (nth_d e21).2 (show 1 ≤ 1 by decide), f25, f26, f27, f28, nth_d e29, f30, set_len e24, encI_fit (nth_d e29).2 (show 1 ≤ 1 by decide), f32, f33, f34, f35, f36, f37, f38, f39]
        intros; first | exact KD.mk | exact KD.mkN
       ·intro tm hr
        simp [AllL, rdV] at hr
        simp [hr, ← e18, nth_d e19, f20, encI_cell0 (nth_d e19).2, lvs1, nth_d e21, f22, encI_cell0 (nth_d e21).2, f23, encI_fit (nth_d e21).2 (show 1 ≤ 1 by decide), f25, f26, f27, f28, nth_d e29, f30, set_len e24, encI_fit (nth_d e29).2 (show 1 ≤ 1 by decide), f32, f33, f34, f35, f36, f37, f38, f39]
        intros; first | exact KD.mk | exact KD.mkN
       ·intro tm hr
        simp [AllL, rdV] at hr
        simp [hr, ← e18, nth_d e19, f20, encI_cell0 (nth_d e19).2, lvs1, nth_d e21, f22, encI_cell0 (nth_d e21).2, f23, encI_fit (nth_d e21).2 (show 1 ≤ 1 by decide), f25, f26, f27, f28, nth_d e29, f30, set_len e24, encI_fit (nth_d e29).2 (show 1 ≤ 1 by decide), f32, f33, f34, f35, f36, f37, f38, f39]
        intros; first | exact KD.mk | exact KD.mkN
       ·intro tm hr
        simp [AllL, rdV] at hr
        simp [hr, ← e18, nth_d e19, f20, encI_cell0 (nth_d e19).2, lvs1, nth_d e21, f22, encI_cell0 (nth_d e21).2, f23, encI_fit (nth_d e21).2 (show 1 ≤ 1 by decide), f25, f26, f27, f28, nth_d e29, f30, set_len e24, encI_fit (nth_d e29).2 (show 1 ≤ 1 by decide), f32, f33, f34, f35, f36, f37, f38, f39]
        intros; first | exact KD.mk | exact KD.mkN
       ·intro tm hr
        simp [AllL, rdV] at hr
        simp [hr, ← e18, nth_d e19, f20, encI_cell0 (nth_d e19).2, lvs1, nth_d e21, f22, encI_cell0 (nth_d e21).2, f23, encI_fit (nth_d e21).2 (show 1 ≤ 1 by decide), f25, f26, f27, f28, nth_d e29, f30, set_len e24, encI_fit (nth_d e29).2 (show 1 ≤ 1 by decide), f32, f33, f34, f35, f36, f37, f38, f39]
        intros; first | exact KD.mk | exact KD.mkN
       ·intro tm hr
        simp [AllL, rdV] at hr
        simp [hr, ← e18, nth_d e19, f20, encI_cell0 (nth_d e19).2, lvs1, nth_d e21, f22, encI_cell0 (nth_d e21).2, f23, encI_fit (nth_d e21).2 (show 1 ≤ 1 by decide), f25, f26, f27, f28, nth_d e29, f30, set_len e24, encI_fit (nth_d e29).2 (show 1 ≤ 1 by decide), f32, f33, f34, f35, f36, f37, f38, f39]
        intros; first | exact KD.mk | exact KD.mkN
       ·intro tm hr
        simp [AllL, rdV] at hr
        simp [hr, ← e18, nth_d e19, f20, encI_cell0 (nth_d e19).2, lvs1, nth_d e21, f22, encI_cell0 (nth_d e21).2, f23, encI_fit (nth_d e21).2 (show 1 ≤ 1 by decide), f25, f26, f27, f28, nth_d e29, f30, set_len e24, encI_fit (nth_d e29).2 (show 1 ≤ 1 by decide), f32, f33, f34, f35, f36, f37, f38, f39]
        intros; first | exact KD.mk | exact KD.mkN
       ·intro tm hr
        simp [AllL, rdV] at hr
        simp [hr, ← e18, nth_d e19, f20, encI_cell0 (nth_d e19).2, lvs1, nth_d e21, f22, encI_cell0 (nth_d e21).2, f23, encI_fit (nth_d e21).2 (show 1 ≤ 1 by decide), f25, f26, f27, f28, nth_d e29, f30, set_len e24, encI_fit (nth_d e29).2 (show 1 ≤ 1 by decide), f32, f33, f34, f35, f36, f37, f38, f39]
        intros; first | exact KD.mk | exact KD.mkN
       ·intro tm hr
        simp [AllL, rdV] at hr
        simp [hr, ← e18, nth_d e19, f20, encI_cell0 (nth_d e19).2, lvs1, nth_d e21, f22, encI_cell0 (nth_d e21).2, f23, encI_fit (nth_d e21).2 (show 1 ≤ 1 by decide), f25, f26, f27, f28, nth_d e29, f30, set_len e24, encI_fit (nth_d e29).2 (show 1 ≤ 1 by decide), f32, f33, f34, f35, f36, f37, f38, f39]
        intros; first | exact KD.mk | exact KD.mkN
       ·intro tm hr
        simp [AllL, rdV] at hr
        simp [hr, ← e18, nth_d e19, f20, encI_cell0 (nth_d e19).2, lvs1, nth_d e21, f22, encI_cell0 (nth_d e21).2, f23, encI_fit (nth_d e21).2 (show 1 ≤ 1 by decide), f25, f26, f27, f28, nth_d e29, f30, set_len e24, encI_fit (nth_d e29).2 (show 1 ≤ 1 by decide), f32, f33, f34, f35, f36, f37, f38, f39]
        intros; first | exact KD.mk | exact KD.mkN
       ·intro tm hr
        simp [AllL, rdV] at hr
        simp [hr, ← e18, nth_d e19, f20, encI_cell0 (nth_d e19).2, lvs1, nth_d e21, f22, encI_cell0 (nth_d e21).2, f23, encI_fit (nth_d e21).2 (show 1 ≤ 1 by decide), f25, f26, f27, f28, nth_d e29, f30, set_len e24, encI_fit (nth_d e29).2 (show 1 ≤ 1 by decide), f32, f33, f34, f35, f36, f37, f38, f39]
        intros; first | exact KD.mk | exact KD.mkN
       ·intro tm hr
        simp [AllL, rdV] at hr
        simp [hr, ← e18, nth_d e19, f20, encI_cell0 (nth_d e19).2, lvs1, nth_d e21, f22, encI_cell0 (nth_d e21).2, f23, encI_fit (nth_d e21).2 (show 1 ≤ 1 by decide), f25, f26, f27, f28, nth_d e29, f30, set_len e24, encI_fit (nth_d e29).2 (show 1 ≤ 1 by decide), f32, f33, f34, f35, f36, f37, f38, f39]
        intros; first | exact KD.mk | exact KD.mkN
       ·intro tm hr
        simp [AllL, rdV] at hr
        simp [hr, ← e18, nth_d e19, f20, encI_cell0 (nth_d e19).2, lvs1, nth_d e21, f22, encI_cell0 (nth_d e21).2, f23, encI_fit (nth_d e21).2 (show 1 ≤ 1 by decide), f25, f26, f27, f28, nth_d e29, f30, set_len e24, encI_fit (nth_d e29).2 (show 1 ≤ 1 by decide), f32, f33, f34, f35, f36, f37, f38, f39]
        intros; first | exact KD.mk | exact KD.mkN
       ·intro tm hr
        simp [AllL, rdV] at hr
        simp [hr, ← e18, nth_d e19, f20, encI_cell0 (nth_d e19).2, lvs1, nth_d e21, f22, encI_cell0 (nth_d e21).2, f23, encI_fit (nth_d e21).2 (show 1 ≤ 1 by decide), f25, f26, f27, f28, nth_d e29, f30, set_len e24, encI_fit (nth_d e29).2 (show 1 ≤ 1 by decide), f32, f33, f34, f35, f36, f37, f38, f39]
        intros; first | exact KD.mk | exact KD.mkN
       ·intro tm hr
        simp [AllL, rdV] at hr
        simp [hr, ← e18, nth_d e19, f20, encI_cell0 (nth_d e19).2, lvs1, nth_d e21, f22, encI_cell0 (nth_d e21).2, f23, encI_fit (nth_d e21).2 (show 1 ≤ 1 by decide), f25, f26, f27, f28, nth_d e29, f30, set_len e24, encI_fit (nth_d e29).2 (show 1 ≤ 1 by decide), f32, f33, f34, f35, f36, f37, f38, f39]
        intros; first | exact KD.mk | exact KD.mkN
       ·intro tm hr
        simp [AllL, rdV] at hr
        simp [hr, ← e18, nth_d e19, f20, encI_cell0 (nth_d e19).2, lvs1, nth_d e21, f22, encI_cell0 (nth_d e21).2, f23, encI_fit (nth_d e21).2 (show 1 ≤ 1 by decide), f25, f26, f27, f28, nth_d e29, f30, set_len e24, encI_fit (nth_d e29).2 (show 1 ≤ 1 by decide), f32, f33, f34, f35, f36, f37, f38, f39]
        intros; first | exact KD.mk | exact KD.mkN
       ·intro tm hr
        simp [AllL, rdV] at hr
        simp [hr, ← e18, nth_d e19, f20, encI_cell0 (nth_d e19).2, lvs1, nth_d e21, f22, encI_cell0 (nth_d e21).2, f23, encI_fit (nth_d e21).2 (show 1 ≤ 1 by decide), f25, f26, f27, f28, nth_d e29, f30, set_len e24, encI_fit (nth_d e29).2 (show 1 ≤ 1 by decide), f32, f33, f34, f35, f36, f37, f38, f39]
        intros; first | exact KD.mk | exact KD.mkN
       ·intro tm hr
        simp [AllL, rdV] at hr
        simp [hr, ← e18, nth_d e19, f20, encI_cell0 (nth_d e19).2, lvs1, nth_d e21, f22, encI_cell0 (nth_d e21).2, f23, encI_fit (nth_d e21).2 (show 1 ≤ 1 by decide), f25, f26, f27, f28, nth_d e29, f30, set_len e24, encI_fit (nth_d e29).2 (show 1 ≤ 1 by decide), f32, f33, f34, f35, f36, f37, f38, f39]
        intros; first | exact KD.mk | exact KD.mkN
       ·intro tm hr
        simp [AllL, rdV] at hr
        simp [hr, ← e18, nth_d e19, f20, encI_cell0 (nth_d e19).2, lvs1, nth_d e21, f22, encI_cell0 (nth_d e21).2, f23, encI_fit (nth_d e21).2 (show 1 ≤ 1 by decide), f25, f26, f27, f28, nth_d e29, f30, set_len e24, encI_fit (nth_d e29).2 (show 1 ≤ 1 by decide), f32, f33, f34, f35, f36, f37, f38, f39]
        intros; first | exact KD.mk | exact KD.mkN
      ·rfl
      ·simp [tmD, putD, ← e18, nth_d e19, f20, encI_cell0 (nth_d e19).2, lvs1, nth_d e21, f22, encI_cell0 (nth_d e21).2, f23, encI_fit (nth_d e21).2 (show 1 ≤ 1 by decide), f25, f26, f27, f28, nth_d e29, f30, set_len e24, encI_fit (nth_d e29).2 (show 1 ≤ 1 by decide), f32, f33, f34, f35, f36, f37, f38, f39]; rfl
      ·simp [← e18, nth_d e19, f20, encI_cell0 (nth_d e19).2, lvs1, nth_d e21, f22, encI_cell0 (nth_d e21).2, f23, encI_fit (nth_d e21).2 (show 1 ≤ 1 by decide), f25, f26, f27, f28, nth_d e29, f30, set_len e24, encI_fit (nth_d e29).2 (show 1 ≤ 1 by decide), f32, f33, f34, f35, f36, f37, f38, f39]
       intros; rfl
      try simp only [sp_l, sp_r, Post.seq, Post.block, Nat.reduceEqDiff, reduceIte, Nat.zero_ne_one, Nat.one_ne_zero]
      apply AW.last
      ·simp [← e18]
       intros; rfl
      obtain rfl := Option.some.inj h
      refine nP_i ?_
      refine Weak.mixB 1 [some 0] hn0 (by decide) (by decide) ?_ ?_ ?_
      all_goals first | (simp [inv_cons, inv_nil, pickOb, set_len e24, set_len e31]; done) | rfl
     | false =>
      replace h := iteF rfl h
      refine AW.cond_false (by simp) ?_
      refine AW.exit ?_
      try simp only [sp_l, sp_r, Post.seq, Post.block, Nat.reduceEqDiff, reduceIte, Nat.zero_ne_one, Nat.one_ne_zero]
      obtain rfl := Option.some.inj h
      refine xP_i ?_
      refine Weak.mixB 1 [some 0] hn0 (by decide) (by decide) ?_ ?_ ?_
      all_goals first | (simp [inv_cons, inv_nil, pickOb]; done) | rfl
   ·rintro e s hp
    obtain ⟨rfl, hw⟩ := hp
    refine ⟨_, hw, ?_⟩
    try simp only [sp_l, sp_r, Post.seq, Post.block, Nat.reduceEqDiff, reduceIte, Nat.zero_ne_one, Nat.one_ne_zero]
    replace h := ltE h; obtain ⟨v40, e40, h⟩ := h
    apply AW.last
    ·simp [← e40]
     intros; rfl
    obtain rfl := Option.some.inj h
    refine nP_i ?_
    refine Weak.mixB 1 [some 0] hn0 (by decide) (by decide) ?_ ?_ ?_
    all_goals first | (simp [inv_cons, inv_nil, pickOb]; done) | rfl
  | false =>
   replace h := iteF rfl h
   refine AW.cond_false (by simp) ?_
   refine AW.exit ?_
   try simp only [sp_l, sp_r, Post.seq, Post.block, Nat.reduceEqDiff, reduceIte, Nat.zero_ne_one, Nat.one_ne_zero]
   obtain rfl := Option.some.inj h
   refine xP_i ?_
   refine Weak.mixB 1 [some 0] hn0 (by decide) (by decide) ?_ ?_ ?_
   all_goals first | (simp [inv_cons, inv_nil, pickOb]; done) | rfl
 ·rintro e s hp
  obtain ⟨rfl, hw⟩ := hp
  refine ⟨_, hw, ?_⟩
  try simp only [sp_l, sp_r, Post.seq, Post.block, Nat.reduceEqDiff, reduceIte, Nat.zero_ne_one, Nat.one_ne_zero]
  obtain rfl := Option.some.inj h
  refine Left.of (av := _) (by simp [Try.f62, resV, resC, comp]; rfl) ?_
  exact LeftV.mix 1 [some 0] hn0 rfl (by decide) rfl (by simp [pickOb, inv_cons, inv_nil]) (by simp [inv_cons, inv_nil])
theorem en_slices_insertionSortOrdered_int : Enters Try.prog 62 := enters Try.func62 (by kernel_rfl) rfl
def slices_pdqsortOrdered_int_sh (n : Nat) (a0 : List Int) (a1 : Int) (a2 : Int) (a3 : Int) : Option (List Int) :=
bn (iter n (fun (y1 : Unit) =>
lt (subI .i64 a2 a1) fun v4 =>
lt (leI v4 12) fun v5 =>
ite' v5 (bn (slices_insertionSortOrdered_int_sh n a0 a1 a2) fun v6 =>
chk (lenB v6 a0) <|
some (.inr v6)) (none)) ()) fun (y2 : List Int) =>
some y2
set_option maxRecDepth 8000 in
set_option maxHeartbeats 8000000 in
theorem s_slices_pdqsortOrdered_int {n : Nat} {a0 : List Int} {a1 : Int} {a2 : Int} {a3 : Int} {r : List Int} (h : slices_pdqsortOrdered_int_sh n a0 a1 a2 a3 = some r) : Sound Try.prog 55 [.l (.r 0 1 0 a0.length), .l (.s (.int .i64 a1)), .l (.s (.int .i64 a2)), .l (.s (.int .i64 a3))] [⟨3, 1, false, some 0, lvs (encI a0)⟩] (.t []) [some ⟨3, 1, false, some 0, lvs (encI r)⟩] := by
 unfold slices_pdqsortOrdered_int_sh at h
 refine Sound.of_aw (fn := Try.f55) (c := _) Try.func55 rfl (by simp [Try.f55]) fun cx hG hnb => ?_
 rw [show Try.f55.ntmps = 134 from rfl]
 have hn0 : cx.nb = 1 := hnb
 simp only [st0_mk, initTm, List.map_cons, List.map_nil]
 apply AW.step
 ·simp
  intros; rfl
 apply AW.step
 ·simp
  intros; rfl
 refine AW.block ?_
 replace h := bnE h; obtain ⟨y2, g2, h⟩ := h
 refine AW.iterP g2 (mk := fun gh ls _ => (⟨[(0, .l (.r 0 1 0 a0.length)), (1, .l (.s (.int .i64 a1))), (2, .l (.s (.int .i64 a2))), (3, .l (.s (.int .i64 a3))), (8, .l (.s (.bool true))), (9, .l (.s (.bool true)))], [some ⟨3, 1, false, some 0, lvs (encI a0)⟩], 134, gh, ls⟩ : St)) (N := fun gh ls => (rP (cx := cx) (P := Try.prog) Try.f55 (fun q => .t []) (fun q => [some ⟨3, 1, false, some 0, lvs (encI q)⟩]))) ?_ noR ?_ ?_
 ·refine Weak.mixB 1 [some 0] hn0 (by decide) (by decide) ?_ ?_ ?_
  all_goals first | (simp [inv_cons, inv_nil, pickOb]; done) | rfl
 ·clear h; intro y1 y3 h
  refine AW.block ?_
  replace h := ltE h; obtain ⟨v4, e4, h⟩ := h
  apply AW.step
  ·simp [← e4]
   intros; rfl
  refine AW.seq ?_
  replace h := ltE h; obtain ⟨v5, e5, h⟩ := h
  apply AW.step
  ·simp [← e5]
   intros; rfl
  cases v5 with
  | true =>
   replace h := iteT rfl h
   refine AW.cond_true (by simp) ?_
   replace h := bnE h; obtain ⟨v6, e6, h⟩ := h
   replace h := chkE h; obtain ⟨e7, h⟩ := h
   apply AW.step
   ·simp
    intros
    refine xcall_obs [0] en_slices_insertionSortOrdered_int (s_slices_insertionSortOrdered_int e6) (by decide) (by simp [pickOb, inv_cons, inv_nil]) rfl rfl (by simp) ⟨.l (.own' (by simp [inv_cons, inv_nil]) (by simp)), .l (.s _), .l (.s _), trivial⟩ ?_
    try simp
    intros; rfl
   obtain rfl := Option.some.inj h
   refine AW.ret ?_
   try simp only [sp_l, sp_r, Post.seq, Post.block, Nat.reduceEqDiff, reduceIte, Nat.zero_ne_one, Nat.one_ne_zero]
   refine rP_i ?_
   refine Left.of (av := _) (by simp [Try.f55, resV, resC, comp]; rfl) ?_
   exact LeftV.mix 1 [some 0] hn0 rfl (by decide) rfl (by simp [pickOb, inv_cons, inv_nil, lenB_e e7]) (by simp [inv_cons, inv_nil, lenB_e e7])
  | false =>
   replace h := iteF rfl h
   refine AW.cond_false (by simp) ?_
   cases h
 ·rintro e s hp
  obtain ⟨rfl, hl⟩ := hp
  refine ⟨_, Weak.refl _, ?_⟩
  obtain rfl := Option.some.inj h
  exact hl
theorem en_slices_pdqsortOrdered_int : Enters Try.prog 55 := enters Try.func55 (by kernel_rfl) rfl
def slices_Sort_int_sh (n : Nat) (a0 : List Int) : Option (List Int) :=
lt (lenI a0) fun v1 =>
lt (cvI .u64 v1) fun v2 =>
bn (bits_Len_sh n v2) fun v3 =>
bn (slices_pdqsortOrdered_int_sh n a0 0 v1 v3) fun v4 =>
chk (lenB v4 a0) <|
some v4
set_option maxRecDepth 8000 in
set_option maxHeartbeats 8000000 in
theorem s_slices_Sort_int {n : Nat} {a0 : List Int} {r : List Int} (h : slices_Sort_int_sh n a0 = some r) : Sound Try.prog 43 [.l (.r 0 1 0 a0.length)] [⟨3, 1, false, some 0, lvs (encI a0)⟩] (.t []) [some ⟨3, 1, false, some 0, lvs (encI r)⟩] := by
 unfold slices_Sort_int_sh at h
 refine Sound.of_aw (fn := Try.f43) (c := _) Try.func43 rfl (by simp [Try.f43]) fun cx hG hnb => ?_
 rw [show Try.f43.ntmps = 11 from rfl]
 have hn0 : cx.nb = 1 := hnb
 simp only [st0_mk, initTm, List.map_cons, List.map_nil]
 replace h := ltE h; obtain ⟨v1, e1, h⟩ := h
 apply AW.step
 ·simp [lenI_cast e1]
  intros; rfl
 replace h := ltE h; obtain ⟨v2, e2, h⟩ := h
 replace h := bnE h; obtain ⟨v3, e3, h⟩ := h
 replace h := bnE h; obtain ⟨v4, e4, h⟩ := h
 replace h := chkE h; obtain ⟨e5, h⟩ := h
 apply AW.last
 ·simp [← e2]
  intros
  refine xcall_plain en_bits_Len (s_bits_Len e3) rfl ⟨.same rfl, trivial⟩ ?_
  try simp [← e2]
  intros
  refine xcall_obs [0] en_slices_pdqsortOrdered_int (s_slices_pdqsortOrdered_int e4) (by decide) (by simp [pickOb, inv_cons, inv_nil]) rfl rfl (by simp) ⟨.l (.own' (by simp [inv_cons, inv_nil]) (by simp)), .l (.s _), .l (.s _), .l (.s _), trivial⟩ ?_
  try simp [← e2]
  intros; rfl
 obtain rfl := Option.some.inj h
 refine Left.of (av := _) (by simp [Try.f43, resV, resC, comp]; rfl) ?_
 exact LeftV.mix 1 [some 0] hn0 rfl (by decide) rfl (by simp [pickOb, inv_cons, inv_nil, lenB_e e5]) (by simp [inv_cons, inv_nil, lenB_e e5])
theorem en_slices_Sort_int : Enters Try.prog 43 := enters Try.func43 (by kernel_rfl) rfl
def claims_Masters_sh (n : Nat) (a0 : List Claim) : Option (List Int) :=
lt (lenI a0) fun v1 =>
bn (iter n (fun (y2 : Int × List Int) =>
lt (ltI y2.1 v1) fun v5 =>
ite' v5 (bn (nth a0 y2.1) fun v6 =>
chk (room (y2.2.length + 1) 8) <|
lt (y2.2 ++ [v6.node]) fun v8 =>
lt (addI .i64 y2.1 1) fun v9 =>
some (.inl (v9, v8))) (some (.inr y2.2))) (0, [])) fun (y3 : List Int) =>
bn (slices_Sort_int_sh n y3) fun v10 =>
chk (lenB v10 y3) <|
chk (cmB v10) <|
lt (compL v10) fun v13 =>
chk (room v13.length 1) <|
some v13
set_option maxRecDepth 8000 in
set_option maxHeartbeats 8000000 in
theorem s_claims_Masters {n : Nat} {a0 : List Claim} {r : List Int} (h : claims_Masters_sh n a0 = some r) : Sound Try.prog 28 [.l (.d false 4 (encClaim a0))] [] (.l (.d false 1 (encI r))) [] := by
 unfold claims_Masters_sh at h
 refine Sound.of_aw (fn := Try.f28) (c := _) Try.func28 rfl (by simp [Try.f28]) fun cx hG hnb => ?_
 rw [show Try.f28.ntmps = 22 from rfl]
 have hn0 : cx.nb = 0 := hnb
 simp only [st0_mk, initTm, List.map_cons, List.map_nil]
 apply AW.step
 ·simp
  intros; rfl
 apply AW.step
 ·simp
  intros; rfl
 refine AW.seq ?_
 replace h := ltE h; obtain ⟨v1, e1, h⟩ := h
 apply AW.step
 ·simp [lenI_cast e1]
  intros; rfl
 refine AW.block ?_
 replace h := bnE h; obtain ⟨y3, g3, h⟩ := h
 refine AW.iterP g3 (mk := fun gh ls q => (⟨[(3, .l (.r 0 1 0 q.2.length)), (6, .l (.d false 4 (encClaim a0))), (7, .l (.s (.int .i64 v1))), (8, .l (.s (.int .i64 q.1)))], [some ⟨3, 1, true, none, lvs (encI q.2)⟩], 22, gh, ls⟩ : St)) (N := fun gh ls => (xP 0 (cx := cx) (fun q => (⟨[(3, .l (.r 0 1 0 q.length))], [some ⟨3, 1, true, none, lvs (encI q)⟩], 22, gh, ls⟩ : St)))) ?_ noX ?_ ?_
 ·refine W.nilRow 3 3 1 0 (by simp) rfl rfl ?_
  refine Weak.mixN [some 0] hn0 (by decide) ?_ ?_ rfl
  all_goals first | (simp [inv_cons, inv_nil, pickOb]; done) | rfl
 ·clear h; intro y2 y4 h
  replace h := ltE h; obtain ⟨v5, e5, h⟩ := h
  apply AW.step
  ·simp [← e5]
   intros; rfl
  refine AW.seq ?_
  cases v5 with
  | true =>
   replace h := iteT rfl h
   refine AW.cond_true (by simp) ?_
   refine AW.skip ?_
   try simp only [sp_l, sp_r, Post.seq, Post.block, Nat.reduceEqDiff, reduceIte, Nat.zero_ne_one, Nat.one_ne_zero]
   try simp only [sp_l, sp_r, Post.seq, Post.block, Nat.reduceEqDiff, reduceIte, Nat.zero_ne_one, Nat.one_ne_zero]
   refine AW.seq ?_
   refine AW.block ?_
   replace h := bnE h; obtain ⟨v6, e6, h⟩ := h
   apply AW.step
   ·simp [nth_d e6]
    intros; rfl
   replace h := chkE h; obtain ⟨e7, h⟩ := h
   replace h := ltE h; obtain ⟨v8, e8, h⟩ := h
   apply AW.last
   ·simp [← encI_append, ← e8, app_len1 e8]
    intros
    refine xrow_own ?_
    try simp [← encI_append, ← e8, app_len1 e8]
    intros
    refine xapp_pushN (acc := encI y2.2) (ys := encI [v6.node]) (cap := none) (k := 1) tb_el33 tb_ti3 (by simp) (by simp [encI, lvs]) (encI_sz _) (by simp) (by simp) (by first | (simp; done) | simpa using (room_d e7).1) ?_
    try simp [← encI_append, ← e8, app_len1 e8]
    intros; rfl
   try simp only [sp_l, sp_r, Post.seq, Post.block, Nat.reduceEqDiff, reduceIte, Nat.zero_ne_one, Nat.one_ne_zero]
   replace h := ltE h; obtain ⟨v9, e9, h⟩ := h
   apply AW.last
   ·simp [← e9]
    intros; rfl
   obtain rfl := Option.some.inj h
   refine nP_i ?_
   refine Weak.mixN [some 3] hn0 (by decide) ?_ ?_ rfl
   all_goals first | (simp [inv_cons, inv_nil, pickOb, lvs_encI1]; done) | rfl
  | false =>
   replace h := iteF rfl h
   refine AW.cond_false (by simp) ?_
   refine AW.exit ?_
   try simp only [sp_l, sp_r, Post.seq, Post.block, Nat.reduceEqDiff, reduceIte, Nat.zero_ne_one, Nat.one_ne_zero]
   obtain rfl := Option.some.inj h
   refine xP_i ?_
   refine Weak.mixN [some 0] hn0 (by decide) ?_ ?_ rfl
   all_goals first | (simp [inv_cons, inv_nil, pickOb]; done) | rfl
 ·rintro e s hp
  obtain ⟨rfl, hw⟩ := hp
  refine ⟨_, hw, ?_⟩
  try simp only [sp_l, sp_r, Post.seq, Post.block, Nat.reduceEqDiff, reduceIte, Nat.zero_ne_one, Nat.one_ne_zero]
  refine AW.pin 0 (ty := 3) (sz := 1) (cs := lvs (encI y3)) (by simp) hn0 (by omega) rfl ?_
  replace h := bnE h; obtain ⟨v10, e10, h⟩ := h
  replace h := chkE h; obtain ⟨e11, h⟩ := h
  apply AW.step
  ·simp
   intros
   refine xcall_obs [0] en_slices_Sort_int (s_slices_Sort_int e10) (by decide) (by simp [pickOb, inv_cons, inv_nil]) rfl rfl (by simp) ⟨.l (.own' (by simp [inv_cons, inv_nil]) (by simp)), trivial⟩ ?_
   try simp
   intros; rfl
  refine AW.unpin 0 (ty := 3) (sz := 1) (cs := lvs (encI v10)) (by simp) rfl ?_
  replace h := chkE h; obtain ⟨e12, h⟩ := h
  replace h := ltE h; obtain ⟨v13, e13, h⟩ := h
  apply AW.step
  ·simp [lenB_e e11, obAfter, outR, keptR, inv_cons, inv_nil, ← e13]
   intros
   refine xcall_rowsN [0] [1] ⟨_, rfl, rfl, rfl, rfl⟩ en_cm_I (sm_I v10 e12) (by decide) rfl rfl (by simp [pickOb]) rfl rfl rfl (by simp) (by simp) ⟨.l (.own' (by simp [inv_cons, inv_nil]) (by simp [lenB_e e11])), trivial⟩ ?_
   try simp [lenB_e e11, obAfter, outR, keptR, inv_cons, inv_nil, ← e13]
   intros; rfl
  replace h := chkE h; obtain ⟨e14, h⟩ := h
  refine AW.frzRow 1 (ty := 3) (cap := none) (sz := 1) (es := encI v13) (by simp) (by omega) (encI_sz _) (by first | exact (room_d e14).2 | simpa using (room_d e14).2 | simp) (by simp [Tm.frz, AV.frz, LV.frz]; rfl) (by simp [Ob.frz, LV.frz]; rfl) rfl ?_
  obtain rfl := Option.some.inj h
  refine AW.ret ?_
  refine Left.plain hnb (by simp [Try.f28, resV, resC, comp]; rfl) rfl rfl ?_
  simp
theorem en_claims_Masters : Enters Try.prog 28 := enters Try.func28 (by kernel_rfl) rfl
def watch_Suspects_sh (n : Nat) (a0 : Watch) : Option (List Int) :=
lt (lenI a0.heard) fun v1 =>
bn (iter n (fun (y2 : Int × List Int) =>
lt (ltI y2.1 v1) fun v5 =>
ite' v5 (bn (bn (nth a0.heard y2.1) fun v7 =>
lt (geI v7 6) fun v8 =>
ite' v8 (chk (room (y2.2.length + 1) 8) <|
lt (y2.2 ++ [y2.1]) fun v10 =>
some (v10)) (some (y2.2))) fun (y6 : List Int) =>
lt (addI .i64 y2.1 1) fun v11 =>
some (.inl (v11, y6))) (some (.inr y2.2))) (0, [])) fun (y3 : List Int) =>
chk (room y3.length 1) <|
some y3
set_option maxRecDepth 8000 in
set_option maxHeartbeats 8000000 in
theorem s_watch_Suspects {n : Nat} {a0 : Watch} {r : List Int} (h : watch_Suspects_sh n a0 = some r) : Sound Try.prog 53 [.g [.d false 1 (encI a0.heard), .d false 1 (encLI a0.says)]] [] (.l (.d false 1 (encI r))) [] := by
 unfold watch_Suspects_sh at h
 refine Sound.of_aw (fn := Try.f53) (c := _) Try.func53 rfl (by simp [Try.f53]) fun cx hG hnb => ?_
 rw [show Try.f53.ntmps = 22 from rfl]
 have hn0 : cx.nb = 0 := hnb
 simp only [st0_mk, initTm, List.map_cons, List.map_nil]
 apply AW.step
 ·simp
  intros; rfl
 apply AW.step
 ·simp
  intros; rfl
 refine AW.seq ?_
 replace h := ltE h; obtain ⟨v1, e1, h⟩ := h
 apply AW.step
 ·simp [lenI_cast e1]
  intros; rfl
 refine AW.block ?_
 replace h := bnE h; obtain ⟨y3, g3, h⟩ := h
 refine AW.iterP g3 (mk := fun gh ls q => (⟨[(3, .l (.r 0 1 0 q.2.length)), (7, .l (.d false 1 (encI a0.heard))), (8, .l (.s (.int .i64 v1))), (9, .l (.s (.int .i64 q.1)))], [some ⟨3, 1, true, none, lvs (encI q.2)⟩], 22, gh, ls⟩ : St)) (N := fun gh ls => (xP 0 (cx := cx) (fun q => (⟨[(3, .l (.r 0 1 0 q.length))], [some ⟨3, 1, true, none, lvs (encI q)⟩], 22, gh, ls⟩ : St)))) ?_ noX ?_ ?_
 ·refine W.nilRow 3 3 1 1 (by simp) rfl rfl ?_
  refine Weak.mixN [some 1] hn0 (by decide) ?_ ?_ rfl
  all_goals first | (simp [inv_cons, inv_nil, pickOb]; done) | rfl
 ·clear h; intro y2 y4 h
  replace h := ltE h; obtain ⟨v5, e5, h⟩ := h
  apply AW.step
  ·simp [← e5]
   intros; rfl
  refine AW.seq ?_
  cases v5 with
  | true =>
   replace h := iteT rfl h
   refine AW.cond_true (by simp) ?_
   refine AW.skip ?_
   try simp only [sp_l, sp_r, Post.seq, Post.block, Nat.reduceEqDiff, reduceIte, Nat.zero_ne_one, Nat.one_ne_zero]
   try simp only [sp_l, sp_r, Post.seq, Post.block, Nat.reduceEqDiff, reduceIte, Nat.zero_ne_one, Nat.one_ne_zero]
   replace h := bnE h; obtain ⟨y6, g6, h⟩ := h
   refine AW.flow (p := fun gh ls => (nP (cx := cx) (fun q => (⟨[(3, .l (.r 0 1 0 q.length)), (7, .l (.d false 1 (encI a0.heard))), (8, .l (.s (.int .i64 v1))), (9, .l (.s (.int .i64 y2.1)))], [some ⟨3, 1, true, none, lvs (encI q)⟩], 22, gh, ls⟩ : St))) y6) ?_ ?_
   ·replace h := g6; clear g6
    refine AW.block ?_
    replace h := bnE h; obtain ⟨v7, e7, h⟩ := h
    apply AW.step
    ·simp [nth_d e7]
     intros; rfl
    replace h := ltE h; obtain ⟨v8, e8, h⟩ := h
    apply AW.step
    ·simp [← e8]
     intros; rfl
    cases v8 with
    | true =>
     replace h := iteT rfl h
     refine AW.cond_true (by simp) ?_
     replace h := chkE h; obtain ⟨e9, h⟩ := h
     replace h := ltE h; obtain ⟨v10, e10, h⟩ := h
     apply AW.last
     ·simp [← encI_append, ← e10, app_len1 e10]
      intros
      refine xrow_own ?_
      try simp [← encI_append, ← e10, app_len1 e10]
      intros
      refine xapp_pushN (acc := encI y2.2) (ys := encI [y2.1]) (cap := none) (k := 1) tb_el33 tb_ti3 (by simp) (by simp [encI, lvs]) (encI_sz _) (by simp) (by simp) (by first | (simp; done) | simpa using (room_d e9).1) ?_
      try simp [← encI_append, ← e10, app_len1 e10]
      intros; rfl
     obtain rfl := Option.some.inj h
     refine nP_i ?_
     refine Weak.mixN [some 2] hn0 (by decide) ?_ ?_ rfl
     all_goals first | (simp [inv_cons, inv_nil, pickOb, lvs_encI1]; done) | rfl
    | false =>
     replace h := iteF rfl h
     refine AW.cond_false (by simp) ?_
     refine AW.skip ?_
     try simp only [sp_l, sp_r, Post.seq, Post.block, Nat.reduceEqDiff, reduceIte, Nat.zero_ne_one, Nat.one_ne_zero]
     obtain rfl := Option.some.inj h
     refine nP_i ?_
     refine Weak.mixN [some 0] hn0 (by decide) ?_ ?_ rfl
     all_goals first | (simp [inv_cons, inv_nil, pickOb]; done) | rfl
   ·rintro e s hp
    obtain ⟨rfl, hw⟩ := hp
    refine ⟨_, hw, ?_⟩
    try simp only [sp_l, sp_r, Post.seq, Post.block, Nat.reduceEqDiff, reduceIte, Nat.zero_ne_one, Nat.one_ne_zero]
    replace h := ltE h; obtain ⟨v11, e11, h⟩ := h
    apply AW.last
    ·simp [← e11]
     intros; rfl
    obtain rfl := Option.some.inj h
    refine nP_i ?_
    refine Weak.mixN [some 0] hn0 (by decide) ?_ ?_ rfl
    all_goals first | (simp [inv_cons, inv_nil, pickOb]; done) | rfl
  | false =>
   replace h := iteF rfl h
   refine AW.cond_false (by simp) ?_
   refine AW.exit ?_
   try simp only [sp_l, sp_r, Post.seq, Post.block, Nat.reduceEqDiff, reduceIte, Nat.zero_ne_one, Nat.one_ne_zero]
   obtain rfl := Option.some.inj h
   refine xP_i ?_
   refine Weak.mixN [some 0] hn0 (by decide) ?_ ?_ rfl
   all_goals first | (simp [inv_cons, inv_nil, pickOb]; done) | rfl
 ·rintro e s hp
  obtain ⟨rfl, hw⟩ := hp
  refine ⟨_, hw, ?_⟩
  try simp only [sp_l, sp_r, Post.seq, Post.block, Nat.reduceEqDiff, reduceIte, Nat.zero_ne_one, Nat.one_ne_zero]
  apply AW.step
  ·simp
   intros; rfl
  replace h := chkE h; obtain ⟨e12, h⟩ := h
  refine AW.frzRow 0 (ty := 3) (cap := none) (sz := 1) (es := encI y3) (by simp) (by omega) (encI_sz _) (by first | exact (room_d e12).2 | simpa using (room_d e12).2 | simp) (by simp [Tm.frz, AV.frz, LV.frz]; rfl) (by simp [Ob.frz, LV.frz]; rfl) rfl ?_
  obtain rfl := Option.some.inj h
  refine AW.ret ?_
  refine Left.plain hnb (by simp [Try.f53, resV, resC, comp]; rfl) rfl rfl ?_
  simp
theorem en_watch_Suspects : Enters Try.prog 53 := enters Try.func53 (by kernel_rfl) rfl
def slices_Index_int_sh (n : Nat) (a0 : List Int) (a1 : Int) : Option Int :=
lt (lenI a0) fun v1 =>
bn (iter n (fun (y2 : Int) =>
lt (ltI y2 v1) fun v5 =>
ite' v5 (bn (nth a0 y2) fun v6 =>
lt (eqI a1 v6) fun v7 =>
ite' v7 (some (.inr (.inr y2))) (lt (addI .i64 y2 1) fun v8 =>
some (.inl v8))) (some (.inr (.inl ())))) 0) fun (y3 : Unit ⊕ Int) =>
sm y3 (fun y9 => some (-1)) (fun y10 => some y10)
set_option maxRecDepth 8000 in
set_option maxHeartbeats 8000000 in
theorem s_slices_Index_int {n : Nat} {a0 : List Int} {a1 : Int} {r : Int} (h : slices_Index_int_sh n a0 a1 = some r) : Sound Try.prog 45 [.l (.d false 1 (encI a0)), .l (.s (.int .i64 a1))] [] (.l (.s (.int .i64 r))) [] := by
 unfold slices_Index_int_sh at h
 refine Sound.of_aw (fn := Try.f45) (c := _) Try.func45 rfl (by simp [Try.f45]) fun cx hG hnb => ?_
 rw [show Try.f45.ntmps = 19 from rfl]
 have hn0 : cx.nb = 0 := hnb
 simp only [st0_mk, initTm, List.map_cons, List.map_nil]
 apply AW.step
 ·simp
  intros; rfl
 refine AW.seq ?_
 replace h := ltE h; obtain ⟨v1, e1, h⟩ := h
 apply AW.step
 ·simp [lenI_cast e1]
  intros; rfl
 refine AW.block ?_
 replace h := bnE h; obtain ⟨y3, g3, h⟩ := h
 refine AW.iterP g3 (mk := fun gh ls q => (⟨[(0, .l (.d false 1 (encI a0))), (1, .l (.s (.int .i64 a1))), (7, .l (.s (.int .i64 v1))), (8, .l (.s (.int .i64 q)))], [], 19, gh, ls⟩ : St)) (N := fun gh ls => (sp (xP 0 (cx := cx) (fun _ => (⟨[], [], 19, gh, ls⟩ : St))) (rP (cx := cx) (P := Try.prog) Try.f45 (fun q => .l (.s (.int .i64 q))) (fun q => [])))) ?_ (noS noX noR) ?_ ?_
 ·refine Weak.mixN [] hn0 (by decide) ?_ ?_ rfl
  all_goals first | (simp [inv_cons, inv_nil, pickOb]; done) | rfl
 ·clear h; intro y2 y4 h
  replace h := ltE h; obtain ⟨v5, e5, h⟩ := h
  apply AW.step
  ·simp [← e5]
   intros; rfl
  refine AW.seq ?_
  cases v5 with
  | true =>
   replace h := iteT rfl h
   refine AW.cond_true (by simp) ?_
   refine AW.skip ?_
   try simp only [sp_l, sp_r, Post.seq, Post.block, Nat.reduceEqDiff, reduceIte, Nat.zero_ne_one, Nat.one_ne_zero]
   try simp only [sp_l, sp_r, Post.seq, Post.block, Nat.reduceEqDiff, reduceIte, Nat.zero_ne_one, Nat.one_ne_zero]
   refine AW.seq ?_
   refine AW.block ?_
   apply AW.step
   ·simp
    intros; rfl
   replace h := bnE h; obtain ⟨v6, e6, h⟩ := h
   replace h := ltE h; obtain ⟨v7, e7, h⟩ := h
   apply AW.step
   ·simp [nth_d e6, ← e7]
    intros; rfl
   cases v7 with
   | true =>
    replace h := iteT rfl h
    refine AW.cond_true (by simp) ?_
    apply AW.step
    ·simp
     intros; rfl
    obtain rfl := Option.some.inj h
    refine AW.ret ?_
    try simp only [sp_l, sp_r, Post.seq, Post.block, Nat.reduceEqDiff, reduceIte, Nat.zero_ne_one, Nat.one_ne_zero]
    refine rP_i ?_
    refine Left.plain hnb (by simp [Try.f45, resV, resC, comp]; rfl) rfl rfl ?_
    simp
   | false =>
    replace h := iteF rfl h
    refine AW.cond_false (by simp) ?_
    refine AW.skip ?_
    try simp only [sp_l, sp_r, Post.seq, Post.block, Nat.reduceEqDiff, reduceIte, Nat.zero_ne_one, Nat.one_ne_zero]
    try simp only [sp_l, sp_r, Post.seq, Post.block, Nat.reduceEqDiff, reduceIte, Nat.zero_ne_one, Nat.one_ne_zero]
    replace h := ltE h; obtain ⟨v8, e8, h⟩ := h
    apply AW.last
    ·simp [← e8]
     intros; rfl
    obtain rfl := Option.some.inj h
    refine nP_i ?_
    refine Weak.mixN [] hn0 (by decide) ?_ ?_ rfl
    all_goals first | (simp [inv_cons, inv_nil, pickOb]; done) | rfl
  | false =>
   replace h := iteF rfl h
   refine AW.cond_false (by simp) ?_
   refine AW.exit ?_
   try simp only [sp_l, sp_r, Post.seq, Post.block, Nat.reduceEqDiff, reduceIte, Nat.zero_ne_one, Nat.one_ne_zero]
   obtain rfl := Option.some.inj h
   try simp only [sp_l, sp_r]
   refine xP_i ?_
   refine Weak.mixN [] hn0 (by decide) ?_ ?_ rfl
   all_goals first | (simp [inv_cons, inv_nil, pickOb]; done) | rfl
 ·rintro e s hp
  rcases y3 with y9 | y10
  ·replace h := smL h
   obtain ⟨rfl, hw⟩ := hp
   refine ⟨_, hw, ?_⟩
   try simp only [sp_l, sp_r, Post.seq, Post.block, Nat.reduceEqDiff, reduceIte, Nat.zero_ne_one, Nat.one_ne_zero]
   apply AW.step
   ·simp
    intros; rfl
   obtain rfl := Option.some.inj h
   refine AW.ret ?_
   refine Left.plain hnb (by simp [Try.f45, resV, resC, comp]; rfl) rfl rfl ?_
   simp
  ·replace h := smR h
   obtain ⟨rfl, hl⟩ := hp
   refine ⟨_, Weak.refl _, ?_⟩
   obtain rfl := Option.some.inj h
   exact hl
theorem en_slices_Index_int : Enters Try.prog 45 := enters Try.func45 (by kernel_rfl) rfl
def slices_Contains_int_sh (n : Nat) (a0 : List Int) (a1 : Int) : Option Bool :=
bn (slices_Index_int_sh n a0 a1) fun v1 =>
lt (geI v1 0) fun v2 =>
some v2
set_option maxRecDepth 8000 in
set_option maxHeartbeats 8000000 in
theorem s_slices_Contains_int {n : Nat} {a0 : List Int} {a1 : Int} {r : Bool} (h : slices_Contains_int_sh n a0 a1 = some r) : Sound Try.prog 29 [.l (.d false 1 (encI a0)), .l (.s (.int .i64 a1))] [] (.l (.s (.bool r))) [] := by
 unfold slices_Contains_int_sh at h
 refine Sound.of_aw (fn := Try.f29) (c := _) Try.func29 rfl (by simp [Try.f29]) fun cx hG hnb => ?_
 rw [show Try.f29.ntmps = 9 from rfl]
 have hn0 : cx.nb = 0 := hnb
 simp only [st0_mk, initTm, List.map_cons, List.map_nil]
 apply AW.step
 ·simp
  intros; rfl
 replace h := bnE h; obtain ⟨v1, e1, h⟩ := h
 replace h := ltE h; obtain ⟨v2, e2, h⟩ := h
 apply AW.step
 ·simp [← e2]
  intros
  refine xcall_plain en_slices_Index_int (s_slices_Index_int e1) rfl ⟨.same rfl, .same rfl, trivial⟩ ?_
  try simp [← e2]
  intros; rfl
 obtain rfl := Option.some.inj h
 refine AW.ret ?_
 refine Left.plain hnb (by simp [Try.f29, resV, resC, comp]; rfl) rfl rfl ?_
 simp
theorem en_slices_Contains_int : Enters Try.prog 29 := enters Try.func29 (by kernel_rfl) rfl
def watch_Failed_sh (n : Nat) (a0 : Watch) (a1 : Int) (a2 : List Int) (a3 : Int) : Option Bool :=
bn (lt (eqI a3 a1) fun v2 =>
ite' v2 (some (true)) (bn (watch_Suspects_sh n a0) fun v3 =>
bn (slices_Contains_int_sh n v3 a3) fun v4 =>
lt (notB v4) fun v5 =>
some (v5))) fun (y1 : Bool) =>
lt (y1) fun v6 =>
ite' v6 (some false) (lt (lenI a2) fun v7 =>
bn (iter n (fun (y8 : Int × Int) =>
lt (ltI y8.2 v7) fun v11 =>
ite' v11 (bn (bn (nth a2 y8.2) fun v13 =>
lt (eqI v13 a3) fun v14 =>
ite' v14 (some (y8.1)) (bn (lt (neI v13 a1) fun v16 =>
ite' v16 (lt (ltI v13 0) fun v17 =>
ite' v17 (some (true)) (lt (lenI a0.says) fun v18 =>
lt (geI v13 v18) fun v19 =>
ite' v19 (some (true)) (bn (nth a0.says v13) fun v20 =>
bn (slices_Contains_int_sh n v20 a3) fun v21 =>
lt (notB v21) fun v22 =>
some (v22)))) (some (false))) fun (y15 : Bool) =>
lt (y15) fun v23 =>
ite' v23 (some (y8.1)) (lt (addI .i64 y8.1 1) fun v24 =>
some (v24)))) fun (y12 : Int) =>
lt (addI .i64 y8.2 1) fun v25 =>
some (.inl (y12, v25))) (some (.inr y8.1))) (0, 0)) fun (y9 : Int) =>
lt (mulI .i64 2 y9) fun v26 =>
lt (lenI a2) fun v27 =>
lt (gtI v26 v27) fun v28 =>
some v28)
set_option maxRecDepth 8000 in
set_option maxHeartbeats 8000000 in
theorem s_watch_Failed {n : Nat} {a0 : Watch} {a1 : Int} {a2 : List Int} {a3 : Int} {r : Bool} (h : watch_Failed_sh n a0 a1 a2 a3 = some r) : Sound Try.prog 41 [.g [.d false 1 (encI a0.heard), .d false 1 (encLI a0.says)], .l (.s (.int .i64 a1)), .l (.d false 1 (encI a2)), .l (.s (.int .i64 a3))] [] (.l (.s (.bool r))) [] := by
 unfold watch_Failed_sh at h
 refine Sound.of_aw (fn := Try.f41) (c := _) Try.func41 rfl (by simp [Try.f41]) fun cx hG hnb => ?_
 rw [show Try.f41.ntmps = 65 from rfl]
 have hn0 : cx.nb = 0 := hnb
 simp only [st0_mk, initTm, List.map_cons, List.map_nil]
 apply AW.step
 ·simp
  intros; rfl
 refine AW.scope ?_ ?_
 ·first | exact fun l s h => h | (intro l s h; simpa [nP, sp, xP, rP] using h)
 refine AW.seq ?_
 replace h := bnE h; obtain ⟨y1, g1, h⟩ := h
 refine AW.flow (p := fun gh ls => (nP (cx := cx) (fun q => (⟨[(1, .l (.s (.int .i64 a1))), (2, .l (.d false 1 (encI a2))), (3, .l (.s (.int .i64 a3))), (4, .l (.p 0 0)), (21, .l (.s (.bool q)))], [some ⟨36, 2, false, none, [.d false 1 (encI a0.heard), .d false 1 (encLI a0.says)]⟩], 65, gh, ls⟩ : St))) y1) ?_ ?_
 ·replace h := g1; clear g1
  replace h := ltE h; obtain ⟨v2, e2, h⟩ := h
  cases v2 with
  | true =>
   replace h := iteT rfl h
   apply AW.last
   ·simp [← e2]
    intros; rfl
   obtain rfl := Option.some.inj h
   refine nP_i ?_
   refine Weak.mixN [some 0] hn0 (by decide) ?_ ?_ rfl
   all_goals first | (simp [inv_cons, inv_nil, pickOb]; done) | rfl
  | false =>
   replace h := iteF rfl h
   replace h := bnE h; obtain ⟨v3, e3, h⟩ := h
   replace h := bnE h; obtain ⟨v4, e4, h⟩ := h
   replace h := ltE h; obtain ⟨v5, e5, h⟩ := h
   apply AW.last
   ·simp [← e2, ← e5]
    intros
    refine xcall_plain en_watch_Suspects (s_watch_Suspects e3) rfl ⟨.same rfl, trivial⟩ ?_
    try simp [← e2, ← e5]
    intros
    refine xcall_plain en_slices_Contains_int (s_slices_Contains_int e4) rfl ⟨.same rfl, .same rfl, trivial⟩ ?_
    try simp [← e2, ← e5]
    intros; rfl
   obtain rfl := Option.some.inj h
   refine nP_i ?_
   refine Weak.mixN [some 0] hn0 (by decide) ?_ ?_ rfl
   all_goals first | (simp [inv_cons, inv_nil, pickOb]; done) | rfl
 ·rintro e s hp
  obtain ⟨rfl, hw⟩ := hp
  refine ⟨_, hw, ?_⟩
  try simp only [sp_l, sp_r, Post.seq, Post.block, Nat.reduceEqDiff, reduceIte, Nat.zero_ne_one, Nat.one_ne_zero]
  replace h := ltE h; obtain ⟨v6, e6, h⟩ := h
  rw [← e6]
  cases v6 with
  | true =>
   replace h := iteT rfl h
   refine AW.cond_true (by simp) ?_
   apply AW.step
   ·simp
    intros; rfl
   obtain rfl := Option.some.inj h
   refine AW.ret ?_
   refine Left.plain hnb (by simp [Try.f41, resV, resC, comp]; rfl) rfl rfl ?_
   simp
  | false =>
   replace h := iteF rfl h
   refine AW.cond_false (by simp) ?_
   refine AW.skip ?_
   try simp only [sp_l, sp_r, Post.seq, Post.block, Nat.reduceEqDiff, reduceIte, Nat.zero_ne_one, Nat.one_ne_zero]
   try simp only [sp_l, sp_r, Post.seq, Post.block, Nat.reduceEqDiff, reduceIte, Nat.zero_ne_one, Nat.one_ne_zero]
   apply AW.step
   ·simp
    intros; rfl
   refine AW.seq ?_
   refine AW.label ?_
   try simp only [sp_l, sp_r, Post.seq, Post.block, Nat.reduceEqDiff, reduceIte, Nat.zero_ne_one, Nat.one_ne_zero]
   try simp only [sp_l, sp_r, Post.seq, Post.block, Nat.reduceEqDiff, reduceIte, Nat.zero_ne_one, Nat.one_ne_zero]
   refine AW.seq ?_
   replace h := ltE h; obtain ⟨v7, e7, h⟩ := h
   apply AW.step
   ·simp [lenI_cast e7]
    intros; rfl
   refine AW.block ?_
   replace h := bnE h; obtain ⟨y9, g9, h⟩ := h
   refine AW.iterP g9 (mk := fun gh ls q => (⟨[(1, .l (.s (.int .i64 a1))), (2, .l (.d false 1 (encI a2))), (3, .l (.s (.int .i64 a3))), (4, .l (.p 0 0)), (9, .l (.s (.int .i64 q.1))), (22, .l (.d false 1 (encI a2))), (23, .l (.s (.int .i64 v7))), (24, .l (.s (.int .i64 q.2)))], [some ⟨36, 2, false, none, [.d false 1 (encI a0.heard), .d false 1 (encLI a0.says)]⟩], 65, gh, ls⟩ : St)) (N := fun gh ls => (xP 0 (cx := cx) (fun q => (⟨[(2, .l (.d false 1 (encI a2))), (9, .l (.s (.int .i64 q)))], [], 65, gh, ls⟩ : St)))) ?_ noX ?_ ?_
   ·refine Weak.mixN [some 0] hn0 (by decide) ?_ ?_ rfl
    all_goals first | (simp [inv_cons, inv_nil, pickOb]; done) | rfl
   ·clear h; intro y8 y10 h
    replace h := ltE h; obtain ⟨v11, e11, h⟩ := h
    apply AW.step
    ·simp [← e11]
     intros; rfl
    refine AW.seq ?_
    cases v11 with
    | true =>
     replace h := iteT rfl h
     refine AW.cond_true (by simp) ?_
     refine AW.skip ?_
     try simp only [sp_l, sp_r, Post.seq, Post.block, Nat.reduceEqDiff, reduceIte, Nat.zero_ne_one, Nat.one_ne_zero]
     try simp only [sp_l, sp_r, Post.seq, Post.block, Nat.reduceEqDiff, reduceIte, Nat.zero_ne_one, Nat.one_ne_zero]
     replace h := bnE h; obtain ⟨y12, g12, h⟩ := h
     refine AW.flow (p := fun gh ls => (nP (cx := cx) (fun q => (⟨[(1, .l (.s (.int .i64 a1))), (2, .l (.d false 1 (encI a2))), (3, .l (.s (.int .i64 a3))), (4, .l (.p 0 0)), (9, .l (.s (.int .i64 q))), (22, .l (.d false 1 (encI a2))), (23, .l (.s (.int .i64 v7))), (24, .l (.s (.int .i64 y8.2)))], [some ⟨36, 2, false, none, [.d false 1 (encI a0.heard), .d false 1 (encLI a0.says)]⟩], 65, gh, ls⟩ : St))) y12) ?_ ?_
     ·replace h := g12; clear g12
      refine AW.block ?_
      replace h := bnE h; obtain ⟨v13, e13, h⟩ := h
      apply AW.step
      ·simp [nth_d e13]
       intros; rfl
      refine AW.seq ?_
      refine AW.block ?_
      replace h := ltE h; obtain ⟨v14, e14, h⟩ := h
      apply AW.step
      ·simp [← e14]
       intros; rfl
      cases v14 with
      | true =>
       replace h := iteT rfl h
       refine AW.cond_true (by simp) ?_
       refine AW.exit ?_
       try simp only [sp_l, sp_r, Post.seq, Post.block, Nat.reduceEqDiff, reduceIte, Nat.zero_ne_one, Nat.one_ne_zero]
       obtain rfl := Option.some.inj h
       refine nP_i ?_
       refine Weak.mixN [some 0] hn0 (by decide) ?_ ?_ rfl
       all_goals first | (simp [inv_cons, inv_nil, pickOb]; done) | rfl
      | false =>
       replace h := iteF rfl h
       refine AW.cond_false (by simp) ?_
       replace h := bnE h; obtain ⟨y15, g15, h⟩ := h
       refine AW.flow (p := fun gh ls => (nP (cx := cx) (fun q => (⟨[(1, .l (.s (.int .i64 a1))), (2, .l (.d false 1 (encI a2))), (3, .l (.s (.int .i64 a3))), (4, .l (.p 0 0)), (9, .l (.s (.int .i64 y8.1))), (22, .l (.d false 1 (encI a2))), (23, .l (.s (.int .i64 v7))), (24, .l (.s (.int .i64 y8.2))), (32, .l (.s (.bool q)))], [some ⟨36, 2, false, none, [.d false 1 (encI a0.heard), .d false 1 (encLI a0.says)]⟩], 65, gh, ls⟩ : St))) y15) ?_ ?_
       ·replace h := g15; clear g15
        replace h := ltE h; obtain ⟨v16, e16, h⟩ := h
        cases v16 with
        | true =>
         replace h := iteT rfl h
         replace h := ltE h; obtain ⟨v17, e17, h⟩ := h
         cases v17 with
         | true =>
          replace h := iteT rfl h
          apply AW.last
          ·simp [← e16, ← e17]
           intros; rfl
          obtain rfl := Option.some.inj h
          refine nP_i ?_
          refine Weak.mixN [some 0] hn0 (by decide) ?_ ?_ rfl
          all_goals first | (simp [inv_cons, inv_nil, pickOb]; done) | rfl
         | false =>
          replace h := iteF rfl h
          replace h := ltE h; obtain ⟨v18, e18, h⟩ := h
          replace h := ltE h; obtain ⟨v19, e19, h⟩ := h
          cases v19 with
          | true =>
           replace h := iteT rfl h
           apply AW.last
           ·simp [← e16, ← e17, lenI_cast e18, ← e19]
            intros; rfl
           obtain rfl := Option.some.inj h
           refine nP_i ?_
           refine Weak.mixN [some 0] hn0 (by decide) ?_ ?_ rfl
           all_goals first | (simp [inv_cons, inv_nil, pickOb]; done) | rfl
          | false =>
           replace h := iteF rfl h
           replace h := bnE h; obtain ⟨v20, e20, h⟩ := h
           replace h := bnE h; obtain ⟨v21, e21, h⟩ := h
           replace h := ltE h; obtain ⟨v22, e22, h⟩ := h
           apply AW.last
           ·simp [← e16, ← e17, lenI_cast e18, ← e19, nth_d e20, ← e22]
            intros
            refine xcall_plain en_slices_Contains_int (s_slices_Contains_int e21) rfl ⟨.same rfl, .same rfl, trivial⟩ ?_
            try simp [← e16, ← e17, lenI_cast e18, ← e19, nth_d e20, ← e22]
            intros; rfl
           obtain rfl := Option.some.inj h
           refine nP_i ?_
           refine Weak.mixN [some 0] hn0 (by decide) ?_ ?_ rfl
           all_goals first | (simp [inv_cons, inv_nil, pickOb]; done) | rfl
        | false =>
         replace h := iteF rfl h
         apply AW.last
         ·simp [← e16]
          intros; rfl
         obtain rfl := Option.some.inj h
         refine nP_i ?_
         refine Weak.mixN [some 0] hn0 (by decide) ?_ ?_ rfl
         all_goals first | (simp [inv_cons, inv_nil, pickOb]; done) | rfl
       ·rintro e s hp
        obtain ⟨rfl, hw⟩ := hp
        refine ⟨_, hw, ?_⟩
        try simp only [sp_l, sp_r, Post.seq, Post.block, Nat.reduceEqDiff, reduceIte, Nat.zero_ne_one, Nat.one_ne_zero]
        replace h := ltE h; obtain ⟨v23, e23, h⟩ := h
        rw [← e23]
        cases v23 with
        | true =>
         replace h := iteT rfl h
         refine AW.cond_true (by simp) ?_
         refine AW.exit ?_
         try simp only [sp_l, sp_r, Post.seq, Post.block, Nat.reduceEqDiff, reduceIte, Nat.zero_ne_one, Nat.one_ne_zero]
         obtain rfl := Option.some.inj h
         refine nP_i ?_
         refine Weak.mixN [some 0] hn0 (by decide) ?_ ?_ rfl
         all_goals first | (simp [inv_cons, inv_nil, pickOb]; done) | rfl
        | false =>
         replace h := iteF rfl h
         refine AW.cond_false (by simp) ?_
         refine AW.skip ?_
         try simp only [sp_l, sp_r, Post.seq, Post.block, Nat.reduceEqDiff, reduceIte, Nat.zero_ne_one, Nat.one_ne_zero]
         try simp only [sp_l, sp_r, Post.seq, Post.block, Nat.reduceEqDiff, reduceIte, Nat.zero_ne_one, Nat.one_ne_zero]
         replace h := ltE h; obtain ⟨v24, e24, h⟩ := h
         apply AW.last
         ·simp [← e24]
          intros; rfl
         obtain rfl := Option.some.inj h
         refine nP_i ?_
         refine Weak.mixN [some 0] hn0 (by decide) ?_ ?_ rfl
         all_goals first | (simp [inv_cons, inv_nil, pickOb]; done) | rfl
     ·rintro e s hp
      obtain ⟨rfl, hw⟩ := hp
      refine ⟨_, hw, ?_⟩
      try simp only [sp_l, sp_r, Post.seq, Post.block, Nat.reduceEqDiff, reduceIte, Nat.zero_ne_one, Nat.one_ne_zero]
      replace h := ltE h; obtain ⟨v25, e25, h⟩ := h
      apply AW.last
      ·simp [← e25]
       intros; rfl
      obtain rfl := Option.some.inj h
      refine nP_i ?_
      refine Weak.mixN [some 0] hn0 (by decide) ?_ ?_ rfl
      all_goals first | (simp [inv_cons, inv_nil, pickOb]; done) | rfl
    | false =>
     replace h := iteF rfl h
     refine AW.cond_false (by simp) ?_
     refine AW.exit ?_
     try simp only [sp_l, sp_r, Post.seq, Post.block, Nat.reduceEqDiff, reduceIte, Nat.zero_ne_one, Nat.one_ne_zero]
     obtain rfl := Option.some.inj h
     refine xP_i ?_
     refine Weak.mixN [] hn0 (by decide) ?_ ?_ rfl
     all_goals first | (simp [inv_cons, inv_nil, pickOb]; done) | rfl
   ·rintro e s hp
    obtain ⟨rfl, hw⟩ := hp
    refine ⟨_, hw, ?_⟩
    try simp only [sp_l, sp_r, Post.seq, Post.block, Nat.reduceEqDiff, reduceIte, Nat.zero_ne_one, Nat.one_ne_zero]
    replace h := ltE h; obtain ⟨v26, e26, h⟩ := h
    replace h := ltE h; obtain ⟨v27, e27, h⟩ := h
    replace h := ltE h; obtain ⟨v28, e28, h⟩ := h
    apply AW.step
    ·simp [← e26, lenI_cast e27, ← e28]
     intros; rfl
    obtain rfl := Option.some.inj h
    refine AW.ret ?_
    refine Left.plain hnb (by simp [Try.f41, resV, resC, comp]; rfl) rfl rfl ?_
    simp
theorem en_watch_Failed : Enters Try.prog 41 := enters Try.func41 (by kernel_rfl) rfl
end Go.Proofs.Ytaibolmbafacpaa

/- Walks, printed: claims_own, claims_Own, vote_grants, vote_Grant -/
namespace Go.Proofs.Ytaibolmbafacpaa
open Go Go.RowKit
set_option linter.unusedVariables false
set_option linter.unusedSimpArgs false
def claims_own_sh (n : Nat) (a0 : Item) : Option Item :=
chk (small 32 a0.f) <|
chk (small 16 a0.l) <|
chk (room a0.f.length 1) <|
chk (room a0.l.length 1) <|
some a0
set_option maxRecDepth 8000 in
set_option maxHeartbeats 8000000 in
theorem s_claims_own {n : Nat} {a0 : Item} {r : Item} (h : claims_own_sh n a0 = some r) : Sound Try.prog 39 [.g [.s (.int .i64 a0.kind), .s (.string a0.s), .d false 2 (encField a0.f), .d false 1 (encS a0.l), .s (.int .i64 a0.exp)]] [] (.g [.s (.int .i64 r.kind), .s (.string r.s), .d false 2 (encField r.f), .d false 1 (encS r.l), .s (.int .i64 r.exp)]) [] := by
 unfold claims_own_sh at h
 refine Sound.of_aw (fn := Try.f39) (c := _) Try.func39 rfl (by simp [Try.f39]) fun cx hG hnb => ?_
 rw [show Try.f39.ntmps = 12 from rfl]
 have hn0 : cx.nb = 0 := hnb
 simp only [st0_mk, initTm, List.map_cons, List.map_nil]
 apply AW.step
 ·simp
  intros; rfl
 replace h := chkE h; obtain ⟨e1, h⟩ := h
 replace h := chkE h; obtain ⟨e2, h⟩ := h
 apply AW.drawnE (V := [_, _, _, _, _, _, _]) (M := [[some ⟨93, 5, false, none, [.s (.int .i64 a0.kind), .s (.string a0.s), .d false 2 (encField a0.f), .d false 1 (encS a0.l), .s (.int .i64 a0.exp)]⟩, some ⟨93, 5, false, none, [.s (.int .i64 0), .s (.string ⟨#[]⟩), .s (.slice none 0 0), .s (.slice none 0 0), .s (.int .i64 0)]⟩], [some ⟨93, 5, false, none, [.s (.int .i64 a0.kind), .s (.string a0.s), .d false 2 (encField a0.f), .d false 1 (encS a0.l), .s (.int .i64 a0.exp)]⟩, some ⟨93, 5, false, none, [.s (.int .i64 0), .s (.string ⟨#[]⟩), .s (.slice none 0 0), .s (.slice none 0 0), .s (.int .i64 0)]⟩, some ⟨112, 2, true, none, lvs (encField a0.f)⟩], [some ⟨93, 5, false, none, [.s (.int .i64 a0.kind), .s (.string a0.s), .d false 2 (encField a0.f), .d false 1 (encS a0.l), .s (.int .i64 a0.exp)]⟩, some ⟨93, 5, false, none, [.s (.int .i64 0), .s (.string ⟨#[]⟩), .s (.slice none 0 0), .s (.slice none 0 0), .s (.int .i64 0)]⟩, some ⟨112, 2, true, none, lvs (encField a0.f)⟩, some ⟨9, 1, true, none, lvs (encS a0.l)⟩]]) mixed [⟨[0], [], [(1, none)], false⟩, ⟨[0], [0], [(3, some 0)], false⟩, ⟨[0], [0, 1], [(4, some 1)], true⟩, ⟨[0, 1], [], [(1, none)], false⟩, ⟨[0, 1], [3], [(6, some 3)], false⟩, ⟨[1], [0, 1, 2, 3, 4], [(7, some 4)], true⟩, ⟨[1, 2], [0, 1, 2, 3, 4], [(1, none)], false⟩, ⟨[], [0, 1, 2, 3, 4, 5, 6], [], false⟩, ⟨[], [0, 1, 2, 3, 4, 5, 6, 7], [], false⟩, ⟨[], [0, 1, 2, 3, 4, 5, 6, 7, 8], [], false⟩] 7 2 (by kernel_rfl) (by kernel_rfl)
 ·rfl
 ·refine ⟨?_, ?_, ?_, ⟨?_, ?_⟩, ⟨?_, ?_⟩, ?_, ⟨?_, ?_⟩, trivial⟩
  ·intro tm hr
   simp [AllL, rdV] at hr
   simp [hr, outR]
   intros; first | exact KD.mk | exact KD.mkN
  ·intro tm hr
   simp [AllL, rdV] at hr
   simp [hr, outR]
   intros; first | exact KD.mk | exact KD.mkN
  ·intro tm hr
   simp [AllL, rdV] at hr
   simp [hr, outR]
   intros
   refine xcall_new en_cl_Field (s_cl_Field a0.f (small_d e1)) rfl (by simp) ⟨.d _ _ _, trivial⟩ ?_
   try simp [outR]
   intros; first | exact KD.mk | exact KD.mkN
  ·intro tm hr
   simp [AllL, rdV] at hr
   simp [hr, outR]
   intros; first | exact KD.mk | exact KD.mkN
  ·intro tm hr
   simp [AllL, rdV] at hr
   simp [hr, outR]
   intros; first | exact KD.mk | exact KD.mkN
  ·intro tm hr
   simp [AllL, rdV] at hr
   simp [hr, outR]
   intros; first | exact KD.mk | exact KD.mkN
  ·intro tm hr
   simp [AllL, rdV] at hr
   simp [hr, outR]
   intros; first | exact KD.mk | exact KD.mkN
  ·intro tm hr
   simp [AllL, rdV] at hr
   simp [hr, outR]
   intros
   refine xcall_new en_cl_S (s_cl_S a0.l (small_d e2)) rfl (by simp) ⟨.d _ _ _, trivial⟩ ?_
   try simp [outR]
   intros; first | exact KD.mk | exact KD.mkN
  ·intro tm hr
   simp [AllL, rdV] at hr
   simp [hr, outR]
   intros; first | exact KD.mk | exact KD.mkN
  ·intro tm hr
   simp [AllL, rdV] at hr
   simp [hr, outR]
   intros; first | exact KD.mk | exact KD.mkN
 ·rfl
 ·simp [tmD, putD, outR]; rfl
 ·simp [outR]
  intros; rfl
 apply AW.step
 ·simp
  intros; rfl
 replace h := chkE h; obtain ⟨e3, h⟩ := h
 refine AW.frzRow 2 (ty := 112) (cap := none) (sz := 2) (es := encField a0.f) (by simp) (by omega) (encField_sz _) (by first | exact (room_d e3).2 | simpa using (room_d e3).2 | simp) (by simp [Tm.frz, AV.frz, LV.frz]; rfl) (by simp [Ob.frz, LV.frz]; rfl) rfl ?_
 replace h := chkE h; obtain ⟨e4, h⟩ := h
 refine AW.frzRow 3 (ty := 9) (cap := none) (sz := 1) (es := encS a0.l) (by simp) (by omega) (encS_sz _) (by first | exact (room_d e4).2 | simpa using (room_d e4).2 | simp) (by simp [Tm.frz, AV.frz, LV.frz]; rfl) (by simp [Ob.frz, LV.frz]; rfl) rfl ?_
 obtain rfl := Option.some.inj h
 refine AW.ret ?_
 refine Left.plain hnb (by simp [Try.f39, resV, resC, comp]; rfl) rfl rfl ?_
 simp
theorem en_claims_own : Enters Try.prog 39 := enters Try.func39 (by kernel_rfl) rfl
def claims_Own_sh (n : Nat) (a0 : Node) : Option Node :=
chk (small 32 a0.claims) <|
chk (small 40 a0.moves) <|
chk (small 24 a0.seen) <|
chk (small 8 a0.votes) <|
chk (small 96 a0.db) <|
chk (small 104 a0.feed.back) <|
lt (lenI a0.db) fun v7 =>
bn (iter n (fun (y8 : Int × List Pair) =>
lt (ltI y8.1 v7) fun v11 =>
ite' v11 (bn (nth y8.2 y8.1) fun v12 =>
bn (claims_own_sh n v12.item) fun v14 =>
lt (y8.2.set y8.1.toNat (⟨v12.key, v14⟩ : Pair)) fun v16 =>
lt (addI .i64 y8.1 1) fun v20 =>
some (.inl (v20, v16))) (some (.inr y8.2))) (0, a0.db)) fun (y9 : List Pair) =>
lt (lenI a0.feed.back) fun v21 =>
bn (iter n (fun (y22 : Int × List Effect) =>
lt (ltI y22.1 v21) fun v25 =>
ite' v25 (bn (nth y22.2 y22.1) fun v26 =>
bn (claims_own_sh n v26.item) fun v28 =>
lt (y22.2.set y22.1.toNat (⟨v26.key, v26.gone, v28⟩ : Effect)) fun v30 =>
lt (addI .i64 y22.1 1) fun v34 =>
some (.inl (v34, v30))) (some (.inr y22.2))) (0, a0.feed.back)) fun (y23 : List Effect) =>
chk (small 8 a0.watch.heard) <|
chk (small 24 a0.watch.says) <|
lt (lenI a0.watch.says) fun v37 =>
bn (iter n (fun (y38 : Int × List (List Int)) =>
lt (ltI y38.1 v37) fun v41 =>
ite' v41 (bn (nth y38.2 y38.1) fun v42 =>
chk (small 8 v42) <|
lt (y38.2.set y38.1.toNat v42) fun v46 =>
lt (addI .i64 y38.1 1) fun v49 =>
some (.inl (v49, v46))) (some (.inr y38.2))) (0, a0.watch.says)) fun (y39 : List (List Int)) =>
chk (room a0.claims.length 1) <|
chk (room y9.length 1) <|
chk (room a0.moves.length 1) <|
chk (room a0.seen.length 1) <|
chk (room y23.length 1) <|
chk (room a0.watch.heard.length 1) <|
chk (room y39.length 1) <|
chk (room a0.votes.length 1) <|
some (⟨a0.count, a0.id, a0.master, a0.epoch, a0.voted, a0.claims, y9, a0.moves, a0.last, a0.seen, (⟨a0.feed.rid, a0.feed.off, y23, a0.feed.prev, a0.feed.upto⟩ : Feed), (⟨a0.watch.heard, y39⟩ : Watch), a0.asked, a0.votes, a0.wait⟩ : Node)
set_option maxRecDepth 8000 in
set_option maxHeartbeats 8000000 in
theorem s_claims_Own {n : Nat} {a0 : Node} {r : Node} (h : claims_Own_sh n a0 = some r) : Sound Try.prog 19 [.g [.s (.int .i64 a0.count), .s (.int .i64 a0.id), .s (.int .i64 a0.master), .s (.int .i64 a0.epoch), .s (.int .i64 a0.voted), .d false 4 (encClaim a0.claims), .d false 6 (encPair a0.db), .d false 4 (encMove a0.moves), .s (.int .i64 a0.last), .d false 3 (encSeen a0.seen), .s (.int .i64 a0.feed.rid.node), .s (.int .i64 a0.feed.rid.epoch), .s (.int .i64 a0.feed.off), .d false 7 (encEffect a0.feed.back), .s (.int .i64 a0.feed.prev.node), .s (.int .i64 a0.feed.prev.epoch), .s (.int .i64 a0.feed.upto), .d false 1 (encI a0.watch.heard), .d false 1 (encLI a0.watch.says), .s (.int .i64 a0.asked), .d false 1 (encI a0.votes), .s (.int .i64 a0.wait)]] [] (.g [.s (.int .i64 r.count), .s (.int .i64 r.id), .s (.int .i64 r.master), .s (.int .i64 r.epoch), .s (.int .i64 r.voted), .d false 4 (encClaim r.claims), .d false 6 (encPair r.db), .d false 4 (encMove r.moves), .s (.int .i64 r.last), .d false 3 (encSeen r.seen), .s (.int .i64 r.feed.rid.node), .s (.int .i64 r.feed.rid.epoch), .s (.int .i64 r.feed.off), .d false 7 (encEffect r.feed.back), .s (.int .i64 r.feed.prev.node), .s (.int .i64 r.feed.prev.epoch), .s (.int .i64 r.feed.upto), .d false 1 (encI r.watch.heard), .d false 1 (encLI r.watch.says), .s (.int .i64 r.asked), .d false 1 (encI r.votes), .s (.int .i64 r.wait)]) [] := by
 unfold claims_Own_sh at h
 refine Sound.of_aw (fn := Try.f19) (c := _) Try.func19 rfl (by simp [Try.f19]) fun cx hG hnb => ?_
 rw [show Try.f19.ntmps = 104 from rfl]
 have hn0 : cx.nb = 0 := hnb
 simp only [st0_mk, initTm, List.map_cons, List.map_nil]
 apply AW.step
 ·simp
  intros; rfl
 replace h := chkE h; obtain ⟨e1, h⟩ := h
 replace h := chkE h; obtain ⟨e2, h⟩ := h
 replace h := chkE h; obtain ⟨e3, h⟩ := h
 replace h := chkE h; obtain ⟨e4, h⟩ := h
 apply AW.drawnE (V := [_, _, _, _, _, _, _, _, _, _, _, _, _]) (M := [[some ⟨38, 22, false, none, [.s (.int .i64 a0.count), .s (.int .i64 a0.id), .s (.int .i64 a0.master), .s (.int .i64 a0.epoch), .s (.int .i64 a0.voted), .d false 4 (encClaim a0.claims), .d false 6 (encPair a0.db), .d false 4 (encMove a0.moves), .s (.int .i64 a0.last), .d false 3 (encSeen a0.seen), .s (.int .i64 a0.feed.rid.node), .s (.int .i64 a0.feed.rid.epoch), .s (.int .i64 a0.feed.off), .d false 7 (encEffect a0.feed.back), .s (.int .i64 a0.feed.prev.node), .s (.int .i64 a0.feed.prev.epoch), .s (.int .i64 a0.feed.upto), .d false 1 (encI a0.watch.heard), .d false 1 (encLI a0.watch.says), .s (.int .i64 a0.asked), .d false 1 (encI a0.votes), .s (.int .i64 a0.wait)]⟩, some ⟨38, 22, false, none, [.s (.int .i64 0), .s (.int .i64 0), .s (.int .i64 0), .s (.int .i64 0), .s (.int .i64 0), .s (.slice none 0 0), .s (.slice none 0 0), .s (.slice none 0 0), .s (.int .i64 0), .s (.slice none 0 0), .s (.int .i64 0), .s (.int .i64 0), .s (.int .i64 0), .s (.slice none 0 0), .s (.int .i64 0), .s (.int .i64 0), .s (.int .i64 0), .s (.slice none 0 0), .s (.slice none 0 0), .s (.int .i64 0), .s (.slice none 0 0), .s (.int .i64 0)]⟩], [some ⟨38, 22, false, none, [.s (.int .i64 a0.count), .s (.int .i64 a0.id), .s (.int .i64 a0.master), .s (.int .i64 a0.epoch), .s (.int .i64 a0.voted), .d false 4 (encClaim a0.claims), .d false 6 (encPair a0.db), .d false 4 (encMove a0.moves), .s (.int .i64 a0.last), .d false 3 (encSeen a0.seen), .s (.int .i64 a0.feed.rid.node), .s (.int .i64 a0.feed.rid.epoch), .s (.int .i64 a0.feed.off), .d false 7 (encEffect a0.feed.back), .s (.int .i64 a0.feed.prev.node), .s (.int .i64 a0.feed.prev.epoch), .s (.int .i64 a0.feed.upto), .d false 1 (encI a0.watch.heard), .d false 1 (encLI a0.watch.says), .s (.int .i64 a0.asked), .d false 1 (encI a0.votes), .s (.int .i64 a0.wait)]⟩, some ⟨38, 22, false, none, [.s (.int .i64 0), .s (.int .i64 0), .s (.int .i64 0), .s (.int .i64 0), .s (.int .i64 0), .s (.slice none 0 0), .s (.slice none 0 0), .s (.slice none 0 0), .s (.int .i64 0), .s (.slice none 0 0), .s (.int .i64 0), .s (.int .i64 0), .s (.int .i64 0), .s (.slice none 0 0), .s (.int .i64 0), .s (.int .i64 0), .s (.int .i64 0), .s (.slice none 0 0), .s (.slice none 0 0), .s (.int .i64 0), .s (.slice none 0 0), .s (.int .i64 0)]⟩, some ⟨63, 4, true, none, lvs (encClaim a0.claims)⟩], [some ⟨38, 22, false, none, [.s (.int .i64 a0.count), .s (.int .i64 a0.id), .s (.int .i64 a0.master), .s (.int .i64 a0.epoch), .s (.int .i64 a0.voted), .d false 4 (encClaim a0.claims), .d false 6 (encPair a0.db), .d false 4 (encMove a0.moves), .s (.int .i64 a0.last), .d false 3 (encSeen a0.seen), .s (.int .i64 a0.feed.rid.node), .s (.int .i64 a0.feed.rid.epoch), .s (.int .i64 a0.feed.off), .d false 7 (encEffect a0.feed.back), .s (.int .i64 a0.feed.prev.node), .s (.int .i64 a0.feed.prev.epoch), .s (.int .i64 a0.feed.upto), .d false 1 (encI a0.watch.heard), .d false 1 (encLI a0.watch.says), .s (.int .i64 a0.asked), .d false 1 (encI a0.votes), .s (.int .i64 a0.wait)]⟩, some ⟨38, 22, false, none, [.s (.int .i64 0), .s (.int .i64 0), .s (.int .i64 0), .s (.int .i64 0), .s (.int .i64 0), .s (.slice none 0 0), .s (.slice none 0 0), .s (.slice none 0 0), .s (.int .i64 0), .s (.slice none 0 0), .s (.int .i64 0), .s (.int .i64 0), .s (.int .i64 0), .s (.slice none 0 0), .s (.int .i64 0), .s (.int .i64 0), .s (.int .i64 0), .s (.slice none 0 0), .s (.slice none 0 0), .s (.int .i64 0), .s (.slice none 0 0), .s (.int .i64 0)]⟩, some ⟨63, 4, true, none, lvs (encClaim a0.claims)⟩, some ⟨84, 4, true, none, lvs (encMove a0.moves)⟩], [some ⟨38, 22, false, none, [.s (.int .i64 a0.count), .s (.int .i64 a0.id), .s (.int .i64 a0.master), .s (.int .i64 a0.epoch), .s (.int .i64 a0.voted), .d false 4 (encClaim a0.claims), .d false 6 (encPair a0.db), .d false 4 (encMove a0.moves), .s (.int .i64 a0.last), .d false 3 (encSeen a0.seen), .s (.int .i64 a0.feed.rid.node), .s (.int .i64 a0.feed.rid.epoch), .s (.int .i64 a0.feed.off), .d false 7 (encEffect a0.feed.back), .s (.int .i64 a0.feed.prev.node), .s (.int .i64 a0.feed.prev.epoch), .s (.int .i64 a0.feed.upto), .d false 1 (encI a0.watch.heard), .d false 1 (encLI a0.watch.says), .s (.int .i64 a0.asked), .d false 1 (encI a0.votes), .s (.int .i64 a0.wait)]⟩, some ⟨38, 22, false, none, [.s (.int .i64 0), .s (.int .i64 0), .s (.int .i64 0), .s (.int .i64 0), .s (.int .i64 0), .s (.slice none 0 0), .s (.slice none 0 0), .s (.slice none 0 0), .s (.int .i64 0), .s (.slice none 0 0), .s (.int .i64 0), .s (.int .i64 0), .s (.int .i64 0), .s (.slice none 0 0), .s (.int .i64 0), .s (.int .i64 0), .s (.int .i64 0), .s (.slice none 0 0), .s (.slice none 0 0), .s (.int .i64 0), .s (.slice none 0 0), .s (.int .i64 0)]⟩, some ⟨63, 4, true, none, lvs (encClaim a0.claims)⟩, some ⟨84, 4, true, none, lvs (encMove a0.moves)⟩, some ⟨87, 3, true, none, lvs (encSeen a0.seen)⟩], [some ⟨38, 22, false, none, [.s (.int .i64 a0.count), .s (.int .i64 a0.id), .s (.int .i64 a0.master), .s (.int .i64 a0.epoch), .s (.int .i64 a0.voted), .d false 4 (encClaim a0.claims), .d false 6 (encPair a0.db), .d false 4 (encMove a0.moves), .s (.int .i64 a0.last), .d false 3 (encSeen a0.seen), .s (.int .i64 a0.feed.rid.node), .s (.int .i64 a0.feed.rid.epoch), .s (.int .i64 a0.feed.off), .d false 7 (encEffect a0.feed.back), .s (.int .i64 a0.feed.prev.node), .s (.int .i64 a0.feed.prev.epoch), .s (.int .i64 a0.feed.upto), .d false 1 (encI a0.watch.heard), .d false 1 (encLI a0.watch.says), .s (.int .i64 a0.asked), .d false 1 (encI a0.votes), .s (.int .i64 a0.wait)]⟩, some ⟨38, 22, false, none, [.s (.int .i64 0), .s (.int .i64 0), .s (.int .i64 0), .s (.int .i64 0), .s (.int .i64 0), .s (.slice none 0 0), .s (.slice none 0 0), .s (.slice none 0 0), .s (.int .i64 0), .s (.slice none 0 0), .s (.int .i64 0), .s (.int .i64 0), .s (.int .i64 0), .s (.slice none 0 0), .s (.int .i64 0), .s (.int .i64 0), .s (.int .i64 0), .s (.slice none 0 0), .s (.slice none 0 0), .s (.int .i64 0), .s (.slice none 0 0), .s (.int .i64 0)]⟩, some ⟨63, 4, true, none, lvs (encClaim a0.claims)⟩, some ⟨84, 4, true, none, lvs (encMove a0.moves)⟩, some ⟨87, 3, true, none, lvs (encSeen a0.seen)⟩, some ⟨3, 1, true, none, lvs (encI a0.votes)⟩]]) mixed [⟨[0], [], [(1, none)], false⟩, ⟨[0], [0], [(7, some 0)], false⟩, ⟨[0], [0, 1], [(8, some 1)], true⟩, ⟨[0, 1], [], [(1, none)], false⟩, ⟨[0, 1], [3], [(10, some 3)], false⟩, ⟨[1], [0, 1, 2, 3, 4], [(11, some 4)], true⟩, ⟨[0, 1, 2], [], [(1, none)], false⟩, ⟨[0, 1, 2], [6], [(13, some 6)], false⟩, ⟨[2], [0, 1, 2, 3, 4, 5, 6, 7], [(14, some 7)], true⟩, ⟨[0, 1, 2, 3], [], [(1, none)], false⟩, ⟨[0, 1, 2, 3], [9], [(16, some 9)], false⟩, ⟨[3], [0, 1, 2, 3, 4, 5, 6, 7, 8, 9, 10], [(17, some 10)], true⟩, ⟨[1, 2, 3, 4], [0, 1, 2, 3, 4, 6, 7, 9, 10], [(1, none)], false⟩, ⟨[], [0, 1, 2, 3, 4, 5, 6, 7, 8, 9, 10, 11, 12], [], false⟩, ⟨[], [0, 1, 2, 3, 4, 5, 6, 7, 8, 9, 10, 11, 12, 13], [], false⟩, ⟨[], [0, 1, 2, 3, 4, 5, 6, 7, 8, 9, 10, 11, 12, 13, 14], [], false⟩, ⟨[], [0, 1, 2, 3, 4, 5, 6, 7, 8, 9, 10, 11, 12, 13, 14, 15], [], false⟩, ⟨[], [0, 1, 2, 3, 4, 5, 6, 7, 8, 9, 10, 11, 12, 13, 14, 15, 16], [], false⟩, ⟨[], [0, 1, 2, 3, 4, 5, 6, 7, 8, 9, 10, 11, 12, 13, 14, 15, 16, 17], [], false⟩, ⟨[], [0, 1, 2, 3, 4, 5, 6, 7, 8, 9, 10, 11, 12, 13, 14, 15, 16, 17, 18], [], false⟩] 13 4 (by kernel_rfl) (by kernel_rfl)
 ·rfl
 ·refine ⟨?_, ?_, ?_, ⟨?_, ?_⟩, ⟨?_, ?_⟩, ?_, ⟨?_, ?_, ?_⟩, ⟨?_, ?_, ?_⟩, ?_, ⟨?_, ?_, ?_, ?_⟩, ⟨?_, ?_, ?_, ?_⟩, ?_, ⟨?_, ?_, ?_, ?_⟩, trivial⟩
  ·intro tm hr
   simp [AllL, rdV] at hr
   simp [hr, outR]
   intros; first | exact KD.mk | exact KD.mkN
  ·intro tm hr
   simp [AllL, rdV] at hr
   simp [hr, outR]
   intros; first | exact KD.mk | exact KD.mkN
  ·intro tm hr
   simp [AllL, rdV] at hr
   simp [hr, outR]
   intros
   refine xcall_new en_cl_Claim (s_cl_Claim a0.claims (small_d e1)) rfl (by simp) ⟨.d _ _ _, trivial⟩ ?_
   try simp [outR]
   intros; first | exact KD.mk | exact KD.mkN
  ·intro tm hr
   simp [AllL, rdV] at hr
   simp [hr, outR]
   intros; first | exact KD.mk | exact KD.mkN
  ·intro tm hr
   simp [AllL, rdV] at hr
   simp [hr, outR]
   intros; first | exact KD.mk | exact KD.mkN
  ·intro tm hr
   simp [AllL, rdV] at hr
   simp [hr, outR]
   intros; first | exact KD.mk | exact KD.mkN
  ·intro tm hr
   simp [AllL, rdV] at hr
   simp [hr, outR]
   intros; first | exact KD.mk | exact KD.mkN
  ·intro tm hr
   simp [AllL, rdV] at hr
   simp [hr, outR]
   intros
   refine xcall_new en_cl_Move (s_cl_Move a0.moves (small_d e2)) rfl (by simp) ⟨.d _ _ _, trivial⟩ ?_
   try simp [outR]
   intros; first | exact KD.mk | exact KD.mkN
  ·intro tm hr
   simp [AllL, rdV] at hr
   simp [hr, outR]
   intros; first | exact KD.mk | exact KD.mkN
  ·intro tm hr
   simp [AllL, rdV] at hr
   simp [hr, outR]
   intros; first | exact KD.mk | exact KD.mkN
  ·intro tm hr
   simp [AllL, rdV] at hr
   simp [hr, outR]
   intros; first | exact KD.mk | exact KD.mkN
  ·intro tm hr
   simp [AllL, rdV] at hr
   simp [hr, outR]
   intros; first | exact KD.mk | exact KD.mkN
  ·intro tm hr
   simp [AllL, rdV] at hr
   simp [hr, outR]
   intros; first | exact KD.mk | exact KD.mkN
  ·intro tm hr
   simp [AllL, rdV] at hr
   simp [hr, outR]
   intros; first | exact KD.mk | exact KD.mkN
  ·intro tm hr
   simp [AllL, rdV] at hr
   simp [hr, outR]
   intros
   refine xcall_new en_cl_Seen (s_cl_Seen a0.seen (small_d e3)) rfl (by simp) ⟨.d _ _ _, trivial⟩ ?_
   try simp [outR]
   intros; first | exact KD.mk | exact KD.mkN
  ·intro tm hr
   simp [AllL, rdV] at hr
   simp [hr, outR]
   intros; first | exact KD.mk | exact KD.mkN
  ·intro tm hr
   simp [AllL, rdV] at hr
   simp [hr, outR]
   intros; first | exact KD.mk | exact KD.mkN
  ·intro tm hr
   simp [AllL, rdV] at hr
   simp [hr, outR]
   intros; first | exact KD.mk | exact KD.mkN
  ·intro tm hr
   simp [AllL, rdV] at hr
   simp [hr, outR]
   intros; first | exact KD.mk | exact KD.mkN
  ·intro tm hr
   simp [AllL, rdV] at hr
   simp [hr, outR]
   intros; first | exact KD.mk | exact KD.mkN
  ·intro tm hr
   simp [AllL, rdV] at hr
   simp [hr, outR]
   intros; first | exact KD.mk | exact KD.mkN
  ·intro tm hr
   simp [AllL, rdV] at hr
   simp [hr, outR]
   intros; first | exact KD.mk | exact KD.mkN
  ·intro tm hr
   simp [AllL, rdV] at hr
   simp [hr, outR]
   intros; first | exact KD.mk | exact KD.mkN
  ·intro tm hr
   simp [AllL, rdV] at hr
   simp [hr, outR]
   intros
   refine xcall_new en_cl_I (s_cl_I a0.votes (small_d e4)) rfl (by simp) ⟨.d _ _ _, trivial⟩ ?_
   try simp [outR]
   intros; first | exact KD.mk | exact KD.mkN
  ·intro tm hr
   simp [AllL, rdV] at hr
   simp [hr, outR]
   intros; first | exact KD.mk | exact KD.mkN
  ·intro tm hr
   simp [AllL, rdV] at hr
   simp [hr, outR]
   intros; first | exact KD.mk | exact KD.mkN
  ·intro tm hr
   simp [AllL, rdV] at hr
   simp [hr, outR]
   intros; first | exact KD.mk | exact KD.mkN
  ·intro tm hr
   simp [AllL, rdV] at hr
   simp [hr, outR]
   intros; first | exact KD.mk | exact KD.mkN
 ·rfl
 ·simp [tmD, putD, outR]; rfl
 ·simp [outR]
  intros; rfl
 replace h := chkE h; obtain ⟨e5, h⟩ := h
 replace h := chkE h; obtain ⟨e6, h⟩ := h
 apply AW.drawnE (V := [_, _, _, _, _, _, _, _]) (M := [[some ⟨38, 22, false, none, [.s (.int .i64 a0.count), .s (.int .i64 a0.id), .s (.int .i64 a0.master), .s (.int .i64 a0.epoch), .s (.int .i64 a0.voted), .r 2 4 0 a0.claims.length, .d false 6 (encPair a0.db), .r 3 4 0 a0.moves.length, .s (.int .i64 a0.last), .r 4 3 0 a0.seen.length, .s (.int .i64 a0.feed.rid.node), .s (.int .i64 a0.feed.rid.epoch), .s (.int .i64 a0.feed.off), .d false 7 (encEffect a0.feed.back), .s (.int .i64 a0.feed.prev.node), .s (.int .i64 a0.feed.prev.epoch), .s (.int .i64 a0.feed.upto), .d false 1 (encI a0.watch.heard), .d false 1 (encLI a0.watch.says), .s (.int .i64 a0.asked), .r 5 1 0 a0.votes.length, .s (.int .i64 a0.wait)]⟩, some ⟨38, 22, false, none, [.s (.int .i64 0), .s (.int .i64 0), .s (.int .i64 0), .s (.int .i64 0), .s (.int .i64 0), .s (.slice none 0 0), .s (.slice none 0 0), .s (.slice none 0 0), .s (.int .i64 0), .s (.slice none 0 0), .s (.int .i64 0), .s (.int .i64 0), .s (.int .i64 0), .s (.slice none 0 0), .s (.int .i64 0), .s (.int .i64 0), .s (.int .i64 0), .s (.slice none 0 0), .s (.slice none 0 0), .s (.int .i64 0), .s (.slice none 0 0), .s (.int .i64 0)]⟩, some ⟨63, 4, true, none, lvs (encClaim a0.claims)⟩, some ⟨84, 4, true, none, lvs (encMove a0.moves)⟩, some ⟨87, 3, true, none, lvs (encSeen a0.seen)⟩, some ⟨3, 1, true, none, lvs (encI a0.votes)⟩], [some ⟨38, 22, false, none, [.s (.int .i64 a0.count), .s (.int .i64 a0.id), .s (.int .i64 a0.master), .s (.int .i64 a0.epoch), .s (.int .i64 a0.voted), .r 2 4 0 a0.claims.length, .d false 6 (encPair a0.db), .r 3 4 0 a0.moves.length, .s (.int .i64 a0.last), .r 4 3 0 a0.seen.length, .s (.int .i64 a0.feed.rid.node), .s (.int .i64 a0.feed.rid.epoch), .s (.int .i64 a0.feed.off), .d false 7 (encEffect a0.feed.back), .s (.int .i64 a0.feed.prev.node), .s (.int .i64 a0.feed.prev.epoch), .s (.int .i64 a0.feed.upto), .d false 1 (encI a0.watch.heard), .d false 1 (encLI a0.watch.says), .s (.int .i64 a0.asked), .r 5 1 0 a0.votes.length, .s (.int .i64 a0.wait)]⟩, some ⟨38, 22, false, none, [.s (.int .i64 0), .s (.int .i64 0), .s (.int .i64 0), .s (.int .i64 0), .s (.int .i64 0), .s (.slice none 0 0), .s (.slice none 0 0), .s (.slice none 0 0), .s (.int .i64 0), .s (.slice none 0 0), .s (.int .i64 0), .s (.int .i64 0), .s (.int .i64 0), .s (.slice none 0 0), .s (.int .i64 0), .s (.int .i64 0), .s (.int .i64 0), .s (.slice none 0 0), .s (.slice none 0 0), .s (.int .i64 0), .s (.slice none 0 0), .s (.int .i64 0)]⟩, some ⟨63, 4, true, none, lvs (encClaim a0.claims)⟩, some ⟨84, 4, true, none, lvs (encMove a0.moves)⟩, some ⟨87, 3, true, none, lvs (encSeen a0.seen)⟩, some ⟨3, 1, true, none, lvs (encI a0.votes)⟩, some ⟨95, 6, true, none, lvs (encPair a0.db)⟩], [some ⟨38, 22, false, none, [.s (.int .i64 a0.count), .s (.int .i64 a0.id), .s (.int .i64 a0.master), .s (.int .i64 a0.epoch), .s (.int .i64 a0.voted), .r 2 4 0 a0.claims.length, .d false 6 (encPair a0.db), .r 3 4 0 a0.moves.length, .s (.int .i64 a0.last), .r 4 3 0 a0.seen.length, .s (.int .i64 a0.feed.rid.node), .s (.int .i64 a0.feed.rid.epoch), .s (.int .i64 a0.feed.off), .d false 7 (encEffect a0.feed.back), .s (.int .i64 a0.feed.prev.node), .s (.int .i64 a0.feed.prev.epoch), .s (.int .i64 a0.feed.upto), .d false 1 (encI a0.watch.heard), .d false 1 (encLI a0.watch.says), .s (.int .i64 a0.asked), .r 5 1 0 a0.votes.length, .s (.int .i64 a0.wait)]⟩, some ⟨38, 22, false, none, [.s (.int .i64 0), .s (.int .i64 0), .s (.int .i64 0), .s (.int .i64 0), .s (.int .i64 0), .s (.slice none 0 0), .s (.slice none 0 0), .s (.slice none 0 0), .s (.int .i64 0), .s (.slice none 0 0), .s (.int .i64 0), .s (.int .i64 0), .s (.int .i64 0), .s (.slice none 0 0), .s (.int .i64 0), .s (.int .i64 0), .s (.int .i64 0), .s (.slice none 0 0), .s (.slice none 0 0), .s (.int .i64 0), .s (.slice none 0 0), .s (.int .i64 0)]⟩, some ⟨63, 4, true, none, lvs (encClaim a0.claims)⟩, some ⟨84, 4, true, none, lvs (encMove a0.moves)⟩, some ⟨87, 3, true, none, lvs (encSeen a0.seen)⟩, some ⟨3, 1, true, none, lvs (encI a0.votes)⟩, some ⟨95, 6, true, none, lvs (encPair a0.db)⟩, some ⟨98, 7, true, none, lvs (encEffect a0.feed.back)⟩]]) mixed [⟨[0], [], [(1, none)], false⟩, ⟨[0], [0], [(23, some 0)], false⟩, ⟨[0], [0, 1], [(24, some 1)], true⟩, ⟨[0, 1], [], [(1, none)], false⟩, ⟨[0, 1], [3], [(26, some 3)], false⟩, ⟨[0, 1], [3, 4], [(27, some 4)], false⟩, ⟨[1], [0, 1, 2, 3, 4, 5], [(28, some 5)], true⟩, ⟨[1, 2], [0, 1, 2, 3, 4, 5], [(1, none)], false⟩, ⟨[], [0, 1, 2, 3, 4, 5, 6, 7], [], false⟩, ⟨[], [0, 1, 2, 3, 4, 5, 6, 7, 8], [], false⟩, ⟨[], [0, 1, 2, 3, 4, 5, 6, 7, 8, 9], [], false⟩, ⟨[], [0, 1, 2, 3, 4, 5, 6, 7, 8, 9, 10], [], false⟩] 8 2 (by kernel_rfl) (by kernel_rfl)
 ·rfl
 ·refine ⟨?_, ?_, ?_, ⟨?_, ?_⟩, ⟨?_, ?_⟩, ⟨?_, ?_⟩, ?_, ⟨?_, ?_⟩, trivial⟩
  ·intro tm hr
   simp [AllL, rdV] at hr
   simp [hr, outR]
   intros; first | exact KD.mk | exact KD.mkN
  ·intro tm hr
   simp [AllL, rdV] at hr
   simp [hr, outR]
   intros; first | exact KD.mk | exact KD.mkN
  ·intro tm hr
   simp [AllL, rdV] at hr
   simp [hr, outR]
   intros
   refine xcall_new en_cl_Pair (s_cl_Pair a0.db (small_d e5)) rfl (by simp) ⟨.same rfl, trivial⟩ ?_
   try simp [outR]
   intros; first | exact KD.mk | exact KD.mkN
  ·intro tm hr
   simp [AllL, rdV] at hr
   simp [hr, outR]
   intros; first | exact KD.mk | exact KD.mkN
  ·intro tm hr
   simp [AllL, rdV] at hr
   simp [hr, outR]
   intros; first | exact KD.mk | exact KD.mkN
  ·intro tm hr
   simp [AllL, rdV] at hr
   simp [hr, outR]
   intros; first | exact KD.mk | exact KD.mkN
  ·intro tm hr
   simp [AllL, rdV] at hr
   simp [hr, outR]
   intros; first | exact KD.mk | exact KD.mkN
  ·intro tm hr
   simp [AllL, rdV] at hr
   simp [hr, outR]
   intros; first | exact KD.mk | exact KD.mkN
  ·intro tm hr
   simp [AllL, rdV] at hr
   simp [hr, outR]
   intros; first | exact KD.mk | exact KD.mkN
  ·intro tm hr
   simp [AllL, rdV] at hr
   simp [hr, outR]
   intros
   refine xcall_new en_cl_Effect (s_cl_Effect a0.feed.back (small_d e6)) rfl (by simp) ⟨.same rfl, trivial⟩ ?_
   try simp [outR]
   intros; first | exact KD.mk | exact KD.mkN
  ·intro tm hr
   simp [AllL, rdV] at hr
   simp [hr, outR]
   intros; first | exact KD.mk | exact KD.mkN
  ·intro tm hr
   simp [AllL, rdV] at hr
   simp [hr, outR]
   intros; first | exact KD.mk | exact KD.mkN
 ·rfl
 ·simp [tmD, putD, outR]; rfl
 ·simp [outR]
  intros; rfl
 refine AW.seq ?_
 replace h := ltE h; obtain ⟨v7, e7, h⟩ := h
 apply AW.step
 ·simp [lenI_cast e7]
  intros; rfl
 refine AW.block ?_
 replace h := bnE h; obtain ⟨y9, g9, h⟩ := h
 refine AW.iterP g9 (mk := fun gh ls q => (⟨[(1, .l (.p 0 0)), (2, .l (.p 1 0)), (35, .l (.s (.int .i64 v7))), (36, .l (.s (.int .i64 q.1)))], [some ⟨38, 22, false, none, [.s (.int .i64 a0.count), .s (.int .i64 a0.id), .s (.int .i64 a0.master), .s (.int .i64 a0.epoch), .s (.int .i64 a0.voted), .r 2 4 0 a0.claims.length, .r 3 6 0 q.2.length, .r 4 4 0 a0.moves.length, .s (.int .i64 a0.last), .r 5 3 0 a0.seen.length, .s (.int .i64 a0.feed.rid.node), .s (.int .i64 a0.feed.rid.epoch), .s (.int .i64 a0.feed.off), .r 6 7 0 a0.feed.back.length, .s (.int .i64 a0.feed.prev.node), .s (.int .i64 a0.feed.prev.epoch), .s (.int .i64 a0.feed.upto), .d false 1 (encI a0.watch.heard), .d false 1 (encLI a0.watch.says), .s (.int .i64 a0.asked), .r 7 1 0 a0.votes.length, .s (.int .i64 a0.wait)]⟩, some ⟨38, 22, false, none, [.s (.int .i64 0), .s (.int .i64 0), .s (.int .i64 0), .s (.int .i64 0), .s (.int .i64 0), .s (.slice none 0 0), .s (.slice none 0 0), .s (.slice none 0 0), .s (.int .i64 0), .s (.slice none 0 0), .s (.int .i64 0), .s (.int .i64 0), .s (.int .i64 0), .s (.slice none 0 0), .s (.int .i64 0), .s (.int .i64 0), .s (.int .i64 0), .s (.slice none 0 0), .s (.slice none 0 0), .s (.int .i64 0), .s (.slice none 0 0), .s (.int .i64 0)]⟩, some ⟨63, 4, true, none, lvs (encClaim a0.claims)⟩, some ⟨95, 6, true, none, lvs (encPair q.2)⟩, some ⟨84, 4, true, none, lvs (encMove a0.moves)⟩, some ⟨87, 3, true, none, lvs (encSeen a0.seen)⟩, some ⟨98, 7, true, none, lvs (encEffect a0.feed.back)⟩, some ⟨3, 1, true, none, lvs (encI a0.votes)⟩], 104, gh, ls⟩ : St)) (N := fun gh ls => (xP 0 (cx := cx) (fun q => (⟨[(1, .l (.p 0 0)), (2, .l (.p 1 0))], [some ⟨38, 22, false, none, [.s (.int .i64 a0.count), .s (.int .i64 a0.id), .s (.int .i64 a0.master), .s (.int .i64 a0.epoch), .s (.int .i64 a0.voted), .r 2 4 0 a0.claims.length, .r 3 6 0 q.length, .r 4 4 0 a0.moves.length, .s (.int .i64 a0.last), .r 5 3 0 a0.seen.length, .s (.int .i64 a0.feed.rid.node), .s (.int .i64 a0.feed.rid.epoch), .s (.int .i64 a0.feed.off), .r 6 7 0 a0.feed.back.length, .s (.int .i64 a0.feed.prev.node), .s (.int .i64 a0.feed.prev.epoch), .s (.int .i64 a0.feed.upto), .d false 1 (encI a0.watch.heard), .d false 1 (encLI a0.watch.says), .s (.int .i64 a0.asked), .r 7 1 0 a0.votes.length, .s (.int .i64 a0.wait)]⟩, some ⟨38, 22, false, none, [.s (.int .i64 0), .s (.int .i64 0), .s (.int .i64 0), .s (.int .i64 0), .s (.int .i64 0), .s (.slice none 0 0), .s (.slice none 0 0), .s (.slice none 0 0), .s (.int .i64 0), .s (.slice none 0 0), .s (.int .i64 0), .s (.int .i64 0), .s (.int .i64 0), .s (.slice none 0 0), .s (.int .i64 0), .s (.int .i64 0), .s (.int .i64 0), .s (.slice none 0 0), .s (.slice none 0 0), .s (.int .i64 0), .s (.slice none 0 0), .s (.int .i64 0)]⟩, some ⟨63, 4, true, none, lvs (encClaim a0.claims)⟩, some ⟨95, 6, true, none, lvs (encPair q)⟩, some ⟨84, 4, true, none, lvs (encMove a0.moves)⟩, some ⟨87, 3, true, none, lvs (encSeen a0.seen)⟩, some ⟨98, 7, true, none, lvs (encEffect a0.feed.back)⟩, some ⟨3, 1, true, none, lvs (encI a0.votes)⟩], 104, gh, ls⟩ : St)))) ?_ noX ?_ ?_
 ·refine Weak.mixN [some 0, some 1, some 2, some 6, some 3, some 4, some 7, some 5] hn0 (by decide) ?_ ?_ rfl
  all_goals first | (simp [inv_cons, inv_nil, pickOb]; done) | rfl
 ·clear h; intro y8 y10 h
  replace h := ltE h; obtain ⟨v11, e11, h⟩ := h
  apply AW.step
  ·simp [← e11]
   intros; rfl
  refine AW.seq ?_
  cases v11 with
  | true =>
   replace h := iteT rfl h
   refine AW.cond_true (by simp) ?_
   refine AW.skip ?_
   try simp only [sp_l, sp_r, Post.seq, Post.block, Nat.reduceEqDiff, reduceIte, Nat.zero_ne_one, Nat.one_ne_zero]
   try simp only [sp_l, sp_r, Post.seq, Post.block, Nat.reduceEqDiff, reduceIte, Nat.zero_ne_one, Nat.one_ne_zero]
   refine AW.seq ?_
   refine AW.block ?_
   apply AW.step
   ·simp
    intros; rfl
   replace h := bnE h; obtain ⟨v12, e12, h⟩ := h
   have f13 := nth_lt e12
   try simp [nth_d e12] at f13
   replace h := bnE h; obtain ⟨v14, e14, h⟩ := h
   have f15 := nth_lt e12
   try simp [nth_d e12, f13, encPair_seg (nth_d e12).2 (j := 1) (k := 5) (by decide), encPair_fitj (nth_d e12).2 (j := 1) (m := 5) (by decide), lvs1] at f15
   replace h := ltE h; obtain ⟨v16, e16, h⟩ := h
   have f17 := encPair_put (nth_d e12).2 e16 (j := 1) (cs := [.s (.int .i64 v14.kind), .s (.string v14.s), .d false 2 (encField v14.f), .d false 1 (encS v14.l), .s (.int .i64 v14.exp)]) (by simp) rfl
   try simp at f17
   have f18 := f13
   try simp only [set_len e16] at f18
   have f19 := f15
   try simp only [set_len e16] at f19
   apply AW.drawnR (V := [_, _, _, _, _, _, _, _, _, _]) mixed [⟨[0], [], [(1, none)], false⟩, ⟨[0], [0], [(39, some 0)], false⟩, ⟨[0], [], [(3, none)], false⟩, ⟨[0], [], [(1, none)], false⟩, ⟨[0], [3], [(42, some 3)], false⟩, ⟨[0], [], [(3, none)], false⟩, ⟨[0], [3, 4, 5], [(43, some 4), (44, some 5)], false⟩, ⟨[0], [3, 4, 5, 6], [(45, some 6)], false⟩, ⟨[0], [3, 4, 5, 6, 7], [(46, some 7)], false⟩, ⟨[0], [3, 4, 5, 6, 7, 8], [(47, some 8)], false⟩, ⟨[], [0, 1, 2, 3, 4, 5, 6, 7, 8, 9], [], false⟩, ⟨[], [0, 1, 2, 3, 4, 5, 6, 7, 8, 9, 10], [], false⟩, ⟨[], [0, 1, 2, 3, 4, 5, 6, 7, 8, 9, 10, 11], [], false⟩] 10 (by kernel_rfl) (by kernel_rfl)
   ·refine ⟨?_, ?_, ?_, ?_, ?_, ?_, ?_, ?_, ?_, ?_, trivial⟩
    ·intro tm hr
     simp [AllL, rdV] at hr
     simp [hr, nth_d e12, f13, encPair_seg (nth_d e12).2 (j := 1) (k := 5) (by decide), encPair_fitj (nth_d e12).2 (j := 1) (m := 5) (by decide), lvs1, f15, f17, f18, f19]
     intros; first | exact KD.mk | exact KD.mkN
    ·intro tm hr
     simp [AllL, rdV] at hr
     simp [hr, nth_d e12, f13, encPair_seg (nth_d e12).2 (j := 1) (k := 5) (by decide), encPair_fitj (nth_d e12).2 (j := 1) (m := 5) (by decide), lvs1, f15, f17, f18, f19]
     intros; first | exact KD.mk | exact KD.mkN
    ·intro tm hr
     simp [AllL, rdV] at hr
     simp [hr, nth_d e12, f13, encPair_seg (nth_d e12).2 (j := 1) (k := 5) (by decide), encPair_fitj (nth_d e12).2 (j := 1) (m := 5) (by decide), lvs1, f15, f17, f18, f19]
     intros; first | exact KD.mk | exact KD.mkN
    ·intro tm hr
     simp [AllL, rdV] at hr
     simp [hr, nth_d e12, f13, encPair_seg (nth_d e12).2 (j := 1) (k := 5) (by decide), encPair_fitj (nth_d e12).2 (j := 1) (m := 5) (by decide), lvs1, f15, f17, f18, f19]
     intros; first | exact KD.mk | exact KD.mkN
    ·intro tm hr
     simp [AllL, rdV] at hr
     simp [hr, nth_d e12, f13, encPair_seg (nth_d e12).2 (j := 1) (k := 5) (by decide), encPair_fitj (nth_d e12).2 (j := 1) (m := 5) (by decide), lvs1, f15, f17, f18, f19]
     intros; first | exact KD.mk | exact KD.mkN
    ·intro tm hr
     simp [AllL, rdV] at hr
     simp [hr, nth_d e12, f13, encPair_seg (nth_d e12).2 (j := 1) (k := 5) (by decide), encPair_fitj (nth_d e12).2 (j := 1) (m := 5) (by decide), lvs1, f15, f17, f18, f19]
     intros; first | exact KD.mk | exact KD.mkN
    ·intro tm hr
     simp [AllL, rdV] at hr
     simp [hr, nth_d e12, f13, encPair_seg (nth_d e12).2 (j := 1) (k := 5) (by decide), encPair_fitj (nth_d e12).2 (j := 1) (m := 5) (by decide), lvs1, f15, f17, f18, f19]
     intros; first | exact KD.mk | exact KD.mkN
    ·intro tm hr
     simp [AllL, rdV] at hr
     simp [hr, nth_d e12, f13, encPair_seg (nth_d e12).2 (j := 1) (k := 5) (by decide), encPair_fitj (nth_d e12).2 (j := 1) (m := 5) (by decide), lvs1, f15, f17, f18, f19]
     intros; first | exact KD.mk | exact KD.mkN
    ·intro tm hr
     simp [AllL, rdV] at hr
     simp [hr, nth_d e12, f13, encPair_seg (nth_d e12).2 (j := 1) (k := 5) (by decide), encPair_fitj (nth_d e12).2 (j := 1) (m := 5) (by decide), lvs1, f15, f17, f18, f19]
     intros; first | exact KD.mk | exact KD.mkN
    ·intro tm hr
     simp [AllL, rdV] at hr
     simp [hr, nth_d e12, f13, encPair_seg (nth_d e12).2 (j := 1) (k := 5) (by decide), encPair_fitj (nth_d e12).2 (j := 1) (m := 5) (by decide), lvs1, f15, f17, f18, f19]
     intros
     refine xcall_plain en_claims_own (s_claims_own e14) rfl ⟨.same rfl, trivial⟩ ?_
     try simp [nth_d e12, f13, encPair_seg (nth_d e12).2 (j := 1) (k := 5) (by decide), encPair_fitj (nth_d e12).2 (j := 1) (m := 5) (by decide), lvs1, f15, f17, f18, f19]
     intros; first | exact KD.mk | exact KD.mkN
   ·rfl
   ·simp [tmD, putD, nth_d e12, f13, encPair_seg (nth_d e12).2 (j := 1) (k := 5) (by decide), encPair_fitj (nth_d e12).2 (j := 1) (m := 5) (by decide), lvs1, f15, f17, f18, f19]; rfl
   ·simp [nth_d e12, f13, encPair_seg (nth_d e12).2 (j := 1) (k := 5) (by decide), encPair_fitj (nth_d e12).2 (j := 1) (m := 5) (by decide), lvs1, f15, f17, f18, f19]
    intros; rfl
   try simp only [sp_l, sp_r, Post.seq, Post.block, Nat.reduceEqDiff, reduceIte, Nat.zero_ne_one, Nat.one_ne_zero]
   replace h := ltE h; obtain ⟨v20, e20, h⟩ := h
   apply AW.last
   ·simp [← e20]
    intros; rfl
   obtain rfl := Option.some.inj h
   refine nP_i ?_
   refine Weak.mixN [some 0, some 1, some 2, some 3, some 4, some 5, some 6, some 7] hn0 (by decide) ?_ ?_ rfl
   all_goals first | (simp [inv_cons, inv_nil, pickOb, set_len e16]; done) | rfl
  | false =>
   replace h := iteF rfl h
   refine AW.cond_false (by simp) ?_
   refine AW.exit ?_
   try simp only [sp_l, sp_r, Post.seq, Post.block, Nat.reduceEqDiff, reduceIte, Nat.zero_ne_one, Nat.one_ne_zero]
   obtain rfl := Option.some.inj h
   refine xP_i ?_
   refine Weak.mixN [some 0, some 1, some 2, some 3, some 4, some 5, some 6, some 7] hn0 (by decide) ?_ ?_ rfl
   all_goals first | (simp [inv_cons, inv_nil, pickOb]; done) | rfl
 ·rintro e s hp
  obtain ⟨rfl, hw⟩ := hp
  refine ⟨_, hw, ?_⟩
  try simp only [sp_l, sp_r, Post.seq, Post.block, Nat.reduceEqDiff, reduceIte, Nat.zero_ne_one, Nat.one_ne_zero]
  refine AW.seq ?_
  replace h := ltE h; obtain ⟨v21, e21, h⟩ := h
  apply AW.step
  ·simp [lenI_cast e21]
   intros; rfl
  refine AW.block ?_
  replace h := bnE h; obtain ⟨y23, g23, h⟩ := h
  refine AW.iterP g23 (mk := fun gh ls q => (⟨[(1, .l (.p 0 0)), (2, .l (.p 1 0)), (55, .l (.s (.int .i64 v21))), (56, .l (.s (.int .i64 q.1)))], [some ⟨38, 22, false, none, [.s (.int .i64 a0.count), .s (.int .i64 a0.id), .s (.int .i64 a0.master), .s (.int .i64 a0.epoch), .s (.int .i64 a0.voted), .r 2 4 0 a0.claims.length, .r 3 6 0 y9.length, .r 4 4 0 a0.moves.length, .s (.int .i64 a0.last), .r 5 3 0 a0.seen.length, .s (.int .i64 a0.feed.rid.node), .s (.int .i64 a0.feed.rid.epoch), .s (.int .i64 a0.feed.off), .r 6 7 0 q.2.length, .s (.int .i64 a0.feed.prev.node), .s (.int .i64 a0.feed.prev.epoch), .s (.int .i64 a0.feed.upto), .d false 1 (encI a0.watch.heard), .d false 1 (encLI a0.watch.says), .s (.int .i64 a0.asked), .r 7 1 0 a0.votes.length, .s (.int .i64 a0.wait)]⟩, some ⟨38, 22, false, none, [.s (.int .i64 0), .s (.int .i64 0), .s (.int .i64 0), .s (.int .i64 0), .s (.int .i64 0), .s (.slice none 0 0), .s (.slice none 0 0), .s (.slice none 0 0), .s (.int .i64 0), .s (.slice none 0 0), .s (.int .i64 0), .s (.int .i64 0), .s (.int .i64 0), .s (.slice none 0 0), .s (.int .i64 0), .s (.int .i64 0), .s (.int .i64 0), .s (.slice none 0 0), .s (.slice none 0 0), .s (.int .i64 0), .s (.slice none 0 0), .s (.int .i64 0)]⟩, some ⟨63, 4, true, none, lvs (encClaim a0.claims)⟩, some ⟨95, 6, true, none, lvs (encPair y9)⟩, some ⟨84, 4, true, none, lvs (encMove a0.moves)⟩, some ⟨87, 3, true, none, lvs (encSeen a0.seen)⟩, some ⟨98, 7, true, none, lvs (encEffect q.2)⟩, some ⟨3, 1, true, none, lvs (encI a0.votes)⟩], 104, gh, ls⟩ : St)) (N := fun gh ls => (xP 2 (cx := cx) (fun q => (⟨[(1, .l (.p 0 0)), (2, .l (.p 1 0))], [some ⟨38, 22, false, none, [.s (.int .i64 a0.count), .s (.int .i64 a0.id), .s (.int .i64 a0.master), .s (.int .i64 a0.epoch), .s (.int .i64 a0.voted), .r 2 4 0 a0.claims.length, .r 3 6 0 y9.length, .r 4 4 0 a0.moves.length, .s (.int .i64 a0.last), .r 5 3 0 a0.seen.length, .s (.int .i64 a0.feed.rid.node), .s (.int .i64 a0.feed.rid.epoch), .s (.int .i64 a0.feed.off), .r 6 7 0 q.length, .s (.int .i64 a0.feed.prev.node), .s (.int .i64 a0.feed.prev.epoch), .s (.int .i64 a0.feed.upto), .d false 1 (encI a0.watch.heard), .d false 1 (encLI a0.watch.says), .s (.int .i64 a0.asked), .r 7 1 0 a0.votes.length, .s (.int .i64 a0.wait)]⟩, some ⟨38, 22, false, none, [.s (.int .i64 0), .s (.int .i64 0), .s (.int .i64 0), .s (.int .i64 0), .s (.int .i64 0), .s (.slice none 0 0), .s (.slice none 0 0), .s (.slice none 0 0), .s (.int .i64 0), .s (.slice none 0 0), .s (.int .i64 0), .s (.int .i64 0), .s (.int .i64 0), .s (.slice none 0 0), .s (.int .i64 0), .s (.int .i64 0), .s (.int .i64 0), .s (.slice none 0 0), .s (.slice none 0 0), .s (.int .i64 0), .s (.slice none 0 0), .s (.int .i64 0)]⟩, some ⟨63, 4, true, none, lvs (encClaim a0.claims)⟩, some ⟨95, 6, true, none, lvs (encPair y9)⟩, some ⟨84, 4, true, none, lvs (encMove a0.moves)⟩, some ⟨87, 3, true, none, lvs (encSeen a0.seen)⟩, some ⟨98, 7, true, none, lvs (encEffect q)⟩, some ⟨3, 1, true, none, lvs (encI a0.votes)⟩], 104, gh, ls⟩ : St)))) ?_ noX ?_ ?_
  ·refine Weak.mixN [some 0, some 1, some 2, some 3, some 4, some 5, some 6, some 7] hn0 (by decide) ?_ ?_ rfl
   all_goals first | (simp [inv_cons, inv_nil, pickOb]; done) | rfl
  ·clear h; intro y22 y24 h
   replace h := ltE h; obtain ⟨v25, e25, h⟩ := h
   apply AW.step
   ·simp [← e25]
    intros; rfl
   refine AW.seq ?_
   cases v25 with
   | true =>
    replace h := iteT rfl h
    refine AW.cond_true (by simp) ?_
    refine AW.skip ?_
    try simp only [sp_l, sp_r, Post.seq, Post.block, Nat.reduceEqDiff, reduceIte, Nat.zero_ne_one, Nat.one_ne_zero]
    try simp only [sp_l, sp_r, Post.seq, Post.block, Nat.reduceEqDiff, reduceIte, Nat.zero_ne_one, Nat.one_ne_zero]
    refine AW.seq ?_
    refine AW.block ?_
    apply AW.step
    ·simp
     intros; rfl
    replace h := bnE h; obtain ⟨v26, e26, h⟩ := h
    have f27 := nth_lt e26
    try simp [nth_d e26] at f27
    replace h := bnE h; obtain ⟨v28, e28, h⟩ := h
    have f29 := nth_lt e26
    try simp [nth_d e26, f27, encEffect_seg (nth_d e26).2 (j := 2) (k := 5) (by decide), encEffect_fitj (nth_d e26).2 (j := 2) (m := 5) (by decide), lvs1] at f29
    replace h := ltE h; obtain ⟨v30, e30, h⟩ := h
    have f31 := encEffect_put (nth_d e26).2 e30 (j := 2) (cs := [.s (.int .i64 v28.kind), .s (.string v28.s), .d false 2 (encField v28.f), .d false 1 (encS v28.l), .s (.int .i64 v28.exp)]) (by simp) rfl
    try simp at f31
    have f32 := f27
    try simp only [set_len e30] at f32
    have f33 := f29
    try simp only [set_len e30] at f33
    apply AW.drawnR (V := [_, _, _, _, _, _, _, _, _, _, _, _]) mixed [⟨[0], [], [(1, none)], false⟩, ⟨[0], [0], [(59, some 0)], false⟩, ⟨[0], [0, 1], [(60, some 1)], false⟩, ⟨[0], [], [(4, none)], false⟩, ⟨[0], [], [(1, none)], false⟩, ⟨[0], [4], [(63, some 4)], false⟩, ⟨[0], [4, 5], [(64, some 5)], false⟩, ⟨[0], [], [(4, none)], false⟩, ⟨[0], [4, 5, 6, 7], [(65, some 6), (66, some 7)], false⟩, ⟨[0], [4, 5, 6, 7, 8], [(67, some 8)], false⟩, ⟨[0], [4, 5, 6, 7, 8, 9], [(68, some 9)], false⟩, ⟨[0], [4, 5, 6, 7, 8, 9, 10], [(69, some 10)], false⟩, ⟨[], [0, 1, 2, 3, 4, 5, 6, 7, 8, 9, 10, 11], [], false⟩, ⟨[], [0, 1, 2, 3, 4, 5, 6, 7, 8, 9, 10, 11, 12], [], false⟩, ⟨[], [0, 1, 2, 3, 4, 5, 6, 7, 8, 9, 10, 11, 12, 13], [], false⟩] 12 (by kernel_rfl) (by kernel_rfl)
    ·refine ⟨?_, ?_, ?_, ?_, ?_, ?_, ?_, ?_, ?_, ?_, ?_, ?_, trivial⟩
     ·intro tm hr
      simp [AllL, rdV] at hr
      simp [hr, nth_d e26, f27, encEffect_seg (nth_d e26).2 (j := 2) (k := 5) (by decide), encEffect_fitj (nth_d e26).2 (j := 2) (m := 5) (by decide), lvs1, f29, f31, f32, f33]
      intros; first | exact KD.mk | exact KD.mkN
     ·intro tm hr
      simp [AllL, rdV] at hr
      simp [hr, nth_d e26, f27, encEffect_seg (nth_d e26).2 (j := 2) (k := 5) (by decide), encEffect_fitj (nth_d e26).2 (j := 2) (m := 5) (by decide), lvs1, f29, f31, f32, f33]
      intros; first | exact KD.mk | exact KD.mkN
     ·intro tm hr
      simp [AllL, rdV] at hr
      simp [hr, nth_d e26, f27, encEffect_seg (nth_d e26).2 (j := 2) (k := 5) (by decide), encEffect_fitj (nth_d e26).2 (j := 2) (m := 5) (by decide), lvs1, f29, f31, f32, f33]
      intros; first | exact KD.mk | exact KD.mkN
     ·intro tm hr
      simp [AllL, rdV] at hr
      simp [hr, nth_d e26, f27, encEffect_seg (nth_d e26).2 (j := 2) (k := 5) (by decide), encEffect_fitj (nth_d e26).2 (j := 2) (m := 5) (by decide), lvs1, f29, f31, f32, f33]
      intros; first | exact KD.mk | exact KD.mkN
     ·intro tm hr
      simp [AllL, rdV] at hr
      simp [hr, nth_d e26, f27, encEffect_seg (nth_d e26).2 (j := 2) (k := 5) (by decide), encEffect_fitj (nth_d e26).2 (j := 2) (m := 5) (by decide), lvs1, f29, f31, f32, f33]
      intros; first | exact KD.mk | exact KD.mkN
     ·intro tm hr
      simp [AllL, rdV] at hr
      simp [hr, nth_d e26, f27, encEffect_seg (nth_d e26).2 (j := 2) (k := 5) (by decide), encEffect_fitj (nth_d e26).2 (j := 2) (m := 5) (by decide), lvs1, f29, f31, f32, f33]
      intros; first | exact KD.mk | exact KD.mkN
     ·intro tm hr
      simp [AllL, rdV] at hr
      simp [hr, nth_d e26, f27, encEffect_seg (nth_d e26).2 (j := 2) (k := 5) (by decide), encEffect_fitj (nth_d e26).2 (j := 2) (m := 5) (by decide), lvs1, f29, f31, f32, f33]
      intros; first | exact KD.mk | exact KD.mkN
     ·intro tm hr
      simp [AllL, rdV] at hr
      simp [hr, nth_d e26, f27, encEffect_seg (nth_d e26).2 (j := 2) (k := 5) (by decide), encEffect_fitj (nth_d e26).2 (j := 2) (m := 5) (by decide), lvs1, f29, f31, f32, f33]
      intros; first | exact KD.mk | exact KD.mkN
     ·intro tm hr
      simp [AllL, rdV] at hr
      simp [hr, nth_d e26, f27, encEffect_seg (nth_d e26).2 (j := 2) (k := 5) (by decide), encEffect_fitj (nth_d e26).2 (j := 2) (m := 5) (by decide), lvs1, f29, f31, f32, f33]
      intros; first | exact KD.mk | exact KD.mkN
     ·intro tm hr
      simp [AllL, rdV] at hr
      simp [hr, nth_d e26, f27, encEffect_seg (nth_d e26).2 (j := 2) (k := 5) (by decide), encEffect_fitj (nth_d e26).2 (j := 2) (m := 5) (by decide), lvs1, f29, f31, f32, f33]
      intros; first | exact KD.mk | exact KD.mkN
     ·intro tm hr
      simp [AllL, rdV] at hr
      simp [hr, nth_d e26, f27, encEffect_seg (nth_d e26).2 (j := 2) (k := 5) (by decide), encEffect_fitj (nth_d e26).2 (j := 2) (m := 5) (by decide), lvs1, f29, f31, f32, f33]
      intros; first | exact KD.mk | exact KD.mkN
     ·intro tm hr
      simp [AllL, rdV] at hr
      simp [hr, nth_d e26, f27, encEffect_seg (nth_d e26).2 (j := 2) (k := 5) (by decide), encEffect_fitj (nth_d e26).2 (j := 2) (m := 5) (by decide), lvs1, f29, f31, f32, f33]
      intros
      refine xcall_plain en_claims_own (s_claims_own e28) rfl ⟨.same rfl, trivial⟩ ?_
      try simp [nth_d e26, f27, encEffect_seg (nth_d e26).2 (j := 2) (k := 5) (by decide), encEffect_fitj (nth_d e26).2 (j := 2) (m := 5) (by decide), lvs1, f29, f31, f32, f33]
      intros; first | exact KD.mk | exact KD.mkN
    ·rfl
    ·simp [tmD, putD, nth_d e26, f27, encEffect_seg (nth_d e26).2 (j := 2) (k := 5) (by decide), encEffect_fitj (nth_d e26).2 (j := 2) (m := 5) (by decide), lvs1, f29, f31, f32, f33]; rfl
    ·simp [nth_d e26, f27, encEffect_seg (nth_d e26).2 (j := 2) (k := 5) (by decide), encEffect_fitj (nth_d e26).2 (j := 2) (m := 5) (by decide), lvs1, f29, f31, f32, f33]
     intros; rfl
    try simp only [sp_l, sp_r, Post.seq, Post.block, Nat.reduceEqDiff, reduceIte, Nat.zero_ne_one, Nat.one_ne_zero]
    replace h := ltE h; obtain ⟨v34, e34, h⟩ := h
    apply AW.last
    ·simp [← e34]
     intros; rfl
    obtain rfl := Option.some.inj h
    refine nP_i ?_
    refine Weak.mixN [some 0, some 1, some 2, some 3, some 4, some 5, some 6, some 7] hn0 (by decide) ?_ ?_ rfl
    all_goals first | (simp [inv_cons, inv_nil, pickOb, set_len e30]; done) | rfl
   | false =>
    replace h := iteF rfl h
    refine AW.cond_false (by simp) ?_
    refine AW.exit ?_
    try simp only [sp_l, sp_r, Post.seq, Post.block, Nat.reduceEqDiff, reduceIte, Nat.zero_ne_one, Nat.one_ne_zero]
    obtain rfl := Option.some.inj h
    refine xP_i ?_
    refine Weak.mixN [some 0, some 1, some 2, some 3, some 4, some 5, some 6, some 7] hn0 (by decide) ?_ ?_ rfl
    all_goals first | (simp [inv_cons, inv_nil, pickOb]; done) | rfl
  ·rintro e s hp
   obtain ⟨rfl, hw⟩ := hp
   refine ⟨_, hw, ?_⟩
   try simp only [sp_l, sp_r, Post.seq, Post.block, Nat.reduceEqDiff, reduceIte, Nat.zero_ne_one, Nat.one_ne_zero]
   replace h := chkE h; obtain ⟨e35, h⟩ := h
   replace h := chkE h; obtain ⟨e36, h⟩ := h
   apply AW.drawnE (V := [_, _, _, _, _, _, _, _, _, _]) (M := [[some ⟨38, 22, false, none, [.s (.int .i64 a0.count), .s (.int .i64 a0.id), .s (.int .i64 a0.master), .s (.int .i64 a0.epoch), .s (.int .i64 a0.voted), .r 2 4 0 a0.claims.length, .r 3 6 0 y9.length, .r 4 4 0 a0.moves.length, .s (.int .i64 a0.last), .r 5 3 0 a0.seen.length, .s (.int .i64 a0.feed.rid.node), .s (.int .i64 a0.feed.rid.epoch), .s (.int .i64 a0.feed.off), .r 6 7 0 y23.length, .s (.int .i64 a0.feed.prev.node), .s (.int .i64 a0.feed.prev.epoch), .s (.int .i64 a0.feed.upto), .d false 1 (encI a0.watch.heard), .d false 1 (encLI a0.watch.says), .s (.int .i64 a0.asked), .r 7 1 0 a0.votes.length, .s (.int .i64 a0.wait)]⟩, some ⟨38, 22, false, none, [.s (.int .i64 0), .s (.int .i64 0), .s (.int .i64 0), .s (.int .i64 0), .s (.int .i64 0), .s (.slice none 0 0), .s (.slice none 0 0), .s (.slice none 0 0), .s (.int .i64 0), .s (.slice none 0 0), .s (.int .i64 0), .s (.int .i64 0), .s (.int .i64 0), .s (.slice none 0 0), .s (.int .i64 0), .s (.int .i64 0), .s (.int .i64 0), .s (.slice none 0 0), .s (.slice none 0 0), .s (.int .i64 0), .s (.slice none 0 0), .s (.int .i64 0)]⟩, some ⟨63, 4, true, none, lvs (encClaim a0.claims)⟩, some ⟨95, 6, true, none, lvs (encPair y9)⟩, some ⟨84, 4, true, none, lvs (encMove a0.moves)⟩, some ⟨87, 3, true, none, lvs (encSeen a0.seen)⟩, some ⟨98, 7, true, none, lvs (encEffect y23)⟩, some ⟨3, 1, true, none, lvs (encI a0.votes)⟩], [some ⟨38, 22, false, none, [.s (.int .i64 a0.count), .s (.int .i64 a0.id), .s (.int .i64 a0.master), .s (.int .i64 a0.epoch), .s (.int .i64 a0.voted), .r 2 4 0 a0.claims.length, .r 3 6 0 y9.length, .r 4 4 0 a0.moves.length, .s (.int .i64 a0.last), .r 5 3 0 a0.seen.length, .s (.int .i64 a0.feed.rid.node), .s (.int .i64 a0.feed.rid.epoch), .s (.int .i64 a0.feed.off), .r 6 7 0 y23.length, .s (.int .i64 a0.feed.prev.node), .s (.int .i64 a0.feed.prev.epoch), .s (.int .i64 a0.feed.upto), .d false 1 (encI a0.watch.heard), .d false 1 (encLI a0.watch.says), .s (.int .i64 a0.asked), .r 7 1 0 a0.votes.length, .s (.int .i64 a0.wait)]⟩, some ⟨38, 22, false, none, [.s (.int .i64 0), .s (.int .i64 0), .s (.int .i64 0), .s (.int .i64 0), .s (.int .i64 0), .s (.slice none 0 0), .s (.slice none 0 0), .s (.slice none 0 0), .s (.int .i64 0), .s (.slice none 0 0), .s (.int .i64 0), .s (.int .i64 0), .s (.int .i64 0), .s (.slice none 0 0), .s (.int .i64 0), .s (.int .i64 0), .s (.int .i64 0), .s (.slice none 0 0), .s (.slice none 0 0), .s (.int .i64 0), .s (.slice none 0 0), .s (.int .i64 0)]⟩, some ⟨63, 4, true, none, lvs (encClaim a0.claims)⟩, some ⟨95, 6, true, none, lvs (encPair y9)⟩, some ⟨84, 4, true, none, lvs (encMove a0.moves)⟩, some ⟨87, 3, true, none, lvs (encSeen a0.seen)⟩, some ⟨98, 7, true, none, lvs (encEffect y23)⟩, some ⟨3, 1, true, none, lvs (encI a0.votes)⟩, some ⟨3, 1, true, none, lvs (encI a0.watch.heard)⟩], [some ⟨38, 22, false, none, [.s (.int .i64 a0.count), .s (.int .i64 a0.id), .s (.int .i64 a0.master), .s (.int .i64 a0.epoch), .s (.int .i64 a0.voted), .r 2 4 0 a0.claims.length, .r 3 6 0 y9.length, .r 4 4 0 a0.moves.length, .s (.int .i64 a0.last), .r 5 3 0 a0.seen.length, .s (.int .i64 a0.feed.rid.node), .s (.int .i64 a0.feed.rid.epoch), .s (.int .i64 a0.feed.off), .r 6 7 0 y23.length, .s (.int .i64 a0.feed.prev.node), .s (.int .i64 a0.feed.prev.epoch), .s (.int .i64 a0.feed.upto), .d false 1 (encI a0.watch.heard), .d false 1 (encLI a0.watch.says), .s (.int .i64 a0.asked), .r 7 1 0 a0.votes.length, .s (.int .i64 a0.wait)]⟩, some ⟨38, 22, false, none, [.s (.int .i64 0), .s (.int .i64 0), .s (.int .i64 0), .s (.int .i64 0), .s (.int .i64 0), .s (.slice none 0 0), .s (.slice none 0 0), .s (.slice none 0 0), .s (.int .i64 0), .s (.slice none 0 0), .s (.int .i64 0), .s (.int .i64 0), .s (.int .i64 0), .s (.slice none 0 0), .s (.int .i64 0), .s (.int .i64 0), .s (.int .i64 0), .s (.slice none 0 0), .s (.slice none 0 0), .s (.int .i64 0), .s (.slice none 0 0), .s (.int .i64 0)]⟩, some ⟨63, 4, true, none, lvs (encClaim a0.claims)⟩, some ⟨95, 6, true, none, lvs (encPair y9)⟩, some ⟨84, 4, true, none, lvs (encMove a0.moves)⟩, some ⟨87, 3, true, none, lvs (encSeen a0.seen)⟩, some ⟨98, 7, true, none, lvs (encEffect y23)⟩, some ⟨3, 1, true, none, lvs (encI a0.votes)⟩, some ⟨3, 1, true, none, lvs (encI a0.watch.heard)⟩, some ⟨33, 1, true, none, lvs (encLI a0.watch.says)⟩]]) mixed [⟨[0], [], [(1, none)], false⟩, ⟨[0], [0], [(74, some 0)], false⟩, ⟨[0], [0, 1], [(75, some 1)], false⟩, ⟨[0], [0, 1, 2], [(76, some 2)], true⟩, ⟨[0, 1], [], [(1, none)], false⟩, ⟨[0, 1], [4], [(78, some 4)], false⟩, ⟨[0, 1], [4, 5], [(79, some 5)], false⟩, ⟨[1], [0, 1, 2, 3, 4, 5, 6], [(80, some 6)], true⟩, ⟨[1, 2], [0, 1, 2, 3, 4, 5, 6], [(1, none)], false⟩, ⟨[1, 2], [0, 1, 2, 3, 4, 5, 6, 8], [(82, some 8)], false⟩, ⟨[], [0, 1, 2, 3, 4, 5, 6, 7, 8, 9], [], false⟩, ⟨[], [0, 1, 2, 3, 4, 5, 6, 7, 8, 9, 10], [], false⟩, ⟨[], [0, 1, 2, 3, 4, 5, 6, 7, 8, 9, 10, 11], [], false⟩, ⟨[], [0, 1, 2, 3, 4, 5, 6, 7, 8, 9, 10, 11, 12], [], false⟩] 10 2 (by kernel_rfl) (by kernel_rfl)
   ·rfl
   ·refine ⟨?_, ?_, ?_, ?_, ⟨?_, ?_⟩, ⟨?_, ?_⟩, ⟨?_, ?_⟩, ?_, ⟨?_, ?_⟩, ⟨?_, ?_⟩, trivial⟩
    ·intro tm hr
     simp [AllL, rdV] at hr
     simp [hr, outR]
     intros; first | exact KD.mk | exact KD.mkN
    ·intro tm hr
     simp [AllL, rdV] at hr
     simp [hr, outR]
     intros; first | exact KD.mk | exact KD.mkN
    ·intro tm hr
     simp [AllL, rdV] at hr
     simp [hr, outR]
     intros; first | exact KD.mk | exact KD.mkN
    ·intro tm hr
     simp [AllL, rdV] at hr
     simp [hr, outR]
     intros
     refine xcall_new en_cl_I (s_cl_I a0.watch.heard (small_d e35)) rfl (by simp) ⟨.d _ _ _, trivial⟩ ?_
     try simp [outR]
     intros; first | exact KD.mk | exact KD.mkN
    ·intro tm hr
     simp [AllL, rdV] at hr
     simp [hr, outR]
     intros; first | exact KD.mk | exact KD.mkN
    ·intro tm hr
     simp [AllL, rdV] at hr
     simp [hr, outR]
     intros; first | exact KD.mk | exact KD.mkN
    ·intro tm hr
     simp [AllL, rdV] at hr
     simp [hr, outR]
     intros; first | exact KD.mk | exact KD.mkN
    ·intro tm hr
     simp [AllL, rdV] at hr
     simp [hr, outR]
     intros; first | exact KD.mk | exact KD.mkN
    ·intro tm hr
     simp [AllL, rdV] at hr
     simp [hr, outR]
     intros; first | exact KD.mk | exact KD.mkN
    ·intro tm hr
     simp [AllL, rdV] at hr
     simp [hr, outR]
     intros; first | exact KD.mk | exact KD.mkN
    ·intro tm hr
     simp [AllL, rdV] at hr
     simp [hr, outR]
     intros
     refine xcall_new en_cl_LI (s_cl_LI a0.watch.says (small_d e36)) rfl (by simp) ⟨.same rfl, trivial⟩ ?_
     try simp [outR]
     intros; first | exact KD.mk | exact KD.mkN
    ·intro tm hr
     simp [AllL, rdV] at hr
     simp [hr, outR]
     intros; first | exact KD.mk | exact KD.mkN
    ·intro tm hr
     simp [AllL, rdV] at hr
     simp [hr, outR]
     intros; first | exact KD.mk | exact KD.mkN
    ·intro tm hr
     simp [AllL, rdV] at hr
     simp [hr, outR]
     intros; first | exact KD.mk | exact KD.mkN
    ·intro tm hr
     simp [AllL, rdV] at hr
     simp [hr, outR]
     intros; first | exact KD.mk | exact KD.mkN
   ·rfl
   ·simp [tmD, putD, outR]; rfl
   ·simp [outR]
    intros; rfl
   refine AW.seq ?_
   replace h := ltE h; obtain ⟨v37, e37, h⟩ := h
   apply AW.step
   ·simp [lenI_cast e37]
    intros; rfl
   refine AW.block ?_
   replace h := bnE h; obtain ⟨y39, g39, h⟩ := h
   refine AW.iterP g39 (mk := fun gh ls q => (⟨[(1, .l (.p 0 0)), (2, .l (.p 1 0)), (88, .l (.r 2 1 0 q.2.length)), (89, .l (.s (.int .i64 v37))), (90, .l (.s (.int .i64 q.1)))], [some ⟨38, 22, false, none, [.s (.int .i64 a0.count), .s (.int .i64 a0.id), .s (.int .i64 a0.master), .s (.int .i64 a0.epoch), .s (.int .i64 a0.voted), .r 3 4 0 a0.claims.length, .r 4 6 0 y9.length, .r 5 4 0 a0.moves.length, .s (.int .i64 a0.last), .r 6 3 0 a0.seen.length, .s (.int .i64 a0.feed.rid.node), .s (.int .i64 a0.feed.rid.epoch), .s (.int .i64 a0.feed.off), .r 7 7 0 y23.length, .s (.int .i64 a0.feed.prev.node), .s (.int .i64 a0.feed.prev.epoch), .s (.int .i64 a0.feed.upto), .r 8 1 0 a0.watch.heard.length, .r 2 1 0 q.2.length, .s (.int .i64 a0.asked), .r 9 1 0 a0.votes.length, .s (.int .i64 a0.wait)]⟩, some ⟨38, 22, false, none, [.s (.int .i64 0), .s (.int .i64 0), .s (.int .i64 0), .s (.int .i64 0), .s (.int .i64 0), .s (.slice none 0 0), .s (.slice none 0 0), .s (.slice none 0 0), .s (.int .i64 0), .s (.slice none 0 0), .s (.int .i64 0), .s (.int .i64 0), .s (.int .i64 0), .s (.slice none 0 0), .s (.int .i64 0), .s (.int .i64 0), .s (.int .i64 0), .s (.slice none 0 0), .s (.slice none 0 0), .s (.int .i64 0), .s (.slice none 0 0), .s (.int .i64 0)]⟩, some ⟨33, 1, true, none, lvs (encLI q.2)⟩, some ⟨63, 4, true, none, lvs (encClaim a0.claims)⟩, some ⟨95, 6, true, none, lvs (encPair y9)⟩, some ⟨84, 4, true, none, lvs (encMove a0.moves)⟩, some ⟨87, 3, true, none, lvs (encSeen a0.seen)⟩, some ⟨98, 7, true, none, lvs (encEffect y23)⟩, some ⟨3, 1, true, none, lvs (encI a0.watch.heard)⟩, some ⟨3, 1, true, none, lvs (encI a0.votes)⟩], 104, gh, ls⟩ : St)) (N := fun gh ls => (xP 4 (cx := cx) (fun q => (⟨[(1, .l (.p 0 0)), (2, .l (.p 1 0))], [some ⟨38, 22, false, none, [.s (.int .i64 a0.count), .s (.int .i64 a0.id), .s (.int .i64 a0.master), .s (.int .i64 a0.epoch), .s (.int .i64 a0.voted), .r 2 4 0 a0.claims.length, .r 3 6 0 y9.length, .r 4 4 0 a0.moves.length, .s (.int .i64 a0.last), .r 5 3 0 a0.seen.length, .s (.int .i64 a0.feed.rid.node), .s (.int .i64 a0.feed.rid.epoch), .s (.int .i64 a0.feed.off), .r 6 7 0 y23.length, .s (.int .i64 a0.feed.prev.node), .s (.int .i64 a0.feed.prev.epoch), .s (.int .i64 a0.feed.upto), .r 7 1 0 a0.watch.heard.length, .r 8 1 0 q.length, .s (.int .i64 a0.asked), .r 9 1 0 a0.votes.length, .s (.int .i64 a0.wait)]⟩, some ⟨38, 22, false, none, [.s (.int .i64 0), .s (.int .i64 0), .s (.int .i64 0), .s (.int .i64 0), .s (.int .i64 0), .s (.slice none 0 0), .s (.slice none 0 0), .s (.slice none 0 0), .s (.int .i64 0), .s (.slice none 0 0), .s (.int .i64 0), .s (.int .i64 0), .s (.int .i64 0), .s (.slice none 0 0), .s (.int .i64 0), .s (.int .i64 0), .s (.int .i64 0), .s (.slice none 0 0), .s (.slice none 0 0), .s (.int .i64 0), .s (.slice none 0 0), .s (.int .i64 0)]⟩, some ⟨63, 4, true, none, lvs (encClaim a0.claims)⟩, some ⟨95, 6, true, none, lvs (encPair y9)⟩, some ⟨84, 4, true, none, lvs (encMove a0.moves)⟩, some ⟨87, 3, true, none, lvs (encSeen a0.seen)⟩, some ⟨98, 7, true, none, lvs (encEffect y23)⟩, some ⟨3, 1, true, none, lvs (encI a0.watch.heard)⟩, some ⟨33, 1, true, none, lvs (encLI q)⟩, some ⟨3, 1, true, none, lvs (encI a0.votes)⟩], 104, gh, ls⟩ : St)))) ?_ noX ?_ ?_
   ·refine Weak.mixN [some 0, some 1, some 9, some 2, some 3, some 4, some 5, some 6, some 8, some 7] hn0 (by decide) ?_ ?_ rfl
    all_goals first | (simp [inv_cons, inv_nil, pickOb]; done) | rfl
   ·clear h; intro y38 y40 h
    replace h := ltE h; obtain ⟨v41, e41, h⟩ := h
    apply AW.step
    ·simp [← e41]
     intros; rfl
    refine AW.seq ?_
    cases v41 with
    | true =>
     replace h := iteT rfl h
     refine AW.cond_true (by simp) ?_
     refine AW.skip ?_
     try simp only [sp_l, sp_r, Post.seq, Post.block, Nat.reduceEqDiff, reduceIte, Nat.zero_ne_one, Nat.one_ne_zero]
     try simp only [sp_l, sp_r, Post.seq, Post.block, Nat.reduceEqDiff, reduceIte, Nat.zero_ne_one, Nat.one_ne_zero]
     refine AW.seq ?_
     refine AW.block ?_
     replace h := bnE h; obtain ⟨v42, e42, h⟩ := h
     have f43 := nth_lt e42
     try simp [nth_d e42] at f43
     apply AW.step
     ·simp [nth_d e42, f43, encLI_cell0 (nth_d e42).2, lvs1]
      intros; rfl
     replace h := chkE h; obtain ⟨e44, h⟩ := h
     have f45 := nth_lt e42
     try simp [nth_d e42] at f45
     replace h := ltE h; obtain ⟨v46, e46, h⟩ := h
     have f47 := encLI_put0 (nth_d e42).2 e46 (cs := [.d false 1 (encI v42)]) (by simp) rfl
     try simp at f47
     have f48 := f45
     try simp only [set_len e46] at f48
     apply AW.drawnR (V := [_, _, _, _, _, _]) mixed [⟨[0], [], [(1, none)], false⟩, ⟨[0], [0], [(95, some 0)], false⟩, ⟨[0], [0, 1], [(96, some 1)], false⟩, ⟨[0], [], [(5, none)], false⟩, ⟨[0], [], [(6, none)], false⟩, ⟨[0], [4], [(99, some 4)], false⟩, ⟨[], [0, 1, 2, 3, 4, 5], [], false⟩, ⟨[], [0, 1, 2, 3, 4, 5, 6], [], false⟩] 6 (by kernel_rfl) (by kernel_rfl)
     ·refine ⟨?_, ?_, ?_, ?_, ?_, ?_, trivial⟩
      ·intro tm hr
       simp [AllL, rdV] at hr
       simp [hr, nth_d e42, f45, encLI_fit (nth_d e42).2 (show 1 ≤ 1 by decide), f47, f48]
       intros; first | exact KD.mk | exact KD.mkN
      ·intro tm hr
       simp [AllL, rdV] at hr
       simp [hr, nth_d e42, f45, encLI_fit (nth_d e42).2 (show 1 ≤ 1 by decide), f47, f48]
       intros; first | exact KD.mk | exact KD.mkN
      ·intro tm hr
       simp [AllL, rdV] at hr
       simp [hr, nth_d e42, f45, encLI_fit (nth_d e42).2 (show 1 ≤ 1 by decide), f47, f48]
       intros; first | exact KD.mk | exact KD.mkN
      ·intro tm hr
       simp [AllL, rdV] at hr
       simp [hr, nth_d e42, f45, encLI_fit (nth_d e42).2 (show 1 ≤ 1 by decide), f47, f48]
       intros; first | exact KD.mk | exact KD.mkN
      ·intro tm hr
       simp [AllL, rdV] at hr
       simp [hr, nth_d e42, f45, encLI_fit (nth_d e42).2 (show 1 ≤ 1 by decide), f47, f48]
       intros; first | exact KD.mk | exact KD.mkN
      ·intro tm hr
       simp [AllL, rdV] at hr
       simp [hr, nth_d e42, f45, encLI_fit (nth_d e42).2 (show 1 ≤ 1 by decide), f47, f48]
       intros
       refine xcall_plain en_cl_I (z_cl_I v42 (small_d e44)) rfl ⟨.d _ _ _, trivial⟩ ?_
       try simp [nth_d e42, f45, encLI_fit (nth_d e42).2 (show 1 ≤ 1 by decide), f47, f48]
       intros; first | exact KD.mk | exact KD.mkN
     ·rfl
     ·simp [tmD, putD, nth_d e42, f45, encLI_fit (nth_d e42).2 (show 1 ≤ 1 by decide), f47, f48]; rfl
     ·simp [nth_d e42, f45, encLI_fit (nth_d e42).2 (show 1 ≤ 1 by decide), f47, f48]
      intros; rfl
     try simp only [sp_l, sp_r, Post.seq, Post.block, Nat.reduceEqDiff, reduceIte, Nat.zero_ne_one, Nat.one_ne_zero]
     replace h := ltE h; obtain ⟨v49, e49, h⟩ := h
     apply AW.last
     ·simp [← e49]
      intros; rfl
     obtain rfl := Option.some.inj h
     refine nP_i ?_
     refine Weak.mixN [some 0, some 1, some 2, some 3, some 4, some 5, some 6, some 7, some 8, some 9] hn0 (by decide) ?_ ?_ rfl
     all_goals first | (simp [inv_cons, inv_nil, pickOb, set_len e46]; done) | rfl
    | false =>
     replace h := iteF rfl h
     refine AW.cond_false (by simp) ?_
     refine AW.exit ?_
     try simp only [sp_l, sp_r, Post.seq, Post.block, Nat.reduceEqDiff, reduceIte, Nat.zero_ne_one, Nat.one_ne_zero]
     obtain rfl := Option.some.inj h
     refine xP_i ?_
     refine Weak.mixN [some 0, some 1, some 3, some 4, some 5, some 6, some 7, some 8, some 2, some 9] hn0 (by decide) ?_ ?_ rfl
     all_goals first | (simp [inv_cons, inv_nil, pickOb]; done) | rfl
   ·rintro e s hp
    obtain ⟨rfl, hw⟩ := hp
    refine ⟨_, hw, ?_⟩
    try simp only [sp_l, sp_r, Post.seq, Post.block, Nat.reduceEqDiff, reduceIte, Nat.zero_ne_one, Nat.one_ne_zero]
    apply AW.step
    ·simp
     intros; rfl
    replace h := chkE h; obtain ⟨e50, h⟩ := h
    refine AW.frzRow 2 (ty := 63) (cap := none) (sz := 4) (es := encClaim a0.claims) (by simp) (by omega) (encClaim_sz _) (by first | exact (room_d e50).2 | simpa using (room_d e50).2 | simp) (by simp [Tm.frz, AV.frz, LV.frz]; rfl) (by simp [Ob.frz, LV.frz]; rfl) rfl ?_
    replace h := chkE h; obtain ⟨e51, h⟩ := h
    refine AW.frzRow 3 (ty := 95) (cap := none) (sz := 6) (es := encPair y9) (by simp) (by omega) (encPair_sz _) (by first | exact (room_d e51).2 | simpa using (room_d e51).2 | simp) (by simp [Tm.frz, AV.frz, LV.frz]; rfl) (by simp [Ob.frz, LV.frz]; rfl) rfl ?_
    replace h := chkE h; obtain ⟨e52, h⟩ := h
    refine AW.frzRow 4 (ty := 84) (cap := none) (sz := 4) (es := encMove a0.moves) (by simp) (by omega) (encMove_sz _) (by first | exact (room_d e52).2 | simpa using (room_d e52).2 | simp) (by simp [Tm.frz, AV.frz, LV.frz]; rfl) (by simp [Ob.frz, LV.frz]; rfl) rfl ?_
    replace h := chkE h; obtain ⟨e53, h⟩ := h
    refine AW.frzRow 5 (ty := 87) (cap := none) (sz := 3) (es := encSeen a0.seen) (by simp) (by omega) (encSeen_sz _) (by first | exact (room_d e53).2 | simpa using (room_d e53).2 | simp) (by simp [Tm.frz, AV.frz, LV.frz]; rfl) (by simp [Ob.frz, LV.frz]; rfl) rfl ?_
    replace h := chkE h; obtain ⟨e54, h⟩ := h
    refine AW.frzRow 6 (ty := 98) (cap := none) (sz := 7) (es := encEffect y23) (by simp) (by omega) (encEffect_sz _) (by first | exact (room_d e54).2 | simpa using (room_d e54).2 | simp) (by simp [Tm.frz, AV.frz, LV.frz]; rfl) (by simp [Ob.frz, LV.frz]; rfl) rfl ?_
    replace h := chkE h; obtain ⟨e55, h⟩ := h
    refine AW.frzRow 7 (ty := 3) (cap := none) (sz := 1) (es := encI a0.watch.heard) (by simp) (by omega) (encI_sz _) (by first | exact (room_d e55).2 | simpa using (room_d e55).2 | simp) (by simp [Tm.frz, AV.frz, LV.frz]; rfl) (by simp [Ob.frz, LV.frz]; rfl) rfl ?_
    replace h := chkE h; obtain ⟨e56, h⟩ := h
    refine AW.frzRow 8 (ty := 33) (cap := none) (sz := 1) (es := encLI y39) (by simp) (by omega) (encLI_sz _) (by first | exact (room_d e56).2 | simpa using (room_d e56).2 | simp) (by simp [Tm.frz, AV.frz, LV.frz]; rfl) (by simp [Ob.frz, LV.frz]; rfl) rfl ?_
    replace h := chkE h; obtain ⟨e57, h⟩ := h
    refine AW.frzRow 9 (ty := 3) (cap := none) (sz := 1) (es := encI a0.votes) (by simp) (by omega) (encI_sz _) (by first | exact (room_d e57).2 | simpa using (room_d e57).2 | simp) (by simp [Tm.frz, AV.frz, LV.frz]; rfl) (by simp [Ob.frz, LV.frz]; rfl) rfl ?_
    obtain rfl := Option.some.inj h
    refine AW.ret ?_
    refine Left.plain hnb (by simp [Try.f19, resV, resC, comp]; rfl) rfl rfl ?_
    simp
theorem en_claims_Own : Enters Try.prog 19 := enters Try.func19 (by kernel_rfl) rfl
def vote_grants_sh (n : Nat) (a0 : Node) (a1 : Msg) : Option Bool :=
bn (claims_Masters_sh n a0.claims) fun v1 =>
bn (lt (eqI a0.master (-1)) fun v3 =>
ite' v3 (bn (slices_Contains_int_sh n v1 a0.id) fun v4 =>
some (v4)) (some (false))) fun (y2 : Bool) =>
bn (lt (y2) fun v6 =>
ite' v6 (lt (gtI a1.epoch a0.voted) fun v7 =>
ite' v7 (lt (geI a1.epoch a0.epoch) fun v8 =>
ite' v8 (bn (watch_Failed_sh n a0.watch a0.id v1 a1.node) fun v9 =>
some (v9)) (some (false))) (some (false))) (some (false))) fun (y5 : Bool) =>
some y5
set_option maxRecDepth 8000 in
set_option maxHeartbeats 8000000 in
theorem s_vote_grants {n : Nat} {a0 : Node} {a1 : Msg} {r : Bool} (h : vote_grants_sh n a0 a1 = some r) : Sound Try.prog 20 [.g [.s (.int .i64 a0.count), .s (.int .i64 a0.id), .s (.int .i64 a0.master), .s (.int .i64 a0.epoch), .s (.int .i64 a0.voted), .d false 4 (encClaim a0.claims), .d false 6 (encPair a0.db), .d false 4 (encMove a0.moves), .s (.int .i64 a0.last), .d false 3 (encSeen a0.seen), .s (.int .i64 a0.feed.rid.node), .s (.int .i64 a0.feed.rid.epoch), .s (.int .i64 a0.feed.off), .d false 7 (encEffect a0.feed.back), .s (.int .i64 a0.feed.prev.node), .s (.int .i64 a0.feed.prev.epoch), .s (.int .i64 a0.feed.upto), .d false 1 (encI a0.watch.heard), .d false 1 (encLI a0.watch.says), .s (.int .i64 a0.asked), .d false 1 (encI a0.votes), .s (.int .i64 a0.wait)], .g [.s (.int .i64 a1.kind), .s (.int .i64 a1.frm), .s (.int .i64 a1.to), .s (.int .i64 a1.epoch), .d false 4 (encClaim a1.claims), .d false 1 (encI a1.nodes), .s (.int .i64 a1.node), .s (.int .i64 a1.slot), .s (.int .i64 a1.num), .s (.int .i64 a1.rid.node), .s (.int .i64 a1.rid.epoch), .s (.int .i64 a1.prev.node), .s (.int .i64 a1.prev.epoch), .s (.int .i64 a1.off), .d false 7 (encEffect a1.effects)]] [] (.l (.s (.bool r))) [] := by
 unfold vote_grants_sh at h
 refine Sound.of_aw (fn := Try.f20) (c := _) Try.func20 rfl (by simp [Try.f20]) fun cx hG hnb => ?_
 rw [show Try.f20.ntmps = 44 from rfl]
 have hn0 : cx.nb = 0 := hnb
 simp only [st0_mk, initTm, List.map_cons, List.map_nil]
 apply AW.step
 ·simp
  intros; rfl
 replace h := bnE h; obtain ⟨v1, e1, h⟩ := h
 apply AW.step
 ·simp
  intros
  refine xcall_plain en_claims_Masters (s_claims_Masters e1) rfl ⟨.same rfl, trivial⟩ ?_
  try simp
  intros; rfl
 replace h := bnE h; obtain ⟨y2, g2, h⟩ := h
 refine AW.flow (p := fun gh ls => (nP (cx := cx) (fun q => (⟨[(2, .l (.p 0 0)), (3, .l (.p 1 0)), (5, .l (.d false 1 (encI v1))), (6, .l (.s (.bool q)))], [some ⟨38, 22, false, none, [.s (.int .i64 a0.count), .s (.int .i64 a0.id), .s (.int .i64 a0.master), .s (.int .i64 a0.epoch), .s (.int .i64 a0.voted), .d false 4 (encClaim a0.claims), .d false 6 (encPair a0.db), .d false 4 (encMove a0.moves), .s (.int .i64 a0.last), .d false 3 (encSeen a0.seen), .s (.int .i64 a0.feed.rid.node), .s (.int .i64 a0.feed.rid.epoch), .s (.int .i64 a0.feed.off), .d false 7 (encEffect a0.feed.back), .s (.int .i64 a0.feed.prev.node), .s (.int .i64 a0.feed.prev.epoch), .s (.int .i64 a0.feed.upto), .d false 1 (encI a0.watch.heard), .d false 1 (encLI a0.watch.says), .s (.int .i64 a0.asked), .d false 1 (encI a0.votes), .s (.int .i64 a0.wait)]⟩, some ⟨45, 15, false, none, [.s (.int .i64 a1.kind), .s (.int .i64 a1.frm), .s (.int .i64 a1.to), .s (.int .i64 a1.epoch), .d false 4 (encClaim a1.claims), .d false 1 (encI a1.nodes), .s (.int .i64 a1.node), .s (.int .i64 a1.slot), .s (.int .i64 a1.num), .s (.int .i64 a1.rid.node), .s (.int .i64 a1.rid.epoch), .s (.int .i64 a1.prev.node), .s (.int .i64 a1.prev.epoch), .s (.int .i64 a1.off), .d false 7 (encEffect a1.effects)]⟩], 44, gh, ls⟩ : St))) y2) ?_ ?_
 ·replace h := g2; clear g2
  replace h := ltE h; obtain ⟨v3, e3, h⟩ := h
  cases v3 with
  | true =>
   replace h := iteT rfl h
   replace h := bnE h; obtain ⟨v4, e4, h⟩ := h
   apply AW.last
   ·simp [← e3]
    intros
    refine xcall_plain en_slices_Contains_int (s_slices_Contains_int e4) rfl ⟨.same rfl, .same rfl, trivial⟩ ?_
    try simp [← e3]
    intros; rfl
   obtain rfl := Option.some.inj h
   refine nP_i ?_
   refine Weak.mixN [some 0, some 1] hn0 (by decide) ?_ ?_ rfl
   all_goals first | (simp [inv_cons, inv_nil, pickOb]; done) | rfl
  | false =>
   replace h := iteF rfl h
   apply AW.last
   ·simp [← e3]
    intros; rfl
   obtain rfl := Option.some.inj h
   refine nP_i ?_
   refine Weak.mixN [some 0, some 1] hn0 (by decide) ?_ ?_ rfl
   all_goals first | (simp [inv_cons, inv_nil, pickOb]; done) | rfl
 ·rintro e s hp
  obtain ⟨rfl, hw⟩ := hp
  refine ⟨_, hw, ?_⟩
  try simp only [sp_l, sp_r, Post.seq, Post.block, Nat.reduceEqDiff, reduceIte, Nat.zero_ne_one, Nat.one_ne_zero]
  replace h := bnE h; obtain ⟨y5, g5, h⟩ := h
  refine AW.flow (p := fun gh ls => (nP (cx := cx) (fun q => (⟨[(4, .l (.s (.bool q)))], [], 44, gh, ls⟩ : St))) y5) ?_ ?_
  ·replace h := g5; clear g5
   replace h := ltE h; obtain ⟨v6, e6, h⟩ := h
   cases v6 with
   | true =>
    replace h := iteT rfl h
    replace h := ltE h; obtain ⟨v7, e7, h⟩ := h
    cases v7 with
    | true =>
     replace h := iteT rfl h
     replace h := ltE h; obtain ⟨v8, e8, h⟩ := h
     cases v8 with
     | true =>
      replace h := iteT rfl h
      replace h := bnE h; obtain ⟨v9, e9, h⟩ := h
      apply AW.last
      ·simp [← e6, ← e7, ← e8]
       intros
       refine xcall_plain en_watch_Failed (s_watch_Failed e9) rfl ⟨.same rfl, .same rfl, .same rfl, .same rfl, trivial⟩ ?_
       try simp [← e6, ← e7, ← e8]
       intros; rfl
      obtain rfl := Option.some.inj h
      refine nP_i ?_
      refine Weak.mixN [] hn0 (by decide) ?_ ?_ rfl
      all_goals first | (simp [inv_cons, inv_nil, pickOb]; done) | rfl
     | false =>
      replace h := iteF rfl h
      apply AW.last
      ·simp [← e6, ← e7, ← e8]
       intros; rfl
      obtain rfl := Option.some.inj h
      refine nP_i ?_
      refine Weak.mixN [] hn0 (by decide) ?_ ?_ rfl
      all_goals first | (simp [inv_cons, inv_nil, pickOb]; done) | rfl
    | false =>
     replace h := iteF rfl h
     apply AW.last
     ·simp [← e6, ← e7]
      intros; rfl
     obtain rfl := Option.some.inj h
     refine nP_i ?_
     refine Weak.mixN [] hn0 (by decide) ?_ ?_ rfl
     all_goals first | (simp [inv_cons, inv_nil, pickOb]; done) | rfl
   | false =>
    replace h := iteF rfl h
    apply AW.last
    ·simp [← e6]
     intros; rfl
    obtain rfl := Option.some.inj h
    refine nP_i ?_
    refine Weak.mixN [] hn0 (by decide) ?_ ?_ rfl
    all_goals first | (simp [inv_cons, inv_nil, pickOb]; done) | rfl
  ·rintro e s hp
   obtain ⟨rfl, hw⟩ := hp
   refine ⟨_, hw, ?_⟩
   try simp only [sp_l, sp_r, Post.seq, Post.block, Nat.reduceEqDiff, reduceIte, Nat.zero_ne_one, Nat.one_ne_zero]
   obtain rfl := Option.some.inj h
   refine AW.ret ?_
   refine Left.plain hnb (by simp [Try.f20, resV, resC, comp]; rfl) rfl rfl ?_
   simp
theorem en_vote_grants : Enters Try.prog 20 := enters Try.func20 (by kernel_rfl) rfl
def vote_Grant_sh (n : Nat) (a0 : Node) (a1 : Msg) : Option (Node × List Msg) :=
bn (claims_Own_sh n a0) fun v1 =>
bn (bn (vote_grants_sh n v1 a1) fun v3 =>
ite' v3 (chk (room 1 168) <|
some (((⟨v1.count, v1.id, v1.master, v1.epoch, a1.epoch, v1.claims, v1.db, v1.moves, v1.last, v1.seen, v1.feed, v1.watch, v1.asked, v1.votes, v1.wait⟩ : Node), [(⟨8, v1.id, a1.frm, a1.epoch, [], [], 0, 0, 0, (⟨0, 0⟩ : Rid), (⟨0, 0⟩ : Rid), 0, []⟩ : Msg)]))) (some ((v1, [])))) fun (y2 : Node × List Msg) =>
lt (maxI y2.1.epoch a1.epoch) fun v5 =>
chk (room y2.2.length 1) <|
some ((⟨y2.1.count, y2.1.id, y2.1.master, v5, y2.1.voted, y2.1.claims, y2.1.db, y2.1.moves, y2.1.last, y2.1.seen, y2.1.feed, y2.1.watch, y2.1.asked, y2.1.votes, y2.1.wait⟩ : Node), y2.2)
set_option maxRecDepth 8000 in
set_option maxHeartbeats 8000000 in
theorem s_vote_Grant {n : Nat} {a0 : Node} {a1 : Msg} {r : Node × List Msg} (h : vote_Grant_sh n a0 a1 = some r) : Sound Try.prog 10 [.g [.s (.int .i64 a0.count), .s (.int .i64 a0.id), .s (.int .i64 a0.master), .s (.int .i64 a0.epoch), .s (.int .i64 a0.voted), .d false 4 (encClaim a0.claims), .d false 6 (encPair a0.db), .d false 4 (encMove a0.moves), .s (.int .i64 a0.last), .d false 3 (encSeen a0.seen), .s (.int .i64 a0.feed.rid.node), .s (.int .i64 a0.feed.rid.epoch), .s (.int .i64 a0.feed.off), .d false 7 (encEffect a0.feed.back), .s (.int .i64 a0.feed.prev.node), .s (.int .i64 a0.feed.prev.epoch), .s (.int .i64 a0.feed.upto), .d false 1 (encI a0.watch.heard), .d false 1 (encLI a0.watch.says), .s (.int .i64 a0.asked), .d false 1 (encI a0.votes), .s (.int .i64 a0.wait)], .g [.s (.int .i64 a1.kind), .s (.int .i64 a1.frm), .s (.int .i64 a1.to), .s (.int .i64 a1.epoch), .d false 4 (encClaim a1.claims), .d false 1 (encI a1.nodes), .s (.int .i64 a1.node), .s (.int .i64 a1.slot), .s (.int .i64 a1.num), .s (.int .i64 a1.rid.node), .s (.int .i64 a1.rid.epoch), .s (.int .i64 a1.prev.node), .s (.int .i64 a1.prev.epoch), .s (.int .i64 a1.off), .d false 7 (encEffect a1.effects)]] [] (.t [(true, [.s (.int .i64 r.1.count), .s (.int .i64 r.1.id), .s (.int .i64 r.1.master), .s (.int .i64 r.1.epoch), .s (.int .i64 r.1.voted), .d false 4 (encClaim r.1.claims), .d false 6 (encPair r.1.db), .d false 4 (encMove r.1.moves), .s (.int .i64 r.1.last), .d false 3 (encSeen r.1.seen), .s (.int .i64 r.1.feed.rid.node), .s (.int .i64 r.1.feed.rid.epoch), .s (.int .i64 r.1.feed.off), .d false 7 (encEffect r.1.feed.back), .s (.int .i64 r.1.feed.prev.node), .s (.int .i64 r.1.feed.prev.epoch), .s (.int .i64 r.1.feed.upto), .d false 1 (encI r.1.watch.heard), .d false 1 (encLI r.1.watch.says), .s (.int .i64 r.1.asked), .d false 1 (encI r.1.votes), .s (.int .i64 r.1.wait)]), (false, [.d false 15 (encMsg r.2)])]) [] := by
 unfold vote_Grant_sh at h
 refine Sound.of_aw (fn := Try.f10) (c := _) Try.func10 rfl (by simp [Try.f10]) fun cx hG hnb => ?_
 rw [show Try.f10.ntmps = 33 from rfl]
 have hn0 : cx.nb = 0 := hnb
 simp only [st0_mk, initTm, List.map_cons, List.map_nil]
 apply AW.step
 ·simp
  intros; rfl
 replace h := bnE h; obtain ⟨v1, e1, h⟩ := h
 apply AW.step
 ·simp
  intros
  refine xcall_plain en_claims_Own (s_claims_Own e1) rfl ⟨.same rfl, trivial⟩ ?_
  try simp
  intros; rfl
 apply AW.step
 ·simp
  intros; rfl
 replace h := bnE h; obtain ⟨y2, g2, h⟩ := h
 refine AW.flow (p := fun gh ls => (nP (cx := cx) (fun q => (⟨[(2, .l (.p 0 0)), (3, .l (.p 1 0)), (4, .l (.p 2 0)), (6, .l (.r 3 15 0 q.2.length))], [some ⟨38, 22, false, none, [.s (.int .i64 q.1.count), .s (.int .i64 q.1.id), .s (.int .i64 q.1.master), .s (.int .i64 q.1.epoch), .s (.int .i64 q.1.voted), .d false 4 (encClaim q.1.claims), .d false 6 (encPair q.1.db), .d false 4 (encMove q.1.moves), .s (.int .i64 q.1.last), .d false 3 (encSeen q.1.seen), .s (.int .i64 q.1.feed.rid.node), .s (.int .i64 q.1.feed.rid.epoch), .s (.int .i64 q.1.feed.off), .d false 7 (encEffect q.1.feed.back), .s (.int .i64 q.1.feed.prev.node), .s (.int .i64 q.1.feed.prev.epoch), .s (.int .i64 q.1.feed.upto), .d false 1 (encI q.1.watch.heard), .d false 1 (encLI q.1.watch.says), .s (.int .i64 q.1.asked), .d false 1 (encI q.1.votes), .s (.int .i64 q.1.wait)]⟩, some ⟨45, 15, false, none, [.s (.int .i64 a1.kind), .s (.int .i64 a1.frm), .s (.int .i64 a1.to), .s (.int .i64 a1.epoch), .d false 4 (encClaim a1.claims), .d false 1 (encI a1.nodes), .s (.int .i64 a1.node), .s (.int .i64 a1.slot), .s (.int .i64 a1.num), .s (.int .i64 a1.rid.node), .s (.int .i64 a1.rid.epoch), .s (.int .i64 a1.prev.node), .s (.int .i64 a1.prev.epoch), .s (.int .i64 a1.off), .d false 7 (encEffect a1.effects)]⟩, some ⟨38, 22, false, none, [.s (.int .i64 0), .s (.int .i64 0), .s (.int .i64 0), .s (.int .i64 0), .s (.int .i64 0), .s (.slice none 0 0), .s (.slice none 0 0), .s (.slice none 0 0), .s (.int .i64 0), .s (.slice none 0 0), .s (.int .i64 0), .s (.int .i64 0), .s (.int .i64 0), .s (.slice none 0 0), .s (.int .i64 0), .s (.int .i64 0), .s (.int .i64 0), .s (.slice none 0 0), .s (.slice none 0 0), .s (.int .i64 0), .s (.slice none 0 0), .s (.int .i64 0)]⟩, some ⟨45, 15, true, none, lvs (encMsg q.2)⟩], 33, gh, ls⟩ : St))) y2) ?_ ?_
 ·replace h := g2; clear g2
  replace h := bnE h; obtain ⟨v3, e3, h⟩ := h
  apply AW.step
  ·simp
   intros
   refine xcall_plain en_vote_grants (s_vote_grants e3) rfl ⟨.same rfl, .same rfl, trivial⟩ ?_
   try simp
   intros; rfl
  cases v3 with
  | true =>
   replace h := iteT rfl h
   refine AW.cond_true (by simp) ?_
   apply AW.step
   ·simp
    intros; rfl
   replace h := chkE h; obtain ⟨e4, h⟩ := h
   apply AW.last
   ·simp [-xapp_n']
    intros
    refine xrow_data (es := encMsg [(⟨8, v1.id, a1.frm, a1.epoch, [], [], 0, 0, 0, (⟨0, 0⟩ : Rid), (⟨0, 0⟩ : Rid), 0, []⟩ : Msg)]) (by simp [encMsg, lvs, All2]) (encMsg_sz _) (by omega) (by simp) ?_
    try simp [-xapp_n']
    intros
    refine xapp_nilpush (ys := encMsg [(⟨8, v1.id, a1.frm, a1.epoch, [], [], 0, 0, 0, (⟨0, 0⟩ : Rid), (⟨0, 0⟩ : Rid), 0, []⟩ : Msg)]) (k := 1) tb_el41 tb_ti45 (by rw [src_d]; simp) (by simp) (by first | (simp; done) | simpa using (room_d e4).1) ?_
    try simp [-xapp_n']
    intros; rfl
   obtain rfl := Option.some.inj h
   refine nP_i ?_
   refine Weak.mixN [some 0, some 1, some 2, some 3] hn0 (by decide) ?_ ?_ rfl
   all_goals first | (simp [inv_cons, inv_nil, pickOb]; done) | rfl
  | false =>
   replace h := iteF rfl h
   refine AW.cond_false (by simp) ?_
   refine AW.skip ?_
   try simp only [sp_l, sp_r, Post.seq, Post.block, Nat.reduceEqDiff, reduceIte, Nat.zero_ne_one, Nat.one_ne_zero]
   obtain rfl := Option.some.inj h
   refine nP_i ?_
   refine W.nilRow 6 45 15 3 (by simp) rfl rfl ?_
   refine Weak.mixN [some 0, some 1, some 2, some 3] hn0 (by decide) ?_ ?_ rfl
   all_goals first | (simp [inv_cons, inv_nil, pickOb]; done) | rfl
 ·rintro e s hp
  obtain ⟨rfl, hw⟩ := hp
  refine ⟨_, hw, ?_⟩
  try simp only [sp_l, sp_r, Post.seq, Post.block, Nat.reduceEqDiff, reduceIte, Nat.zero_ne_one, Nat.one_ne_zero]
  replace h := ltE h; obtain ⟨v5, e5, h⟩ := h
  apply AW.step
  ·simp [← e5]
   intros; rfl
  apply AW.step
  ·simp
   intros; rfl
  replace h := chkE h; obtain ⟨e6, h⟩ := h
  refine AW.frzRow 3 (ty := 45) (cap := none) (sz := 15) (es := encMsg y2.2) (by simp) (by omega) (encMsg_sz _) (by first | exact (room_d e6).2 | simpa using (room_d e6).2 | simp) (by simp [Tm.frz, AV.frz, LV.frz]; rfl) (by simp [Ob.frz, LV.frz]; rfl) rfl ?_
  obtain rfl := Option.some.inj h
  refine AW.ret ?_
  refine Left.plain hnb (by simp [Try.f10, resV, resC, comp]; rfl) rfl rfl ?_
  simp
theorem en_vote_Grant : Enters Try.prog 10 := enters Try.func10 (by kernel_rfl) rfl
end Go.Proofs.Ytaibolmbafacpaa

/- Walks, printed: vote_Ask, l18_awake, l18_VoteOnce -/
namespace Go.Proofs.Ytaibolmbafacpaa
open Go Go.RowKit
set_option linter.unusedVariables false
set_option linter.unusedSimpArgs false
def vote_Ask_sh (n : Nat) (a0 : Node) : Option (Node × List Msg) :=
bn (claims_Own_sh n a0) fun v1 =>
lt (eqI v1.master (-1)) fun v2 =>
ite' v2 (some (v1, [])) (lt (addI .i64 v1.epoch 1) fun v3 =>
bn (iter n (fun (y4 : Int × List Msg) =>
lt (ltI y4.1 v1.count) fun v7 =>
ite' v7 (bn (lt (neI y4.1 v1.id) fun v9 =>
ite' v9 (chk (room (y4.2.length + 1) 168) <|
lt (y4.2 ++ [(⟨7, v1.id, y4.1, v3, [], [], v1.master, 0, 0, (⟨0, 0⟩ : Rid), (⟨0, 0⟩ : Rid), 0, []⟩ : Msg)]) fun v11 =>
some (v11)) (some (y4.2))) fun (y8 : List Msg) =>
lt (addI .i64 y4.1 1) fun v12 =>
some (.inl (v12, y8))) (some (.inr y4.2))) (0, [])) fun (y5 : List Msg) =>
chk (room y5.length 1) <|
some ((⟨v1.count, v1.id, v1.master, v3, v1.voted, v1.claims, v1.db, v1.moves, v1.last, v1.seen, v1.feed, v1.watch, v3, [], 4⟩ : Node), y5))
set_option maxRecDepth 8000 in
set_option maxHeartbeats 8000000 in
theorem s_vote_Ask {n : Nat} {a0 : Node} {r : Node × List Msg} (h : vote_Ask_sh n a0 = some r) : Sound Try.prog 14 [.g [.s (.int .i64 a0.count), .s (.int .i64 a0.id), .s (.int .i64 a0.master), .s (.int .i64 a0.epoch), .s (.int .i64 a0.voted), .d false 4 (encClaim a0.claims), .d false 6 (encPair a0.db), .d false 4 (encMove a0.moves), .s (.int .i64 a0.last), .d false 3 (encSeen a0.seen), .s (.int .i64 a0.feed.rid.node), .s (.int .i64 a0.feed.rid.epoch), .s (.int .i64 a0.feed.off), .d false 7 (encEffect a0.feed.back), .s (.int .i64 a0.feed.prev.node), .s (.int .i64 a0.feed.prev.epoch), .s (.int .i64 a0.feed.upto), .d false 1 (encI a0.watch.heard), .d false 1 (encLI a0.watch.says), .s (.int .i64 a0.asked), .d false 1 (encI a0.votes), .s (.int .i64 a0.wait)]] [] (.t [(true, [.s (.int .i64 r.1.count), .s (.int .i64 r.1.id), .s (.int .i64 r.1.master), .s (.int .i64 r.1.epoch), .s (.int .i64 r.1.voted), .d false 4 (encClaim r.1.claims), .d false 6 (encPair r.1.db), .d false 4 (encMove r.1.moves), .s (.int .i64 r.1.last), .d false 3 (encSeen r.1.seen), .s (.int .i64 r.1.feed.rid.node), .s (.int .i64 r.1.feed.rid.epoch), .s (.int .i64 r.1.feed.off), .d false 7 (encEffect r.1.feed.back), .s (.int .i64 r.1.feed.prev.node), .s (.int .i64 r.1.feed.prev.epoch), .s (.int .i64 r.1.feed.upto), .d false 1 (encI r.1.watch.heard), .d false 1 (encLI r.1.watch.says), .s (.int .i64 r.1.asked), .d false 1 (encI r.1.votes), .s (.int .i64 r.1.wait)]), (false, [.d false 15 (encMsg r.2)])]) [] := by
 unfold vote_Ask_sh at h
 refine Sound.of_aw (fn := Try.f14) (c := _) Try.func14 rfl (by simp [Try.f14]) fun cx hG hnb => ?_
 rw [show Try.f14.ntmps = 44 from rfl]
 have hn0 : cx.nb = 0 := hnb
 simp only [st0_mk, initTm, List.map_cons, List.map_nil]
 apply AW.step
 ·simp
  intros; rfl
 replace h := bnE h; obtain ⟨v1, e1, h⟩ := h
 apply AW.step
 ·simp
  intros
  refine xcall_plain en_claims_Own (s_claims_Own e1) rfl ⟨.same rfl, trivial⟩ ?_
  try simp
  intros; rfl
 refine AW.seq ?_
 replace h := ltE h; obtain ⟨v2, e2, h⟩ := h
 apply AW.step
 ·simp [← e2]
  intros; rfl
 cases v2 with
 | true =>
  replace h := iteT rfl h
  refine AW.cond_true (by simp) ?_
  apply AW.step
  ·simp
   intros; rfl
  refine AW.nilD 3 15 (by simp) ?_
  obtain rfl := Option.some.inj h
  refine AW.ret ?_
  refine Left.plain hnb (by simp [Try.f14, resV, resC, comp]; rfl) rfl rfl ?_
  simp
 | false =>
  replace h := iteF rfl h
  refine AW.cond_false (by simp) ?_
  refine AW.skip ?_
  try simp only [sp_l, sp_r, Post.seq, Post.block, Nat.reduceEqDiff, reduceIte, Nat.zero_ne_one, Nat.one_ne_zero]
  try simp only [sp_l, sp_r, Post.seq, Post.block, Nat.reduceEqDiff, reduceIte, Nat.zero_ne_one, Nat.one_ne_zero]
  replace h := ltE h; obtain ⟨v3, e3, h⟩ := h
  apply AW.step
  ·simp [← e3]
   intros; rfl
  apply AW.step
  ·simp
   intros; rfl
  apply AW.step
  ·simp
   intros; rfl
  refine AW.seq ?_
  apply AW.step
  ·simp
   intros; rfl
  refine AW.block ?_
  replace h := bnE h; obtain ⟨y5, g5, h⟩ := h
  refine AW.iterP g5 (mk := fun gh ls q => (⟨[(1, .l (.p 0 0)), (2, .l (.p 1 0)), (4, .l (.r 2 15 0 q.2.length)), (22, .l (.s (.int .i64 v1.count))), (23, .l (.s (.int .i64 q.1)))], [some ⟨38, 22, false, none, [.s (.int .i64 v1.count), .s (.int .i64 v1.id), .s (.int .i64 v1.master), .s (.int .i64 v3), .s (.int .i64 v1.voted), .d false 4 (encClaim v1.claims), .d false 6 (encPair v1.db), .d false 4 (encMove v1.moves), .s (.int .i64 v1.last), .d false 3 (encSeen v1.seen), .s (.int .i64 v1.feed.rid.node), .s (.int .i64 v1.feed.rid.epoch), .s (.int .i64 v1.feed.off), .d false 7 (encEffect v1.feed.back), .s (.int .i64 v1.feed.prev.node), .s (.int .i64 v1.feed.prev.epoch), .s (.int .i64 v1.feed.upto), .d false 1 (encI v1.watch.heard), .d false 1 (encLI v1.watch.says), .s (.int .i64 v3), .s (.slice none 0 0), .s (.int .i64 4)]⟩, some ⟨38, 22, false, none, [.s (.int .i64 0), .s (.int .i64 0), .s (.int .i64 0), .s (.int .i64 0), .s (.int .i64 0), .s (.slice none 0 0), .s (.slice none 0 0), .s (.slice none 0 0), .s (.int .i64 0), .s (.slice none 0 0), .s (.int .i64 0), .s (.int .i64 0), .s (.int .i64 0), .s (.slice none 0 0), .s (.int .i64 0), .s (.int .i64 0), .s (.int .i64 0), .s (.slice none 0 0), .s (.slice none 0 0), .s (.int .i64 0), .s (.slice none 0 0), .s (.int .i64 0)]⟩, some ⟨45, 15, true, none, lvs (encMsg q.2)⟩], 44, gh, ls⟩ : St)) (N := fun gh ls => (xP 0 (cx := cx) (fun q => (⟨[(1, .l (.p 0 0)), (2, .l (.p 1 0)), (4, .l (.r 2 15 0 q.length))], [some ⟨38, 22, false, none, [.s (.int .i64 v1.count), .s (.int .i64 v1.id), .s (.int .i64 v1.master), .s (.int .i64 v3), .s (.int .i64 v1.voted), .d false 4 (encClaim v1.claims), .d false 6 (encPair v1.db), .d false 4 (encMove v1.moves), .s (.int .i64 v1.last), .d false 3 (encSeen v1.seen), .s (.int .i64 v1.feed.rid.node), .s (.int .i64 v1.feed.rid.epoch), .s (.int .i64 v1.feed.off), .d false 7 (encEffect v1.feed.back), .s (.int .i64 v1.feed.prev.node), .s (.int .i64 v1.feed.prev.epoch), .s (.int .i64 v1.feed.upto), .d false 1 (encI v1.watch.heard), .d false 1 (encLI v1.watch.says), .s (.int .i64 v3), .s (.slice none 0 0), .s (.int .i64 4)]⟩, some ⟨38, 22, false, none, [.s (.int .i64 0), .s (.int .i64 0), .s (.int .i64 0), .s (.int .i64 0), .s (.int .i64 0), .s (.slice none 0 0), .s (.slice none 0 0), .s (.slice none 0 0), .s (.int .i64 0), .s (.slice none 0 0), .s (.int .i64 0), .s (.int .i64 0), .s (.int .i64 0), .s (.slice none 0 0), .s (.int .i64 0), .s (.int .i64 0), .s (.int .i64 0), .s (.slice none 0 0), .s (.slice none 0 0), .s (.int .i64 0), .s (.slice none 0 0), .s (.int .i64 0)]⟩, some ⟨45, 15, true, none, lvs (encMsg q)⟩], 44, gh, ls⟩ : St)))) ?_ noX ?_ ?_
  ·refine W.nilRow 4 45 15 2 (by simp) rfl rfl ?_
   refine Weak.mixN [some 0, some 1, some 2] hn0 (by decide) ?_ ?_ rfl
   all_goals first | (simp [inv_cons, inv_nil, pickOb]; done) | rfl
  ·clear h; intro y4 y6 h
   replace h := ltE h; obtain ⟨v7, e7, h⟩ := h
   apply AW.step
   ·simp [← e7]
    intros; rfl
   refine AW.seq ?_
   cases v7 with
   | true =>
    replace h := iteT rfl h
    refine AW.cond_true (by simp) ?_
    refine AW.skip ?_
    try simp only [sp_l, sp_r, Post.seq, Post.block, Nat.reduceEqDiff, reduceIte, Nat.zero_ne_one, Nat.one_ne_zero]
    try simp only [sp_l, sp_r, Post.seq, Post.block, Nat.reduceEqDiff, reduceIte, Nat.zero_ne_one, Nat.one_ne_zero]
    replace h := bnE h; obtain ⟨y8, g8, h⟩ := h
    refine AW.flow (p := fun gh ls => (nP (cx := cx) (fun q => (⟨[(1, .l (.p 0 0)), (2, .l (.p 1 0)), (4, .l (.r 2 15 0 q.length)), (22, .l (.s (.int .i64 v1.count))), (23, .l (.s (.int .i64 y4.1)))], [some ⟨38, 22, false, none, [.s (.int .i64 v1.count), .s (.int .i64 v1.id), .s (.int .i64 v1.master), .s (.int .i64 v3), .s (.int .i64 v1.voted), .d false 4 (encClaim v1.claims), .d false 6 (encPair v1.db), .d false 4 (encMove v1.moves), .s (.int .i64 v1.last), .d false 3 (encSeen v1.seen), .s (.int .i64 v1.feed.rid.node), .s (.int .i64 v1.feed.rid.epoch), .s (.int .i64 v1.feed.off), .d false 7 (encEffect v1.feed.back), .s (.int .i64 v1.feed.prev.node), .s (.int .i64 v1.feed.prev.epoch), .s (.int .i64 v1.feed.upto), .d false 1 (encI v1.watch.heard), .d false 1 (encLI v1.watch.says), .s (.int .i64 v3), .s (.slice none 0 0), .s (.int .i64 4)]⟩, some ⟨38, 22, false, none, [.s (.int .i64 0), .s (.int .i64 0), .s (.int .i64 0), .s (.int .i64 0), .s (.int .i64 0), .s (.slice none 0 0), .s (.slice none 0 0), .s (.slice none 0 0), .s (.int .i64 0), .s (.slice none 0 0), .s (.int .i64 0), .s (.int .i64 0), .s (.int .i64 0), .s (.slice none 0 0), .s (.int .i64 0), .s (.int .i64 0), .s (.int .i64 0), .s (.slice none 0 0), .s (.slice none 0 0), .s (.int .i64 0), .s (.slice none 0 0), .s (.int .i64 0)]⟩, some ⟨45, 15, true, none, lvs (encMsg q)⟩], 44, gh, ls⟩ : St))) y8) ?_ ?_
    ·replace h := g8; clear g8
     refine AW.block ?_
     apply AW.step
     ·simp
      intros; rfl
     replace h := ltE h; obtain ⟨v9, e9, h⟩ := h
     apply AW.step
     ·simp [← e9]
      intros; rfl
     cases v9 with
     | true =>
      replace h := iteT rfl h
      refine AW.cond_true (by simp) ?_
      replace h := chkE h; obtain ⟨e10, h⟩ := h
      replace h := ltE h; obtain ⟨v11, e11, h⟩ := h
      apply AW.last
      ·simp [← encMsg_append, ← e11, app_len1 e11]
       intros
       refine xrow_data (es := encMsg [(⟨7, v1.id, y4.1, v3, [], [], v1.master, 0, 0, (⟨0, 0⟩ : Rid), (⟨0, 0⟩ : Rid), 0, []⟩ : Msg)]) (by simp [encMsg, lvs, All2]) (encMsg_sz _) (by omega) (by simp) ?_
       try simp [← encMsg_append, ← e11, app_len1 e11]
       intros
       refine xapp_pushN (acc := encMsg y4.2) (ys := encMsg [(⟨7, v1.id, y4.1, v3, [], [], v1.master, 0, 0, (⟨0, 0⟩ : Rid), (⟨0, 0⟩ : Rid), 0, []⟩ : Msg)]) (cap := none) (k := 1) tb_el41 tb_ti45 (by simp) (by rw [src_d]; simp) (encMsg_sz _) (by simp) (by simp) (by first | (simp; done) | simpa using (room_d e10).1) ?_
       try simp [← encMsg_append, ← e11, app_len1 e11]
       intros; rfl
      obtain rfl := Option.some.inj h
      refine nP_i ?_
      refine Weak.mixN [some 0, some 1, some 3] hn0 (by decide) ?_ ?_ rfl
      all_goals first | (simp [inv_cons, inv_nil, pickOb]; done) | rfl
     | false =>
      replace h := iteF rfl h
      refine AW.cond_false (by simp) ?_
      refine AW.skip ?_
      try simp only [sp_l, sp_r, Post.seq, Post.block, Nat.reduceEqDiff, reduceIte, Nat.zero_ne_one, Nat.one_ne_zero]
      obtain rfl := Option.some.inj h
      refine nP_i ?_
      refine Weak.mixN [some 0, some 1, some 2] hn0 (by decide) ?_ ?_ rfl
      all_goals first | (simp [inv_cons, inv_nil, pickOb]; done) | rfl
    ·rintro e s hp
     obtain ⟨rfl, hw⟩ := hp
     refine ⟨_, hw, ?_⟩
     try simp only [sp_l, sp_r, Post.seq, Post.block, Nat.reduceEqDiff, reduceIte, Nat.zero_ne_one, Nat.one_ne_zero]
     replace h := ltE h; obtain ⟨v12, e12, h⟩ := h
     apply AW.last
     ·simp [← e12]
      intros; rfl
     obtain rfl := Option.some.inj h
     refine nP_i ?_
     refine Weak.mixN [some 0, some 1, some 2] hn0 (by decide) ?_ ?_ rfl
     all_goals first | (simp [inv_cons, inv_nil, pickOb]; done) | rfl
   | false =>
    replace h := iteF rfl h
    refine AW.cond_false (by simp) ?_
    refine AW.exit ?_
    try simp only [sp_l, sp_r, Post.seq, Post.block, Nat.reduceEqDiff, reduceIte, Nat.zero_ne_one, Nat.one_ne_zero]
    obtain rfl := Option.some.inj h
    refine xP_i ?_
    refine Weak.mixN [some 0, some 1, some 2] hn0 (by decide) ?_ ?_ rfl
    all_goals first | (simp [inv_cons, inv_nil, pickOb]; done) | rfl
  ·rintro e s hp
   obtain ⟨rfl, hw⟩ := hp
   refine ⟨_, hw, ?_⟩
   try simp only [sp_l, sp_r, Post.seq, Post.block, Nat.reduceEqDiff, reduceIte, Nat.zero_ne_one, Nat.one_ne_zero]
   apply AW.step
   ·simp
    intros; rfl
   refine AW.nilCellD 1 20 1 rfl rfl rfl rfl ?_
   replace h := chkE h; obtain ⟨e13, h⟩ := h
   refine AW.frzRow 2 (ty := 45) (cap := none) (sz := 15) (es := encMsg y5) (by simp) (by omega) (encMsg_sz _) (by first | exact (room_d e13).2 | simpa using (room_d e13).2 | simp) (by simp [Tm.frz, AV.frz, LV.frz]; rfl) (by simp [Ob.frz, LV.frz]; rfl) rfl ?_
   obtain rfl := Option.some.inj h
   refine AW.ret ?_
   refine Left.plain hnb (by simp [Try.f14, resV, resC, comp]; rfl) rfl rfl ?_
   simp
theorem en_vote_Ask : Enters Try.prog 14 := enters Try.func14 (by kernel_rfl) rfl
def l18_awake_sh (n : Nat)  : Option Bool :=
bn (vote_Ask_sh n (⟨3, 0, -1, 0, 0, [], [], [], 0, [], (⟨(⟨0, 0⟩ : Rid), 0, [], (⟨0, 0⟩ : Rid), 0⟩ : Feed), (⟨[], []⟩ : Watch), 0, [], 0⟩ : Node)) fun v1 =>
bn (r23_New_sh n 4 3 3) fun v2 =>
bn (vote_Ask_sh n v2) fun v3 =>
bn (lt (eqI v1.1.epoch 0) fun v5 =>
ite' v5 (lt (lenI v1.2) fun v6 =>
lt (eqI v6 0) fun v7 =>
ite' v7 (lt (eqI v3.1.asked 2) fun v8 =>
ite' v8 (lt (lenI v3.2) fun v9 =>
lt (eqI v9 3) fun v10 =>
some (v10)) (some (false))) (some (false))) (some (false))) fun (y4 : Bool) =>
some y4
set_option maxRecDepth 8000 in
set_option maxHeartbeats 8000000 in
theorem s_l18_awake {n : Nat}  {r : Bool} (h : l18_awake_sh n  = some r) : Sound Try.prog 7 [] [] (.l (.s (.bool r))) [] := by
 unfold l18_awake_sh at h
 refine Sound.of_aw (fn := Try.f7) (c := _) Try.func7 rfl (by simp [Try.f7]) fun cx hG hnb => ?_
 rw [show Try.f7.ntmps = 33 from rfl]
 have hn0 : cx.nb = 0 := hnb
 simp only [st0_mk, initTm, List.map_cons, List.map_nil]
 apply AW.step
 ·simp
  intros; rfl
 replace h := bnE h; obtain ⟨v1, e1, h⟩ := h
 apply AW.step
 ·simp
  intros
  refine xcall_plain en_vote_Ask (s_vote_Ask e1) rfl ⟨.g ⟨.s _, .s _, .s _, .s _, .s _, .nil _ _, .nil _ _, .nil _ _, .s _, .nil _ _, .s _, .s _, .s _, .nil _ _, .s _, .s _, .s _, .nil _ _, .nil _ _, .s _, .nil _ _, .s _, trivial⟩, trivial⟩ ?_
  try simp
  intros; rfl
 replace h := bnE h; obtain ⟨v2, e2, h⟩ := h
 replace h := bnE h; obtain ⟨v3, e3, h⟩ := h
 apply AW.step
 ·simp
  intros
  refine xcall_plain en_r23_New (s_r23_New e2) rfl ⟨.same rfl, .same rfl, .same rfl, trivial⟩ ?_
  try simp
  intros
  refine xcall_plain en_vote_Ask (s_vote_Ask e3) rfl ⟨.same rfl, trivial⟩ ?_
  try simp
  intros; rfl
 replace h := bnE h; obtain ⟨y4, g4, h⟩ := h
 refine AW.flow (p := fun gh ls => (nP (cx := cx) (fun q => (⟨[(0, .l (.s (.bool q)))], [], 33, gh, ls⟩ : St))) y4) ?_ ?_
 ·replace h := g4; clear g4
  replace h := ltE h; obtain ⟨v5, e5, h⟩ := h
  cases v5 with
  | true =>
   replace h := iteT rfl h
   replace h := ltE h; obtain ⟨v6, e6, h⟩ := h
   replace h := ltE h; obtain ⟨v7, e7, h⟩ := h
   cases v7 with
   | true =>
    replace h := iteT rfl h
    replace h := ltE h; obtain ⟨v8, e8, h⟩ := h
    cases v8 with
    | true =>
     replace h := iteT rfl h
     replace h := ltE h; obtain ⟨v9, e9, h⟩ := h
     replace h := ltE h; obtain ⟨v10, e10, h⟩ := h
     apply AW.last
     ·simp [← e5, lenI_cast e6, ← e7, ← e8, lenI_cast e9, ← e10]
      intros; rfl
     obtain rfl := Option.some.inj h
     refine nP_i ?_
     refine Weak.mixN [] hn0 (by decide) ?_ ?_ rfl
     all_goals first | (simp [inv_cons, inv_nil, pickOb]; done) | rfl
    | false =>
     replace h := iteF rfl h
     apply AW.last
     ·simp [← e5, lenI_cast e6, ← e7, ← e8]
      intros; rfl
     obtain rfl := Option.some.inj h
     refine nP_i ?_
     refine Weak.mixN [] hn0 (by decide) ?_ ?_ rfl
     all_goals first | (simp [inv_cons, inv_nil, pickOb]; done) | rfl
   | false =>
    replace h := iteF rfl h
    apply AW.last
    ·simp [← e5, lenI_cast e6, ← e7]
     intros; rfl
    obtain rfl := Option.some.inj h
    refine nP_i ?_
    refine Weak.mixN [] hn0 (by decide) ?_ ?_ rfl
    all_goals first | (simp [inv_cons, inv_nil, pickOb]; done) | rfl
  | false =>
   replace h := iteF rfl h
   apply AW.last
   ·simp [← e5]
    intros; rfl
   obtain rfl := Option.some.inj h
   refine nP_i ?_
   refine Weak.mixN [] hn0 (by decide) ?_ ?_ rfl
   all_goals first | (simp [inv_cons, inv_nil, pickOb]; done) | rfl
 ·rintro e s hp
  obtain ⟨rfl, hw⟩ := hp
  refine ⟨_, hw, ?_⟩
  try simp only [sp_l, sp_r, Post.seq, Post.block, Nat.reduceEqDiff, reduceIte, Nat.zero_ne_one, Nat.one_ne_zero]
  obtain rfl := Option.some.inj h
  refine AW.ret ?_
  refine Left.plain hnb (by simp [Try.f7, resV, resC, comp]; rfl) rfl rfl ?_
  simp
theorem en_l18_awake : Enters Try.prog 7 := enters Try.func7 (by kernel_rfl) rfl
end Go.Proofs.Ytaibolmbafacpaa

/- Plain law: a master gives one vote an epoch. -/
namespace Go.Proofs.Ytaibolmbafacpaa
open Go Go.RowKit
set_option linter.unusedVariables false
set_option linter.unusedSimpArgs false
theorem vrem {k : IntKind} {a b : Int} (h : 0 ≤ a) (hb : 0 < b) : remI k a b = some (a % b) := by
  have : ¬ b = 0 := by omega
  simp only [remI, ne_eq, this, not_false_eq_true, if_true, Int.tmod_eq_emod_of_nonneg h]
theorem vquo {a b : Int} (h : 0 ≤ a) (h2 : a < 9223372036854775808) (hb : 0 < b) : quoI .i64 a b = some (a / b) := by
  have hne : ¬ b = 0 := by omega
  have h3 : a / b ≤ a := Int.ediv_le_self b h
  have h4 : 0 ≤ a / b := Int.ediv_nonneg h (by omega)
  simp only [quoI, ne_eq, hne, not_false_eq_true, if_true, Int.tdiv_eq_ediv_of_nonneg h]
  rw [wrap64 (by omega) (by omega)]
theorem Rn.eqv {α : Type} {m : Option α} {v : α} (h : Rn m (· = v)) : m = Option.some v := by
  obtain ⟨w, h1, rfl⟩ := h
  exact h1
theorem awake18_ok : l18_awake_sh big = some true := by kernel_rfl
def heardV : List Int := [6, 0, 0, 0, 0, 0, 0, 0]
def saysV (k : Nat) : List (List Int) := (List.range 8).map fun i => if i = 0 ∨ i = k then [] else [0]
/-- A master to which the first one has been silent, whom all others suspect. -/
def nodeV (k : Nat) (E V : Int) : Node :=
  ⟨8, k, -1, E, V, [⟨0, 3275, 0, 1⟩, ⟨3276, 6552, 1, 1⟩, ⟨6553, 9829, 2, 1⟩, ⟨9830, 13106, 3, 1⟩, ⟨13107, 16383, 4, 1⟩], [], [], 0, [], ⟨⟨k, 0⟩, 0, [], ⟨0, 0⟩, 0⟩, ⟨heardV, saysV k⟩, 0, [], 0⟩
def newV (k : Nat) : Bool := match r23_New_sh big 8 k 5 with
  | some n => decide (l18_Silent_sh big n 0 = some (nodeV k 1 0))
  | none => false
def factsV (k : Nat) : Bool := decide (slices_Contains_int_sh big [0, 1, 2, 3, 4] k = some true) && decide (watch_Failed_sh big ⟨heardV, saysV k⟩ k [0, 1, 2, 3, 4] 0 = some true) && decide (watch_Failed_sh big ⟨heardV, saysV k⟩ k [0, 1, 2, 3, 4] 4 = some false)
def askV (k : Nat) (frm e node : Int) : Msg := ⟨7, frm, k, e, [], [], node, 0, 0, ⟨0, 0⟩, ⟨0, 0⟩, 0, []⟩
def givenV (V E e node : Int) : Bool := decide (V < e) && (decide (E ≤ e) && decide (node = 0))
def voteV (k : Nat) (frm e : Int) : Msg := ⟨8, k, frm, e, [], [], 0, 0, 0, ⟨0, 0⟩, ⟨0, 0⟩, 0, []⟩
end Go.Proofs.Ytaibolmbafacpaa

