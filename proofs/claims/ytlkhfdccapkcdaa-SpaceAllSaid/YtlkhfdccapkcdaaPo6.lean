/- Part 6 of the proof. -/
import Derived.Test.YtlkhfdccapkcdaaPo5
import Derived.Test.YtlkhfdccapkcdaaRows
import Derived.ProofKit
/- Walks, printed: item_some, item_names, item_rising, slices_Values_string, item_rising_k143, item_shaped, item_texts, item_May, space_May -/
namespace Go.Proofs.Ytlkhfdccapkcdaa
open Go Go.RowKit
set_option linter.unusedVariables false
set_option linter.unusedSimpArgs false
def item_some_sh (n : Nat) (a0 : Int) : Option Bool :=
bn (lt (geI a0 1) fun v2 =>
ite' v2 (lt (leI a0 40) fun v3 =>
some (v3)) (some (false))) fun (y1 : Bool) =>
some y1
set_option maxRecDepth 8000 in
set_option maxHeartbeats 8000000 in
theorem s_item_some {n : Nat} {a0 : Int} {r : Bool} (h : item_some_sh n a0 = some r) : Sound Try.prog 133 [.l (.s (.int .i64 a0))] [] (.l (.s (.bool r))) [] := by
 unfold item_some_sh at h
 refine Sound.of_aw (fn := Try.f133) (c := _) Try.func133 rfl (by simp [Try.f133]) fun cx hG hnb => ?_
 rw [show Try.f133.ntmps = 9 from rfl]
 have hn0 : cx.nb = 0 := hnb
 simp only [st0_mk, initTm, List.map_cons, List.map_nil]
 apply AW.step
 ·simp
  intros; rfl
 replace h := bnE h; obtain ⟨y1, g1, h⟩ := h
 refine AW.flow (p := fun gh ls => (nP (cx := cx) (fun q => (⟨[(2, .l (.s (.bool q)))], [], 9, gh, ls⟩ : St))) y1) ?_ ?_
 ·replace h := g1; clear g1
  replace h := ltE h; obtain ⟨v2, e2, h⟩ := h
  cases v2 with
  | true =>
   replace h := iteT rfl h
   replace h := ltE h; obtain ⟨v3, e3, h⟩ := h
   apply AW.last
   ·simp [← e2, ← e3]
    intros; rfl
   obtain rfl := Option.some.inj h
   refine nP_i ?_
   refine Weak.mixN [] hn0 (by decide) ?_ ?_ rfl
   all_goals first | (simp [inv_cons, inv_nil, pickOb]; done) | rfl
  | false =>
   replace h := iteF rfl h
   apply AW.last
   ·simp [← e2]
    intros; rfl
   obtain rfl := Option.some.inj h
   refine nP_i ?_
   refine Weak.mixN [] hn0 (by decide) ?_ ?_ rfl
   all_goals first | (simp [inv_cons, inv_nil, pickOb]; done) | rfl
 ·rintro e s hp
  obtain ⟨rfl, hw⟩ := hp
  refine ⟨_, hw, ?_⟩
  try simp only [sp_l, sp_r, Post.seq, Post.block, Nat.reduceEqDiff, reduceIte, Nat.zero_ne_one, Nat.one_ne_zero]
  obtain rfl := Option.some.inj h
  refine AW.ret ?_
  refine Left.plain hnb (by simp [Try.f133, resV, resC, comp]; rfl) rfl rfl ?_
  simp
theorem en_item_some : Enters Try.prog 133 := enters Try.func133 (by kernel_rfl) rfl
def item_names_sh (n : Nat) (a0 : List Field) : Option (List Field) :=
some a0
set_option maxRecDepth 8000 in
set_option maxHeartbeats 8000000 in
theorem s_item_names {n : Nat} {a0 : List Field} {r : List Field} (h : item_names_sh n a0 = some r) : Sound Try.prog 135 [.l (.d false 2 (encField a0))] [] (.l (.f 142 [0])) [some ⟨31, 1, false, none, [.d false 2 (encField r)]⟩] := by
 unfold item_names_sh at h
 refine Sound.of_aw (fn := Try.f135) (c := _) Try.func135 rfl (by simp [Try.f135]) fun cx hG hnb => ?_
 rw [show Try.f135.ntmps = 4 from rfl]
 have hn0 : cx.nb = 0 := hnb
 simp only [st0_mk, initTm, List.map_cons, List.map_nil]
 apply AW.step
 ·simp
  intros; rfl
 apply AW.step
 ·simp
  intros; rfl
 obtain rfl := Option.some.inj h
 refine AW.ret ?_
 refine Left.of (av := _) (by simp [Try.f135, resV, resC, comp]; rfl) ?_
 exact LeftV.mix 0 [some 0] hn0 rfl (by decide) rfl (by simp [pickOb, inv_cons, inv_nil]) (by simp [inv_cons, inv_nil])
theorem en_item_names : Enters Try.prog 135 := enters Try.func135 (by kernel_rfl) rfl
def item_rising_sh (n : Nat) (b0_0 : List Field) : Option Bool :=
bn (lt (lenI b0_0) fun v2 =>
bn (iter n (fun (y3 : Int × Bool × ByteArray) =>
lt (ltI y3.1 v2) fun v6 =>
ite' v6 (bn (nth b0_0 y3.1) fun v7 =>
bn (bn (lt (notB y3.2.1) fun v10 =>
ite' v10 (lt (leS v7.name y3.2.2) fun v11 =>
some (v11)) (some (false))) fun (y9 : Bool) =>
lt (y9) fun v12 =>
ite' v12 (some (.inr ())) (some (.inl ()))) fun (y8 : Unit ⊕ Unit) =>
sm y8 (fun y13 => lt (addI .i64 y3.1 1) fun v15 =>
some (.inl (v15, false, v7.name))) (fun y14 => some (.inr (.inr (y3.2.1, y3.2.2))))) (some (.inr (.inl (y3.2.1, y3.2.2))))) (0, true, ⟨#[]⟩)) fun (y4 : (Bool × ByteArray) ⊕ (Bool × ByteArray)) =>
sm y4 (fun y16 => some (.inl ())) (fun y17 => some (.inr false))) fun (y1 : Unit ⊕ Bool) =>
sm y1 (fun y18 => some true) (fun y19 => some y19)
set_option maxRecDepth 8000 in
set_option maxHeartbeats 8000000 in
theorem s_item_rising {n : Nat} {b0_0 : List Field} {r : Bool} (h : item_rising_sh n b0_0 = some r) : Sound Try.prog 134 [.l (.f 142 [0])] [⟨31, 1, false, none, [.d false 2 (encField b0_0)]⟩] (.l (.s (.bool r))) [some ⟨31, 1, false, none, [.d false 2 (encField b0_0)]⟩] := by
 unfold item_rising_sh at h
 refine Sound.of_aw (fn := Try.f134) (c := _) Try.func134 rfl (by simp [Try.f134]) fun cx hG hnb => ?_
 rw [show Try.f134.ntmps = 16 from rfl]
 have hn0 : cx.nb = 1 := hnb
 simp only [st0_mk, initTm, List.map_cons, List.map_nil]
 apply AW.step
 ·simp
  intros; rfl
 apply AW.step
 ·simp
  intros; rfl
 replace h := bnE h; obtain ⟨y1, g1, h⟩ := h
 refine AW.flow (p := fun gh ls => (sp (nP (cx := cx) (fun _ => (⟨[(2, .l (.p 1 0))], [some ⟨31, 1, false, none, [.d false 2 (encField b0_0)]⟩, some ⟨4, 1, false, none, [.s (.bool false)]⟩], 16, gh, ls⟩ : St))) (rP (cx := cx) (P := Try.prog) Try.f134 (fun q => .l (.s (.bool q))) (fun q => [some ⟨31, 1, false, none, [.d false 2 (encField b0_0)]⟩]))) y1) ?_ ?_
 ·replace h := g1; clear g1
  apply AW.step
  ·simp
   intros; rfl
  refine AW.block ?_
  refine AW.weak (Weak.keep [(2, .l (.p 1 0)), (3, .l (.p 2 0)), (4, .l (.p 3 0)), (6, .l (.f 142 [0]))] (by simp)) ?_
  refine AW.rangeG rfl Try.func142 (by kernel_rfl) rfl (by decide) rfl rfl fun cxI1 yl1 hnI1 hY1 => ?_
  have hnJ1 : cxI1.nb = 1 := hnI1.trans hn0
  simp only [initTm, List.map_cons, List.map_nil]
  replace h := ltE h; obtain ⟨v2, e2, h⟩ := h
  apply AW.step
  ·simp [lenI_cast e2]
   intros; rfl
  refine AW.block ?_
  replace h := bnE h; obtain ⟨y4, g4, h⟩ := h
  refine AW.iterP g4 (mk := fun gh ls q => (⟨[(0, .l (.s (.func (.yield yl1) #[] #[]))), (5, .l (.d false 2 (encField b0_0))), (6, .l (.s (.int .i64 v2))), (7, .l (.s (.int .i64 q.1)))], [some ⟨31, 1, false, none, [.d false 2 (encField b0_0)]⟩, some ⟨4, 1, false, none, [.s (.bool false)]⟩, some ⟨4, 1, false, none, [.s (.bool q.2.1)]⟩, some ⟨9, 1, false, none, [.s (.string q.2.2)]⟩], 17, gh, ls⟩ : St)) (N := fun gh ls => (sp (xP 0 (cx := cxI1) (fun q => (⟨[], [some ⟨31, 1, false, none, [.d false 2 (encField b0_0)]⟩, some ⟨4, 1, false, none, [.s (.bool false)]⟩, some ⟨4, 1, false, none, [.s (.bool q.1)]⟩, some ⟨9, 1, false, none, [.s (.string q.2)]⟩], 17, gh, ls⟩ : St))) (tP (cx := cxI1) (fun q => (⟨[], [some ⟨31, 1, false, none, [.d false 2 (encField b0_0)]⟩, some ⟨4, 1, false, none, [.s (.bool false)]⟩, some ⟨4, 1, false, none, [.s (.bool q.1)]⟩, some ⟨9, 1, false, none, [.s (.string q.2)]⟩], 17, gh, some .ret⟩ : St))))) ?_ (noS noX noT) ?_ ?_
  ·refine Weak.mixB 1 [some 0, some 1, some 2, some 3] hnJ1 (by decide) (by decide) ?_ ?_ ?_
   all_goals first | (simp [inv_cons, inv_nil, pickOb]; done) | rfl
  ·clear h; intro y3 y5 h
   replace h := ltE h; obtain ⟨v6, e6, h⟩ := h
   apply AW.step
   ·simp [← e6]
    intros; rfl
   refine AW.seq ?_
   cases v6 with
   | true =>
    replace h := iteT rfl h
    refine AW.cond_true (by simp) ?_
    refine AW.skip ?_
    try simp only [sp_l, sp_r, Post.seq, Post.block, Nat.reduceEqDiff, reduceIte, Nat.zero_ne_one, Nat.one_ne_zero]
    try simp only [sp_l, sp_r, Post.seq, Post.block, Nat.reduceEqDiff, reduceIte, Nat.zero_ne_one, Nat.one_ne_zero]
    refine AW.seq ?_
    refine AW.block ?_
    replace h := bnE h; obtain ⟨v7, e7, h⟩ := h
    apply AW.step
    ·simp [nth_d e7]
     intros; rfl
    refine AW.stepYK ?_
    apply xopsY.yield hY1 0 3 rfl rfl rfl (by decide)
    ·simp
     intros; rfl
    ·rfl
    ·first | trivial | simp
    ·rfl
    ·rfl
    ·simp [puts]; rfl
    intro cxR1 hnR1
    have hnS1 : cxR1.nb = 1 := hnR1.trans hnJ1
    apply AW.last
    ·simp
     intros; rfl
    refine ⟨rfl, ?_⟩
    replace h := bnE h; obtain ⟨y8, g8, h⟩ := h
    refine AW.flowR (p := fun gh ls => (sp (nP (cx := cxR1) (fun _ => (⟨[], [some ⟨31, 1, false, none, [.d false 2 (encField b0_0)]⟩, some ⟨4, 1, false, none, [.s (.bool false)]⟩, some ⟨4, 1, false, none, [.s (.bool false)]⟩, some ⟨9, 1, false, none, [.s (.string v7.name)]⟩, some ⟨105, 2, false, none, [.s (.string v7.name), .s (.string v7.val)]⟩], 16, gh, ls⟩ : St))) (tP (cx := cxR1) (fun _ => (⟨[], [some ⟨31, 1, false, none, [.d false 2 (encField b0_0)]⟩, some ⟨4, 1, false, none, [.s (.bool false)]⟩, some ⟨4, 1, false, none, [.s (.bool y3.2.1)]⟩, some ⟨9, 1, false, none, [.s (.string y3.2.2)]⟩, some ⟨105, 2, false, none, [.s (.string v7.name), .s (.string v7.val)]⟩], 16, gh, ls⟩ : St)))) y8) ?_ ?_
    ·replace h := g8; clear g8
     refine AW.block ?_
     refine AW.seq ?_
     replace h := bnE h; obtain ⟨y9, g9, h⟩ := h
     refine AW.flow (p := fun gh ls => (nP (cx := cxR1) (fun q => (⟨[(2, .l (.p 1 0)), (3, .l (.p 2 0)), (4, .l (.p 3 0)), (5, .l (.s (.string v7.name))), (6, .l (.f 142 [0])), (14, .l (.s (.bool q)))], [some ⟨31, 1, false, none, [.d false 2 (encField b0_0)]⟩, some ⟨4, 1, false, none, [.s (.bool false)]⟩, some ⟨4, 1, false, none, [.s (.bool y3.2.1)]⟩, some ⟨9, 1, false, none, [.s (.string y3.2.2)]⟩, some ⟨105, 2, false, none, [.s (.string v7.name), .s (.string v7.val)]⟩], 16, gh, ls⟩ : St))) y9) ?_ ?_
     ·replace h := g9; clear g9
      replace h := ltE h; obtain ⟨v10, e10, h⟩ := h
      cases v10 with
      | true =>
       replace h := iteT rfl h
       replace h := ltE h; obtain ⟨v11, e11, h⟩ := h
       apply AW.last
       ·simp [← e10, ← e11]
        intros; rfl
       obtain rfl := Option.some.inj h
       refine nP_i ?_
       refine Weak.mixB 1 [some 0, some 1, some 2, some 3, some 4] hnS1 (by decide) (by decide) ?_ ?_ ?_
       all_goals first | (simp [inv_cons, inv_nil, pickOb]; done) | rfl
      | false =>
       replace h := iteF rfl h
       apply AW.last
       ·simp [← e10]
        intros; rfl
       obtain rfl := Option.some.inj h
       refine nP_i ?_
       refine Weak.mixB 1 [some 0, some 1, some 2, some 3, some 4] hnS1 (by decide) (by decide) ?_ ?_ ?_
       all_goals first | (simp [inv_cons, inv_nil, pickOb]; done) | rfl
     ·rintro e s hp
      obtain ⟨rfl, hw⟩ := hp
      refine ⟨_, hw, ?_⟩
      try simp only [sp_l, sp_r, Post.seq, Post.block, Nat.reduceEqDiff, reduceIte, Nat.zero_ne_one, Nat.one_ne_zero]
      replace h := ltE h; obtain ⟨v12, e12, h⟩ := h
      rw [← e12]
      cases v12 with
      | true =>
       replace h := iteT rfl h
       refine AW.cond_true (by simp) ?_
       apply AW.step
       ·simp
        intros; rfl
       obtain rfl := Option.some.inj h
       refine AW.ret ?_
       try simp only [sp_l, sp_r, Post.seq, Post.block, Nat.reduceEqDiff, reduceIte, Nat.zero_ne_one, Nat.one_ne_zero]
       try simp only [sp_l, sp_r]
       refine tP_i ?_
       refine Weak.mixB 1 [some 0, some 1, some 2, some 3, some 4] hnS1 (by decide) (by decide) ?_ ?_ ?_
       all_goals first | (simp [inv_cons, inv_nil, pickOb]; done) | rfl
      | false =>
       replace h := iteF rfl h
       refine AW.cond_false (by simp) ?_
       refine AW.skip ?_
       try simp only [sp_l, sp_r, Post.seq, Post.block, Nat.reduceEqDiff, reduceIte, Nat.zero_ne_one, Nat.one_ne_zero]
       try simp only [sp_l, sp_r, Post.seq, Post.block, Nat.reduceEqDiff, reduceIte, Nat.zero_ne_one, Nat.one_ne_zero]
       apply AW.last
       ·simp
        intros; rfl
       obtain rfl := Option.some.inj h
       try simp only [sp_l, sp_r]
       refine nP_i ?_
       refine Weak.mixB 1 [some 0, some 1, some 2, some 3, some 4] hnS1 (by decide) (by decide) ?_ ?_ ?_
       all_goals first | (simp [inv_cons, inv_nil, pickOb]; done) | rfl
    ·rintro e s hp
     rcases y8 with y13 | y14
     ·replace h := smL h
      obtain ⟨rfl, hw⟩ := hp
      refine ⟨_, hw, ?_⟩
      try simp only [sp_l, sp_r, Post.seq, Post.block, Nat.reduceEqDiff, reduceIte, Nat.zero_ne_one, Nat.one_ne_zero]
      refine ⟨_, _, rfl, ?_⟩
      refine xops_Y _ _ _ rfl ?_
      simp [puts]
      try intros
      unfold KK
      refine AW.cond_false (by simp) ?_
      refine AW.skip ?_
      try simp only [sp_l, sp_r, Post.seq, Post.block, Nat.reduceEqDiff, reduceIte, Nat.zero_ne_one, Nat.one_ne_zero]
      try simp only [sp_l, sp_r, Post.seq, Post.block, Nat.reduceEqDiff, reduceIte, Nat.zero_ne_one, Nat.one_ne_zero]
      replace h := ltE h; obtain ⟨v15, e15, h⟩ := h
      apply AW.last
      ·simp [← e15]
       intros; rfl
      obtain rfl := Option.some.inj h
      refine nP_i ?_
      refine Weak.mixB 1 [some 0, some 1, some 2, some 3] hnJ1 (by decide) (by decide) ?_ ?_ ?_
      all_goals first | (simp [inv_cons, inv_nil, pickOb]; done) | rfl
     ·replace h := smR h
      obtain ⟨rfl, hw⟩ := hp
      refine ⟨_, hw, ?_⟩
      try simp only [sp_l, sp_r, Post.seq, Post.block, Nat.reduceEqDiff, reduceIte, Nat.zero_ne_one, Nat.one_ne_zero]
      refine ⟨_, _, rfl, ?_⟩
      refine xops_Y _ _ _ rfl ?_
      simp [puts]
      try intros
      unfold KK
      refine AW.cond_true (by simp) ?_
      obtain rfl := Option.some.inj h
      refine AW.ret ?_
      try simp only [sp_l, sp_r, Post.seq, Post.block, Nat.reduceEqDiff, reduceIte, Nat.zero_ne_one, Nat.one_ne_zero]
      try simp only [sp_l, sp_r]
      refine tP_i ?_
      refine Weak.mixB 1 [some 0, some 1, some 2, some 3] hnJ1 (by decide) (by decide) ?_ ?_ ?_
      all_goals first | (simp [inv_cons, inv_nil, pickOb]; done) | rfl
   | false =>
    replace h := iteF rfl h
    refine AW.cond_false (by simp) ?_
    refine AW.exit ?_
    try simp only [sp_l, sp_r, Post.seq, Post.block, Nat.reduceEqDiff, reduceIte, Nat.zero_ne_one, Nat.one_ne_zero]
    obtain rfl := Option.some.inj h
    try simp only [sp_l, sp_r]
    refine xP_i ?_
    refine Weak.mixB 1 [some 0, some 1, some 2, some 3] hnJ1 (by decide) (by decide) ?_ ?_ ?_
    all_goals first | (simp [inv_cons, inv_nil, pickOb]; done) | rfl
  ·rintro e s hp
   rcases y4 with y16 | y17
   ·replace h := smL h
    obtain ⟨rfl, hw⟩ := hp
    refine ⟨_, hw, ?_⟩
    try simp only [sp_l, sp_r, Post.seq, Post.block, Nat.reduceEqDiff, reduceIte, Nat.zero_ne_one, Nat.one_ne_zero]
    refine ⟨_, _, rfl, ?_⟩
    try simp only []
    try simp only [sp_l, sp_r, Post.seq, Post.block, Nat.reduceEqDiff, reduceIte, Nat.zero_ne_one, Nat.one_ne_zero]
    obtain rfl := Option.some.inj h
    try simp only [sp_l, sp_r]
    refine nP_i ?_
    refine Weak.mixB 1 [some 0, some 1] hn0 (by decide) (by decide) ?_ ?_ ?_
    all_goals first | (simp [inv_cons, inv_nil, pickOb]; done) | rfl
   ·replace h := smR h
    obtain ⟨rfl, hw⟩ := hp
    refine ⟨_, hw, ?_⟩
    try simp only [sp_l, sp_r, Post.seq, Post.block, Nat.reduceEqDiff, reduceIte, Nat.zero_ne_one, Nat.one_ne_zero]
    refine ⟨_, _, rfl, ?_⟩
    try simp only []
    obtain rfl := Option.some.inj h
    refine AW.ret ?_
    try simp only [sp_l, sp_r, Post.seq, Post.block, Nat.reduceEqDiff, reduceIte, Nat.zero_ne_one, Nat.one_ne_zero]
    refine rP_i ?_
    refine Left.of (av := _) (by simp [Try.f134, resV, resC, comp]; rfl) ?_
    exact LeftV.mix 1 [some 0] hn0 rfl (by decide) rfl (by simp [pickOb, inv_cons, inv_nil]) (by simp [inv_cons, inv_nil])
 ·rintro e s hp
  rcases y1 with y18 | y19
  ·replace h := smL h
   obtain ⟨rfl, hw⟩ := hp
   refine ⟨_, hw, ?_⟩
   try simp only [sp_l, sp_r, Post.seq, Post.block, Nat.reduceEqDiff, reduceIte, Nat.zero_ne_one, Nat.one_ne_zero]
   apply AW.step
   ·simp
    intros; rfl
   obtain rfl := Option.some.inj h
   refine AW.ret ?_
   refine Left.of (av := _) (by simp [Try.f134, resV, resC, comp]; rfl) ?_
   exact LeftV.mix 1 [some 0] hn0 rfl (by decide) rfl (by simp [pickOb, inv_cons, inv_nil]) (by simp [inv_cons, inv_nil])
  ·replace h := smR h
   obtain ⟨rfl, hl⟩ := hp
   refine ⟨_, Weak.refl _, ?_⟩
   obtain rfl := Option.some.inj h
   exact hl
theorem en_item_rising : Enters Try.prog 134 := enters Try.func134 (by kernel_rfl) rfl
def slices_Values_string_sh (n : Nat) (a0 : List ByteArray) : Option (List ByteArray) :=
some a0
set_option maxRecDepth 8000 in
set_option maxHeartbeats 8000000 in
theorem s_slices_Values_string {n : Nat} {a0 : List ByteArray} {r : List ByteArray} (h : slices_Values_string_sh n a0 = some r) : Sound Try.prog 136 [.l (.d false 1 (encS a0))] [] (.l (.f 143 [0])) [some ⟨32, 1, false, none, [.d false 1 (encS r)]⟩] := by
 unfold slices_Values_string_sh at h
 refine Sound.of_aw (fn := Try.f136) (c := _) Try.func136 rfl (by simp [Try.f136]) fun cx hG hnb => ?_
 rw [show Try.f136.ntmps = 4 from rfl]
 have hn0 : cx.nb = 0 := hnb
 simp only [st0_mk, initTm, List.map_cons, List.map_nil]
 apply AW.step
 ·simp
  intros; rfl
 apply AW.step
 ·simp
  intros; rfl
 obtain rfl := Option.some.inj h
 refine AW.ret ?_
 refine Left.of (av := _) (by simp [Try.f136, resV, resC, comp]; rfl) ?_
 exact LeftV.mix 0 [some 0] hn0 rfl (by decide) rfl (by simp [pickOb, inv_cons, inv_nil]) (by simp [inv_cons, inv_nil])
theorem en_slices_Values_string : Enters Try.prog 136 := enters Try.func136 (by kernel_rfl) rfl
def item_rising_k143_sh (n : Nat) (b0_0 : List ByteArray) : Option Bool :=
bn (lt (lenI b0_0) fun v2 =>
bn (iter n (fun (y3 : Int × Bool × ByteArray) =>
lt (ltI y3.1 v2) fun v6 =>
ite' v6 (bn (nth b0_0 y3.1) fun v7 =>
bn (bn (lt (notB y3.2.1) fun v10 =>
ite' v10 (lt (leS v7 y3.2.2) fun v11 =>
some (v11)) (some (false))) fun (y9 : Bool) =>
lt (y9) fun v12 =>
ite' v12 (some (.inr ())) (some (.inl ()))) fun (y8 : Unit ⊕ Unit) =>
sm y8 (fun y13 => lt (addI .i64 y3.1 1) fun v15 =>
some (.inl (v15, false, v7))) (fun y14 => some (.inr (.inr (y3.2.1, y3.2.2))))) (some (.inr (.inl (y3.2.1, y3.2.2))))) (0, true, ⟨#[]⟩)) fun (y4 : (Bool × ByteArray) ⊕ (Bool × ByteArray)) =>
sm y4 (fun y16 => some (.inl ())) (fun y17 => some (.inr false))) fun (y1 : Unit ⊕ Bool) =>
sm y1 (fun y18 => some true) (fun y19 => some y19)
set_option maxRecDepth 8000 in
set_option maxHeartbeats 8000000 in
theorem s_item_rising_k143 {n : Nat} {b0_0 : List ByteArray} {r : Bool} (h : item_rising_k143_sh n b0_0 = some r) : Sound Try.prog 134 [.l (.f 143 [0])] [⟨32, 1, false, none, [.d false 1 (encS b0_0)]⟩] (.l (.s (.bool r))) [some ⟨32, 1, false, none, [.d false 1 (encS b0_0)]⟩] := by
 unfold item_rising_k143_sh at h
 refine Sound.of_aw (fn := Try.f134) (c := _) Try.func134 rfl (by simp [Try.f134]) fun cx hG hnb => ?_
 rw [show Try.f134.ntmps = 16 from rfl]
 have hn0 : cx.nb = 1 := hnb
 simp only [st0_mk, initTm, List.map_cons, List.map_nil]
 apply AW.step
 ·simp
  intros; rfl
 apply AW.step
 ·simp
  intros; rfl
 replace h := bnE h; obtain ⟨y1, g1, h⟩ := h
 refine AW.flow (p := fun gh ls => (sp (nP (cx := cx) (fun _ => (⟨[(2, .l (.p 1 0))], [some ⟨32, 1, false, none, [.d false 1 (encS b0_0)]⟩, some ⟨4, 1, false, none, [.s (.bool false)]⟩], 16, gh, ls⟩ : St))) (rP (cx := cx) (P := Try.prog) Try.f134 (fun q => .l (.s (.bool q))) (fun q => [some ⟨32, 1, false, none, [.d false 1 (encS b0_0)]⟩]))) y1) ?_ ?_
 ·replace h := g1; clear g1
  apply AW.step
  ·simp
   intros; rfl
  refine AW.block ?_
  refine AW.weak (Weak.keep [(2, .l (.p 1 0)), (3, .l (.p 2 0)), (4, .l (.p 3 0)), (6, .l (.f 143 [0]))] (by simp)) ?_
  refine AW.rangeG rfl Try.func143 (by kernel_rfl) rfl (by decide) rfl rfl fun cxI1 yl1 hnI1 hY1 => ?_
  have hnJ1 : cxI1.nb = 1 := hnI1.trans hn0
  simp only [initTm, List.map_cons, List.map_nil]
  replace h := ltE h; obtain ⟨v2, e2, h⟩ := h
  apply AW.step
  ·simp [lenI_cast e2]
   intros; rfl
  refine AW.block ?_
  replace h := bnE h; obtain ⟨y4, g4, h⟩ := h
  refine AW.iterP g4 (mk := fun gh ls q => (⟨[(0, .l (.s (.func (.yield yl1) #[] #[]))), (5, .l (.d false 1 (encS b0_0))), (6, .l (.s (.int .i64 v2))), (7, .l (.s (.int .i64 q.1)))], [some ⟨32, 1, false, none, [.d false 1 (encS b0_0)]⟩, some ⟨4, 1, false, none, [.s (.bool false)]⟩, some ⟨4, 1, false, none, [.s (.bool q.2.1)]⟩, some ⟨9, 1, false, none, [.s (.string q.2.2)]⟩], 16, gh, ls⟩ : St)) (N := fun gh ls => (sp (xP 0 (cx := cxI1) (fun q => (⟨[], [some ⟨32, 1, false, none, [.d false 1 (encS b0_0)]⟩, some ⟨4, 1, false, none, [.s (.bool false)]⟩, some ⟨4, 1, false, none, [.s (.bool q.1)]⟩, some ⟨9, 1, false, none, [.s (.string q.2)]⟩], 16, gh, ls⟩ : St))) (tP (cx := cxI1) (fun q => (⟨[], [some ⟨32, 1, false, none, [.d false 1 (encS b0_0)]⟩, some ⟨4, 1, false, none, [.s (.bool false)]⟩, some ⟨4, 1, false, none, [.s (.bool q.1)]⟩, some ⟨9, 1, false, none, [.s (.string q.2)]⟩], 16, gh, some .ret⟩ : St))))) ?_ (noS noX noT) ?_ ?_
  ·refine Weak.mixB 1 [some 0, some 1, some 2, some 3] hnJ1 (by decide) (by decide) ?_ ?_ ?_
   all_goals first | (simp [inv_cons, inv_nil, pickOb]; done) | rfl
  ·clear h; intro y3 y5 h
   replace h := ltE h; obtain ⟨v6, e6, h⟩ := h
   apply AW.step
   ·simp [← e6]
    intros; rfl
   refine AW.seq ?_
   cases v6 with
   | true =>
    replace h := iteT rfl h
    refine AW.cond_true (by simp) ?_
    refine AW.skip ?_
    try simp only [sp_l, sp_r, Post.seq, Post.block, Nat.reduceEqDiff, reduceIte, Nat.zero_ne_one, Nat.one_ne_zero]
    try simp only [sp_l, sp_r, Post.seq, Post.block, Nat.reduceEqDiff, reduceIte, Nat.zero_ne_one, Nat.one_ne_zero]
    refine AW.seq ?_
    refine AW.block ?_
    replace h := bnE h; obtain ⟨v7, e7, h⟩ := h
    apply AW.step
    ·simp [nth_d e7]
     intros; rfl
    refine AW.stepYK ?_
    apply xopsY.yield hY1 0 2 rfl rfl rfl (by decide)
    ·simp
     intros; rfl
    ·rfl
    ·first | trivial | simp
    ·rfl
    ·rfl
    ·simp [puts]; rfl
    intro cxR1 hnR1
    have hnS1 : cxR1.nb = 1 := hnR1.trans hnJ1
    apply AW.last
    ·simp
     intros; rfl
    refine ⟨rfl, ?_⟩
    replace h := bnE h; obtain ⟨y8, g8, h⟩ := h
    refine AW.flowR (p := fun gh ls => (sp (nP (cx := cxR1) (fun _ => (⟨[], [some ⟨32, 1, false, none, [.d false 1 (encS b0_0)]⟩, some ⟨4, 1, false, none, [.s (.bool false)]⟩, some ⟨4, 1, false, none, [.s (.bool false)]⟩, some ⟨9, 1, false, none, [.s (.string v7)]⟩], 16, gh, ls⟩ : St))) (tP (cx := cxR1) (fun _ => (⟨[], [some ⟨32, 1, false, none, [.d false 1 (encS b0_0)]⟩, some ⟨4, 1, false, none, [.s (.bool false)]⟩, some ⟨4, 1, false, none, [.s (.bool y3.2.1)]⟩, some ⟨9, 1, false, none, [.s (.string y3.2.2)]⟩], 16, gh, ls⟩ : St)))) y8) ?_ ?_
    ·replace h := g8; clear g8
     refine AW.block ?_
     refine AW.seq ?_
     replace h := bnE h; obtain ⟨y9, g9, h⟩ := h
     refine AW.flow (p := fun gh ls => (nP (cx := cxR1) (fun q => (⟨[(2, .l (.p 1 0)), (3, .l (.p 2 0)), (4, .l (.p 3 0)), (5, .l (.s (.string v7))), (6, .l (.f 143 [0])), (14, .l (.s (.bool q)))], [some ⟨32, 1, false, none, [.d false 1 (encS b0_0)]⟩, some ⟨4, 1, false, none, [.s (.bool false)]⟩, some ⟨4, 1, false, none, [.s (.bool y3.2.1)]⟩, some ⟨9, 1, false, none, [.s (.string y3.2.2)]⟩], 16, gh, ls⟩ : St))) y9) ?_ ?_
     ·replace h := g9; clear g9
      replace h := ltE h; obtain ⟨v10, e10, h⟩ := h
      cases v10 with
      | true =>
       replace h := iteT rfl h
       replace h := ltE h; obtain ⟨v11, e11, h⟩ := h
       apply AW.last
       ·simp [← e10, ← e11]
        intros; rfl
       obtain rfl := Option.some.inj h
       refine nP_i ?_
       refine Weak.mixB 1 [some 0, some 1, some 2, some 3] hnS1 (by decide) (by decide) ?_ ?_ ?_
       all_goals first | (simp [inv_cons, inv_nil, pickOb]; done) | rfl
      | false =>
       replace h := iteF rfl h
       apply AW.last
       ·simp [← e10]
        intros; rfl
       obtain rfl := Option.some.inj h
       refine nP_i ?_
       refine Weak.mixB 1 [some 0, some 1, some 2, some 3] hnS1 (by decide) (by decide) ?_ ?_ ?_
       all_goals first | (simp [inv_cons, inv_nil, pickOb]; done) | rfl
     ·rintro e s hp
      obtain ⟨rfl, hw⟩ := hp
      refine ⟨_, hw, ?_⟩
      try simp only [sp_l, sp_r, Post.seq, Post.block, Nat.reduceEqDiff, reduceIte, Nat.zero_ne_one, Nat.one_ne_zero]
      replace h := ltE h; obtain ⟨v12, e12, h⟩ := h
      rw [← e12]
      cases v12 with
      | true =>
       replace h := iteT rfl h
       refine AW.cond_true (by simp) ?_
       apply AW.step
       ·simp
        intros; rfl
       obtain rfl := Option.some.inj h
       refine AW.ret ?_
       try simp only [sp_l, sp_r, Post.seq, Post.block, Nat.reduceEqDiff, reduceIte, Nat.zero_ne_one, Nat.one_ne_zero]
       try simp only [sp_l, sp_r]
       refine tP_i ?_
       refine Weak.mixB 1 [some 0, some 1, some 2, some 3] hnS1 (by decide) (by decide) ?_ ?_ ?_
       all_goals first | (simp [inv_cons, inv_nil, pickOb]; done) | rfl
      | false =>
       replace h := iteF rfl h
       refine AW.cond_false (by simp) ?_
       refine AW.skip ?_
       try simp only [sp_l, sp_r, Post.seq, Post.block, Nat.reduceEqDiff, reduceIte, Nat.zero_ne_one, Nat.one_ne_zero]
       try simp only [sp_l, sp_r, Post.seq, Post.block, Nat.reduceEqDiff, reduceIte, Nat.zero_ne_one, Nat.one_ne_zero]
       apply AW.last
       ·simp
        intros; rfl
       obtain rfl := Option.some.inj h
       try simp only [sp_l, sp_r]
       refine nP_i ?_
       refine Weak.mixB 1 [some 0, some 1, some 2, some 3] hnS1 (by decide) (by decide) ?_ ?_ ?_
       all_goals first | (simp [inv_cons, inv_nil, pickOb]; done) | rfl
    ·rintro e s hp
     rcases y8 with y13 | y14
     ·replace h := smL h
      obtain ⟨rfl, hw⟩ := hp
      refine ⟨_, hw, ?_⟩
      try simp only [sp_l, sp_r, Post.seq, Post.block, Nat.reduceEqDiff, reduceIte, Nat.zero_ne_one, Nat.one_ne_zero]
      refine ⟨_, _, rfl, ?_⟩
      refine xops_Y _ _ _ rfl ?_
      simp [puts]
      try intros
      unfold KK
      refine AW.cond_false (by simp) ?_
      refine AW.skip ?_
      try simp only [sp_l, sp_r, Post.seq, Post.block, Nat.reduceEqDiff, reduceIte, Nat.zero_ne_one, Nat.one_ne_zero]
      try simp only [sp_l, sp_r, Post.seq, Post.block, Nat.reduceEqDiff, reduceIte, Nat.zero_ne_one, Nat.one_ne_zero]
      replace h := ltE h; obtain ⟨v15, e15, h⟩ := h
      apply AW.last
      ·simp [← e15]
       intros; rfl
      obtain rfl := Option.some.inj h
      refine nP_i ?_
      refine Weak.mixB 1 [some 0, some 1, some 2, some 3] hnJ1 (by decide) (by decide) ?_ ?_ ?_
      all_goals first | (simp [inv_cons, inv_nil, pickOb]; done) | rfl
     ·replace h := smR h
      obtain ⟨rfl, hw⟩ := hp
      refine ⟨_, hw, ?_⟩
      try simp only [sp_l, sp_r, Post.seq, Post.block, Nat.reduceEqDiff, reduceIte, Nat.zero_ne_one, Nat.one_ne_zero]
      refine ⟨_, _, rfl, ?_⟩
      refine xops_Y _ _ _ rfl ?_
      simp [puts]
      try intros
      unfold KK
      refine AW.cond_true (by simp) ?_
      obtain rfl := Option.some.inj h
      refine AW.ret ?_
      try simp only [sp_l, sp_r, Post.seq, Post.block, Nat.reduceEqDiff, reduceIte, Nat.zero_ne_one, Nat.one_ne_zero]
      try simp only [sp_l, sp_r]
      refine tP_i ?_
      refine Weak.mixB 1 [some 0, some 1, some 2, some 3] hnJ1 (by decide) (by decide) ?_ ?_ ?_
      all_goals first | (simp [inv_cons, inv_nil, pickOb]; done) | rfl
   | false =>
    replace h := iteF rfl h
    refine AW.cond_false (by simp) ?_
    refine AW.exit ?_
    try simp only [sp_l, sp_r, Post.seq, Post.block, Nat.reduceEqDiff, reduceIte, Nat.zero_ne_one, Nat.one_ne_zero]
    obtain rfl := Option.some.inj h
    try simp only [sp_l, sp_r]
    refine xP_i ?_
    refine Weak.mixB 1 [some 0, some 1, some 2, some 3] hnJ1 (by decide) (by decide) ?_ ?_ ?_
    all_goals first | (simp [inv_cons, inv_nil, pickOb]; done) | rfl
  ·rintro e s hp
   rcases y4 with y16 | y17
   ·replace h := smL h
    obtain ⟨rfl, hw⟩ := hp
    refine ⟨_, hw, ?_⟩
    try simp only [sp_l, sp_r, Post.seq, Post.block, Nat.reduceEqDiff, reduceIte, Nat.zero_ne_one, Nat.one_ne_zero]
    refine ⟨_, _, rfl, ?_⟩
    try simp only []
    try simp only [sp_l, sp_r, Post.seq, Post.block, Nat.reduceEqDiff, reduceIte, Nat.zero_ne_one, Nat.one_ne_zero]
    obtain rfl := Option.some.inj h
    try simp only [sp_l, sp_r]
    refine nP_i ?_
    refine Weak.mixB 1 [some 0, some 1] hn0 (by decide) (by decide) ?_ ?_ ?_
    all_goals first | (simp [inv_cons, inv_nil, pickOb]; done) | rfl
   ·replace h := smR h
    obtain ⟨rfl, hw⟩ := hp
    refine ⟨_, hw, ?_⟩
    try simp only [sp_l, sp_r, Post.seq, Post.block, Nat.reduceEqDiff, reduceIte, Nat.zero_ne_one, Nat.one_ne_zero]
    refine ⟨_, _, rfl, ?_⟩
    try simp only []
    obtain rfl := Option.some.inj h
    refine AW.ret ?_
    try simp only [sp_l, sp_r, Post.seq, Post.block, Nat.reduceEqDiff, reduceIte, Nat.zero_ne_one, Nat.one_ne_zero]
    refine rP_i ?_
    refine Left.of (av := _) (by simp [Try.f134, resV, resC, comp]; rfl) ?_
    exact LeftV.mix 1 [some 0] hn0 rfl (by decide) rfl (by simp [pickOb, inv_cons, inv_nil]) (by simp [inv_cons, inv_nil])
 ·rintro e s hp
  rcases y1 with y18 | y19
  ·replace h := smL h
   obtain ⟨rfl, hw⟩ := hp
   refine ⟨_, hw, ?_⟩
   try simp only [sp_l, sp_r, Post.seq, Post.block, Nat.reduceEqDiff, reduceIte, Nat.zero_ne_one, Nat.one_ne_zero]
   apply AW.step
   ·simp
    intros; rfl
   obtain rfl := Option.some.inj h
   refine AW.ret ?_
   refine Left.of (av := _) (by simp [Try.f134, resV, resC, comp]; rfl) ?_
   exact LeftV.mix 1 [some 0] hn0 rfl (by decide) rfl (by simp [pickOb, inv_cons, inv_nil]) (by simp [inv_cons, inv_nil])
  ·replace h := smR h
   obtain ⟨rfl, hl⟩ := hp
   refine ⟨_, Weak.refl _, ?_⟩
   obtain rfl := Option.some.inj h
   exact hl
theorem en_item_rising_k143 : Enters Try.prog 134 := enters Try.func134 (by kernel_rfl) rfl
def item_shaped_sh (n : Nat) (a0 : Item) : Option Bool :=
lt (eqI a0.kind 1) fun v1 =>
ite' v1 (lt (lenI a0.f) fun v2 =>
lt (lenI a0.l) fun v3 =>
lt (addI .i64 v2 v3) fun v4 =>
lt (eqI v4 0) fun v5 =>
some v5) (lt (eqI a0.kind 2) fun v6 =>
ite' v6 (bn (lt (eqS a0.s ⟨#[]⟩) fun v8 =>
ite' v8 (lt (lenI a0.l) fun v9 =>
lt (eqI v9 0) fun v10 =>
ite' v10 (lt (lenI a0.f) fun v11 =>
bn (item_some_sh n v11) fun v12 =>
ite' v12 (bn (item_names_sh n a0.f) fun v13 =>
bn (item_rising_sh n v13) fun v14 =>
some (v14)) (some (false))) (some (false))) (some (false))) fun (y7 : Bool) =>
some y7) (lt (eqI a0.kind 3) fun v15 =>
ite' v15 (bn (lt (eqS a0.s ⟨#[]⟩) fun v17 =>
ite' v17 (lt (lenI a0.f) fun v18 =>
lt (eqI v18 0) fun v19 =>
ite' v19 (lt (lenI a0.l) fun v20 =>
bn (item_some_sh n v20) fun v21 =>
some (v21)) (some (false))) (some (false))) fun (y16 : Bool) =>
some y16) (lt (eqI a0.kind 4) fun v22 =>
ite' v22 (bn (lt (eqS a0.s ⟨#[]⟩) fun v24 =>
ite' v24 (lt (lenI a0.f) fun v25 =>
lt (eqI v25 0) fun v26 =>
ite' v26 (lt (lenI a0.l) fun v27 =>
bn (item_some_sh n v27) fun v28 =>
ite' v28 (bn (slices_Values_string_sh n a0.l) fun v29 =>
bn (item_rising_k143_sh n v29) fun v30 =>
some (v30)) (some (false))) (some (false))) (some (false))) fun (y23 : Bool) =>
some y23) (some false))))
set_option maxRecDepth 8000 in
set_option maxHeartbeats 8000000 in
theorem s_item_shaped {n : Nat} {a0 : Item} {r : Bool} (h : item_shaped_sh n a0 = some r) : Sound Try.prog 125 [.g [.s (.int .i64 a0.kind), .s (.string a0.s), .d false 2 (encField a0.f), .d false 1 (encS a0.l), .s (.int .i64 a0.exp)]] [] (.l (.s (.bool r))) [] := by
 unfold item_shaped_sh at h
 refine Sound.of_aw (fn := Try.f125) (c := _) Try.func125 rfl (by simp [Try.f125]) fun cx hG hnb => ?_
 rw [show Try.f125.ntmps = 78 from rfl]
 have hn0 : cx.nb = 0 := hnb
 simp only [st0_mk, initTm, List.map_cons, List.map_nil]
 apply AW.step
 ·simp
  intros; rfl
 refine AW.seq ?_
 apply AW.step
 ·simp
  intros; rfl
 refine AW.block ?_
 replace h := ltE h; obtain ⟨v1, e1, h⟩ := h
 apply AW.step
 ·simp [← e1]
  intros; rfl
 cases v1 with
 | true =>
  replace h := iteT rfl h
  refine AW.cond_true (by simp) ?_
  replace h := ltE h; obtain ⟨v2, e2, h⟩ := h
  replace h := ltE h; obtain ⟨v3, e3, h⟩ := h
  replace h := ltE h; obtain ⟨v4, e4, h⟩ := h
  replace h := ltE h; obtain ⟨v5, e5, h⟩ := h
  apply AW.step
  ·simp [lenI_cast e2, lenI_cast e3, ← e4, ← e5]
   intros; rfl
  obtain rfl := Option.some.inj h
  refine AW.ret ?_
  refine Left.plain hnb (by simp [Try.f125, resV, resC, comp]; rfl) rfl rfl ?_
  simp
 | false =>
  replace h := iteF rfl h
  refine AW.cond_false (by simp) ?_
  replace h := ltE h; obtain ⟨v6, e6, h⟩ := h
  apply AW.step
  ·simp [← e6]
   intros; rfl
  cases v6 with
  | true =>
   replace h := iteT rfl h
   refine AW.cond_true (by simp) ?_
   replace h := bnE h; obtain ⟨y7, g7, h⟩ := h
   refine AW.flow (p := fun gh ls => (nP (cx := cx) (fun q => (⟨[(2, .l (.s (.bool q)))], [], 78, gh, ls⟩ : St))) y7) ?_ ?_
   ·replace h := g7; clear g7
    replace h := ltE h; obtain ⟨v8, e8, h⟩ := h
    cases v8 with
    | true =>
     replace h := iteT rfl h
     replace h := ltE h; obtain ⟨v9, e9, h⟩ := h
     replace h := ltE h; obtain ⟨v10, e10, h⟩ := h
     cases v10 with
     | true =>
      replace h := iteT rfl h
      replace h := ltE h; obtain ⟨v11, e11, h⟩ := h
      replace h := bnE h; obtain ⟨v12, e12, h⟩ := h
      cases v12 with
      | true =>
       replace h := iteT rfl h
       replace h := bnE h; obtain ⟨v13, e13, h⟩ := h
       replace h := bnE h; obtain ⟨v14, e14, h⟩ := h
       apply AW.last
       ·simp [← e8, lenI_cast e9, ← e10, lenI_cast e11]
        intros
        refine xcall_plain en_item_some (s_item_some e12) rfl ⟨.same rfl, trivial⟩ ?_
        try simp [← e8, lenI_cast e9, ← e10, lenI_cast e11]
        intros
        refine xcall_new en_item_names (s_item_names e13) rfl (by simp) ⟨.same rfl, trivial⟩ ?_
        try simp [← e8, lenI_cast e9, ← e10, lenI_cast e11]
        intros
        refine xcall_obs [1] en_item_rising (s_item_rising e14) (by decide) (by simp [pickOb, inv_cons, inv_nil]) rfl rfl (by simp) ⟨.l (.fn (by simp)), trivial⟩ ?_
        try simp [← e8, lenI_cast e9, ← e10, lenI_cast e11]
        intros; rfl
       obtain rfl := Option.some.inj h
       refine nP_i ?_
       refine Weak.mixN [] hn0 (by decide) ?_ ?_ rfl
       all_goals first | (simp [inv_cons, inv_nil, pickOb]; done) | rfl
      | false =>
       replace h := iteF rfl h
       apply AW.last
       ·simp [← e8, lenI_cast e9, ← e10, lenI_cast e11]
        intros
        refine xcall_plain en_item_some (s_item_some e12) rfl ⟨.same rfl, trivial⟩ ?_
        try simp [← e8, lenI_cast e9, ← e10, lenI_cast e11]
        intros; rfl
       obtain rfl := Option.some.inj h
       refine nP_i ?_
       refine Weak.mixN [] hn0 (by decide) ?_ ?_ rfl
       all_goals first | (simp [inv_cons, inv_nil, pickOb]; done) | rfl
     | false =>
      replace h := iteF rfl h
      apply AW.last
      ·simp [← e8, lenI_cast e9, ← e10]
       intros; rfl
      obtain rfl := Option.some.inj h
      refine nP_i ?_
      refine Weak.mixN [] hn0 (by decide) ?_ ?_ rfl
      all_goals first | (simp [inv_cons, inv_nil, pickOb]; done) | rfl
    | false =>
     replace h := iteF rfl h
     apply AW.last
     ·simp [← e8]
      intros; rfl
     obtain rfl := Option.some.inj h
     refine nP_i ?_
     refine Weak.mixN [] hn0 (by decide) ?_ ?_ rfl
     all_goals first | (simp [inv_cons, inv_nil, pickOb]; done) | rfl
   ·rintro e s hp
    obtain ⟨rfl, hw⟩ := hp
    refine ⟨_, hw, ?_⟩
    try simp only [sp_l, sp_r, Post.seq, Post.block, Nat.reduceEqDiff, reduceIte, Nat.zero_ne_one, Nat.one_ne_zero]
    obtain rfl := Option.some.inj h
    refine AW.ret ?_
    refine Left.plain hnb (by simp [Try.f125, resV, resC, comp]; rfl) rfl rfl ?_
    simp
  | false =>
   replace h := iteF rfl h
   refine AW.cond_false (by simp) ?_
   replace h := ltE h; obtain ⟨v15, e15, h⟩ := h
   apply AW.step
   ·simp [← e15]
    intros; rfl
   cases v15 with
   | true =>
    replace h := iteT rfl h
    refine AW.cond_true (by simp) ?_
    replace h := bnE h; obtain ⟨y16, g16, h⟩ := h
    refine AW.flow (p := fun gh ls => (nP (cx := cx) (fun q => (⟨[(2, .l (.s (.bool q)))], [], 78, gh, ls⟩ : St))) y16) ?_ ?_
    ·replace h := g16; clear g16
     replace h := ltE h; obtain ⟨v17, e17, h⟩ := h
     cases v17 with
     | true =>
      replace h := iteT rfl h
      replace h := ltE h; obtain ⟨v18, e18, h⟩ := h
      replace h := ltE h; obtain ⟨v19, e19, h⟩ := h
      cases v19 with
      | true =>
       replace h := iteT rfl h
       replace h := ltE h; obtain ⟨v20, e20, h⟩ := h
       replace h := bnE h; obtain ⟨v21, e21, h⟩ := h
       apply AW.last
       ·simp [← e17, lenI_cast e18, ← e19, lenI_cast e20]
        intros
        refine xcall_plain en_item_some (s_item_some e21) rfl ⟨.same rfl, trivial⟩ ?_
        try simp [← e17, lenI_cast e18, ← e19, lenI_cast e20]
        intros; rfl
       obtain rfl := Option.some.inj h
       refine nP_i ?_
       refine Weak.mixN [] hn0 (by decide) ?_ ?_ rfl
       all_goals first | (simp [inv_cons, inv_nil, pickOb]; done) | rfl
      | false =>
       replace h := iteF rfl h
       apply AW.last
       ·simp [← e17, lenI_cast e18, ← e19]
        intros; rfl
       obtain rfl := Option.some.inj h
       refine nP_i ?_
       refine Weak.mixN [] hn0 (by decide) ?_ ?_ rfl
       all_goals first | (simp [inv_cons, inv_nil, pickOb]; done) | rfl
     | false =>
      replace h := iteF rfl h
      apply AW.last
      ·simp [← e17]
       intros; rfl
      obtain rfl := Option.some.inj h
      refine nP_i ?_
      refine Weak.mixN [] hn0 (by decide) ?_ ?_ rfl
      all_goals first | (simp [inv_cons, inv_nil, pickOb]; done) | rfl
    ·rintro e s hp
     obtain ⟨rfl, hw⟩ := hp
     refine ⟨_, hw, ?_⟩
     try simp only [sp_l, sp_r, Post.seq, Post.block, Nat.reduceEqDiff, reduceIte, Nat.zero_ne_one, Nat.one_ne_zero]
     obtain rfl := Option.some.inj h
     refine AW.ret ?_
     refine Left.plain hnb (by simp [Try.f125, resV, resC, comp]; rfl) rfl rfl ?_
     simp
   | false =>
    replace h := iteF rfl h
    refine AW.cond_false (by simp) ?_
    replace h := ltE h; obtain ⟨v22, e22, h⟩ := h
    apply AW.step
    ·simp [← e22]
     intros; rfl
    cases v22 with
    | true =>
     replace h := iteT rfl h
     refine AW.cond_true (by simp) ?_
     replace h := bnE h; obtain ⟨y23, g23, h⟩ := h
     refine AW.flow (p := fun gh ls => (nP (cx := cx) (fun q => (⟨[(2, .l (.s (.bool q)))], [], 78, gh, ls⟩ : St))) y23) ?_ ?_
     ·replace h := g23; clear g23
      replace h := ltE h; obtain ⟨v24, e24, h⟩ := h
      cases v24 with
      | true =>
       replace h := iteT rfl h
       replace h := ltE h; obtain ⟨v25, e25, h⟩ := h
       replace h := ltE h; obtain ⟨v26, e26, h⟩ := h
       cases v26 with
       | true =>
        replace h := iteT rfl h
        replace h := ltE h; obtain ⟨v27, e27, h⟩ := h
        replace h := bnE h; obtain ⟨v28, e28, h⟩ := h
        cases v28 with
        | true =>
         replace h := iteT rfl h
         replace h := bnE h; obtain ⟨v29, e29, h⟩ := h
         replace h := bnE h; obtain ⟨v30, e30, h⟩ := h
         apply AW.last
         ·simp [← e24, lenI_cast e25, ← e26, lenI_cast e27]
          intros
          refine xcall_plain en_item_some (s_item_some e28) rfl ⟨.same rfl, trivial⟩ ?_
          try simp [← e24, lenI_cast e25, ← e26, lenI_cast e27]
          intros
          refine xcall_new en_slices_Values_string (s_slices_Values_string e29) rfl (by simp) ⟨.same rfl, trivial⟩ ?_
          try simp [← e24, lenI_cast e25, ← e26, lenI_cast e27]
          intros
          refine xcall_obs [1] en_item_rising_k143 (s_item_rising_k143 e30) (by decide) (by simp [pickOb, inv_cons, inv_nil]) rfl rfl (by simp) ⟨.l (.fn (by simp)), trivial⟩ ?_
          try simp [← e24, lenI_cast e25, ← e26, lenI_cast e27]
          intros; rfl
         obtain rfl := Option.some.inj h
         refine nP_i ?_
         refine Weak.mixN [] hn0 (by decide) ?_ ?_ rfl
         all_goals first | (simp [inv_cons, inv_nil, pickOb]; done) | rfl
        | false =>
         replace h := iteF rfl h
         apply AW.last
         ·simp [← e24, lenI_cast e25, ← e26, lenI_cast e27]
          intros
          refine xcall_plain en_item_some (s_item_some e28) rfl ⟨.same rfl, trivial⟩ ?_
          try simp [← e24, lenI_cast e25, ← e26, lenI_cast e27]
          intros; rfl
         obtain rfl := Option.some.inj h
         refine nP_i ?_
         refine Weak.mixN [] hn0 (by decide) ?_ ?_ rfl
         all_goals first | (simp [inv_cons, inv_nil, pickOb]; done) | rfl
       | false =>
        replace h := iteF rfl h
        apply AW.last
        ·simp [← e24, lenI_cast e25, ← e26]
         intros; rfl
        obtain rfl := Option.some.inj h
        refine nP_i ?_
        refine Weak.mixN [] hn0 (by decide) ?_ ?_ rfl
        all_goals first | (simp [inv_cons, inv_nil, pickOb]; done) | rfl
      | false =>
       replace h := iteF rfl h
       apply AW.last
       ·simp [← e24]
        intros; rfl
       obtain rfl := Option.some.inj h
       refine nP_i ?_
       refine Weak.mixN [] hn0 (by decide) ?_ ?_ rfl
       all_goals first | (simp [inv_cons, inv_nil, pickOb]; done) | rfl
     ·rintro e s hp
      obtain ⟨rfl, hw⟩ := hp
      refine ⟨_, hw, ?_⟩
      try simp only [sp_l, sp_r, Post.seq, Post.block, Nat.reduceEqDiff, reduceIte, Nat.zero_ne_one, Nat.one_ne_zero]
      obtain rfl := Option.some.inj h
      refine AW.ret ?_
      refine Left.plain hnb (by simp [Try.f125, resV, resC, comp]; rfl) rfl rfl ?_
      simp
    | false =>
     replace h := iteF rfl h
     refine AW.cond_false (by simp) ?_
     refine AW.skip ?_
     try simp only [sp_l, sp_r, Post.seq, Post.block, Nat.reduceEqDiff, reduceIte, Nat.zero_ne_one, Nat.one_ne_zero]
     try simp only [sp_l, sp_r, Post.seq, Post.block, Nat.reduceEqDiff, reduceIte, Nat.zero_ne_one, Nat.one_ne_zero]
     apply AW.step
     ·simp
      intros; rfl
     obtain rfl := Option.some.inj h
     refine AW.ret ?_
     refine Left.plain hnb (by simp [Try.f125, resV, resC, comp]; rfl) rfl rfl ?_
     simp
theorem en_item_shaped : Enters Try.prog 125 := enters Try.func125 (by kernel_rfl) rfl
def item_texts_sh (n : Nat) (a0 : Item) : Option Item :=
some a0
set_option maxRecDepth 8000 in
set_option maxHeartbeats 8000000 in
theorem s_item_texts {n : Nat} {a0 : Item} {r : Item} (h : item_texts_sh n a0 = some r) : Sound Try.prog 126 [.g [.s (.int .i64 a0.kind), .s (.string a0.s), .d false 2 (encField a0.f), .d false 1 (encS a0.l), .s (.int .i64 a0.exp)]] [] (.l (.f 137 [0])) [some ⟨34, 5, false, none, [.s (.int .i64 r.kind), .s (.string r.s), .d false 2 (encField r.f), .d false 1 (encS r.l), .s (.int .i64 r.exp)]⟩] := by
 unfold item_texts_sh at h
 refine Sound.of_aw (fn := Try.f126) (c := _) Try.func126 rfl (by simp [Try.f126]) fun cx hG hnb => ?_
 rw [show Try.f126.ntmps = 4 from rfl]
 have hn0 : cx.nb = 0 := hnb
 simp only [st0_mk, initTm, List.map_cons, List.map_nil]
 apply AW.step
 ·simp
  intros; rfl
 apply AW.step
 ·simp
  intros; rfl
 obtain rfl := Option.some.inj h
 refine AW.ret ?_
 refine Left.of (av := _) (by simp [Try.f126, resV, resC, comp]; rfl) ?_
 exact LeftV.mix 0 [some 0] hn0 rfl (by decide) rfl (by simp [pickOb, inv_cons, inv_nil]) (by simp [inv_cons, inv_nil])
theorem en_item_texts : Enters Try.prog 126 := enters Try.func126 (by kernel_rfl) rfl
def item_May_sh (n : Nat) (a0 : Item) : Option Bool :=
bn (bn (item_shaped_sh n a0) fun v2 =>
lt (notB v2) fun v3 =>
ite' v3 (some (true)) (lt (ltI a0.exp 0) fun v4 =>
ite' v4 (some (true)) (lt (gtI a0.exp 9007199254740992) fun v5 =>
some (v5)))) fun (y1 : Bool) =>
lt (y1) fun v6 =>
ite' v6 (some false) (bn (bn (item_texts_sh n a0) fun v8 =>
bn (lt (lenS v8.s) fun v10 =>
lt (gtI v10 300) fun v11 =>
ite' v11 (some (.inr ())) (some (.inl ()))) fun (y9 : Unit ⊕ Unit) =>
sm y9 (fun y12 => lt (lenI v8.f) fun v14 =>
bn (iter n (fun (y15 : Int) =>
lt (ltI y15 v14) fun v18 =>
ite' v18 (bn (nth v8.f y15) fun v19 =>
bn (lt (lenS v19.name) fun v21 =>
lt (gtI v21 300) fun v22 =>
ite' v22 (some (.inr ())) (some (.inl ()))) fun (y20 : Unit ⊕ Unit) =>
sm y20 (fun y23 => bn (lt (lenS v19.val) fun v26 =>
lt (gtI v26 300) fun v27 =>
ite' v27 (some (.inr ())) (some (.inl ()))) fun (y25 : Unit ⊕ Unit) =>
sm y25 (fun y28 => lt (addI .i64 y15 1) fun v30 =>
some (.inl v30)) (fun y29 => some (.inr (.inr ())))) (fun y24 => some (.inr (.inr ())))) (some (.inr (.inl ())))) 0) fun (y16 : Unit ⊕ Unit) =>
sm y16 (fun y31 => lt (lenI v8.l) fun v33 =>
bn (iter n (fun (y34 : Int) =>
lt (ltI y34 v33) fun v37 =>
ite' v37 (bn (nth v8.l y34) fun v38 =>
bn (lt (lenS v38) fun v40 =>
lt (gtI v40 300) fun v41 =>
ite' v41 (some (.inr ())) (some (.inl ()))) fun (y39 : Unit ⊕ Unit) =>
sm y39 (fun y42 => lt (addI .i64 y34 1) fun v44 =>
some (.inl v44)) (fun y43 => some (.inr (.inr ())))) (some (.inr (.inl ())))) 0) fun (y35 : Unit ⊕ Unit) =>
sm y35 (fun y45 => some (.inl ())) (fun y46 => some (.inr false))) (fun y32 => some (.inr false))) (fun y13 => some (.inr false))) fun (y7 : Unit ⊕ Bool) =>
sm y7 (fun y47 => some true) (fun y48 => some y48))
set_option maxRecDepth 8000 in
set_option maxHeartbeats 8000000 in
theorem s_item_May {n : Nat} {a0 : Item} {r : Bool} (h : item_May_sh n a0 = some r) : Sound Try.prog 102 [.g [.s (.int .i64 a0.kind), .s (.string a0.s), .d false 2 (encField a0.f), .d false 1 (encS a0.l), .s (.int .i64 a0.exp)]] [] (.l (.s (.bool r))) [] := by
 unfold item_May_sh at h
 refine Sound.of_aw (fn := Try.f102) (c := _) Try.func102 rfl (by simp [Try.f102]) fun cx hG hnb => ?_
 rw [show Try.f102.ntmps = 23 from rfl]
 have hn0 : cx.nb = 0 := hnb
 simp only [st0_mk, initTm, List.map_cons, List.map_nil]
 apply AW.step
 ·simp
  intros; rfl
 refine AW.seq ?_
 replace h := bnE h; obtain ⟨y1, g1, h⟩ := h
 refine AW.flow (p := fun gh ls => (nP (cx := cx) (fun q => (⟨[(1, .l (.p 0 0)), (2, .l (.p 1 0)), (16, .l (.s (.bool q)))], [some ⟨34, 5, false, none, [.s (.int .i64 a0.kind), .s (.string a0.s), .d false 2 (encField a0.f), .d false 1 (encS a0.l), .s (.int .i64 a0.exp)]⟩, some ⟨4, 1, false, none, [.s (.bool false)]⟩], 23, gh, ls⟩ : St))) y1) ?_ ?_
 ·replace h := g1; clear g1
  replace h := bnE h; obtain ⟨v2, e2, h⟩ := h
  replace h := ltE h; obtain ⟨v3, e3, h⟩ := h
  cases v3 with
  | true =>
   replace h := iteT rfl h
   apply AW.last
   ·simp [← e3]
    intros
    refine xcall_plain en_item_shaped (s_item_shaped e2) rfl ⟨.same rfl, trivial⟩ ?_
    try simp [← e3]
    intros; rfl
   obtain rfl := Option.some.inj h
   refine nP_i ?_
   refine Weak.mixN [some 0, some 1] hn0 (by decide) ?_ ?_ rfl
   all_goals first | (simp [inv_cons, inv_nil, pickOb]; done) | rfl
  | false =>
   replace h := iteF rfl h
   replace h := ltE h; obtain ⟨v4, e4, h⟩ := h
   cases v4 with
   | true =>
    replace h := iteT rfl h
    apply AW.last
    ·simp [← e3, ← e4]
     intros
     refine xcall_plain en_item_shaped (s_item_shaped e2) rfl ⟨.same rfl, trivial⟩ ?_
     try simp [← e3, ← e4]
     intros; rfl
    obtain rfl := Option.some.inj h
    refine nP_i ?_
    refine Weak.mixN [some 0, some 1] hn0 (by decide) ?_ ?_ rfl
    all_goals first | (simp [inv_cons, inv_nil, pickOb]; done) | rfl
   | false =>
    replace h := iteF rfl h
    replace h := ltE h; obtain ⟨v5, e5, h⟩ := h
    apply AW.last
    ·simp [← e3, ← e4, ← e5]
     intros
     refine xcall_plain en_item_shaped (s_item_shaped e2) rfl ⟨.same rfl, trivial⟩ ?_
     try simp [← e3, ← e4, ← e5]
     intros; rfl
    obtain rfl := Option.some.inj h
    refine nP_i ?_
    refine Weak.mixN [some 0, some 1] hn0 (by decide) ?_ ?_ rfl
    all_goals first | (simp [inv_cons, inv_nil, pickOb]; done) | rfl
 ·rintro e s hp
  obtain ⟨rfl, hw⟩ := hp
  refine ⟨_, hw, ?_⟩
  try simp only [sp_l, sp_r, Post.seq, Post.block, Nat.reduceEqDiff, reduceIte, Nat.zero_ne_one, Nat.one_ne_zero]
  replace h := ltE h; obtain ⟨v6, e6, h⟩ := h
  rw [← e6]
  cases v6 with
  | true =>
   replace h := iteT rfl h
   refine AW.cond_true (by simp) ?_
   apply AW.step
   ·simp
    intros; rfl
   obtain rfl := Option.some.inj h
   refine AW.ret ?_
   refine Left.plain hnb (by simp [Try.f102, resV, resC, comp]; rfl) rfl rfl ?_
   simp
  | false =>
   replace h := iteF rfl h
   refine AW.cond_false (by simp) ?_
   refine AW.skip ?_
   try simp only [sp_l, sp_r, Post.seq, Post.block, Nat.reduceEqDiff, reduceIte, Nat.zero_ne_one, Nat.one_ne_zero]
   try simp only [sp_l, sp_r, Post.seq, Post.block, Nat.reduceEqDiff, reduceIte, Nat.zero_ne_one, Nat.one_ne_zero]
   replace h := bnE h; obtain ⟨y7, g7, h⟩ := h
   refine AW.flow (p := fun gh ls => (sp (nP (cx := cx) (fun _ => (⟨[(2, .l (.p 0 0))], [some ⟨4, 1, false, none, [.s (.bool false)]⟩], 23, gh, ls⟩ : St))) (rP (cx := cx) (P := Try.prog) Try.f102 (fun q => .l (.s (.bool q))) (fun q => []))) y7) ?_ ?_
   ·replace h := g7; clear g7
    replace h := bnE h; obtain ⟨v8, e8, h⟩ := h
    apply AW.step
    ·simp
     intros
     refine xcall_new en_item_texts (s_item_texts e8) rfl (by simp) ⟨.same rfl, trivial⟩ ?_
     try simp
     intros; rfl
    refine AW.block ?_
    refine AW.weak (Weak.keep [(2, .l (.p 1 0)), (18, .l (.f 137 [2]))] (by simp)) ?_
    refine AW.rangeG rfl Try.func137 (by kernel_rfl) rfl (by decide) rfl rfl fun cxI1 yl1 hnI1 hY1 => ?_
    have hnJ1 : cxI1.nb = 0 := hnI1.trans hn0
    simp only [initTm, List.map_cons, List.map_nil]
    refine AW.seq ?_
    refine AW.stepYK ?_
    apply xopsY.yield hY1 0 3 rfl rfl rfl (by decide)
    ·simp
     intros; rfl
    ·rfl
    ·first | trivial | simp
    ·rfl
    ·rfl
    ·simp [puts]; rfl
    intro cxR1 hnR1
    have hnS1 : cxR1.nb = 0 := hnR1.trans hnJ1
    apply AW.last
    ·simp
     intros; rfl
    refine ⟨rfl, ?_⟩
    replace h := bnE h; obtain ⟨y9, g9, h⟩ := h
    refine AW.flowR (p := fun gh ls => (sp (nP (cx := cxR1) (fun _ => (⟨[], [some ⟨34, 5, false, none, [.s (.int .i64 a0.kind), .s (.string a0.s), .d false 2 (encField a0.f), .d false 1 (encS a0.l), .s (.int .i64 a0.exp)]⟩, some ⟨4, 1, false, none, [.s (.bool false)]⟩, some ⟨34, 5, false, none, [.s (.int .i64 v8.kind), .s (.string v8.s), .d false 2 (encField v8.f), .d false 1 (encS v8.l), .s (.int .i64 v8.exp)]⟩], 23, gh, ls⟩ : St))) (tP (cx := cxR1) (fun _ => (⟨[], [some ⟨34, 5, false, none, [.s (.int .i64 a0.kind), .s (.string a0.s), .d false 2 (encField a0.f), .d false 1 (encS a0.l), .s (.int .i64 a0.exp)]⟩, some ⟨4, 1, false, none, [.s (.bool false)]⟩, some ⟨34, 5, false, none, [.s (.int .i64 v8.kind), .s (.string v8.s), .d false 2 (encField v8.f), .d false 1 (encS v8.l), .s (.int .i64 v8.exp)]⟩], 23, gh, ls⟩ : St)))) y9) ?_ ?_
    ·replace h := g9; clear g9
     refine AW.block ?_
     replace h := ltE h; obtain ⟨v10, e10, h⟩ := h
     replace h := ltE h; obtain ⟨v11, e11, h⟩ := h
     apply AW.step
     ·simp [← e10, ← e11]
      intros; rfl
     cases v11 with
     | true =>
      replace h := iteT rfl h
      refine AW.cond_true (by simp) ?_
      apply AW.step
      ·simp
       intros; rfl
      obtain rfl := Option.some.inj h
      refine AW.ret ?_
      try simp only [sp_l, sp_r, Post.seq, Post.block, Nat.reduceEqDiff, reduceIte, Nat.zero_ne_one, Nat.one_ne_zero]
      try simp only [sp_l, sp_r]
      refine tP_i ?_
      refine Weak.mixB 0 [some 0, some 1, some 2] hnS1 (by decide) (by decide) ?_ ?_ ?_
      all_goals first | (simp [inv_cons, inv_nil, pickOb]; done) | rfl
     | false =>
      replace h := iteF rfl h
      refine AW.cond_false (by simp) ?_
      refine AW.skip ?_
      try simp only [sp_l, sp_r, Post.seq, Post.block, Nat.reduceEqDiff, reduceIte, Nat.zero_ne_one, Nat.one_ne_zero]
      obtain rfl := Option.some.inj h
      try simp only [sp_l, sp_r]
      refine nP_i ?_
      refine Weak.mixB 0 [some 0, some 1, some 2] hnS1 (by decide) (by decide) ?_ ?_ ?_
      all_goals first | (simp [inv_cons, inv_nil, pickOb]; done) | rfl
    ·rintro e s hp
     rcases y9 with y12 | y13
     ·replace h := smL h
      obtain ⟨rfl, hw⟩ := hp
      refine ⟨_, hw, ?_⟩
      try simp only [sp_l, sp_r, Post.seq, Post.block, Nat.reduceEqDiff, reduceIte, Nat.zero_ne_one, Nat.one_ne_zero]
      refine ⟨_, _, rfl, ?_⟩
      refine xops_Y _ _ _ rfl ?_
      simp [puts]
      try intros
      unfold KK
      refine AW.cond_false (by simp) ?_
      refine AW.skip ?_
      try simp only [sp_l, sp_r, Post.seq, Post.block, Nat.reduceEqDiff, reduceIte, Nat.zero_ne_one, Nat.one_ne_zero]
      try simp only [sp_l, sp_r, Post.seq, Post.block, Nat.reduceEqDiff, reduceIte, Nat.zero_ne_one, Nat.one_ne_zero]
      refine AW.seq ?_
      replace h := ltE h; obtain ⟨v14, e14, h⟩ := h
      apply AW.step
      ·simp [lenI_cast e14]
       intros; rfl
      refine AW.block ?_
      replace h := bnE h; obtain ⟨y16, g16, h⟩ := h
      refine AW.iterP g16 (mk := fun gh ls q => (⟨[(0, .l (.s (.func (.yield yl1) #[] #[]))), (1, .l (.p 2 0)), (13, .l (.d false 2 (encField v8.f))), (14, .l (.s (.int .i64 v14))), (15, .l (.s (.int .i64 q)))], [some ⟨34, 5, false, none, [.s (.int .i64 a0.kind), .s (.string a0.s), .d false 2 (encField a0.f), .d false 1 (encS a0.l), .s (.int .i64 a0.exp)]⟩, some ⟨4, 1, false, none, [.s (.bool false)]⟩, some ⟨34, 5, false, none, [.s (.int .i64 v8.kind), .s (.string v8.s), .d false 2 (encField v8.f), .d false 1 (encS v8.l), .s (.int .i64 v8.exp)]⟩], 44, gh, ls⟩ : St)) (N := fun gh ls => (sp (xP 0 (cx := cxI1) (fun _ => (⟨[(0, .l (.s (.func (.yield yl1) #[] #[]))), (1, .l (.p 2 0))], [some ⟨34, 5, false, none, [.s (.int .i64 a0.kind), .s (.string a0.s), .d false 2 (encField a0.f), .d false 1 (encS a0.l), .s (.int .i64 a0.exp)]⟩, some ⟨4, 1, false, none, [.s (.bool false)]⟩, some ⟨34, 5, false, none, [.s (.int .i64 v8.kind), .s (.string v8.s), .d false 2 (encField v8.f), .d false 1 (encS v8.l), .s (.int .i64 v8.exp)]⟩], 44, gh, ls⟩ : St))) (tP (cx := cxI1) (fun _ => (⟨[], [some ⟨34, 5, false, none, [.s (.int .i64 a0.kind), .s (.string a0.s), .d false 2 (encField a0.f), .d false 1 (encS a0.l), .s (.int .i64 a0.exp)]⟩, some ⟨4, 1, false, none, [.s (.bool false)]⟩, some ⟨34, 5, false, none, [.s (.int .i64 v8.kind), .s (.string v8.s), .d false 2 (encField v8.f), .d false 1 (encS v8.l), .s (.int .i64 v8.exp)]⟩], 44, gh, some .ret⟩ : St))))) ?_ (noS noX noT) ?_ ?_
      ·refine Weak.mixB 0 [some 0, some 1, some 2] hnJ1 (by decide) (by decide) ?_ ?_ ?_
       all_goals first | (simp [inv_cons, inv_nil, pickOb]; done) | rfl
      ·clear h; intro y15 y17 h
       replace h := ltE h; obtain ⟨v18, e18, h⟩ := h
       apply AW.step
       ·simp [← e18]
        intros; rfl
       refine AW.seq ?_
       cases v18 with
       | true =>
        replace h := iteT rfl h
        refine AW.cond_true (by simp) ?_
        refine AW.skip ?_
        try simp only [sp_l, sp_r, Post.seq, Post.block, Nat.reduceEqDiff, reduceIte, Nat.zero_ne_one, Nat.one_ne_zero]
        try simp only [sp_l, sp_r, Post.seq, Post.block, Nat.reduceEqDiff, reduceIte, Nat.zero_ne_one, Nat.one_ne_zero]
        refine AW.seq ?_
        refine AW.block ?_
        replace h := bnE h; obtain ⟨v19, e19, h⟩ := h
        apply AW.step
        ·simp [nth_d e19]
         intros; rfl
        refine AW.stepYK ?_
        apply xopsY.yield hY1 0 3 rfl rfl rfl (by decide)
        ·simp
         intros; rfl
        ·rfl
        ·first | trivial | simp
        ·rfl
        ·rfl
        ·simp [puts]; rfl
        intro cxR1 hnR1
        have hnS1 : cxR1.nb = 0 := hnR1.trans hnJ1
        apply AW.last
        ·simp
         intros; rfl
        refine ⟨rfl, ?_⟩
        replace h := bnE h; obtain ⟨y20, g20, h⟩ := h
        refine AW.flowR (p := fun gh ls => (sp (nP (cx := cxR1) (fun _ => (⟨[], [some ⟨34, 5, false, none, [.s (.int .i64 a0.kind), .s (.string a0.s), .d false 2 (encField a0.f), .d false 1 (encS a0.l), .s (.int .i64 a0.exp)]⟩, some ⟨4, 1, false, none, [.s (.bool false)]⟩, some ⟨34, 5, false, none, [.s (.int .i64 v8.kind), .s (.string v8.s), .d false 2 (encField v8.f), .d false 1 (encS v8.l), .s (.int .i64 v8.exp)]⟩, some ⟨105, 2, false, none, [.s (.string v19.name), .s (.string v19.val)]⟩], 23, gh, ls⟩ : St))) (tP (cx := cxR1) (fun _ => (⟨[], [some ⟨34, 5, false, none, [.s (.int .i64 a0.kind), .s (.string a0.s), .d false 2 (encField a0.f), .d false 1 (encS a0.l), .s (.int .i64 a0.exp)]⟩, some ⟨4, 1, false, none, [.s (.bool false)]⟩, some ⟨34, 5, false, none, [.s (.int .i64 v8.kind), .s (.string v8.s), .d false 2 (encField v8.f), .d false 1 (encS v8.l), .s (.int .i64 v8.exp)]⟩, some ⟨105, 2, false, none, [.s (.string v19.name), .s (.string v19.val)]⟩], 23, gh, ls⟩ : St)))) y20) ?_ ?_
        ·replace h := g20; clear g20
         refine AW.block ?_
         replace h := ltE h; obtain ⟨v21, e21, h⟩ := h
         replace h := ltE h; obtain ⟨v22, e22, h⟩ := h
         apply AW.step
         ·simp [← e21, ← e22]
          intros; rfl
         cases v22 with
         | true =>
          replace h := iteT rfl h
          refine AW.cond_true (by simp) ?_
          apply AW.step
          ·simp
           intros; rfl
          obtain rfl := Option.some.inj h
          refine AW.ret ?_
          try simp only [sp_l, sp_r, Post.seq, Post.block, Nat.reduceEqDiff, reduceIte, Nat.zero_ne_one, Nat.one_ne_zero]
          try simp only [sp_l, sp_r]
          refine tP_i ?_
          refine Weak.mixB 0 [some 0, some 1, some 2, some 3] hnS1 (by decide) (by decide) ?_ ?_ ?_
          all_goals first | (simp [inv_cons, inv_nil, pickOb]; done) | rfl
         | false =>
          replace h := iteF rfl h
          refine AW.cond_false (by simp) ?_
          refine AW.skip ?_
          try simp only [sp_l, sp_r, Post.seq, Post.block, Nat.reduceEqDiff, reduceIte, Nat.zero_ne_one, Nat.one_ne_zero]
          obtain rfl := Option.some.inj h
          try simp only [sp_l, sp_r]
          refine nP_i ?_
          refine Weak.mixB 0 [some 0, some 1, some 2, some 3] hnS1 (by decide) (by decide) ?_ ?_ ?_
          all_goals first | (simp [inv_cons, inv_nil, pickOb]; done) | rfl
        ·rintro e s hp
         rcases y20 with y23 | y24
         ·replace h := smL h
          obtain ⟨rfl, hw⟩ := hp
          refine ⟨_, hw, ?_⟩
          try simp only [sp_l, sp_r, Post.seq, Post.block, Nat.reduceEqDiff, reduceIte, Nat.zero_ne_one, Nat.one_ne_zero]
          refine ⟨_, _, rfl, ?_⟩
          apply xopsY.yield hY1 4 9 rfl rfl rfl (by decide)
          ·simp
           intros; rfl
          ·rfl
          ·first | trivial | simp
          ·rfl
          ·rfl
          ·simp [puts]; rfl
          intro cxR1 hnR1
          have hnS1 : cxR1.nb = 0 := hnR1.trans hnJ1
          apply AW.last
          ·simp
           intros; rfl
          refine ⟨rfl, ?_⟩
          replace h := bnE h; obtain ⟨y25, g25, h⟩ := h
          refine AW.flowR (p := fun gh ls => (sp (nP (cx := cxR1) (fun _ => (⟨[], [some ⟨34, 5, false, none, [.s (.int .i64 a0.kind), .s (.string a0.s), .d false 2 (encField a0.f), .d false 1 (encS a0.l), .s (.int .i64 a0.exp)]⟩, some ⟨4, 1, false, none, [.s (.bool false)]⟩, some ⟨34, 5, false, none, [.s (.int .i64 v8.kind), .s (.string v8.s), .d false 2 (encField v8.f), .d false 1 (encS v8.l), .s (.int .i64 v8.exp)]⟩, some ⟨105, 2, false, none, [.s (.string v19.name), .s (.string v19.val)]⟩], 23, gh, ls⟩ : St))) (tP (cx := cxR1) (fun _ => (⟨[], [some ⟨34, 5, false, none, [.s (.int .i64 a0.kind), .s (.string a0.s), .d false 2 (encField a0.f), .d false 1 (encS a0.l), .s (.int .i64 a0.exp)]⟩, some ⟨4, 1, false, none, [.s (.bool false)]⟩, some ⟨34, 5, false, none, [.s (.int .i64 v8.kind), .s (.string v8.s), .d false 2 (encField v8.f), .d false 1 (encS v8.l), .s (.int .i64 v8.exp)]⟩, some ⟨105, 2, false, none, [.s (.string v19.name), .s (.string v19.val)]⟩], 23, gh, ls⟩ : St)))) y25) ?_ ?_
          ·replace h := g25; clear g25
           refine AW.block ?_
           replace h := ltE h; obtain ⟨v26, e26, h⟩ := h
           replace h := ltE h; obtain ⟨v27, e27, h⟩ := h
           apply AW.step
           ·simp [← e26, ← e27]
            intros; rfl
           cases v27 with
           | true =>
            replace h := iteT rfl h
            refine AW.cond_true (by simp) ?_
            apply AW.step
            ·simp
             intros; rfl
            obtain rfl := Option.some.inj h
            refine AW.ret ?_
            try simp only [sp_l, sp_r, Post.seq, Post.block, Nat.reduceEqDiff, reduceIte, Nat.zero_ne_one, Nat.one_ne_zero]
            try simp only [sp_l, sp_r]
            refine tP_i ?_
            refine Weak.mixB 0 [some 0, some 1, some 2, some 3] hnS1 (by decide) (by decide) ?_ ?_ ?_
            all_goals first | (simp [inv_cons, inv_nil, pickOb]; done) | rfl
           | false =>
            replace h := iteF rfl h
            refine AW.cond_false (by simp) ?_
            refine AW.skip ?_
            try simp only [sp_l, sp_r, Post.seq, Post.block, Nat.reduceEqDiff, reduceIte, Nat.zero_ne_one, Nat.one_ne_zero]
            obtain rfl := Option.some.inj h
            try simp only [sp_l, sp_r]
            refine nP_i ?_
            refine Weak.mixB 0 [some 0, some 1, some 2, some 3] hnS1 (by decide) (by decide) ?_ ?_ ?_
            all_goals first | (simp [inv_cons, inv_nil, pickOb]; done) | rfl
          ·rintro e s hp
           rcases y25 with y28 | y29
           ·replace h := smL h
            obtain ⟨rfl, hw⟩ := hp
            refine ⟨_, hw, ?_⟩
            try simp only [sp_l, sp_r, Post.seq, Post.block, Nat.reduceEqDiff, reduceIte, Nat.zero_ne_one, Nat.one_ne_zero]
            refine ⟨_, _, rfl, ?_⟩
            refine xops_Y _ _ _ rfl ?_
            simp [puts]
            try intros
            unfold KK
            refine AW.cond_false (by simp) ?_
            refine AW.skip ?_
            try simp only [sp_l, sp_r, Post.seq, Post.block, Nat.reduceEqDiff, reduceIte, Nat.zero_ne_one, Nat.one_ne_zero]
            try simp only [sp_l, sp_r, Post.seq, Post.block, Nat.reduceEqDiff, reduceIte, Nat.zero_ne_one, Nat.one_ne_zero]
            replace h := ltE h; obtain ⟨v30, e30, h⟩ := h
            apply AW.last
            ·simp [← e30]
             intros; rfl
            obtain rfl := Option.some.inj h
            refine nP_i ?_
            refine Weak.mixB 0 [some 0, some 1, some 2] hnJ1 (by decide) (by decide) ?_ ?_ ?_
            all_goals first | (simp [inv_cons, inv_nil, pickOb]; done) | rfl
           ·replace h := smR h
            obtain ⟨rfl, hw⟩ := hp
            refine ⟨_, hw, ?_⟩
            try simp only [sp_l, sp_r, Post.seq, Post.block, Nat.reduceEqDiff, reduceIte, Nat.zero_ne_one, Nat.one_ne_zero]
            refine ⟨_, _, rfl, ?_⟩
            refine xops_Y _ _ _ rfl ?_
            simp [puts]
            try intros
            unfold KK
            refine AW.cond_true (by simp) ?_
            obtain rfl := Option.some.inj h
            refine AW.ret ?_
            try simp only [sp_l, sp_r, Post.seq, Post.block, Nat.reduceEqDiff, reduceIte, Nat.zero_ne_one, Nat.one_ne_zero]
            try simp only [sp_l, sp_r]
            refine tP_i ?_
            refine Weak.mixB 0 [some 0, some 1, some 2] hnJ1 (by decide) (by decide) ?_ ?_ ?_
            all_goals first | (simp [inv_cons, inv_nil, pickOb]; done) | rfl
         ·replace h := smR h
          obtain ⟨rfl, hw⟩ := hp
          refine ⟨_, hw, ?_⟩
          try simp only [sp_l, sp_r, Post.seq, Post.block, Nat.reduceEqDiff, reduceIte, Nat.zero_ne_one, Nat.one_ne_zero]
          refine ⟨_, _, rfl, ?_⟩
          refine xops_Y _ _ _ rfl ?_
          simp [puts]
          try intros
          unfold KK
          refine AW.cond_true (by simp) ?_
          obtain rfl := Option.some.inj h
          refine AW.ret ?_
          try simp only [sp_l, sp_r, Post.seq, Post.block, Nat.reduceEqDiff, reduceIte, Nat.zero_ne_one, Nat.one_ne_zero]
          try simp only [sp_l, sp_r]
          refine tP_i ?_
          refine Weak.mixB 0 [some 0, some 1, some 2] hnJ1 (by decide) (by decide) ?_ ?_ ?_
          all_goals first | (simp [inv_cons, inv_nil, pickOb]; done) | rfl
       | false =>
        replace h := iteF rfl h
        refine AW.cond_false (by simp) ?_
        refine AW.exit ?_
        try simp only [sp_l, sp_r, Post.seq, Post.block, Nat.reduceEqDiff, reduceIte, Nat.zero_ne_one, Nat.one_ne_zero]
        obtain rfl := Option.some.inj h
        try simp only [sp_l, sp_r]
        refine xP_i ?_
        refine Weak.mixB 0 [some 0, some 1, some 2] hnJ1 (by decide) (by decide) ?_ ?_ ?_
        all_goals first | (simp [inv_cons, inv_nil, pickOb]; done) | rfl
      ·rintro e s hp
       rcases y16 with y31 | y32
       ·replace h := smL h
        obtain ⟨rfl, hw⟩ := hp
        refine ⟨_, hw, ?_⟩
        try simp only [sp_l, sp_r, Post.seq, Post.block, Nat.reduceEqDiff, reduceIte, Nat.zero_ne_one, Nat.one_ne_zero]
        replace h := ltE h; obtain ⟨v33, e33, h⟩ := h
        apply AW.step
        ·simp [lenI_cast e33]
         intros; rfl
        refine AW.block ?_
        replace h := bnE h; obtain ⟨y35, g35, h⟩ := h
        refine AW.iterP g35 (mk := fun gh ls q => (⟨[(0, .l (.s (.func (.yield yl1) #[] #[]))), (33, .l (.d false 1 (encS v8.l))), (34, .l (.s (.int .i64 v33))), (35, .l (.s (.int .i64 q)))], [some ⟨34, 5, false, none, [.s (.int .i64 a0.kind), .s (.string a0.s), .d false 2 (encField a0.f), .d false 1 (encS a0.l), .s (.int .i64 a0.exp)]⟩, some ⟨4, 1, false, none, [.s (.bool false)]⟩, some ⟨34, 5, false, none, [.s (.int .i64 v8.kind), .s (.string v8.s), .d false 2 (encField v8.f), .d false 1 (encS v8.l), .s (.int .i64 v8.exp)]⟩], 44, gh, ls⟩ : St)) (N := fun gh ls => (sp (xP 2 (cx := cxI1) (fun _ => (⟨[], [some ⟨34, 5, false, none, [.s (.int .i64 a0.kind), .s (.string a0.s), .d false 2 (encField a0.f), .d false 1 (encS a0.l), .s (.int .i64 a0.exp)]⟩, some ⟨4, 1, false, none, [.s (.bool false)]⟩, some ⟨34, 5, false, none, [.s (.int .i64 v8.kind), .s (.string v8.s), .d false 2 (encField v8.f), .d false 1 (encS v8.l), .s (.int .i64 v8.exp)]⟩], 44, gh, ls⟩ : St))) (tP (cx := cxI1) (fun _ => (⟨[], [some ⟨34, 5, false, none, [.s (.int .i64 a0.kind), .s (.string a0.s), .d false 2 (encField a0.f), .d false 1 (encS a0.l), .s (.int .i64 a0.exp)]⟩, some ⟨4, 1, false, none, [.s (.bool false)]⟩, some ⟨34, 5, false, none, [.s (.int .i64 v8.kind), .s (.string v8.s), .d false 2 (encField v8.f), .d false 1 (encS v8.l), .s (.int .i64 v8.exp)]⟩], 44, gh, some .ret⟩ : St))))) ?_ (noS noX noT) ?_ ?_
        ·refine Weak.mixB 0 [some 0, some 1, some 2] hnJ1 (by decide) (by decide) ?_ ?_ ?_
         all_goals first | (simp [inv_cons, inv_nil, pickOb]; done) | rfl
        ·clear h; intro y34 y36 h
         replace h := ltE h; obtain ⟨v37, e37, h⟩ := h
         apply AW.step
         ·simp [← e37]
          intros; rfl
         refine AW.seq ?_
         cases v37 with
         | true =>
          replace h := iteT rfl h
          refine AW.cond_true (by simp) ?_
          refine AW.skip ?_
          try simp only [sp_l, sp_r, Post.seq, Post.block, Nat.reduceEqDiff, reduceIte, Nat.zero_ne_one, Nat.one_ne_zero]
          try simp only [sp_l, sp_r, Post.seq, Post.block, Nat.reduceEqDiff, reduceIte, Nat.zero_ne_one, Nat.one_ne_zero]
          refine AW.seq ?_
          refine AW.block ?_
          replace h := bnE h; obtain ⟨v38, e38, h⟩ := h
          apply AW.step
          ·simp [nth_d e38]
           intros; rfl
          refine AW.stepYK ?_
          apply xopsY.yield hY1 0 2 rfl rfl rfl (by decide)
          ·simp
           intros; rfl
          ·rfl
          ·first | trivial | simp
          ·rfl
          ·rfl
          ·simp [puts]; rfl
          intro cxR1 hnR1
          have hnS1 : cxR1.nb = 0 := hnR1.trans hnJ1
          apply AW.last
          ·simp
           intros; rfl
          refine ⟨rfl, ?_⟩
          replace h := bnE h; obtain ⟨y39, g39, h⟩ := h
          refine AW.flowR (p := fun gh ls => (sp (nP (cx := cxR1) (fun _ => (⟨[], [some ⟨34, 5, false, none, [.s (.int .i64 a0.kind), .s (.string a0.s), .d false 2 (encField a0.f), .d false 1 (encS a0.l), .s (.int .i64 a0.exp)]⟩, some ⟨4, 1, false, none, [.s (.bool false)]⟩, some ⟨34, 5, false, none, [.s (.int .i64 v8.kind), .s (.string v8.s), .d false 2 (encField v8.f), .d false 1 (encS v8.l), .s (.int .i64 v8.exp)]⟩], 23, gh, ls⟩ : St))) (tP (cx := cxR1) (fun _ => (⟨[], [some ⟨34, 5, false, none, [.s (.int .i64 a0.kind), .s (.string a0.s), .d false 2 (encField a0.f), .d false 1 (encS a0.l), .s (.int .i64 a0.exp)]⟩, some ⟨4, 1, false, none, [.s (.bool false)]⟩, some ⟨34, 5, false, none, [.s (.int .i64 v8.kind), .s (.string v8.s), .d false 2 (encField v8.f), .d false 1 (encS v8.l), .s (.int .i64 v8.exp)]⟩], 23, gh, ls⟩ : St)))) y39) ?_ ?_
          ·replace h := g39; clear g39
           refine AW.block ?_
           replace h := ltE h; obtain ⟨v40, e40, h⟩ := h
           replace h := ltE h; obtain ⟨v41, e41, h⟩ := h
           apply AW.step
           ·simp [← e40, ← e41]
            intros; rfl
           cases v41 with
           | true =>
            replace h := iteT rfl h
            refine AW.cond_true (by simp) ?_
            apply AW.step
            ·simp
             intros; rfl
            obtain rfl := Option.some.inj h
            refine AW.ret ?_
            try simp only [sp_l, sp_r, Post.seq, Post.block, Nat.reduceEqDiff, reduceIte, Nat.zero_ne_one, Nat.one_ne_zero]
            try simp only [sp_l, sp_r]
            refine tP_i ?_
            refine Weak.mixB 0 [some 0, some 1, some 2] hnS1 (by decide) (by decide) ?_ ?_ ?_
            all_goals first | (simp [inv_cons, inv_nil, pickOb]; done) | rfl
           | false =>
            replace h := iteF rfl h
            refine AW.cond_false (by simp) ?_
            refine AW.skip ?_
            try simp only [sp_l, sp_r, Post.seq, Post.block, Nat.reduceEqDiff, reduceIte, Nat.zero_ne_one, Nat.one_ne_zero]
            obtain rfl := Option.some.inj h
            try simp only [sp_l, sp_r]
            refine nP_i ?_
            refine Weak.mixB 0 [some 0, some 1, some 2] hnS1 (by decide) (by decide) ?_ ?_ ?_
            all_goals first | (simp [inv_cons, inv_nil, pickOb]; done) | rfl
          ·rintro e s hp
           rcases y39 with y42 | y43
           ·replace h := smL h
            obtain ⟨rfl, hw⟩ := hp
            refine ⟨_, hw, ?_⟩
            try simp only [sp_l, sp_r, Post.seq, Post.block, Nat.reduceEqDiff, reduceIte, Nat.zero_ne_one, Nat.one_ne_zero]
            refine ⟨_, _, rfl, ?_⟩
            refine xops_Y _ _ _ rfl ?_
            simp [puts]
            try intros
            unfold KK
            refine AW.cond_false (by simp) ?_
            refine AW.skip ?_
            try simp only [sp_l, sp_r, Post.seq, Post.block, Nat.reduceEqDiff, reduceIte, Nat.zero_ne_one, Nat.one_ne_zero]
            try simp only [sp_l, sp_r, Post.seq, Post.block, Nat.reduceEqDiff, reduceIte, Nat.zero_ne_one, Nat.one_ne_zero]
            replace h := ltE h; obtain ⟨v44, e44, h⟩ := h
            apply AW.last
            ·simp [← e44]
             intros; rfl
            obtain rfl := Option.some.inj h
            refine nP_i ?_
            refine Weak.mixB 0 [some 0, some 1, some 2] hnJ1 (by decide) (by decide) ?_ ?_ ?_
            all_goals first | (simp [inv_cons, inv_nil, pickOb]; done) | rfl
           ·replace h := smR h
            obtain ⟨rfl, hw⟩ := hp
            refine ⟨_, hw, ?_⟩
            try simp only [sp_l, sp_r, Post.seq, Post.block, Nat.reduceEqDiff, reduceIte, Nat.zero_ne_one, Nat.one_ne_zero]
            refine ⟨_, _, rfl, ?_⟩
            refine xops_Y _ _ _ rfl ?_
            simp [puts]
            try intros
            unfold KK
            refine AW.cond_true (by simp) ?_
            obtain rfl := Option.some.inj h
            refine AW.ret ?_
            try simp only [sp_l, sp_r, Post.seq, Post.block, Nat.reduceEqDiff, reduceIte, Nat.zero_ne_one, Nat.one_ne_zero]
            try simp only [sp_l, sp_r]
            refine tP_i ?_
            refine Weak.mixB 0 [some 0, some 1, some 2] hnJ1 (by decide) (by decide) ?_ ?_ ?_
            all_goals first | (simp [inv_cons, inv_nil, pickOb]; done) | rfl
         | false =>
          replace h := iteF rfl h
          refine AW.cond_false (by simp) ?_
          refine AW.exit ?_
          try simp only [sp_l, sp_r, Post.seq, Post.block, Nat.reduceEqDiff, reduceIte, Nat.zero_ne_one, Nat.one_ne_zero]
          obtain rfl := Option.some.inj h
          try simp only [sp_l, sp_r]
          refine xP_i ?_
          refine Weak.mixB 0 [some 0, some 1, some 2] hnJ1 (by decide) (by decide) ?_ ?_ ?_
          all_goals first | (simp [inv_cons, inv_nil, pickOb]; done) | rfl
        ·rintro e s hp
         rcases y35 with y45 | y46
         ·replace h := smL h
          obtain ⟨rfl, hw⟩ := hp
          refine ⟨_, hw, ?_⟩
          try simp only [sp_l, sp_r, Post.seq, Post.block, Nat.reduceEqDiff, reduceIte, Nat.zero_ne_one, Nat.one_ne_zero]
          refine ⟨_, _, rfl, ?_⟩
          try simp only []
          try simp only [sp_l, sp_r, Post.seq, Post.block, Nat.reduceEqDiff, reduceIte, Nat.zero_ne_one, Nat.one_ne_zero]
          obtain rfl := Option.some.inj h
          try simp only [sp_l, sp_r]
          refine nP_i ?_
          refine Weak.mixN [some 1] hn0 (by decide) ?_ ?_ rfl
          all_goals first | (simp [inv_cons, inv_nil, pickOb]; done) | rfl
         ·replace h := smR h
          obtain ⟨rfl, hw⟩ := hp
          refine ⟨_, hw, ?_⟩
          try simp only [sp_l, sp_r, Post.seq, Post.block, Nat.reduceEqDiff, reduceIte, Nat.zero_ne_one, Nat.one_ne_zero]
          refine ⟨_, _, rfl, ?_⟩
          try simp only []
          obtain rfl := Option.some.inj h
          refine AW.ret ?_
          try simp only [sp_l, sp_r, Post.seq, Post.block, Nat.reduceEqDiff, reduceIte, Nat.zero_ne_one, Nat.one_ne_zero]
          refine rP_i ?_
          refine Left.plain hnb (by simp [Try.f102, resV, resC, comp]; rfl) rfl rfl ?_
          simp
       ·replace h := smR h
        obtain ⟨rfl, hw⟩ := hp
        refine ⟨_, hw, ?_⟩
        try simp only [sp_l, sp_r, Post.seq, Post.block, Nat.reduceEqDiff, reduceIte, Nat.zero_ne_one, Nat.one_ne_zero]
        refine ⟨_, _, rfl, ?_⟩
        try simp only []
        obtain rfl := Option.some.inj h
        refine AW.ret ?_
        try simp only [sp_l, sp_r, Post.seq, Post.block, Nat.reduceEqDiff, reduceIte, Nat.zero_ne_one, Nat.one_ne_zero]
        refine rP_i ?_
        refine Left.plain hnb (by simp [Try.f102, resV, resC, comp]; rfl) rfl rfl ?_
        simp
     ·replace h := smR h
      obtain ⟨rfl, hw⟩ := hp
      refine ⟨_, hw, ?_⟩
      try simp only [sp_l, sp_r, Post.seq, Post.block, Nat.reduceEqDiff, reduceIte, Nat.zero_ne_one, Nat.one_ne_zero]
      refine ⟨_, _, rfl, ?_⟩
      refine xops_Y _ _ _ rfl ?_
      simp [puts]
      try intros
      unfold KK
      refine AW.cond_true (by simp) ?_
      refine AW.ret ?_
      refine ⟨_, _, rfl, ?_⟩
      try simp only []
      obtain rfl := Option.some.inj h
      refine AW.ret ?_
      try simp only [sp_l, sp_r, Post.seq, Post.block, Nat.reduceEqDiff, reduceIte, Nat.zero_ne_one, Nat.one_ne_zero]
      refine rP_i ?_
      refine Left.plain hnb (by simp [Try.f102, resV, resC, comp]; rfl) rfl rfl ?_
      simp
   ·rintro e s hp
    rcases y7 with y47 | y48
    ·replace h := smL h
     obtain ⟨rfl, hw⟩ := hp
     refine ⟨_, hw, ?_⟩
     try simp only [sp_l, sp_r, Post.seq, Post.block, Nat.reduceEqDiff, reduceIte, Nat.zero_ne_one, Nat.one_ne_zero]
     apply AW.step
     ·simp
      intros; rfl
     obtain rfl := Option.some.inj h
     refine AW.ret ?_
     refine Left.plain hnb (by simp [Try.f102, resV, resC, comp]; rfl) rfl rfl ?_
     simp
    ·replace h := smR h
     obtain ⟨rfl, hl⟩ := hp
     refine ⟨_, Weak.refl _, ?_⟩
     obtain rfl := Option.some.inj h
     exact hl
theorem en_item_May : Enters Try.prog 102 := enters Try.func102 (by kernel_rfl) rfl
def space_May_sh (n : Nat) (a0 : List Pair) : Option Bool :=
lt (lenI a0) fun v1 =>
bn (iter n (fun (y2 : Int) =>
lt (ltI y2 v1) fun v5 =>
ite' v5 (bn (nth a0 y2) fun v6 =>
bn (lt (lenS v6.key) fun v8 =>
lt (gtI v8 40) fun v9 =>
ite' v9 (some (true)) (lt (gtI y2 0) fun v10 =>
ite' v10 (lt (subI .i64 y2 1) fun v11 =>
bn (nth a0 v11) fun v12 =>
lt (geS v12.key v6.key) fun v13 =>
ite' v13 (some (true)) (bn (item_May_sh n v6.item) fun v14 =>
lt (notB v14) fun v15 =>
some (v15))) (bn (item_May_sh n v6.item) fun v16 =>
lt (notB v16) fun v17 =>
some (v17)))) fun (y7 : Bool) =>
lt (y7) fun v18 =>
ite' v18 (some (.inr (.inr false))) (lt (addI .i64 y2 1) fun v19 =>
some (.inl v19))) (some (.inr (.inl ())))) 0) fun (y3 : Unit ⊕ Bool) =>
sm y3 (fun y20 => some true) (fun y21 => some y21)
set_option maxRecDepth 8000 in
set_option maxHeartbeats 8000000 in
theorem s_space_May {n : Nat} {a0 : List Pair} {r : Bool} (h : space_May_sh n a0 = some r) : Sound Try.prog 63 [.l (.d false 6 (encPair a0))] [] (.l (.s (.bool r))) [] := by
 unfold space_May_sh at h
 refine Sound.of_aw (fn := Try.f63) (c := _) Try.func63 rfl (by simp [Try.f63]) fun cx hG hnb => ?_
 rw [show Try.f63.ntmps = 38 from rfl]
 have hn0 : cx.nb = 0 := hnb
 simp only [st0_mk, initTm, List.map_cons, List.map_nil]
 apply AW.step
 ·simp
  intros; rfl
 refine AW.seq ?_
 replace h := ltE h; obtain ⟨v1, e1, h⟩ := h
 apply AW.step
 ·simp [lenI_cast e1]
  intros; rfl
 refine AW.block ?_
 replace h := bnE h; obtain ⟨y3, g3, h⟩ := h
 refine AW.iterP g3 (mk := fun gh ls q => (⟨[(0, .l (.d false 6 (encPair a0))), (5, .l (.d false 6 (encPair a0))), (6, .l (.s (.int .i64 v1))), (7, .l (.s (.int .i64 q)))], [], 38, gh, ls⟩ : St)) (N := fun gh ls => (sp (xP 0 (cx := cx) (fun _ => (⟨[], [], 38, gh, ls⟩ : St))) (rP (cx := cx) (P := Try.prog) Try.f63 (fun q => .l (.s (.bool q))) (fun q => [])))) ?_ (noS noX noR) ?_ ?_
 ·refine Weak.mixN [] hn0 (by decide) ?_ ?_ rfl
  all_goals first | (simp [inv_cons, inv_nil, pickOb]; done) | rfl
 ·clear h; intro y2 y4 h
  replace h := ltE h; obtain ⟨v5, e5, h⟩ := h
  apply AW.step
  ·simp [← e5]
   intros; rfl
  refine AW.seq ?_
  cases v5 with
  | true =>
   replace h := iteT rfl h
   refine AW.cond_true (by simp) ?_
   refine AW.skip ?_
   try simp only [sp_l, sp_r, Post.seq, Post.block, Nat.reduceEqDiff, reduceIte, Nat.zero_ne_one, Nat.one_ne_zero]
   try simp only [sp_l, sp_r, Post.seq, Post.block, Nat.reduceEqDiff, reduceIte, Nat.zero_ne_one, Nat.one_ne_zero]
   refine AW.seq ?_
   refine AW.block ?_
   replace h := bnE h; obtain ⟨v6, e6, h⟩ := h
   apply AW.step
   ·simp [nth_d e6]
    intros; rfl
   replace h := bnE h; obtain ⟨y7, g7, h⟩ := h
   refine AW.flow (p := fun gh ls => (nP (cx := cx) (fun q => (⟨[(0, .l (.d false 6 (encPair a0))), (5, .l (.d false 6 (encPair a0))), (6, .l (.s (.int .i64 v1))), (7, .l (.s (.int .i64 y2))), (36, .l (.s (.bool q)))], [], 38, gh, ls⟩ : St))) y7) ?_ ?_
   ·replace h := g7; clear g7
    replace h := ltE h; obtain ⟨v8, e8, h⟩ := h
    replace h := ltE h; obtain ⟨v9, e9, h⟩ := h
    cases v9 with
    | true =>
     replace h := iteT rfl h
     apply AW.drawnR (V := [_, _, _, _, _, _, _, _, _, _, _, _, _, _, _, _]) mixed [⟨[0], [], [(4, none)], false⟩, ⟨[0], [0], [(12, some 0)], false⟩, ⟨[0], [0, 1], [(13, some 1)], false⟩, ⟨[0], [0, 1, 2], [(14, some 2)], false⟩, ⟨[0], [0, 1, 2, 3], [(15, some 3)], false⟩, ⟨[0], [0, 1, 2, 3, 4], [(3, none), (16, some 4)], false⟩, ⟨[0], [0, 1, 2, 3, 4, 5], [(16, some 4), (17, some 5)], false⟩, ⟨[0], [0, 1, 2, 3, 4, 5, 6], [(16, some 4), (18, some 6)], false⟩, ⟨[0], [0, 1, 2, 3, 4, 5, 6, 7], [(0, none), (19, some 7)], false⟩, ⟨[0], [0, 1, 2, 3, 4, 5, 6, 7], [(3, none), (19, some 7)], false⟩, ⟨[0], [0, 1, 2, 3, 4, 5, 6, 7, 9], [(19, some 7), (21, some 9)], false⟩, ⟨[0], [0, 1, 2, 3, 4, 5, 6, 7, 8, 9, 10], [(19, some 7), (20, some 8), (22, some 10)], false⟩, ⟨[0], [0, 1, 2, 3, 4, 5, 6, 7, 8, 9, 10, 11], [(19, some 7), (23, some 11)], false⟩, ⟨[0], [0, 1, 2, 3, 4, 5, 6, 7, 8, 9, 10, 11, 12], [(19, some 7), (24, some 12)], false⟩, ⟨[0], [0, 1, 2, 3, 4, 5, 6, 7], [(4, none), (19, some 7)], false⟩, ⟨[0], [0, 1, 2, 3, 4, 5, 6, 7, 14], [(19, some 7), (26, some 14)], false⟩, ⟨[], [0, 1, 2, 3, 4, 5, 6, 7, 8, 9, 10, 11, 12, 13, 14, 15], [], false⟩, ⟨[], [0, 1, 2, 3, 4, 5, 6, 7, 8, 9, 10, 11, 12, 13, 14, 15, 16], [], false⟩, ⟨[], [0, 1, 2, 3, 4, 5, 6, 7, 8, 9, 10, 11, 12, 13, 14, 15, 16, 17], [], false⟩, ⟨[], [0, 1, 2, 3, 4, 5, 6, 7, 8, 9, 10, 11, 12, 13, 14, 15, 16, 17, 18], [], false⟩, ⟨[], [0, 1, 2, 3, 4, 5, 6, 7, 8, 9, 10, 11, 12, 13, 14, 15, 16, 17, 18, 19], [], false⟩, ⟨[], [0, 1, 2, 3, 4, 5, 6, 7, 8, 9, 10, 11, 12, 13, 14, 15, 16, 17, 18, 19, 20], [], false⟩, ⟨[], [0, 1, 2, 3, 4, 5, 6, 7, 8, 9, 10, 11, 12, 13, 14, 15, 16, 17, 18, 19, 20, 21], [], false⟩, ⟨[], [0, 1, 2, 3, 4, 5, 6, 7, 8, 9, 10, 11, 12, 13, 14, 15, 16, 17, 18, 19, 20, 21, 22], [], false⟩, ⟨[], [0, 1, 2, 3, 4, 5, 6, 7, 8, 9, 10, 11, 12, 13, 14, 15, 16, 17, 18, 19, 20, 21, 22, 23], [], false⟩] 16 (by kernel_rfl) (by kernel_rfl)
     ·refine ⟨?_, ?_, ?_, ?_, ?_, ?_, ?_, ?_, ?_, ?_, ?_, ?_, ?_, ?_, ?_, ?_, trivial⟩
      ·intro tm hr
       simp [AllL, rdV] at hr
       simp [hr, ← e8, ← e9]
       intros; first | exact KD.mk | exact KD.mkN
      ·intro tm hr
       simp [AllL, rdV] at hr
       simp [hr, ← e8, ← e9]
       intros; first | exact KD.mk | exact KD.mkN
      ·intro tm hr
       simp [AllL, rdV] at hr
       simp [hr, ← e8, ← e9]
       intros; first | exact KD.mk | exact KD.mkN
      ·intro tm hr
       simp [AllL, rdV] at hr
       simp [hr, ← e8, ← e9]
       intros; first | exact KD.mk | exact KD.mkN
      ·intro tm hr
       simp [AllL, rdV] at hr
       simp [hr, ← e8, ← e9]
       intros; first | exact KD.mk | exact KD.mkN
      ·intro tm hr
       simp [AllL, rdV] at hr
       simp [hr, ← e8, ← e9]
       intros; first | exact KD.mk | exact KD.mkN
      ·intro tm hr
       simp [AllL, rdV] at hr
       simp [hr, ← e8, ← e9]
       intros; first | exact KD.mk | exact KD.mkN
      ·intro tm hr
       simp [AllL, rdV] at hr
       simp [hr, ← e8, ← e9]
       intros; first | exact KD.mk | exact KD.mkN
      ·intro tm hr
       simp [AllL, rdV] at hr
       simp [hr, ← e8, ← e9]
       intros; first | exact KD.mk | exact KD.mkN
      ·intro tm hr
       simp [AllL, rdV] at hr
       simp [hr, ← e8, ← e9]
       intros; first | exact KD.mk | exact KD.mkN
      ·intro tm hr
       simp [AllL, rdV] at hr
       simp [hr, ← e8, ← e9]
       intros; first | exact KD.mk | exact KD.mkN
      ·intro tm hr
       simp [AllL, rdV] at hr
       simp [hr, ← e8, ← e9]
       intros; first | exact KD.mk | exact KD.mkN
      ·intro tm hr
       simp [AllL, rdV] at hr
       simp [hr, ← e8, ← e9]
       intros; first | exact KD.mk | exact KD.mkN
      ·intro tm hr
       simp [AllL, rdV] at hr
       simp [hr, ← e8, ← e9]
       intros; first | exact KD.mk | exact KD.mkN
      ·intro tm hr
       simp [AllL, rdV] at hr
       simp [hr, ← e8, ← e9]
       intros; first | exact KD.mk | exact KD.mkN
      ·intro tm hr
       simp [AllL, rdV] at hr
       simp [hr, ← e8, ← e9]
       intros; first | exact KD.mk | exact KD.mkN
     ·rfl
     ·simp [tmD, putD, ← e8, ← e9]; rfl
     ·simp [← e8, ← e9]
      intros; rfl
     obtain rfl := Option.some.inj h
     refine nP_i ?_
     refine Weak.mixN [] hn0 (by decide) ?_ ?_ rfl
     all_goals first | (simp [inv_cons, inv_nil, pickOb]; done) | rfl
    | false =>
     replace h := iteF rfl h
     replace h := ltE h; obtain ⟨v10, e10, h⟩ := h
     cases v10 with
     | true =>
      replace h := iteT rfl h
      replace h := ltE h; obtain ⟨v11, e11, h⟩ := h
      replace h := bnE h; obtain ⟨v12, e12, h⟩ := h
      replace h := ltE h; obtain ⟨v13, e13, h⟩ := h
      cases v13 with
      | true =>
       replace h := iteT rfl h
       apply AW.drawnR (V := [_, _, _, _, _, _, _, _, _, _, _, _, _, _, _, _]) mixed [⟨[0], [], [(4, none)], false⟩, ⟨[0], [0], [(12, some 0)], false⟩, ⟨[0], [0, 1], [(13, some 1)], false⟩, ⟨[0], [0, 1, 2], [(14, some 2)], false⟩, ⟨[0], [0, 1, 2, 3], [(15, some 3)], false⟩, ⟨[0], [0, 1, 2, 3, 4], [(3, none), (16, some 4)], false⟩, ⟨[0], [0, 1, 2, 3, 4, 5], [(16, some 4), (17, some 5)], false⟩, ⟨[0], [0, 1, 2, 3, 4, 5, 6], [(16, some 4), (18, some 6)], false⟩, ⟨[0], [0, 1, 2, 3, 4, 5, 6, 7], [(0, none), (19, some 7)], false⟩, ⟨[0], [0, 1, 2, 3, 4, 5, 6, 7], [(3, none), (19, some 7)], false⟩, ⟨[0], [0, 1, 2, 3, 4, 5, 6, 7, 9], [(19, some 7), (21, some 9)], false⟩, ⟨[0], [0, 1, 2, 3, 4, 5, 6, 7, 8, 9, 10], [(19, some 7), (20, some 8), (22, some 10)], false⟩, ⟨[0], [0, 1, 2, 3, 4, 5, 6, 7, 8, 9, 10, 11], [(19, some 7), (23, some 11)], false⟩, ⟨[0], [0, 1, 2, 3, 4, 5, 6, 7, 8, 9, 10, 11, 12], [(19, some 7), (24, some 12)], false⟩, ⟨[0], [0, 1, 2, 3, 4, 5, 6, 7], [(4, none), (19, some 7)], false⟩, ⟨[0], [0, 1, 2, 3, 4, 5, 6, 7, 14], [(19, some 7), (26, some 14)], false⟩, ⟨[], [0, 1, 2, 3, 4, 5, 6, 7, 8, 9, 10, 11, 12, 13, 14, 15], [], false⟩, ⟨[], [0, 1, 2, 3, 4, 5, 6, 7, 8, 9, 10, 11, 12, 13, 14, 15, 16], [], false⟩, ⟨[], [0, 1, 2, 3, 4, 5, 6, 7, 8, 9, 10, 11, 12, 13, 14, 15, 16, 17], [], false⟩, ⟨[], [0, 1, 2, 3, 4, 5, 6, 7, 8, 9, 10, 11, 12, 13, 14, 15, 16, 17, 18], [], false⟩, ⟨[], [0, 1, 2, 3, 4, 5, 6, 7, 8, 9, 10, 11, 12, 13, 14, 15, 16, 17, 18, 19], [], false⟩, ⟨[], [0, 1, 2, 3, 4, 5, 6, 7, 8, 9, 10, 11, 12, 13, 14, 15, 16, 17, 18, 19, 20], [], false⟩, ⟨[], [0, 1, 2, 3, 4, 5, 6, 7, 8, 9, 10, 11, 12, 13, 14, 15, 16, 17, 18, 19, 20, 21], [], false⟩, ⟨[], [0, 1, 2, 3, 4, 5, 6, 7, 8, 9, 10, 11, 12, 13, 14, 15, 16, 17, 18, 19, 20, 21, 22], [], false⟩, ⟨[], [0, 1, 2, 3, 4, 5, 6, 7, 8, 9, 10, 11, 12, 13, 14, 15, 16, 17, 18, 19, 20, 21, 22, 23], [], false⟩] 16 (by kernel_rfl) (by kernel_rfl)
       ·refine ⟨?_, ?_, ?_, ?_, ?_, ?_, ?_, ?_, ?_, ?_, ?_, ?_, ?_, ?_, ?_, ?_, trivial⟩
        ·intro tm hr
         simp [AllL, rdV] at hr
         simp [hr, ← e8, ← e9, ← e10, ← e11, nth_d e12, ← e13]
         intros; first | exact KD.mk | exact KD.mkN
        ·intro tm hr
         simp [AllL, rdV] at hr
         simp [hr, ← e8, ← e9, ← e10, ← e11, nth_d e12, ← e13]
         intros; first | exact KD.mk | exact KD.mkN
        ·intro tm hr
         simp [AllL, rdV] at hr
         simp [hr, ← e8, ← e9, ← e10, ← e11, nth_d e12, ← e13]
         intros; first | exact KD.mk | exact KD.mkN
        ·intro tm hr
         simp [AllL, rdV] at hr
         simp [hr, ← e8, ← e9, ← e10, ← e11, nth_d e12, ← e13]
         intros; first | exact KD.mk | exact KD.mkN
        ·intro tm hr
         simp [AllL, rdV] at hr
         simp [hr, ← e8, ← e9, ← e10, ← e11, nth_d e12, ← e13]
         intros; first | exact KD.mk | exact KD.mkN
        ·intro tm hr
         simp [AllL, rdV] at hr
         simp [hr, ← e8, ← e9, ← e10, ← e11, nth_d e12, ← e13]
         intros; first | exact KD.mk | exact KD.mkN
        ·intro tm hr
         simp [AllL, rdV] at hr
         simp [hr, ← e8, ← e9, ← e10, ← e11, nth_d e12, ← e13]
         intros; first | exact KD.mk | exact KD.mkN
        ·intro tm hr
         simp [AllL, rdV] at hr
         simp [hr, ← e8, ← e9, ← e10, ← e11, nth_d e12, ← e13]
         intros; first | exact KD.mk | exact KD.mkN
        ·intro tm hr
         simp [AllL, rdV] at hr
         simp [hr, ← e8, ← e9, ← e10, ← e11, nth_d e12, ← e13]
         intros; first | exact KD.mk | exact KD.mkN
        ·intro tm hr
         simp [AllL, rdV] at hr
         simp [hr, ← e8, ← e9, ← e10, ← e11, nth_d e12, ← e13]
         intros; first | exact KD.mk | exact KD.mkN
        ·intro tm hr
         simp [AllL, rdV] at hr
         simp [hr, ← e8, ← e9, ← e10, ← e11, nth_d e12, ← e13]
         intros; first | exact KD.mk | exact KD.mkN
        ·intro tm hr
         simp [AllL, rdV] at hr
         simp [hr, ← e8, ← e9, ← e10, ← e11, nth_d e12, ← e13]
         intros; first | exact KD.mk | exact KD.mkN
        ·intro tm hr
         simp [AllL, rdV] at hr
         simp [hr, ← e8, ← e9, ← e10, ← e11, nth_d e12, ← e13]
         intros; first | exact KD.mk | exact KD.mkN
        ·intro tm hr
         simp [AllL, rdV] at hr
         simp [hr, ← e8, ← e9, ← e10, ← e11, nth_d e12, ← e13]
         intros; first | exact KD.mk | exact KD.mkN
        ·intro tm hr
         simp [AllL, rdV] at hr
         simp [hr, ← e8, ← e9, ← e10, ← e11, nth_d e12, ← e13]
         intros; first | exact KD.mk | exact KD.mkN
        ·intro tm hr
         simp [AllL, rdV] at hr
         simp [hr, ← e8, ← e9, ← e10, ← e11, nth_d e12, ← e13]
         intros; first | exact KD.mk | exact KD.mkN
       ·rfl
       ·simp [tmD, putD, ← e8, ← e9, ← e10, ← e11, nth_d e12, ← e13]; rfl
       ·simp [← e8, ← e9, ← e10, ← e11, nth_d e12, ← e13]
        intros; rfl
       obtain rfl := Option.some.inj h
       refine nP_i ?_
       refine Weak.mixN [] hn0 (by decide) ?_ ?_ rfl
       all_goals first | (simp [inv_cons, inv_nil, pickOb]; done) | rfl
      | false =>
       replace h := iteF rfl h
       replace h := bnE h; obtain ⟨v14, e14, h⟩ := h
       replace h := ltE h; obtain ⟨v15, e15, h⟩ := h
       apply AW.drawnR (V := [_, _, _, _, _, _, _, _, _, _, _, _, _, _, _, _]) mixed [⟨[0], [], [(4, none)], false⟩, ⟨[0], [0], [(12, some 0)], false⟩, ⟨[0], [0, 1], [(13, some 1)], false⟩, ⟨[0], [0, 1, 2], [(14, some 2)], false⟩, ⟨[0], [0, 1, 2, 3], [(15, some 3)], false⟩, ⟨[0], [0, 1, 2, 3, 4], [(3, none), (16, some 4)], false⟩, ⟨[0], [0, 1, 2, 3, 4, 5], [(16, some 4), (17, some 5)], false⟩, ⟨[0], [0, 1, 2, 3, 4, 5, 6], [(16, some 4), (18, some 6)], false⟩, ⟨[0], [0, 1, 2, 3, 4, 5, 6, 7], [(0, none), (19, some 7)], false⟩, ⟨[0], [0, 1, 2, 3, 4, 5, 6, 7], [(3, none), (19, some 7)], false⟩, ⟨[0], [0, 1, 2, 3, 4, 5, 6, 7, 9], [(19, some 7), (21, some 9)], false⟩, ⟨[0], [0, 1, 2, 3, 4, 5, 6, 7, 8, 9, 10], [(19, some 7), (20, some 8), (22, some 10)], false⟩, ⟨[0], [0, 1, 2, 3, 4, 5, 6, 7, 8, 9, 10, 11], [(19, some 7), (23, some 11)], false⟩, ⟨[0], [0, 1, 2, 3, 4, 5, 6, 7, 8, 9, 10, 11, 12], [(19, some 7), (24, some 12)], false⟩, ⟨[0], [0, 1, 2, 3, 4, 5, 6, 7], [(4, none), (19, some 7)], false⟩, ⟨[0], [0, 1, 2, 3, 4, 5, 6, 7, 14], [(19, some 7), (26, some 14)], false⟩, ⟨[], [0, 1, 2, 3, 4, 5, 6, 7, 8, 9, 10, 11, 12, 13, 14, 15], [], false⟩, ⟨[], [0, 1, 2, 3, 4, 5, 6, 7, 8, 9, 10, 11, 12, 13, 14, 15, 16], [], false⟩, ⟨[], [0, 1, 2, 3, 4, 5, 6, 7, 8, 9, 10, 11, 12, 13, 14, 15, 16, 17], [], false⟩, ⟨[], [0, 1, 2, 3, 4, 5, 6, 7, 8, 9, 10, 11, 12, 13, 14, 15, 16, 17, 18], [], false⟩, ⟨[], [0, 1, 2, 3, 4, 5, 6, 7, 8, 9, 10, 11, 12, 13, 14, 15, 16, 17, 18, 19], [], false⟩, ⟨[], [0, 1, 2, 3, 4, 5, 6, 7, 8, 9, 10, 11, 12, 13, 14, 15, 16, 17, 18, 19, 20], [], false⟩, ⟨[], [0, 1, 2, 3, 4, 5, 6, 7, 8, 9, 10, 11, 12, 13, 14, 15, 16, 17, 18, 19, 20, 21], [], false⟩, ⟨[], [0, 1, 2, 3, 4, 5, 6, 7, 8, 9, 10, 11, 12, 13, 14, 15, 16, 17, 18, 19, 20, 21, 22], [], false⟩, ⟨[], [0, 1, 2, 3, 4, 5, 6, 7, 8, 9, 10, 11, 12, 13, 14, 15, 16, 17, 18, 19, 20, 21, 22, 23], [], false⟩] 16 (by kernel_rfl) (by kernel_rfl)
       ·refine ⟨?_, ?_, ?_, ?_, ?_, ?_, ?_, ?_, ?_, ?_, ?_, ?_, ?_, ?_, ?_, ?_, trivial⟩
        ·intro tm hr
         simp [AllL, rdV] at hr
         simp [hr, ← e8, ← e9, ← e10, ← e11, nth_d e12, ← e13, ← e15]
         intros; first | exact KD.mk | exact KD.mkN
        ·intro tm hr
         simp [AllL, rdV] at hr
         simp [hr, ← e8, ← e9, ← e10, ← e11, nth_d e12, ← e13, ← e15]
         intros; first | exact KD.mk | exact KD.mkN
        ·intro tm hr
         simp [AllL, rdV] at hr
         simp [hr, ← e8, ← e9, ← e10, ← e11, nth_d e12, ← e13, ← e15]
         intros; first | exact KD.mk | exact KD.mkN
        ·intro tm hr
         simp [AllL, rdV] at hr
         simp [hr, ← e8, ← e9, ← e10, ← e11, nth_d e12, ← e13, ← e15]
         intros; first | exact KD.mk | exact KD.mkN
        ·intro tm hr
         simp [AllL, rdV] at hr
         simp [hr, ← e8, ← e9, ← e10, ← e11, nth_d e12, ← e13, ← e15]
         intros; first | exact KD.mk | exact KD.mkN
        ·intro tm hr
         simp [AllL, rdV] at hr
         simp [hr, ← e8, ← e9, ← e10, ← e11, nth_d e12, ← e13, ← e15]
         intros; first | exact KD.mk | exact KD.mkN
        ·intro tm hr
         simp [AllL, rdV] at hr
         simp [hr, ← e8, ← e9, ← e10, ← e11, nth_d e12, ← e13, ← e15]
         intros; first | exact KD.mk | exact KD.mkN
        ·intro tm hr
         simp [AllL, rdV] at hr
         simp [hr, ← e8, ← e9, ← e10, ← e11, nth_d e12, ← e13, ← e15]
         intros; first | exact KD.mk | exact KD.mkN
        ·intro tm hr
         simp [AllL, rdV] at hr
         simp [hr, ← e8, ← e9, ← e10, ← e11, nth_d e12, ← e13, ← e15]
         intros; first | exact KD.mk | exact KD.mkN
        ·intro tm hr
         simp [AllL, rdV] at hr
         simp [hr, ← e8, ← e9, ← e10, ← e11, nth_d e12, ← e13, ← e15]
         intros; first | exact KD.mk | exact KD.mkN
        ·intro tm hr
         simp [AllL, rdV] at hr
         simp [hr, ← e8, ← e9, ← e10, ← e11, nth_d e12, ← e13, ← e15]
         intros; first | exact KD.mk | exact KD.mkN
        ·intro tm hr
         simp [AllL, rdV] at hr
         simp [hr, ← e8, ← e9, ← e10, ← e11, nth_d e12, ← e13, ← e15]
         intros; first | exact KD.mk | exact KD.mkN
        ·intro tm hr
         simp [AllL, rdV] at hr
         simp [hr, ← e8, ← e9, ← e10, ← e11, nth_d e12, ← e13, ← e15]
         intros; first | exact KD.mk | exact KD.mkN
        ·intro tm hr
         simp [AllL, rdV] at hr
         simp [hr, ← e8, ← e9, ← e10, ← e11, nth_d e12, ← e13, ← e15]
         intros; first | exact KD.mk | exact KD.mkN
        ·intro tm hr
         simp [AllL, rdV] at hr
         simp [hr, ← e8, ← e9, ← e10, ← e11, nth_d e12, ← e13, ← e15]
         intros; first | exact KD.mk | exact KD.mkN
        ·intro tm hr
         simp [AllL, rdV] at hr
         simp [hr, ← e8, ← e9, ← e10, ← e11, nth_d e12, ← e13, ← e15]
         intros; first | exact KD.mk | exact KD.mkN
       ·rfl
       ·simp [tmD, putD, ← e8, ← e9, ← e10, ← e11, nth_d e12, ← e13, ← e15]; rfl
       ·simp [← e8, ← e9, ← e10, ← e11, nth_d e12, ← e13, ← e15]
        intros
        refine xcall_plain en_item_May (s_item_May e14) rfl ⟨.same rfl, trivial⟩ ?_
        try simp [← e8, ← e9, ← e10, ← e11, nth_d e12, ← e13, ← e15]
        intros; rfl
       obtain rfl := Option.some.inj h
       refine nP_i ?_
       refine Weak.mixN [] hn0 (by decide) ?_ ?_ rfl
       all_goals first | (simp [inv_cons, inv_nil, pickOb]; done) | rfl
     | false =>
      replace h := iteF rfl h
      replace h := bnE h; obtain ⟨v16, e16, h⟩ := h
      replace h := ltE h; obtain ⟨v17, e17, h⟩ := h
      apply AW.drawnR (V := [_, _, _, _, _, _, _, _, _, _, _, _, _, _, _, _]) mixed [⟨[0], [], [(4, none)], false⟩, ⟨[0], [0], [(12, some 0)], false⟩, ⟨[0], [0, 1], [(13, some 1)], false⟩, ⟨[0], [0, 1, 2], [(14, some 2)], false⟩, ⟨[0], [0, 1, 2, 3], [(15, some 3)], false⟩, ⟨[0], [0, 1, 2, 3, 4], [(3, none), (16, some 4)], false⟩, ⟨[0], [0, 1, 2, 3, 4, 5], [(16, some 4), (17, some 5)], false⟩, ⟨[0], [0, 1, 2, 3, 4, 5, 6], [(16, some 4), (18, some 6)], false⟩, ⟨[0], [0, 1, 2, 3, 4, 5, 6, 7], [(0, none), (19, some 7)], false⟩, ⟨[0], [0, 1, 2, 3, 4, 5, 6, 7], [(3, none), (19, some 7)], false⟩, ⟨[0], [0, 1, 2, 3, 4, 5, 6, 7, 9], [(19, some 7), (21, some 9)], false⟩, ⟨[0], [0, 1, 2, 3, 4, 5, 6, 7, 8, 9, 10], [(19, some 7), (20, some 8), (22, some 10)], false⟩, ⟨[0], [0, 1, 2, 3, 4, 5, 6, 7, 8, 9, 10, 11], [(19, some 7), (23, some 11)], false⟩, ⟨[0], [0, 1, 2, 3, 4, 5, 6, 7, 8, 9, 10, 11, 12], [(19, some 7), (24, some 12)], false⟩, ⟨[0], [0, 1, 2, 3, 4, 5, 6, 7], [(4, none), (19, some 7)], false⟩, ⟨[0], [0, 1, 2, 3, 4, 5, 6, 7, 14], [(19, some 7), (26, some 14)], false⟩, ⟨[], [0, 1, 2, 3, 4, 5, 6, 7, 8, 9, 10, 11, 12, 13, 14, 15], [], false⟩, ⟨[], [0, 1, 2, 3, 4, 5, 6, 7, 8, 9, 10, 11, 12, 13, 14, 15, 16], [], false⟩, ⟨[], [0, 1, 2, 3, 4, 5, 6, 7, 8, 9, 10, 11, 12, 13, 14, 15, 16, 17], [], false⟩, ⟨[], [0, 1, 2, 3, 4, 5, 6, 7, 8, 9, 10, 11, 12, 13, 14, 15, 16, 17, 18], [], false⟩, ⟨[], [0, 1, 2, 3, 4, 5, 6, 7, 8, 9, 10, 11, 12, 13, 14, 15, 16, 17, 18, 19], [], false⟩, ⟨[], [0, 1, 2, 3, 4, 5, 6, 7, 8, 9, 10, 11, 12, 13, 14, 15, 16, 17, 18, 19, 20], [], false⟩, ⟨[], [0, 1, 2, 3, 4, 5, 6, 7, 8, 9, 10, 11, 12, 13, 14, 15, 16, 17, 18, 19, 20, 21], [], false⟩, ⟨[], [0, 1, 2, 3, 4, 5, 6, 7, 8, 9, 10, 11, 12, 13, 14, 15, 16, 17, 18, 19, 20, 21, 22], [], false⟩, ⟨[], [0, 1, 2, 3, 4, 5, 6, 7, 8, 9, 10, 11, 12, 13, 14, 15, 16, 17, 18, 19, 20, 21, 22, 23], [], false⟩] 16 (by kernel_rfl) (by kernel_rfl)
      ·refine ⟨?_, ?_, ?_, ?_, ?_, ?_, ?_, ?_, ?_, ?_, ?_, ?_, ?_, ?_, ?_, ?_, trivial⟩
       ·intro tm hr
        simp [AllL, rdV] at hr
        simp [hr, ← e8, ← e9, ← e10, ← e17]
        intros; first | exact KD.mk | exact KD.mkN
       ·intro tm hr
        simp [AllL, rdV] at hr
        simp [hr, ← e8, ← e9, ← e10, ← e17]
        intros; first | exact KD.mk | exact KD.mkN
       ·intro tm hr
        simp [AllL, rdV] at hr
        simp [hr, ← e8, ← e9, ← e10, ← e17]
        intros; first | exact KD.mk | exact KD.mkN
       ·intro tm hr
        simp [AllL, rdV] at hr
        simp [hr, ← e8, ← e9, ← e10, ← e17]
        intros; first | exact KD.mk | exact KD.mkN
       ·intro tm hr
        simp [AllL, rdV] at hr
        simp [hr, ← e8, ← e9, ← e10, ← e17]
        intros; first | exact KD.mk | exact KD.mkN
       ·intro tm hr
        simp [AllL, rdV] at hr
        simp [hr, ← e8, ← e9, ← e10, ← e17]
        intros; first | exact KD.mk | exact KD.mkN
       ·intro tm hr
        simp [AllL, rdV] at hr
        simp [hr, ← e8, ← e9, ← e10, ← e17]
        intros; first | exact KD.mk | exact KD.mkN
       ·intro tm hr
        simp [AllL, rdV] at hr
        simp [hr, ← e8, ← e9, ← e10, ← e17]
        intros; first | exact KD.mk | exact KD.mkN
       ·intro tm hr
        simp [AllL, rdV] at hr
        simp [hr, ← e8, ← e9, ← e10, ← e17]
        intros; first | exact KD.mk | exact KD.mkN
       ·intro tm hr
        simp [AllL, rdV] at hr
        simp [hr, ← e8, ← e9, ← e10, ← e17]
        intros; first | exact KD.mk | exact KD.mkN
       ·intro tm hr
        simp [AllL, rdV] at hr
        simp [hr, ← e8, ← e9, ← e10, ← e17]
        intros; first | exact KD.mk | exact KD.mkN
       ·intro tm hr
        simp [AllL, rdV] at hr
        simp [hr, ← e8, ← e9, ← e10, ← e17]
        intros; first | exact KD.mk | exact KD.mkN
       ·intro tm hr
        simp [AllL, rdV] at hr
        simp [hr, ← e8, ← e9, ← e10, ← e17]
        intros; first | exact KD.mk | exact KD.mkN
       ·intro tm hr
        simp [AllL, rdV] at hr
        simp [hr, ← e8, ← e9, ← e10, ← e17]
        intros; first | exact KD.mk | exact KD.mkN
       ·intro tm hr
        simp [AllL, rdV] at hr
        simp [hr, ← e8, ← e9, ← e10, ← e17]
        intros; first | exact KD.mk | exact KD.mkN
       ·intro tm hr
        simp [AllL, rdV] at hr
        simp [hr, ← e8, ← e9, ← e10, ← e17]
        intros; first | exact KD.mk | exact KD.mkN
      ·rfl
      ·simp [tmD, putD, ← e8, ← e9, ← e10, ← e17]; rfl
      ·simp [← e8, ← e9, ← e10, ← e17]
       intros
       refine xcall_plain en_item_May (s_item_May e16) rfl ⟨.same rfl, trivial⟩ ?_
       try simp [← e8, ← e9, ← e10, ← e17]
       intros; rfl
      obtain rfl := Option.some.inj h
      refine nP_i ?_
      refine Weak.mixN [] hn0 (by decide) ?_ ?_ rfl
      all_goals first | (simp [inv_cons, inv_nil, pickOb]; done) | rfl
   ·rintro e s hp
    obtain ⟨rfl, hw⟩ := hp
    refine ⟨_, hw, ?_⟩
    try simp only [sp_l, sp_r, Post.seq, Post.block, Nat.reduceEqDiff, reduceIte, Nat.zero_ne_one, Nat.one_ne_zero]
    replace h := ltE h; obtain ⟨v18, e18, h⟩ := h
    rw [← e18]
    cases v18 with
    | true =>
     replace h := iteT rfl h
     refine AW.cond_true (by simp) ?_
     apply AW.step
     ·simp
      intros; rfl
     obtain rfl := Option.some.inj h
     refine AW.ret ?_
     try simp only [sp_l, sp_r, Post.seq, Post.block, Nat.reduceEqDiff, reduceIte, Nat.zero_ne_one, Nat.one_ne_zero]
     refine rP_i ?_
     refine Left.plain hnb (by simp [Try.f63, resV, resC, comp]; rfl) rfl rfl ?_
     simp
    | false =>
     replace h := iteF rfl h
     refine AW.cond_false (by simp) ?_
     refine AW.skip ?_
     try simp only [sp_l, sp_r, Post.seq, Post.block, Nat.reduceEqDiff, reduceIte, Nat.zero_ne_one, Nat.one_ne_zero]
     try simp only [sp_l, sp_r, Post.seq, Post.block, Nat.reduceEqDiff, reduceIte, Nat.zero_ne_one, Nat.one_ne_zero]
     replace h := ltE h; obtain ⟨v19, e19, h⟩ := h
     apply AW.last
     ·simp [← e19]
      intros; rfl
     obtain rfl := Option.some.inj h
     refine nP_i ?_
     refine Weak.mixN [] hn0 (by decide) ?_ ?_ rfl
     all_goals first | (simp [inv_cons, inv_nil, pickOb]; done) | rfl
  | false =>
   replace h := iteF rfl h
   refine AW.cond_false (by simp) ?_
   refine AW.exit ?_
   try simp only [sp_l, sp_r, Post.seq, Post.block, Nat.reduceEqDiff, reduceIte, Nat.zero_ne_one, Nat.one_ne_zero]
   obtain rfl := Option.some.inj h
   try simp only [sp_l, sp_r]
   refine xP_i ?_
   refine Weak.mixN [] hn0 (by decide) ?_ ?_ rfl
   all_goals first | (simp [inv_cons, inv_nil, pickOb]; done) | rfl
 ·rintro e s hp
  rcases y3 with y20 | y21
  ·replace h := smL h
   obtain ⟨rfl, hw⟩ := hp
   refine ⟨_, hw, ?_⟩
   try simp only [sp_l, sp_r, Post.seq, Post.block, Nat.reduceEqDiff, reduceIte, Nat.zero_ne_one, Nat.one_ne_zero]
   apply AW.step
   ·simp
    intros; rfl
   obtain rfl := Option.some.inj h
   refine AW.ret ?_
   refine Left.plain hnb (by simp [Try.f63, resV, resC, comp]; rfl) rfl rfl ?_
   simp
  ·replace h := smR h
   obtain ⟨rfl, hl⟩ := hp
   refine ⟨_, Weak.refl _, ?_⟩
   obtain rfl := Option.some.inj h
   exact hl
theorem en_space_May : Enters Try.prog 63 := enters Try.func63 (by kernel_rfl) rfl
end Go.Proofs.Ytlkhfdccapkcdaa

/- Plain laws: what may be, for the program as for the document. -/
namespace Go.Proofs.Ytlkhfdccapkcdaa
open Go Go.RowKit
set_option linter.unusedVariables false
set_option linter.unusedSimpArgs false
theorem gtT {a b : Int} (h : b < a) : gtI a b = true := decide_eq_true h
theorem gtF {a b : Int} (h : ¬ b < a) : gtI a b = false := decide_eq_false h
theorem gtI_iff {a b : Int} : gtI a b = false ↔ a ≤ b := ⟨gtI_n, fun h => gtF (by omega)⟩
theorem ltI_iff {a b : Int} : ltI a b = false ↔ b ≤ a := ⟨fun h => ltI_n h, fun h => ltI_f (by omega)⟩
theorem leI_iff {a b : Int} : leI a b = true ↔ a ≤ b := ⟨fun h => leI_d h, fun h => decide_eq_true h⟩
theorem geI_iff {a b : Int} : geI a b = true ↔ b ≤ a := ⟨fun h => geI_d h, fun h => decide_eq_true h⟩
theorem gt300_t {s : ByteArray} (h : ¬ s.size ≤ 300) : gtI (lenS s) 300 = true := gtT (by simp only [lenS]; omega)
theorem gt300_f {s : ByteArray} (h : s.size ≤ 300) : gtI (lenS s) 300 = false := gtF (by simp only [lenS]; omega)
theorem gt40_t {s : ByteArray} (h : ¬ s.size ≤ 40) : gtI (lenS s) 40 = true := gtT (by simp only [lenS]; omega)
theorem gt40_f {s : ByteArray} (h : s.size ≤ 40) : gtI (lenS s) 40 = false := gtF (by simp only [lenS]; omega)
/-- Rounds that end at the first place that is not as it should be. -/
theorem allN {ρ : Type} (n : Nat) (hn : n < big) (ok : Nat → Prop) (r : ρ) (f : Int → Option (Int ⊕ (Unit ⊕ ρ))) (h1 : ∀ i, i < n → ok i → f (i : Int) = some (.inl ((i + 1 : Nat) : Int)))
    (h2 : ∀ i, i < n → ¬ ok i → f (i : Int) = some (.inr (.inr r))) (he : f (n : Int) = some (.inr (.inl ()))) : Rn (iter big f 0) fun y => (y = .inl () ∧ ∀ i, i < n → ok i) ∨ (y = .inr r ∧ ∃ i, i < n ∧ ¬ ok i) := by
  refine Rn.iter _ (fun q a => a = (q : Int) ∧ ∀ i, i < q → ok i) n hn ⟨rfl, fun i h => by omega⟩ fun q a hq hI => ?_
  obtain ⟨rfl, hI⟩ := hI
  by_cases hl : q < n
  · by_cases h : ok q
    · rw [h1 q hl h]
      refine ⟨_, rfl, hl, rfl, fun i hi => ?_⟩
      by_cases hiq : i = q
      · subst hiq; exact h
      · exact hI i (by omega)
    · rw [h2 q hl h]
      exact ⟨_, rfl, .inr ⟨rfl, q, hl, h⟩⟩
  · obtain rfl : q = n := by omega
    rw [he]
    exact ⟨_, rfl, .inl ⟨rfl, hI⟩⟩
/-- Rises at a place. -/
def risesAt {α : Type} (key : α → ByteArray) (l : List α) (i : Nat) : Prop := ∀ (h : 0 < i) (hi : i < l.length), slt (key l[i - 1]) (key l[i]) = true
def rises {α : Type} (key : α → ByteArray) (l : List α) : Prop := l.Pairwise fun a b => slt (key a) (key b) = true
theorem rises_iff {α : Type} (key : α → ByteArray) (l : List α) : rises key l ↔ ∀ i, i < l.length → risesAt key l i := by
  constructor
  · intro h i hi h0 hi2
    exact List.pairwise_iff_getElem.1 h (i - 1) i (by omega) hi2 (by omega)
  · intro h
    refine List.pairwise_iff_getElem.2 fun i j hi hj hij => ?_
    obtain ⟨d, rfl⟩ : ∃ d, j = i + 1 + d := ⟨j - (i + 1), by omega⟩
    clear hij
    induction d with
    | zero => exact h (i + 1) hj (by omega) hj
    | succ d ih => exact slt_trans (ih (by omega)) (h (i + 1 + (d + 1)) hj (by omega) hj)
/-- The check of a place behind the first one. -/
theorem risesAt_run {α : Type} (key : α → ByteArray) (l : List α) (i : Nat) (hi : i < l.length) (hl : l.length ≤ 140737488355328) : ∃ b, ite' (gtI (i : Int) 0) (bn (nth l (subI .i64 (i : Int) 1)) fun v => some (geS (key v) (key l[i]))) (some false) = some b ∧ (b = false ↔ risesAt key l i) := by
  by_cases h0 : 0 < i
  · rw [gtT (a := (i : Int)) (b := 0) (by omega), ite_t, subI_64 (by omega) (by omega), show (i : Int) - 1 = ((i - 1 : Nat) : Int) by omega, nth_some (show i - 1 < l.length by omega)]
    refine ⟨_, rfl, ?_⟩
    unfold geS risesAt
    constructor
    · intro h _ _
      simpa using h
    · intro h
      simp [h h0 hi]
  · rw [gtF (a := (i : Int)) (b := 0) (by omega)]
    exact ⟨_, rfl, fun _ h => absurd h h0, fun _ => rfl⟩
def okFld (x : Field) : Prop := x.name.size ≤ 300 ∧ x.val.size ≤ 300
def shapeI (it : Item) : Prop := (it.kind = 1 ∧ it.f = [] ∧ it.l = []) ∨ (it.kind = 2 ∧ it.s = ⟨#[]⟩ ∧ it.l = [] ∧ it.f ≠ []) ∨ ((it.kind = 3 ∨ it.kind = 4) ∧ it.s = ⟨#[]⟩ ∧ it.f = [] ∧ it.l ≠ [])
def sizesI (it : Item) : Prop := it.s.size ≤ 300 ∧ (∀ x ∈ it.f, okFld x) ∧ ∀ x ∈ it.l, x.size ≤ 300
def mayI (it : Item) : Prop := shapeI it ∧ sizesI it ∧ it.f.length ≤ 40 ∧ it.l.length ≤ 40 ∧ 0 ≤ it.exp ∧ it.exp ≤ 9007199254740992 ∧ rises (fun x : Field => x.name) it.f ∧ (it.kind = 4 → rises (fun x => x) it.l)
theorem len0 {α : Type} (l : List α) : eqI (lenI l) 0 = decide (l = []) := by
  cases l with
  | nil => rfl
  | cons x l => rw [decide_eq_false (by simp)]; exact decide_eq_false (by simp only [lenI, List.length_cons]; omega)
theorem len1 {α : Type} (l : List α) : gtI (lenI l) 0 = decide (l ≠ []) := by
  cases l with
  | nil => rfl
  | cons x l => rw [decide_eq_true (by simp)]; exact gtT (by simp only [lenI, List.length_cons]; omega)
theorem bare_iff (it : Item) : Rn (r5_bare_sh big it) fun b => (b = true ↔ shapeI it) := by
  unfold r5_bare_sh
  simp only [lt_eq, ite_and, ite_or, bn_some, len0, len1]
  by_cases h1 : it.kind = 1
  · refine ⟨_, by rw [show eqI it.kind 1 = true by simp [eqI, h1], ite_t], ?_⟩
    simp [shapeI, h1]
  by_cases h2 : it.kind = 2
  · refine ⟨_, by rw [show eqI it.kind 1 = false by simp [eqI, h1], ite_f, show eqI it.kind 2 = true by simp [eqI, h2], ite_t], ?_⟩
    simp [shapeI, h2, eqS]
  by_cases h3 : it.kind = 3 ∨ it.kind = 4
  · refine ⟨_, by rw [show eqI it.kind 1 = false by simp [eqI, h1], ite_f, show eqI it.kind 2 = false by simp [eqI, h2], ite_f, show (eqI it.kind 3 || eqI it.kind 4) = true by simpa [eqI] using h3], ?_⟩
    simp [shapeI, h1, h2, h3, eqS]
  · refine ⟨_, by rw [show eqI it.kind 1 = false by simp [eqI, h1], ite_f, show eqI it.kind 2 = false by simp [eqI, h2], ite_f, show (eqI it.kind 3 || eqI it.kind 4) = false by simpa [eqI] using h3], ?_⟩
    simp [shapeI, h1, h2, h3]
/-- The document's loops over fields and texts. -/
theorem MayItem_iff (it : Item) : Rn (r5_MayItem_sh big it) fun b => (b = true ↔ mayI it) := by
  unfold r5_MayItem_sh
  refine Rn.bn (P := fun b => (b = false ↔ (shapeI it ∧ it.s.size ≤ 300 ∧ it.f.length ≤ 40 ∧ it.l.length ≤ 40 ∧ 0 ≤ it.exp ∧ it.exp ≤ 9007199254740992))) ?_ fun b hb => Rn.lt (Rn.ite (fun hd => Rn.some ?_) (fun hd => ?_))
  · obtain ⟨v, hv, hv2⟩ := bare_iff it
    refine Rn.bnE hv ⟨_, by simp only [lt_eq, ite_or]; rfl, ?_⟩
    cases v
    · have : ¬ shapeI it := fun h => by simpa using hv2.2 h
      simp [notB, this]
    · have : shapeI it := hv2.1 rfl
      simp only [this, notB_t, Bool.false_or, gtI_iff, ltI_iff, lenI, lenS, Bool.or_eq_false_iff, true_and]
      constructor
      · rintro ⟨a1, a2, a3, a4, a5⟩
        refine ⟨?_, ?_, ?_, ?_, ?_⟩ <;> omega
      · rintro ⟨a1, a2, a3, a4, a5⟩
        refine ⟨?_, ?_, ?_, ?_, ?_⟩ <;> omega
  · have hno : ¬ mayI it := fun h => by
      have := hb.2 ⟨h.1, h.2.1.1, h.2.2.1, h.2.2.2.1, h.2.2.2.2.1, h.2.2.2.2.2.1⟩
      rw [hd] at this
      simp at this
    simp [hno]
  · obtain ⟨b1, b2, b3, b4, b5, b6⟩ := hb.1 hd
    have hF : (∀ i, (hi : i < it.f.length) → okFld it.f[i] ∧ risesAt (fun x : Field => x.name) it.f i) ↔ (∀ x ∈ it.f, okFld x) ∧ rises (fun x : Field => x.name) it.f := by
      rw [rises_iff]
      constructor
      · intro h
        refine ⟨fun x hx => ?_, fun i hi => (h i hi).2⟩
        obtain ⟨i, hi, rfl⟩ := List.getElem_of_mem hx
        exact (h i hi).1
      · intro h i hi
        exact ⟨h.1 _ (List.getElem_mem hi), h.2 i hi⟩
    have hL : (∀ i, (hi : i < it.l.length) → it.l[i].size ≤ 300 ∧ (it.kind = 4 → risesAt (fun x => x) it.l i)) ↔ (∀ x ∈ it.l, x.size ≤ 300) ∧ (it.kind = 4 → rises (fun x => x) it.l) := by
      rw [rises_iff]
      constructor
      · intro h
        refine ⟨fun x hx => ?_, fun h4 i hi => (h i hi).2 h4⟩
        obtain ⟨i, hi, rfl⟩ := List.getElem_of_mem hx
        exact (h i hi).1
      · intro h i hi
        exact ⟨h.1 _ (List.getElem_mem hi), fun h4 => h.2 h4 i hi⟩
    refine Rn.bn (allN it.f.length (by unfold big; omega) (fun i => (hi : i < it.f.length) → okFld it.f[i] ∧ risesAt (fun x : Field => x.name) it.f i) false _ (fun i hi hok => ?_) (fun i hi hok => ?_) ?_) fun y hy => ?_
    · obtain ⟨⟨o1, o2⟩, o3⟩ := hok hi
      obtain ⟨b, e1, e2⟩ := risesAt_run (fun x : Field => x.name) it.f i hi (by omega)
      obtain rfl := e2.2 o3
      simp only [lt_eq]
      rw [ltI_t (by simp only [lenI]; omega), nth_some hi]
      simp only [lt_eq, bn_some, ite_t, ite_f, sm_inl, sm_inr, lenI_eq, Option.some.injEq] at e1 ⊢
      rw [gt300_f (s := it.f[i].name) (by omega), gt300_f (s := it.f[i].val) (by omega), ite_f, ite_f, e1]
      simp only [lt_eq, bn_some, ite_t, ite_f, sm_inl, sm_inr, lenI_eq, Option.some.injEq]
      rw [addI_64 (by omega) (by omega)]
      rfl
    · obtain ⟨b, e1, e2⟩ := risesAt_run (fun x : Field => x.name) it.f i hi (by omega)
      simp only [lt_eq]
      rw [ltI_t (by simp only [lenI]; omega), nth_some hi]
      simp only [lt_eq, bn_some, ite_t, ite_f, sm_inl, sm_inr, lenI_eq, Option.some.injEq] at e1 ⊢
      rw [e1]
      by_cases o1 : it.f[i].name.size ≤ 300
      · by_cases o2 : it.f[i].val.size ≤ 300
        · have o3 : b = true := by
            cases b
            · exact absurd (fun _ => ⟨⟨o1, o2⟩, e2.1 rfl⟩) hok
            · rfl
          subst o3
          rw [gt300_f (s := it.f[i].name) (by omega), gt300_f (s := it.f[i].val) (by omega)]
          rfl
        · rw [gt300_f (s := it.f[i].name) (by omega), gt300_t (s := it.f[i].val) (by omega)]
          rfl
      · rw [gt300_t (s := it.f[i].name) (by omega)]
        rfl
    · simp only [lt_eq]
      rw [ltI_f (by simp only [lenI]; omega)]
      rfl
    · rcases hy with ⟨rfl, hy⟩ | ⟨rfl, i, hi, hy⟩
      rotate_left
      · rw [sm_inr]
        refine Rn.some ?_
        have : ¬ mayI it := fun h => hy fun _ => hF.2 ⟨h.2.1.2.1, h.2.2.2.2.2.2.1⟩ i hi
        simp [this]
      · have hy := hF.1 fun i hi => hy i hi hi
        rw [sm_inl]
        refine Rn.bn (allN it.l.length (by unfold big; omega) (fun i => (hi : i < it.l.length) → it.l[i].size ≤ 300 ∧ (it.kind = 4 → risesAt (fun x => x) it.l i)) false _ (fun i hi hok => ?_) (fun i hi hok => ?_) ?_) fun y hy2 => ?_
        · obtain ⟨o1, o3⟩ := hok hi
          obtain ⟨b, e1, e2⟩ := risesAt_run (fun x => x) it.l i hi (by omega)
          simp only [lt_eq]
          rw [ltI_t (by simp only [lenI]; omega), nth_some hi]
          simp only [lt_eq, bn_some, ite_t, ite_f, sm_inl, sm_inr, lenI_eq, Option.some.injEq] at e1 ⊢
          rw [gt300_f (s := it.l[i]) (by omega), ite_f, e1]
          by_cases h4 : it.kind = 4
          · obtain rfl := e2.2 (o3 h4)
            rw [show eqI it.kind 4 = true by simp [eqI, h4]]
            simp only [lt_eq, bn_some, ite_t, ite_f, sm_inl, sm_inr, lenI_eq, Option.some.injEq]
            rw [addI_64 (by omega) (by omega)]
            rfl
          · rw [show eqI it.kind 4 = false by simp [eqI, h4]]
            simp only [lt_eq, bn_some, ite_t, ite_f, sm_inl, sm_inr, lenI_eq, Option.some.injEq]
            rw [addI_64 (by omega) (by omega)]
            rfl
        · obtain ⟨b, e1, e2⟩ := risesAt_run (fun x => x) it.l i hi (by omega)
          simp only [lt_eq]
          rw [ltI_t (by simp only [lenI]; omega), nth_some hi]
          simp only [lt_eq, bn_some, ite_t, ite_f, sm_inl, sm_inr, lenI_eq, Option.some.injEq] at e1 ⊢
          rw [e1]
          by_cases o1 : it.l[i].size ≤ 300
          · by_cases h4 : it.kind = 4
            · have o3 : b = true := by
                cases b
                · exact absurd (fun _ => ⟨o1, fun _ => e2.1 rfl⟩) hok
                · rfl
              subst o3
              rw [gt300_f (s := it.l[i]) (by omega), show eqI it.kind 4 = true by simp [eqI, h4]]
              rfl
            · exact absurd (fun _ => ⟨o1, fun h => absurd h h4⟩) hok
          · rw [gt300_t (s := it.l[i]) (by omega)]
            rfl
        · simp only [lt_eq]
          rw [ltI_f (by simp only [lenI]; omega)]
          rfl
        · rcases hy2 with ⟨rfl, hy2⟩ | ⟨rfl, i, hi, hy2⟩
          · rw [sm_inl]
            have hy2 := hL.1 fun i hi => hy2 i hi hi
            refine Rn.some ⟨fun _ => ⟨b1, ⟨b2, hy.1, hy2.1⟩, b3, b4, b5, b6, hy.2, hy2.2⟩, fun _ => rfl⟩
          · rw [sm_inr]
            refine Rn.some ?_
            have : ¬ mayI it := fun h => hy2 fun _ => hL.2 ⟨h.2.1.2.2, h.2.2.2.2.2.2.2⟩ i hi
            simp [this]
/-! ### The program's -/
theorem risingLoop {α : Type} (key : α → ByteArray) (l : List α) (hl : l.length ≤ 140737488355328) :
    Rn (bn (lt (lenI l) fun v2 => bn (iter big (fun (y3 : Int × Bool × ByteArray) => lt (ltI y3.1 v2) fun v6 => ite' v6 (bn (nth l y3.1) fun v7 => bn (bn (lt (notB y3.2.1) fun v10 => ite' v10 (lt (leS (key v7) y3.2.2) fun v11 => some (v11)) (some (false))) fun (y9 : Bool) => lt (y9) fun v12 => ite' v12 (some (.inr ())) (some (.inl ()))) fun (y8 : Unit ⊕ Unit) =>
      sm y8 (fun y13 => lt (addI .i64 y3.1 1) fun v15 => some (.inl (v15, false, key v7))) (fun y14 => some (.inr (.inr (y3.2.1, y3.2.2))))) (some (.inr (.inl (y3.2.1, y3.2.2))))) (0, true, ⟨#[]⟩)) fun (y4 : (Bool × ByteArray) ⊕ (Bool × ByteArray)) => sm y4 (fun y16 => some (.inl ())) (fun y17 => some (.inr false))) fun (y1 : Unit ⊕ Bool) => sm y1 (fun y18 => some true) (fun y19 => some y19))
      fun b => (b = true ↔ rises key l) := by
  refine Rn.bn (P := fun y => (y = .inl () ∧ rises key l) ∨ (y = .inr false ∧ ¬ rises key l)) ?_ fun y hy => ?_
  · refine Rn.lt (Rn.bn (P := fun y => (∃ z, y = .inl z ∧ rises key l) ∨ (∃ z, y = .inr z ∧ ¬ rises key l)) (Rn.iter _ (fun q a => a.1 = (q : Int) ∧ (a.2.1 = true ↔ q = 0) ∧ (∀ (h : 0 < q) (hq : q - 1 < l.length), a.2.2 = key l[q - 1]) ∧ ∀ i, i < q → risesAt key l i) l.length (by unfold big; omega) ⟨rfl, by simp, fun h => by omega, fun i h => by omega⟩ fun q a hq hI => ?_) fun y hy => ?_)
    · obtain ⟨i, first, ahead⟩ := a
      obtain ⟨rfl, h1, h2, h3⟩ := hI
      simp only at h1 h2
      simp only [lt_eq, bn_some, ite_t, ite_f, sm_inl, sm_inr, lenI_eq, Option.some.injEq]
      by_cases hl2 : q < l.length
      · rw [ltI_t (by omega), nth_some hl2]
        simp only [lt_eq, bn_some, ite_t, ite_f, sm_inl, sm_inr, lenI_eq, Option.some.injEq]
        by_cases hr : risesAt key l q
        · have e : ite' (notB first) (some (leS (key l[q]) ahead)) (some false) = some false := by
            cases first
            · have hq0 : 0 < q := by
                apply Nat.pos_of_ne_zero
                intro h
                simpa using h1.2 h
              rw [h2 hq0 (by omega), notB_f, ite_t]
              simp [leS, hr hq0 hl2]
            · rfl
          rw [e]
          simp only [lt_eq, bn_some, ite_t, ite_f, sm_inl, sm_inr, lenI_eq, Option.some.injEq]
          refine ⟨_, rfl, hl2, ?_, by simp, fun _ _ => by simp, fun i hi => ?_⟩
          · rw [addI_64 (by omega) (by omega)]; omega
          · by_cases hiq : i = q
            · subst hiq; exact hr
            · exact h3 i (by omega)
        · have hq0 : 0 < q := by
            apply Nat.pos_of_ne_zero
            intro h
            exact hr fun h0 => by omega
          have hf : first = false := by
            cases first
            · rfl
            · have := h1.1 rfl
              omega
          subst hf
          have hn : slt (key l[q - 1]) (key l[q]) = false := by
            cases h : slt (key l[q - 1]) (key l[q])
            · rfl
            · exact absurd (fun _ _ => h) hr
          rw [h2 hq0 (by omega), notB_f, ite_t]
          simp only [leS, hn, lt_eq, bn_some, ite_t, ite_f, sm_inl, sm_inr, lenI_eq, Option.some.injEq, Bool.not_false]
          exact ⟨_, rfl, .inr ⟨_, rfl, fun h => hr ((rises_iff key l).1 h q hl2)⟩⟩
      · obtain rfl : q = l.length := by omega
        rw [ltI_f (by omega)]
        exact ⟨_, rfl, .inl ⟨_, rfl, (rises_iff key l).2 h3⟩⟩
    · rcases hy with ⟨z, rfl, h⟩ | ⟨z, rfl, h⟩
      · exact ⟨_, rfl, .inl ⟨rfl, h⟩⟩
      · exact ⟨_, rfl, .inr ⟨rfl, h⟩⟩
  · rcases hy with ⟨rfl, h⟩ | ⟨rfl, h⟩
    · exact ⟨_, rfl, by simp [h]⟩
    · exact ⟨_, rfl, by simp [h]⟩
theorem rising_f (l : List Field) (hl : l.length ≤ 140737488355328) : Rn (item_rising_sh big l) fun b => (b = true ↔ rises (fun x : Field => x.name) l) := risingLoop (fun x : Field => x.name) l hl
theorem rising_l (l : List ByteArray) (hl : l.length ≤ 140737488355328) : Rn (item_rising_k143_sh big l) fun b => (b = true ↔ rises (fun x => x) l) := risingLoop (fun x => x) l hl
def shapeP (it : Item) : Prop := shapeI it ∧ it.f.length ≤ 40 ∧ it.l.length ≤ 40 ∧ rises (fun x : Field => x.name) it.f ∧ (it.kind = 4 → rises (fun x => x) it.l)
theorem some_ok {α : Type} (l : List α) : item_some_sh big (lenI l) = some (decide (l ≠ [] ∧ l.length ≤ 40)) := by
  unfold item_some_sh
  simp only [lt_eq, ite_and, bn_some]
  congr 1
  rw [Bool.eq_iff_iff]
  simp only [Bool.and_eq_true, decide_eq_true_eq, leI_iff, geI_iff, lenI]
  cases l with
  | nil => simp
  | cons x l =>
    simp only [List.length_cons, ne_eq, reduceCtorEq, not_false_eq_true, true_and]
    constructor
    · rintro ⟨-, h⟩
      omega
    · intro h
      omega
theorem rises_nil {α : Type} (key : α → ByteArray) : rises key [] := .nil
theorem shaped_iff (it : Item) (ho : okI it) : Rn (item_shaped_sh big it) fun b => (b = true ↔ shapeP it) := by
  unfold item_shaped_sh
  obtain ⟨o1, o2⟩ := ho
  refine Rn.lt (Rn.ite (fun h1 => ?_) (fun h1 => Rn.lt (Rn.ite (fun h2 => ?_) (fun h2 => Rn.lt (Rn.ite (fun h3 => ?_) (fun h3 => Rn.lt (Rn.ite (fun h4 => ?_) (fun h4 => ?_))))))))
  · have h1 : it.kind = 1 := by simpa [eqI] using h1
    refine Rn.lt (Rn.lt (Rn.lt (Rn.lt (Rn.some ?_))))
    simp only [lenI]
    rw [addI_64 (by omega) (by omega)]
    unfold shapeP shapeI
    simp only [h1, eqI, decide_eq_true_eq]
    constructor
    · intro h
      have hf : it.f = [] := List.length_eq_zero_iff.1 (by omega)
      have hl : it.l = [] := List.length_eq_zero_iff.1 (by omega)
      simp [hf, hl, rises_nil]
    · intro h
      simp at h
      simp [h.1]
  · have h2 : it.kind = 2 := by simpa [eqI] using h2
    refine Rn.bn (P := fun b => (b = true ↔ shapeP it)) ?_ fun b hb => Rn.some hb
    refine Rn.lt (Rn.ite (fun hs => ?_) (fun hs => Rn.some ?_))
    rotate_left
    · have hs : it.s ≠ ⟨#[]⟩ := by simpa [eqS] using hs
      simp [shapeP, shapeI, h2, hs]
    have hs : it.s = ⟨#[]⟩ := by simpa [eqS] using hs
    refine Rn.lt (Rn.lt ?_)
    rw [len0]
    refine Rn.ite (fun hl => ?_) (fun hl => Rn.some ?_)
    rotate_left
    · have hl : it.l ≠ [] := by simpa using hl
      simp [shapeP, shapeI, h2, hl]
    have hl : it.l = [] := by simpa using hl
    refine Rn.lt (Rn.bnE (some_ok it.f) (Rn.ite (fun hf => ?_) (fun hf => Rn.some ?_)))
    rotate_left
    · have hf : ¬ (it.f ≠ [] ∧ it.f.length ≤ 40) := of_decide_eq_false hf
      unfold shapeP shapeI
      simp only [h2, hs, hl]
      constructor
      · intro h; simp at h
      · rintro ⟨h, h', -⟩
        simp at h
        exact absurd ⟨h, h'⟩ hf
    have hf : it.f ≠ [] ∧ it.f.length ≤ 40 := of_decide_eq_true hf
    unfold item_names_sh
    refine Rn.bnE rfl (Rn.bn (rising_f it.f (by omega)) fun b hb => Rn.some (hb.trans ?_))
    unfold shapeP shapeI
    simp [h2, hs, hl, hf.1, hf.2]
  · have h3 : it.kind = 3 := by simpa [eqI] using h3
    refine Rn.bn (P := fun b => (b = true ↔ shapeP it)) ?_ fun b hb => Rn.some hb
    refine Rn.lt (Rn.ite (fun hs => ?_) (fun hs => Rn.some ?_))
    rotate_left
    · have hs : it.s ≠ ⟨#[]⟩ := by simpa [eqS] using hs
      simp [shapeP, shapeI, h3, hs]
    have hs : it.s = ⟨#[]⟩ := by simpa [eqS] using hs
    refine Rn.lt (Rn.lt ?_)
    rw [len0]
    refine Rn.ite (fun hf => ?_) (fun hf => Rn.some ?_)
    rotate_left
    · have hf : it.f ≠ [] := by simpa using hf
      simp [shapeP, shapeI, h3, hf]
    have hf : it.f = [] := by simpa using hf
    refine Rn.lt (Rn.bnE (some_ok it.l) (Rn.some ?_))
    unfold shapeP shapeI
    simp [h3, hs, hf, rises_nil]
  · have h4 : it.kind = 4 := by simpa [eqI] using h4
    refine Rn.bn (P := fun b => (b = true ↔ shapeP it)) ?_ fun b hb => Rn.some hb
    refine Rn.lt (Rn.ite (fun hs => ?_) (fun hs => Rn.some ?_))
    rotate_left
    · have hs : it.s ≠ ⟨#[]⟩ := by simpa [eqS] using hs
      simp [shapeP, shapeI, h4, hs]
    have hs : it.s = ⟨#[]⟩ := by simpa [eqS] using hs
    refine Rn.lt (Rn.lt ?_)
    rw [len0]
    refine Rn.ite (fun hf => ?_) (fun hf => Rn.some ?_)
    rotate_left
    · have hf : it.f ≠ [] := by simpa using hf
      simp [shapeP, shapeI, h4, hf]
    have hf : it.f = [] := by simpa using hf
    refine Rn.lt (Rn.bnE (some_ok it.l) (Rn.ite (fun hl => ?_) (fun hl => Rn.some ?_)))
    rotate_left
    · have hl : ¬ (it.l ≠ [] ∧ it.l.length ≤ 40) := of_decide_eq_false hl
      unfold shapeP shapeI
      simp only [h4, hs, hf]
      constructor
      · intro h; simp at h
      · rintro ⟨h, -, h', -⟩
        simp at h
        exact absurd ⟨h, h'⟩ hl
    have hl : it.l ≠ [] ∧ it.l.length ≤ 40 := of_decide_eq_true hl
    unfold slices_Values_string_sh
    refine Rn.bnE rfl (Rn.bn (rising_l it.l (by omega)) fun b hb => Rn.some (hb.trans ?_))
    unfold shapeP shapeI
    simp [h4, hs, hf, hl.1, hl.2, rises_nil]
  · have h1 : it.kind ≠ 1 := by simpa [eqI] using h1
    have h2 : it.kind ≠ 2 := by simpa [eqI] using h2
    have h3 : it.kind ≠ 3 := by simpa [eqI] using h3
    have h4 : it.kind ≠ 4 := by simpa [eqI] using h4
    refine Rn.some ?_
    simp [shapeP, shapeI, h1, h2, h3, h4]
theorem item_May_iff (it : Item) (ho : okI it) : Rn (item_May_sh big it) fun b => (b = true ↔ mayI it) := by
  unfold item_May_sh
  refine Rn.bn (P := fun b => (b = false ↔ (shapeP it ∧ 0 ≤ it.exp ∧ it.exp ≤ 9007199254740992))) ?_ fun b hb => Rn.lt (Rn.ite (fun hd => Rn.some ?_) (fun hd => ?_))
  · obtain ⟨v, hv, hv2⟩ := shaped_iff it ho
    refine Rn.bnE hv ⟨_, by simp only [lt_eq, ite_or]; rfl, ?_⟩
    cases v
    · have : ¬ shapeP it := fun h => by simpa using hv2.2 h
      simp [notB, this]
    · have : shapeP it := hv2.1 rfl
      simp only [this, notB_t, Bool.false_or, gtI_iff, ltI_iff, Bool.or_eq_false_iff, true_and]
  · have hno : ¬ mayI it := fun h => by
      have := hb.2 ⟨⟨h.1, h.2.2.1, h.2.2.2.1, h.2.2.2.2.2.2⟩, h.2.2.2.2.1, h.2.2.2.2.2.1⟩
      rw [hd] at this
      simp at this
    simp [hno]
  · obtain ⟨⟨b1, b2, b3, b4⟩, b5, b6⟩ := hb.1 hd
    refine Rn.bn (P := fun y => (y = .inl () ∧ sizesI it) ∨ (y = .inr false ∧ ¬ sizesI it)) ?_ fun y hy => ?_
    rotate_left
    · rcases hy with ⟨rfl, h⟩ | ⟨rfl, h⟩
      · exact ⟨_, rfl, fun _ => ⟨b1, h, b2, b3, b5, b6, b4⟩, fun _ => rfl⟩
      · have : ¬ mayI it := fun hm => h hm.2.1
        exact ⟨_, rfl, by simp [this]⟩
    unfold item_texts_sh
    refine Rn.bnE rfl ?_
    by_cases hs : it.s.size ≤ 300
    rotate_left
    · have : ¬ sizesI it := fun h => hs h.1
      refine ⟨_, by simp only [lt_eq]; rw [gt300_t (s := it.s) (by omega)]; rfl, .inr ⟨rfl, this⟩⟩
    simp only [lt_eq]
    rw [gt300_f (s := it.s) (by omega)]
    simp only [lt_eq, bn_some, ite_t, ite_f, sm_inl, sm_inr, lenI_eq, Option.some.injEq]
    refine Rn.bn (allN it.f.length (by unfold big; omega) (fun i => (hi : i < it.f.length) → okFld it.f[i]) () _ (fun i hi hok => ?_) (fun i hi hok => ?_) ?_) fun y hy => ?_
    · obtain ⟨o1, o2⟩ := hok hi
      rw [ltI_t (by omega), nth_some hi]
      simp only [lt_eq, bn_some, ite_t, ite_f, sm_inl, sm_inr, lenI_eq, Option.some.injEq]
      rw [gt300_f (s := it.f[i].name) (by omega), gt300_f (s := it.f[i].val) (by omega)]
      simp only [lt_eq, bn_some, ite_t, ite_f, sm_inl, sm_inr, lenI_eq, Option.some.injEq]
      rw [addI_64 (by omega) (by omega)]
      rfl
    · rw [ltI_t (by omega), nth_some hi]
      simp only [lt_eq, bn_some, ite_t, ite_f, sm_inl, sm_inr, lenI_eq, Option.some.injEq]
      by_cases o1 : it.f[i].name.size ≤ 300
      · by_cases o2 : it.f[i].val.size ≤ 300
        · exact absurd (fun _ => ⟨o1, o2⟩) hok
        · rw [gt300_f (s := it.f[i].name) (by omega), gt300_t (s := it.f[i].val) (by omega)]
          rfl
      · rw [gt300_t (s := it.f[i].name) (by omega)]
        rfl
    · rw [ltI_f (by omega)]
      rfl
    · rcases hy with ⟨rfl, hy⟩ | ⟨rfl, i, hi, hy⟩
      rotate_left
      · have : ¬ sizesI it := fun h => hy fun _ => h.2.1 _ (List.getElem_mem hi)
        exact ⟨_, rfl, .inr ⟨rfl, this⟩⟩
      simp only [lt_eq, bn_some, ite_t, ite_f, sm_inl, sm_inr, lenI_eq, Option.some.injEq]
      refine Rn.bn (allN it.l.length (by unfold big; omega) (fun i => (hi : i < it.l.length) → it.l[i].size ≤ 300) () _ (fun i hi hok => ?_) (fun i hi hok => ?_) ?_) fun y hy2 => ?_
      · have o1 := hok hi
        rw [ltI_t (by omega), nth_some hi]
        simp only [lt_eq, bn_some, ite_t, ite_f, sm_inl, sm_inr, lenI_eq, Option.some.injEq]
        rw [gt300_f (s := it.l[i]) (by omega)]
        simp only [lt_eq, bn_some, ite_t, ite_f, sm_inl, sm_inr, lenI_eq, Option.some.injEq]
        rw [addI_64 (by omega) (by omega)]
        rfl
      · rw [ltI_t (by omega), nth_some hi]
        simp only [lt_eq, bn_some, ite_t, ite_f, sm_inl, sm_inr, lenI_eq, Option.some.injEq]
        by_cases o1 : it.l[i].size ≤ 300
        · exact absurd (fun _ => o1) hok
        · rw [gt300_t (s := it.l[i]) (by omega)]
          rfl
      · rw [ltI_f (by omega)]
        rfl
      · rcases hy2 with ⟨rfl, hy2⟩ | ⟨rfl, i, hi, hy2⟩
        · refine ⟨_, rfl, .inl ⟨rfl, hs, fun x hx => ?_, fun x hx => ?_⟩⟩
          · obtain ⟨i, hi, rfl⟩ := List.getElem_of_mem hx
            exact hy i hi hi
          · obtain ⟨i, hi, rfl⟩ := List.getElem_of_mem hx
            exact hy2 i hi hi
        · have : ¬ sizesI it := fun h => hy2 fun _ => h.2.2 _ (List.getElem_mem hi)
          exact ⟨_, rfl, .inr ⟨rfl, this⟩⟩
/-! ### Spaces -/
def mayP (p : Pair) : Prop := p.key.size ≤ 40 ∧ mayI p.item
def mayS (l : List Pair) : Prop := (∀ p ∈ l, mayP p) ∧ SrtP l
theorem mayS_iff (l : List Pair) : mayS l ↔ ∀ i, i < l.length → (hi : i < l.length) → mayP l[i] ∧ risesAt Pair.key l i := by
  have h := rises_iff Pair.key l
  constructor
  · intro hm i _ hi
    exact ⟨hm.1 _ (List.getElem_mem hi), h.1 hm.2 i hi⟩
  · intro hm
    refine ⟨fun p hp => ?_, h.2 fun i hi => (hm i hi hi).2⟩
    obtain ⟨i, hi, rfl⟩ := List.getElem_of_mem hp
    exact (hm i hi hi).1
theorem MaySpace_iff (l : List Pair) (hl : l.length ≤ 1000000000) : Rn (r5_MaySpace_sh big l) fun b => (b = true ↔ mayS l) := by
  unfold r5_MaySpace_sh
  have hm := mayS_iff l
  refine Rn.bn (allN l.length (by unfold big; omega) (fun i => (hi : i < l.length) → mayP l[i] ∧ risesAt Pair.key l i) false _ (fun i hi hok => ?_) (fun i hi hok => ?_) ?_) fun y hy => ?_
  · obtain ⟨⟨o1, o2⟩, o3⟩ := hok hi
    obtain ⟨b, e1, e2⟩ := risesAt_run Pair.key l i hi (by omega)
    obtain rfl := e2.2 o3
    obtain ⟨v, v1, v2⟩ := MayItem_iff l[i].item
    obtain rfl := v2.2 o2
    simp only [lt_eq]
    rw [ltI_t (by simp only [lenI]; omega), nth_some hi]
    simp only [lt_eq, bn_some, ite_t, ite_f, sm_inl, sm_inr, lenI_eq, Option.some.injEq] at e1 ⊢
    rw [gt40_f (s := l[i].key) (by omega), v1, e1]
    simp only [lt_eq, bn_some, ite_t, ite_f, sm_inl, sm_inr, lenI_eq, Option.some.injEq, notB_t]
    rw [addI_64 (by omega) (by omega)]
    rfl
  · obtain ⟨b, e1, e2⟩ := risesAt_run Pair.key l i hi (by omega)
    obtain ⟨v, v1, v2⟩ := MayItem_iff l[i].item
    simp only [lt_eq]
    rw [ltI_t (by simp only [lenI]; omega), nth_some hi]
    simp only [lt_eq, bn_some, ite_t, ite_f, sm_inl, sm_inr, lenI_eq, Option.some.injEq] at e1 ⊢
    rw [v1, e1]
    by_cases o1 : l[i].key.size ≤ 40
    · cases v
      · rw [gt40_f (s := l[i].key) (by omega)]
        rfl
      · cases b
        · exact absurd (fun _ => ⟨⟨o1, v2.1 rfl⟩, e2.1 rfl⟩) hok
        · rw [gt40_f (s := l[i].key) (by omega)]
          rfl
    · rw [gt40_t (s := l[i].key) (by omega)]
      rfl
  · simp only [lt_eq]
    rw [ltI_f (by simp only [lenI]; omega)]
    rfl
  · rcases hy with ⟨rfl, hy⟩ | ⟨rfl, i, hi, hy⟩
    · exact ⟨_, rfl, fun _ => hm.2 hy, fun _ => rfl⟩
    · have : ¬ mayS l := fun h => hy (hm.1 h i hi)
      exact ⟨_, rfl, by simp [this]⟩
theorem space_May_iff (l : List Pair) (hl : l.length ≤ 1000000000) (ho : okP l) : Rn (space_May_sh big l) fun b => (b = true ↔ mayS l) := by
  unfold space_May_sh
  have hm := mayS_iff l
  refine Rn.lt (Rn.bn (allN l.length (by unfold big; omega) (fun i => (hi : i < l.length) → mayP l[i] ∧ risesAt Pair.key l i) false _ (fun i hi hok => ?_) (fun i hi hok => ?_) ?_) fun y hy => ?_)
  · obtain ⟨⟨o1, o2⟩, o3⟩ := hok hi
    obtain ⟨v, v1, v2⟩ := item_May_iff l[i].item (ho _ (List.getElem_mem hi))
    obtain rfl := v2.2 o2
    simp only [lt_eq]
    rw [ltI_t (by simp only [lenI]; omega), nth_some hi]
    simp only [lt_eq, bn_some, ite_t, ite_f, sm_inl, sm_inr, lenI_eq, Option.some.injEq]
    rw [gt40_f (s := l[i].key) (by omega), v1]
    have e : ite' (gtI (i : Int) 0) (bn (nth l (subI .i64 (i : Int) 1)) fun v12 => ite' (geS v12.key l[i].key) (some true) (bn (some true) fun v14 => some (notB v14))) (bn (some true) fun v16 => some (notB v16)) = some false := by
      by_cases h0 : 0 < i
      · rw [gtT (a := (i : Int)) (b := 0) (by omega), ite_t, subI_64 (by omega) (by omega), show (i : Int) - 1 = ((i - 1 : Nat) : Int) by omega, nth_some (show i - 1 < l.length by omega)]
        have := o3 h0 hi
        simp [bn_some, geS, this, ite_f]
      · rw [gtF (a := (i : Int)) (b := 0) (by omega)]
        rfl
    simp only [lt_eq, bn_some, ite_t, ite_f, sm_inl, sm_inr, lenI_eq, Option.some.injEq] at e ⊢
    rw [e]
    simp only [lt_eq, bn_some, ite_t, ite_f, sm_inl, sm_inr, lenI_eq, Option.some.injEq]
    rw [addI_64 (by omega) (by omega)]
    rfl
  · obtain ⟨v, v1, v2⟩ := item_May_iff l[i].item (ho _ (List.getElem_mem hi))
    simp only [lt_eq]
    rw [ltI_t (by simp only [lenI]; omega), nth_some hi]
    simp only [lt_eq, bn_some, ite_t, ite_f, sm_inl, sm_inr, lenI_eq, Option.some.injEq]
    rw [v1]
    by_cases o1 : l[i].key.size ≤ 40
    · rw [gt40_f (s := l[i].key) (by omega)]
      by_cases h0 : 0 < i
      · rw [gtT (a := (i : Int)) (b := 0) (by omega), subI_64 (by omega) (by omega), show (i : Int) - 1 = ((i - 1 : Nat) : Int) by omega, nth_some (show i - 1 < l.length by omega)]
        simp only [lt_eq, bn_some, ite_t, ite_f, sm_inl, sm_inr, lenI_eq, Option.some.injEq]
        cases h : slt l[i - 1].key l[i].key
        · simp [geS, h, lt_eq, bn_some, ite_t, ite_f, sm_inl, sm_inr, lenI_eq, Option.some.injEq]
        · cases v
          · simp [geS, h, lt_eq, bn_some, ite_t, ite_f, sm_inl, sm_inr, lenI_eq, Option.some.injEq]
          · exact absurd (fun _ => ⟨⟨o1, v2.1 rfl⟩, fun _ _ => h⟩) hok
      · rw [gtF (a := (i : Int)) (b := 0) (by omega)]
        cases v
        · rfl
        · exact absurd (fun _ => ⟨⟨o1, v2.1 rfl⟩, fun h => absurd h h0⟩) hok
    · rw [gt40_t (s := l[i].key) (by omega)]
      rfl
  · simp only [lt_eq]
    rw [ltI_f (by simp only [lenI]; omega)]
    rfl
  · rcases hy with ⟨rfl, hy⟩ | ⟨rfl, i, hi, hy⟩
    · exact ⟨_, rfl, fun _ => hm.2 hy, fun _ => rfl⟩
    · have : ¬ mayS l := fun h => hy (hm.1 h i hi)
      exact ⟨_, rfl, by simp [this]⟩
end Go.Proofs.Ytlkhfdccapkcdaa

/- Plain laws: items by numbers may be. -/
namespace Go.Proofs.Ytlkhfdccapkcdaa
open Go Go.RowKit
set_option linter.unusedVariables false
set_option linter.unusedSimpArgs false
def SrtH (l : List Field) : Prop := rises (fun x : Field => x.name) l
def applyH (l : List Field) (e : Field) : List Field := l.filter (fun p => slt p.name e.name) ++ [e] ++ l.filter (fun p => slt e.name p.name)
def stepH (e : Field) (a : Bool × List Field) (x : Field) : Bool × List Field :=
  let a1 := if a.1 = false ∧ slt x.name e.name = false then (true, a.2 ++ [e]) else a
  if x.name = e.name then a1 else (a1.1, a1.2 ++ [x])
/-- What the rounds of Make keep, of a kind. -/
def keepM (kind : Int) (q : Nat) (s : ByteArray) (f : List Field) (l : List ByteArray) : Prop :=
  s.size ≤ 40 * q ∧ f.length ≤ q ∧ l.length ≤ q ∧ (∀ x ∈ f, okFld x) ∧ SrtH f ∧ (∀ x ∈ l, x.size ≤ 300) ∧ (kind = 4 → rises (fun x => x) l) ∧
  ((kind = 1 ∧ f = [] ∧ l = []) ∨ (kind = 2 ∧ s = ⟨#[]⟩ ∧ l = [] ∧ (0 < q → f ≠ [])) ∨ ((kind = 3 ∨ kind = 4) ∧ s = ⟨#[]⟩ ∧ f = [] ∧ (0 < q → l ≠ [])))
def okM2 (m : List Effect) : Prop := okM m ∧ ∀ e ∈ m, e.gone = false → mayI e.item
end Go.Proofs.Ytlkhfdccapkcdaa

/- Walks, printed: l11_SpaceMade -/
namespace Go.Proofs.Ytlkhfdccapkcdaa
open Go Go.RowKit
set_option linter.unusedVariables false
set_option linter.unusedSimpArgs false
end Go.Proofs.Ytlkhfdccapkcdaa

/- Walks, printed: r5_SameFields_ft, r1_Texts_ft, r5_SameItem_ft, r5_SameSpace_ft, l11_SpaceAll -/
namespace Go.Proofs.Ytlkhfdccapkcdaa
open Go Go.RowKit
set_option linter.unusedVariables false
set_option linter.unusedSimpArgs false
def r5_SameFields_ft_sh (n : Nat) (a0 : List Field) (a1 : List Field) : Option Bool :=
lt (lenI a0) fun v1 =>
lt (lenI a1) fun v2 =>
lt (neI v1 v2) fun v3 =>
ite' v3 (some false) (bn (iter n (fun (y4 : Int) =>
lt (lenI a0) fun v7 =>
lt (ltI y4 v7) fun v8 =>
ite' v8 (bn (nth a0 y4) fun v9 =>
bn (nth a1 y4) fun v10 =>
lt (notB (andB (eqS v9.name v10.name) (andB (eqS v9.val v10.val) true))) fun v11 =>
ite' v11 (some (.inr (.inr false))) (lt (addI .i64 y4 1) fun v12 =>
some (.inl v12))) (some (.inr (.inl ())))) 0) fun (y5 : Unit ⊕ Bool) =>
sm y5 (fun y13 => some true) (fun y14 => some y14))
set_option maxRecDepth 8000 in
set_option maxHeartbeats 8000000 in
theorem s_r5_SameFields_ft {n : Nat} {a0 : List Field} {a1 : List Field} {r : Bool} (h : r5_SameFields_ft_sh n a0 a1 = some r) : Sound Try.prog 23 [.l (.d false 2 (encField a0)), .l (.d true 2 (encField a1))] [] (.l (.s (.bool r))) [] := by
 unfold r5_SameFields_ft_sh at h
 refine Sound.of_aw (fn := Try.f23) (c := _) Try.func23 rfl (by simp [Try.f23]) fun cx hG hnb => ?_
 rw [show Try.f23.ntmps = 26 from rfl]
 have hn0 : cx.nb = 0 := hnb
 simp only [st0_mk, initTm, List.map_cons, List.map_nil]
 apply AW.step
 ·simp
  intros; rfl
 refine AW.seq ?_
 replace h := ltE h; obtain ⟨v1, e1, h⟩ := h
 replace h := ltE h; obtain ⟨v2, e2, h⟩ := h
 replace h := ltE h; obtain ⟨v3, e3, h⟩ := h
 apply AW.step
 ·simp [lenI_cast e1, lenI_cast e2, ← e3]
  intros; rfl
 cases v3 with
 | true =>
  replace h := iteT rfl h
  refine AW.cond_true (by simp) ?_
  apply AW.step
  ·simp
   intros; rfl
  obtain rfl := Option.some.inj h
  refine AW.ret ?_
  refine Left.plain hnb (by simp [Try.f23, resV, resC, comp]; rfl) rfl rfl ?_
  simp
 | false =>
  replace h := iteF rfl h
  refine AW.cond_false (by simp) ?_
  refine AW.skip ?_
  try simp only [sp_l, sp_r, Post.seq, Post.block, Nat.reduceEqDiff, reduceIte, Nat.zero_ne_one, Nat.one_ne_zero]
  try simp only [sp_l, sp_r, Post.seq, Post.block, Nat.reduceEqDiff, reduceIte, Nat.zero_ne_one, Nat.one_ne_zero]
  refine AW.seq ?_
  apply AW.step
  ·simp
   intros; rfl
  refine AW.block ?_
  replace h := bnE h; obtain ⟨y5, g5, h⟩ := h
  refine AW.iterP g5 (mk := fun gh ls q => (⟨[(0, .l (.d false 2 (encField a0))), (1, .l (.d true 2 (encField a1))), (5, .l (.s (.int .i64 q)))], [], 26, gh, ls⟩ : St)) (N := fun gh ls => (sp (xP 0 (cx := cx) (fun _ => (⟨[], [], 26, gh, ls⟩ : St))) (rP (cx := cx) (P := Try.prog) Try.f23 (fun q => .l (.s (.bool q))) (fun q => [])))) ?_ (noS noX noR) ?_ ?_
  ·refine Weak.mixN [] hn0 (by decide) ?_ ?_ rfl
   all_goals first | (simp [inv_cons, inv_nil, pickOb]; done) | rfl
  ·clear h; intro y4 y6 h
   refine AW.seq ?_
   replace h := ltE h; obtain ⟨v7, e7, h⟩ := h
   replace h := ltE h; obtain ⟨v8, e8, h⟩ := h
   apply AW.step
   ·simp [lenI_cast e7, ← e8]
    intros; rfl
   cases v8 with
   | true =>
    replace h := iteT rfl h
    refine AW.cond_true (by simp) ?_
    refine AW.skip ?_
    try simp only [sp_l, sp_r, Post.seq, Post.block, Nat.reduceEqDiff, reduceIte, Nat.zero_ne_one, Nat.one_ne_zero]
    try simp only [sp_l, sp_r, Post.seq, Post.block, Nat.reduceEqDiff, reduceIte, Nat.zero_ne_one, Nat.one_ne_zero]
    refine AW.seq ?_
    refine AW.block ?_
    replace h := bnE h; obtain ⟨v9, e9, h⟩ := h
    replace h := bnE h; obtain ⟨v10, e10, h⟩ := h
    replace h := ltE h; obtain ⟨v11, e11, h⟩ := h
    apply AW.drawnP (V := [_, _, _, _, _, _, _, _]) mixed [⟨[0], [], [(0, none)], false⟩, ⟨[0], [], [(5, none)], false⟩, ⟨[0], [0, 1], [(17, some 0), (18, some 1)], false⟩, ⟨[0], [0, 1, 2], [(19, some 2)], false⟩, ⟨[0], [], [(1, none)], false⟩, ⟨[0], [], [(5, none)], false⟩, ⟨[0], [4, 5], [(21, some 4), (22, some 5)], false⟩, ⟨[0], [4, 5, 6], [(23, some 6)], false⟩, ⟨[], [0, 1, 2, 3, 4, 5, 6, 7], [], false⟩] 8 (by kernel_rfl) (by kernel_rfl)
    ·refine ⟨?_, ?_, ?_, ?_, ?_, ?_, ?_, ?_, trivial⟩
     ·intro tm hr
      simp [AllL, rdV] at hr
      simp [hr, nth_d e9, nth_d e10, ← e11]
      intros; first | exact KD.mk | exact KD.mkN
     ·intro tm hr
      simp [AllL, rdV] at hr
      simp [hr, nth_d e9, nth_d e10, ← e11]
      intros; first | exact KD.mk | exact KD.mkN
     ·intro tm hr
      simp [AllL, rdV] at hr
      simp [hr, nth_d e9, nth_d e10, ← e11]
      intros; first | exact KD.mk | exact KD.mkN
     ·intro tm hr
      simp [AllL, rdV] at hr
      simp [hr, nth_d e9, nth_d e10, ← e11]
      intros; first | exact KD.mk | exact KD.mkN
     ·intro tm hr
      simp [AllL, rdV] at hr
      simp [hr, nth_d e9, nth_d e10, ← e11]
      intros; first | exact KD.mk | exact KD.mkN
     ·intro tm hr
      simp [AllL, rdV] at hr
      simp [hr, nth_d e9, nth_d e10, ← e11]
      intros; first | exact KD.mk | exact KD.mkN
     ·intro tm hr
      simp [AllL, rdV] at hr
      simp [hr, nth_d e9, nth_d e10, ← e11]
      intros; first | exact KD.mk | exact KD.mkN
     ·intro tm hr
      simp [AllL, rdV] at hr
      simp [hr, nth_d e9, nth_d e10, ← e11]
      intros; first | exact KD.mk | exact KD.mkN
    ·rfl
    ·simp [tmD, putD, nth_d e9, nth_d e10, ← e11]; rfl
    ·simp [nth_d e9, nth_d e10, ← e11]
     intros; rfl
    cases v11 with
    | true =>
     replace h := iteT rfl h
     refine AW.cond_true (by simp) ?_
     apply AW.step
     ·simp
      intros; rfl
     obtain rfl := Option.some.inj h
     refine AW.ret ?_
     try simp only [sp_l, sp_r, Post.seq, Post.block, Nat.reduceEqDiff, reduceIte, Nat.zero_ne_one, Nat.one_ne_zero]
     refine rP_i ?_
     refine Left.plain hnb (by simp [Try.f23, resV, resC, comp]; rfl) rfl rfl ?_
     simp
    | false =>
     replace h := iteF rfl h
     refine AW.cond_false (by simp) ?_
     refine AW.skip ?_
     try simp only [sp_l, sp_r, Post.seq, Post.block, Nat.reduceEqDiff, reduceIte, Nat.zero_ne_one, Nat.one_ne_zero]
     try simp only [sp_l, sp_r, Post.seq, Post.block, Nat.reduceEqDiff, reduceIte, Nat.zero_ne_one, Nat.one_ne_zero]
     replace h := ltE h; obtain ⟨v12, e12, h⟩ := h
     apply AW.last
     ·simp [← e12]
      intros; rfl
     obtain rfl := Option.some.inj h
     refine nP_i ?_
     refine Weak.mixN [] hn0 (by decide) ?_ ?_ rfl
     all_goals first | (simp [inv_cons, inv_nil, pickOb]; done) | rfl
   | false =>
    replace h := iteF rfl h
    refine AW.cond_false (by simp) ?_
    refine AW.exit ?_
    try simp only [sp_l, sp_r, Post.seq, Post.block, Nat.reduceEqDiff, reduceIte, Nat.zero_ne_one, Nat.one_ne_zero]
    obtain rfl := Option.some.inj h
    try simp only [sp_l, sp_r]
    refine xP_i ?_
    refine Weak.mixN [] hn0 (by decide) ?_ ?_ rfl
    all_goals first | (simp [inv_cons, inv_nil, pickOb]; done) | rfl
  ·rintro e s hp
   rcases y5 with y13 | y14
   ·replace h := smL h
    obtain ⟨rfl, hw⟩ := hp
    refine ⟨_, hw, ?_⟩
    try simp only [sp_l, sp_r, Post.seq, Post.block, Nat.reduceEqDiff, reduceIte, Nat.zero_ne_one, Nat.one_ne_zero]
    apply AW.step
    ·simp
     intros; rfl
    obtain rfl := Option.some.inj h
    refine AW.ret ?_
    refine Left.plain hnb (by simp [Try.f23, resV, resC, comp]; rfl) rfl rfl ?_
    simp
   ·replace h := smR h
    obtain ⟨rfl, hl⟩ := hp
    refine ⟨_, Weak.refl _, ?_⟩
    obtain rfl := Option.some.inj h
    exact hl
theorem en_r5_SameFields_ft : Enters Try.prog 23 := enters Try.func23 (by kernel_rfl) rfl
def r1_Texts_ft_sh (n : Nat) (a0 : List ByteArray) (a1 : List ByteArray) : Option Bool :=
lt (lenI a0) fun v1 =>
lt (lenI a1) fun v2 =>
lt (neI v1 v2) fun v3 =>
ite' v3 (some false) (bn (iter n (fun (y4 : Int) =>
lt (lenI a0) fun v7 =>
lt (ltI y4 v7) fun v8 =>
ite' v8 (bn (nth a0 y4) fun v9 =>
bn (nth a1 y4) fun v10 =>
lt (neS v9 v10) fun v11 =>
ite' v11 (some (.inr (.inr false))) (lt (addI .i64 y4 1) fun v12 =>
some (.inl v12))) (some (.inr (.inl ())))) 0) fun (y5 : Unit ⊕ Bool) =>
sm y5 (fun y13 => some true) (fun y14 => some y14))
set_option maxRecDepth 8000 in
set_option maxHeartbeats 8000000 in
theorem s_r1_Texts_ft {n : Nat} {a0 : List ByteArray} {a1 : List ByteArray} {r : Bool} (h : r1_Texts_ft_sh n a0 a1 = some r) : Sound Try.prog 31 [.l (.d false 1 (encS a0)), .l (.d true 1 (encS a1))] [] (.l (.s (.bool r))) [] := by
 unfold r1_Texts_ft_sh at h
 refine Sound.of_aw (fn := Try.f31) (c := _) Try.func31 rfl (by simp [Try.f31]) fun cx hG hnb => ?_
 rw [show Try.f31.ntmps = 26 from rfl]
 have hn0 : cx.nb = 0 := hnb
 simp only [st0_mk, initTm, List.map_cons, List.map_nil]
 apply AW.step
 ·simp
  intros; rfl
 refine AW.seq ?_
 replace h := ltE h; obtain ⟨v1, e1, h⟩ := h
 replace h := ltE h; obtain ⟨v2, e2, h⟩ := h
 replace h := ltE h; obtain ⟨v3, e3, h⟩ := h
 apply AW.step
 ·simp [lenI_cast e1, lenI_cast e2, ← e3]
  intros; rfl
 cases v3 with
 | true =>
  replace h := iteT rfl h
  refine AW.cond_true (by simp) ?_
  apply AW.step
  ·simp
   intros; rfl
  obtain rfl := Option.some.inj h
  refine AW.ret ?_
  refine Left.plain hnb (by simp [Try.f31, resV, resC, comp]; rfl) rfl rfl ?_
  simp
 | false =>
  replace h := iteF rfl h
  refine AW.cond_false (by simp) ?_
  refine AW.skip ?_
  try simp only [sp_l, sp_r, Post.seq, Post.block, Nat.reduceEqDiff, reduceIte, Nat.zero_ne_one, Nat.one_ne_zero]
  try simp only [sp_l, sp_r, Post.seq, Post.block, Nat.reduceEqDiff, reduceIte, Nat.zero_ne_one, Nat.one_ne_zero]
  refine AW.seq ?_
  apply AW.step
  ·simp
   intros; rfl
  refine AW.block ?_
  replace h := bnE h; obtain ⟨y5, g5, h⟩ := h
  refine AW.iterP g5 (mk := fun gh ls q => (⟨[(0, .l (.d false 1 (encS a0))), (1, .l (.d true 1 (encS a1))), (5, .l (.s (.int .i64 q)))], [], 26, gh, ls⟩ : St)) (N := fun gh ls => (sp (xP 0 (cx := cx) (fun _ => (⟨[], [], 26, gh, ls⟩ : St))) (rP (cx := cx) (P := Try.prog) Try.f31 (fun q => .l (.s (.bool q))) (fun q => [])))) ?_ (noS noX noR) ?_ ?_
  ·refine Weak.mixN [] hn0 (by decide) ?_ ?_ rfl
   all_goals first | (simp [inv_cons, inv_nil, pickOb]; done) | rfl
  ·clear h; intro y4 y6 h
   refine AW.seq ?_
   replace h := ltE h; obtain ⟨v7, e7, h⟩ := h
   replace h := ltE h; obtain ⟨v8, e8, h⟩ := h
   apply AW.step
   ·simp [lenI_cast e7, ← e8]
    intros; rfl
   cases v8 with
   | true =>
    replace h := iteT rfl h
    refine AW.cond_true (by simp) ?_
    refine AW.skip ?_
    try simp only [sp_l, sp_r, Post.seq, Post.block, Nat.reduceEqDiff, reduceIte, Nat.zero_ne_one, Nat.one_ne_zero]
    try simp only [sp_l, sp_r, Post.seq, Post.block, Nat.reduceEqDiff, reduceIte, Nat.zero_ne_one, Nat.one_ne_zero]
    refine AW.seq ?_
    refine AW.block ?_
    replace h := bnE h; obtain ⟨v9, e9, h⟩ := h
    replace h := bnE h; obtain ⟨v10, e10, h⟩ := h
    replace h := ltE h; obtain ⟨v11, e11, h⟩ := h
    apply AW.drawnP (V := [_, _, _, _, _, _, _, _]) mixed [⟨[0], [], [(0, none)], false⟩, ⟨[0], [], [(5, none)], false⟩, ⟨[0], [0, 1], [(17, some 0), (18, some 1)], false⟩, ⟨[0], [0, 1, 2], [(19, some 2)], false⟩, ⟨[0], [], [(1, none)], false⟩, ⟨[0], [], [(5, none)], false⟩, ⟨[0], [4, 5], [(21, some 4), (22, some 5)], false⟩, ⟨[0], [4, 5, 6], [(23, some 6)], false⟩, ⟨[], [0, 1, 2, 3, 4, 5, 6, 7], [], false⟩] 8 (by kernel_rfl) (by kernel_rfl)
    ·refine ⟨?_, ?_, ?_, ?_, ?_, ?_, ?_, ?_, trivial⟩
     ·intro tm hr
      simp [AllL, rdV] at hr
      simp [hr, nth_d e9, nth_d e10, ← e11]
      intros; first | exact KD.mk | exact KD.mkN
     ·intro tm hr
      simp [AllL, rdV] at hr
      simp [hr, nth_d e9, nth_d e10, ← e11]
      intros; first | exact KD.mk | exact KD.mkN
     ·intro tm hr
      simp [AllL, rdV] at hr
      simp [hr, nth_d e9, nth_d e10, ← e11]
      intros; first | exact KD.mk | exact KD.mkN
     ·intro tm hr
      simp [AllL, rdV] at hr
      simp [hr, nth_d e9, nth_d e10, ← e11]
      intros; first | exact KD.mk | exact KD.mkN
     ·intro tm hr
      simp [AllL, rdV] at hr
      simp [hr, nth_d e9, nth_d e10, ← e11]
      intros; first | exact KD.mk | exact KD.mkN
     ·intro tm hr
      simp [AllL, rdV] at hr
      simp [hr, nth_d e9, nth_d e10, ← e11]
      intros; first | exact KD.mk | exact KD.mkN
     ·intro tm hr
      simp [AllL, rdV] at hr
      simp [hr, nth_d e9, nth_d e10, ← e11]
      intros; first | exact KD.mk | exact KD.mkN
     ·intro tm hr
      simp [AllL, rdV] at hr
      simp [hr, nth_d e9, nth_d e10, ← e11]
      intros; first | exact KD.mk | exact KD.mkN
    ·rfl
    ·simp [tmD, putD, nth_d e9, nth_d e10, ← e11]; rfl
    ·simp [nth_d e9, nth_d e10, ← e11]
     intros; rfl
    cases v11 with
    | true =>
     replace h := iteT rfl h
     refine AW.cond_true (by simp) ?_
     apply AW.step
     ·simp
      intros; rfl
     obtain rfl := Option.some.inj h
     refine AW.ret ?_
     try simp only [sp_l, sp_r, Post.seq, Post.block, Nat.reduceEqDiff, reduceIte, Nat.zero_ne_one, Nat.one_ne_zero]
     refine rP_i ?_
     refine Left.plain hnb (by simp [Try.f31, resV, resC, comp]; rfl) rfl rfl ?_
     simp
    | false =>
     replace h := iteF rfl h
     refine AW.cond_false (by simp) ?_
     refine AW.skip ?_
     try simp only [sp_l, sp_r, Post.seq, Post.block, Nat.reduceEqDiff, reduceIte, Nat.zero_ne_one, Nat.one_ne_zero]
     try simp only [sp_l, sp_r, Post.seq, Post.block, Nat.reduceEqDiff, reduceIte, Nat.zero_ne_one, Nat.one_ne_zero]
     replace h := ltE h; obtain ⟨v12, e12, h⟩ := h
     apply AW.last
     ·simp [← e12]
      intros; rfl
     obtain rfl := Option.some.inj h
     refine nP_i ?_
     refine Weak.mixN [] hn0 (by decide) ?_ ?_ rfl
     all_goals first | (simp [inv_cons, inv_nil, pickOb]; done) | rfl
   | false =>
    replace h := iteF rfl h
    refine AW.cond_false (by simp) ?_
    refine AW.exit ?_
    try simp only [sp_l, sp_r, Post.seq, Post.block, Nat.reduceEqDiff, reduceIte, Nat.zero_ne_one, Nat.one_ne_zero]
    obtain rfl := Option.some.inj h
    try simp only [sp_l, sp_r]
    refine xP_i ?_
    refine Weak.mixN [] hn0 (by decide) ?_ ?_ rfl
    all_goals first | (simp [inv_cons, inv_nil, pickOb]; done) | rfl
  ·rintro e s hp
   rcases y5 with y13 | y14
   ·replace h := smL h
    obtain ⟨rfl, hw⟩ := hp
    refine ⟨_, hw, ?_⟩
    try simp only [sp_l, sp_r, Post.seq, Post.block, Nat.reduceEqDiff, reduceIte, Nat.zero_ne_one, Nat.one_ne_zero]
    apply AW.step
    ·simp
     intros; rfl
    obtain rfl := Option.some.inj h
    refine AW.ret ?_
    refine Left.plain hnb (by simp [Try.f31, resV, resC, comp]; rfl) rfl rfl ?_
    simp
   ·replace h := smR h
    obtain ⟨rfl, hl⟩ := hp
    refine ⟨_, Weak.refl _, ?_⟩
    obtain rfl := Option.some.inj h
    exact hl
theorem en_r1_Texts_ft : Enters Try.prog 31 := enters Try.func31 (by kernel_rfl) rfl
def r5_SameItem_ft_sh (n : Nat) (a0 : Item) (a1 : Item) : Option Bool :=
bn (lt (eqI a0.kind a1.kind) fun v2 =>
ite' v2 (lt (eqS a0.s a1.s) fun v3 =>
ite' v3 (lt (eqI a0.exp a1.exp) fun v4 =>
ite' v4 (bn (r5_SameFields_ft_sh n a0.f a1.f) fun v5 =>
ite' v5 (bn (r1_Texts_ft_sh n a0.l a1.l) fun v6 =>
some (v6)) (some (false))) (some (false))) (some (false))) (some (false))) fun (y1 : Bool) =>
some y1
set_option maxRecDepth 8000 in
set_option maxHeartbeats 8000000 in
theorem s_r5_SameItem_ft {n : Nat} {a0 : Item} {a1 : Item} {r : Bool} (h : r5_SameItem_ft_sh n a0 a1 = some r) : Sound Try.prog 58 [.g [.s (.int .i64 a0.kind), .s (.string a0.s), .d false 2 (encField a0.f), .d false 1 (encS a0.l), .s (.int .i64 a0.exp)], .g [.s (.int .i64 a1.kind), .s (.string a1.s), .d true 2 (encField a1.f), .d true 1 (encS a1.l), .s (.int .i64 a1.exp)]] [] (.l (.s (.bool r))) [] := by
 unfold r5_SameItem_ft_sh at h
 refine Sound.of_aw (fn := Try.f58) (c := _) Try.func58 rfl (by simp [Try.f58]) fun cx hG hnb => ?_
 rw [show Try.f58.ntmps = 38 from rfl]
 have hn0 : cx.nb = 0 := hnb
 simp only [st0_mk, initTm, List.map_cons, List.map_nil]
 apply AW.step
 ·simp
  intros; rfl
 replace h := bnE h; obtain ⟨y1, g1, h⟩ := h
 refine AW.flow (p := fun gh ls => (nP (cx := cx) (fun q => (⟨[(4, .l (.s (.bool q)))], [], 38, gh, ls⟩ : St))) y1) ?_ ?_
 ·replace h := g1; clear g1
  replace h := ltE h; obtain ⟨v2, e2, h⟩ := h
  cases v2 with
  | true =>
   replace h := iteT rfl h
   replace h := ltE h; obtain ⟨v3, e3, h⟩ := h
   cases v3 with
   | true =>
    replace h := iteT rfl h
    replace h := ltE h; obtain ⟨v4, e4, h⟩ := h
    cases v4 with
    | true =>
     replace h := iteT rfl h
     replace h := bnE h; obtain ⟨v5, e5, h⟩ := h
     cases v5 with
     | true =>
      replace h := iteT rfl h
      replace h := bnE h; obtain ⟨v6, e6, h⟩ := h
      apply AW.last
      ·simp [← e2, ← e3, ← e4]
       intros
       refine xcall_plain en_r5_SameFields_ft (s_r5_SameFields_ft e5) rfl ⟨.same rfl, .d _ _ _, trivial⟩ ?_
       try simp [← e2, ← e3, ← e4]
       intros
       refine xcall_plain en_r1_Texts_ft (s_r1_Texts_ft e6) rfl ⟨.same rfl, .d _ _ _, trivial⟩ ?_
       try simp [← e2, ← e3, ← e4]
       intros; rfl
      obtain rfl := Option.some.inj h
      refine nP_i ?_
      refine Weak.mixN [] hn0 (by decide) ?_ ?_ rfl
      all_goals first | (simp [inv_cons, inv_nil, pickOb]; done) | rfl
     | false =>
      replace h := iteF rfl h
      apply AW.last
      ·simp [← e2, ← e3, ← e4]
       intros
       refine xcall_plain en_r5_SameFields_ft (s_r5_SameFields_ft e5) rfl ⟨.same rfl, .d _ _ _, trivial⟩ ?_
       try simp [← e2, ← e3, ← e4]
       intros; rfl
      obtain rfl := Option.some.inj h
      refine nP_i ?_
      refine Weak.mixN [] hn0 (by decide) ?_ ?_ rfl
      all_goals first | (simp [inv_cons, inv_nil, pickOb]; done) | rfl
    | false =>
     replace h := iteF rfl h
     apply AW.last
     ·simp [← e2, ← e3, ← e4]
      intros; rfl
     obtain rfl := Option.some.inj h
     refine nP_i ?_
     refine Weak.mixN [] hn0 (by decide) ?_ ?_ rfl
     all_goals first | (simp [inv_cons, inv_nil, pickOb]; done) | rfl
   | false =>
    replace h := iteF rfl h
    apply AW.last
    ·simp [← e2, ← e3]
     intros; rfl
    obtain rfl := Option.some.inj h
    refine nP_i ?_
    refine Weak.mixN [] hn0 (by decide) ?_ ?_ rfl
    all_goals first | (simp [inv_cons, inv_nil, pickOb]; done) | rfl
  | false =>
   replace h := iteF rfl h
   apply AW.last
   ·simp [← e2]
    intros; rfl
   obtain rfl := Option.some.inj h
   refine nP_i ?_
   refine Weak.mixN [] hn0 (by decide) ?_ ?_ rfl
   all_goals first | (simp [inv_cons, inv_nil, pickOb]; done) | rfl
 ·rintro e s hp
  obtain ⟨rfl, hw⟩ := hp
  refine ⟨_, hw, ?_⟩
  try simp only [sp_l, sp_r, Post.seq, Post.block, Nat.reduceEqDiff, reduceIte, Nat.zero_ne_one, Nat.one_ne_zero]
  obtain rfl := Option.some.inj h
  refine AW.ret ?_
  refine Left.plain hnb (by simp [Try.f58, resV, resC, comp]; rfl) rfl rfl ?_
  simp
theorem en_r5_SameItem_ft : Enters Try.prog 58 := enters Try.func58 (by kernel_rfl) rfl
def r5_SameSpace_ft_sh (n : Nat) (a0 : List Pair) (a1 : List Pair) : Option Bool :=
lt (lenI a0) fun v1 =>
lt (lenI a1) fun v2 =>
lt (neI v1 v2) fun v3 =>
ite' v3 (some false) (bn (iter n (fun (y4 : Int) =>
lt (lenI a0) fun v7 =>
lt (ltI y4 v7) fun v8 =>
ite' v8 (bn (bn (nth a0 y4) fun v10 =>
bn (nth a1 y4) fun v11 =>
lt (neS v10.key v11.key) fun v12 =>
ite' v12 (some (true)) (bn (r5_SameItem_ft_sh n v10.item v11.item) fun v13 =>
lt (notB v13) fun v14 =>
some (v14))) fun (y9 : Bool) =>
lt (y9) fun v15 =>
ite' v15 (some (.inr (.inr false))) (lt (addI .i64 y4 1) fun v16 =>
some (.inl v16))) (some (.inr (.inl ())))) 0) fun (y5 : Unit ⊕ Bool) =>
sm y5 (fun y17 => some true) (fun y18 => some y18))
set_option maxRecDepth 8000 in
set_option maxHeartbeats 8000000 in
theorem s_r5_SameSpace_ft {n : Nat} {a0 : List Pair} {a1 : List Pair} {r : Bool} (h : r5_SameSpace_ft_sh n a0 a1 = some r) : Sound Try.prog 42 [.l (.d false 6 (encPair a0)), .l (.d true 6 (encPair a1))] [] (.l (.s (.bool r))) [] := by
 unfold r5_SameSpace_ft_sh at h
 refine Sound.of_aw (fn := Try.f42) (c := _) Try.func42 rfl (by simp [Try.f42]) fun cx hG hnb => ?_
 rw [show Try.f42.ntmps = 42 from rfl]
 have hn0 : cx.nb = 0 := hnb
 simp only [st0_mk, initTm, List.map_cons, List.map_nil]
 apply AW.step
 ·simp
  intros; rfl
 refine AW.seq ?_
 replace h := ltE h; obtain ⟨v1, e1, h⟩ := h
 replace h := ltE h; obtain ⟨v2, e2, h⟩ := h
 replace h := ltE h; obtain ⟨v3, e3, h⟩ := h
 apply AW.step
 ·simp [lenI_cast e1, lenI_cast e2, ← e3]
  intros; rfl
 cases v3 with
 | true =>
  replace h := iteT rfl h
  refine AW.cond_true (by simp) ?_
  apply AW.step
  ·simp
   intros; rfl
  obtain rfl := Option.some.inj h
  refine AW.ret ?_
  refine Left.plain hnb (by simp [Try.f42, resV, resC, comp]; rfl) rfl rfl ?_
  simp
 | false =>
  replace h := iteF rfl h
  refine AW.cond_false (by simp) ?_
  refine AW.skip ?_
  try simp only [sp_l, sp_r, Post.seq, Post.block, Nat.reduceEqDiff, reduceIte, Nat.zero_ne_one, Nat.one_ne_zero]
  try simp only [sp_l, sp_r, Post.seq, Post.block, Nat.reduceEqDiff, reduceIte, Nat.zero_ne_one, Nat.one_ne_zero]
  refine AW.seq ?_
  apply AW.step
  ·simp
   intros; rfl
  refine AW.block ?_
  replace h := bnE h; obtain ⟨y5, g5, h⟩ := h
  refine AW.iterP g5 (mk := fun gh ls q => (⟨[(0, .l (.d false 6 (encPair a0))), (1, .l (.d true 6 (encPair a1))), (5, .l (.s (.int .i64 q)))], [], 42, gh, ls⟩ : St)) (N := fun gh ls => (sp (xP 0 (cx := cx) (fun _ => (⟨[], [], 42, gh, ls⟩ : St))) (rP (cx := cx) (P := Try.prog) Try.f42 (fun q => .l (.s (.bool q))) (fun q => [])))) ?_ (noS noX noR) ?_ ?_
  ·refine Weak.mixN [] hn0 (by decide) ?_ ?_ rfl
   all_goals first | (simp [inv_cons, inv_nil, pickOb]; done) | rfl
  ·clear h; intro y4 y6 h
   refine AW.seq ?_
   replace h := ltE h; obtain ⟨v7, e7, h⟩ := h
   replace h := ltE h; obtain ⟨v8, e8, h⟩ := h
   apply AW.step
   ·simp [lenI_cast e7, ← e8]
    intros; rfl
   cases v8 with
   | true =>
    replace h := iteT rfl h
    refine AW.cond_true (by simp) ?_
    refine AW.skip ?_
    try simp only [sp_l, sp_r, Post.seq, Post.block, Nat.reduceEqDiff, reduceIte, Nat.zero_ne_one, Nat.one_ne_zero]
    try simp only [sp_l, sp_r, Post.seq, Post.block, Nat.reduceEqDiff, reduceIte, Nat.zero_ne_one, Nat.one_ne_zero]
    refine AW.seq ?_
    refine AW.block ?_
    replace h := bnE h; obtain ⟨y9, g9, h⟩ := h
    refine AW.flow (p := fun gh ls => (nP (cx := cx) (fun q => (⟨[(0, .l (.d false 6 (encPair a0))), (1, .l (.d true 6 (encPair a1))), (5, .l (.s (.int .i64 y4))), (41, .l (.s (.bool q)))], [], 42, gh, ls⟩ : St))) y9) ?_ ?_
    ·replace h := g9; clear g9
     replace h := bnE h; obtain ⟨v10, e10, h⟩ := h
     replace h := bnE h; obtain ⟨v11, e11, h⟩ := h
     replace h := ltE h; obtain ⟨v12, e12, h⟩ := h
     cases v12 with
     | true =>
      replace h := iteT rfl h
      apply AW.drawnR (V := [_, _, _, _, _, _, _, _, _, _, _, _, _, _, _, _, _, _, _, _, _, _]) mixed [⟨[0], [], [(0, none)], false⟩, ⟨[0], [], [(5, none)], false⟩, ⟨[0], [0, 1], [(17, some 0), (18, some 1)], false⟩, ⟨[0], [0, 1, 2], [(19, some 2)], false⟩, ⟨[0], [0, 1, 2, 3], [(20, some 3)], false⟩, ⟨[0], [], [(1, none)], false⟩, ⟨[0], [], [(5, none)], false⟩, ⟨[0], [5, 6], [(22, some 5), (23, some 6)], false⟩, ⟨[0], [5, 6, 7], [(24, some 7)], false⟩, ⟨[0], [5, 6, 7, 8], [(25, some 8)], false⟩, ⟨[0], [0, 1, 2, 3, 4, 5, 6, 7, 8, 9], [(21, some 4), (26, some 9)], false⟩, ⟨[0], [0, 1, 2, 3, 4, 5, 6, 7, 8, 9, 10], [(27, some 10)], false⟩, ⟨[0], [0, 1, 2, 3, 4, 5, 6, 7, 8, 9, 10, 11], [(0, none), (28, some 11)], false⟩, ⟨[0], [0, 1, 2, 3, 4, 5, 6, 7, 8, 9, 10, 11], [(5, none), (28, some 11)], false⟩, ⟨[0], [0, 1, 2, 3, 4, 5, 6, 7, 8, 9, 10, 11, 12, 13], [(28, some 11), (29, some 12), (30, some 13)], false⟩, ⟨[0], [0, 1, 2, 3, 4, 5, 6, 7, 8, 9, 10, 11, 12, 13, 14], [(28, some 11), (31, some 14)], false⟩, ⟨[0], [0, 1, 2, 3, 4, 5, 6, 7, 8, 9, 10, 11, 12, 13, 14, 15], [(28, some 11), (32, some 15)], false⟩, ⟨[0], [0, 1, 2, 3, 4, 5, 6, 7, 8, 9, 10, 11], [(1, none), (28, some 11)], false⟩, ⟨[0], [0, 1, 2, 3, 4, 5, 6, 7, 8, 9, 10, 11], [(5, none), (28, some 11)], false⟩, ⟨[0], [0, 1, 2, 3, 4, 5, 6, 7, 8, 9, 10, 11, 17, 18], [(28, some 11), (34, some 17), (35, some 18)], false⟩, ⟨[0], [0, 1, 2, 3, 4, 5, 6, 7, 8, 9, 10, 11, 17, 18, 19], [(28, some 11), (36, some 19)], false⟩, ⟨[0], [0, 1, 2, 3, 4, 5, 6, 7, 8, 9, 10, 11, 17, 18, 19, 20], [(28, some 11), (37, some 20)], false⟩, ⟨[], [0, 1, 2, 3, 4, 5, 6, 7, 8, 9, 10, 11, 12, 13, 14, 15, 16, 17, 18, 19, 20, 21], [], false⟩, ⟨[], [0, 1, 2, 3, 4, 5, 6, 7, 8, 9, 10, 11, 12, 13, 14, 15, 16, 17, 18, 19, 20, 21, 22], [], false⟩, ⟨[], [0, 1, 2, 3, 4, 5, 6, 7, 8, 9, 10, 11, 12, 13, 14, 15, 16, 17, 18, 19, 20, 21, 22, 23], [], false⟩] 22 (by kernel_rfl) (by kernel_rfl)
      ·refine ⟨?_, ?_, ?_, ?_, ?_, ?_, ?_, ?_, ?_, ?_, ?_, ?_, ?_, ?_, ?_, ?_, ?_, ?_, ?_, ?_, ?_, ?_, trivial⟩
       ·intro tm hr
        simp [AllL, rdV] at hr
        simp [hr, nth_d e10, nth_d e11, ← e12]
        intros; first | exact KD.mk | exact KD.mkN
       ·intro tm hr
        simp [AllL, rdV] at hr
        simp [hr, nth_d e10, nth_d e11, ← e12]
        intros; first | exact KD.mk | exact KD.mkN
       ·intro tm hr
        simp [AllL, rdV] at hr
        simp [hr, nth_d e10, nth_d e11, ← e12]
        intros; first | exact KD.mk | exact KD.mkN
       ·intro tm hr
        simp [AllL, rdV] at hr
        simp [hr, nth_d e10, nth_d e11, ← e12]
        intros; first | exact KD.mk | exact KD.mkN
       ·intro tm hr
        simp [AllL, rdV] at hr
        simp [hr, nth_d e10, nth_d e11, ← e12]
        intros; first | exact KD.mk | exact KD.mkN
       ·intro tm hr
        simp [AllL, rdV] at hr
        simp [hr, nth_d e10, nth_d e11, ← e12]
        intros; first | exact KD.mk | exact KD.mkN
       ·intro tm hr
        simp [AllL, rdV] at hr
        simp [hr, nth_d e10, nth_d e11, ← e12]
        intros; first | exact KD.mk | exact KD.mkN
       ·intro tm hr
        simp [AllL, rdV] at hr
        simp [hr, nth_d e10, nth_d e11, ← e12]
        intros; first | exact KD.mk | exact KD.mkN
       ·intro tm hr
        simp [AllL, rdV] at hr
        simp [hr, nth_d e10, nth_d e11, ← e12]
        intros; first | exact KD.mk | exact KD.mkN
       ·intro tm hr
        simp [AllL, rdV] at hr
        simp [hr, nth_d e10, nth_d e11, ← e12]
        intros; first | exact KD.mk | exact KD.mkN
       ·intro tm hr
        simp [AllL, rdV] at hr
        simp [hr, nth_d e10, nth_d e11, ← e12]
        intros; first | exact KD.mk | exact KD.mkN
       ·intro tm hr
        simp [AllL, rdV] at hr
        simp [hr, nth_d e10, nth_d e11, ← e12]
        intros; first | exact KD.mk | exact KD.mkN
       ·intro tm hr
        simp [AllL, rdV] at hr
        simp [hr, nth_d e10, nth_d e11, ← e12]
        intros; first | exact KD.mk | exact KD.mkN
       ·intro tm hr
        simp [AllL, rdV] at hr
        simp [hr, nth_d e10, nth_d e11, ← e12]
        intros; first | exact KD.mk | exact KD.mkN
       ·intro tm hr
        simp [AllL, rdV] at hr
        simp [hr, nth_d e10, nth_d e11, ← e12]
        intros; first | exact KD.mk | exact KD.mkN
       ·intro tm hr
        simp [AllL, rdV] at hr
        simp [hr, nth_d e10, nth_d e11, ← e12]
        intros; first | exact KD.mk | exact KD.mkN
       ·intro tm hr
        simp [AllL, rdV] at hr
        simp [hr, nth_d e10, nth_d e11, ← e12]
        intros; first | exact KD.mk | exact KD.mkN
       ·intro tm hr
        simp [AllL, rdV] at hr
        simp [hr, nth_d e10, nth_d e11, ← e12]
        intros; first | exact KD.mk | exact KD.mkN
       ·intro tm hr
        simp [AllL, rdV] at hr
        simp [hr, nth_d e10, nth_d e11, ← e12]
        intros; first | exact KD.mk | exact KD.mkN
       ·intro tm hr
        simp [AllL, rdV] at hr
        simp [hr, nth_d e10, nth_d e11, ← e12]
        intros; first | exact KD.mk | exact KD.mkN
       ·intro tm hr
        simp [AllL, rdV] at hr
        simp [hr, nth_d e10, nth_d e11, ← e12]
        intros; first | exact KD.mk | exact KD.mkN
       ·intro tm hr
        simp [AllL, rdV] at hr
        simp [hr, nth_d e10, nth_d e11, ← e12]
        intros; first | exact KD.mk | exact KD.mkN
      ·rfl
      ·simp [tmD, putD, nth_d e10, nth_d e11, ← e12]; rfl
      ·simp [nth_d e10, nth_d e11, ← e12]
       intros; rfl
      obtain rfl := Option.some.inj h
      refine nP_i ?_
      refine Weak.mixN [] hn0 (by decide) ?_ ?_ rfl
      all_goals first | (simp [inv_cons, inv_nil, pickOb]; done) | rfl
     | false =>
      replace h := iteF rfl h
      replace h := bnE h; obtain ⟨v13, e13, h⟩ := h
      replace h := ltE h; obtain ⟨v14, e14, h⟩ := h
      apply AW.drawnR (V := [_, _, _, _, _, _, _, _, _, _, _, _, _, _, _, _, _, _, _, _, _, _]) mixed [⟨[0], [], [(0, none)], false⟩, ⟨[0], [], [(5, none)], false⟩, ⟨[0], [0, 1], [(17, some 0), (18, some 1)], false⟩, ⟨[0], [0, 1, 2], [(19, some 2)], false⟩, ⟨[0], [0, 1, 2, 3], [(20, some 3)], false⟩, ⟨[0], [], [(1, none)], false⟩, ⟨[0], [], [(5, none)], false⟩, ⟨[0], [5, 6], [(22, some 5), (23, some 6)], false⟩, ⟨[0], [5, 6, 7], [(24, some 7)], false⟩, ⟨[0], [5, 6, 7, 8], [(25, some 8)], false⟩, ⟨[0], [0, 1, 2, 3, 4, 5, 6, 7, 8, 9], [(21, some 4), (26, some 9)], false⟩, ⟨[0], [0, 1, 2, 3, 4, 5, 6, 7, 8, 9, 10], [(27, some 10)], false⟩, ⟨[0], [0, 1, 2, 3, 4, 5, 6, 7, 8, 9, 10, 11], [(0, none), (28, some 11)], false⟩, ⟨[0], [0, 1, 2, 3, 4, 5, 6, 7, 8, 9, 10, 11], [(5, none), (28, some 11)], false⟩, ⟨[0], [0, 1, 2, 3, 4, 5, 6, 7, 8, 9, 10, 11, 12, 13], [(28, some 11), (29, some 12), (30, some 13)], false⟩, ⟨[0], [0, 1, 2, 3, 4, 5, 6, 7, 8, 9, 10, 11, 12, 13, 14], [(28, some 11), (31, some 14)], false⟩, ⟨[0], [0, 1, 2, 3, 4, 5, 6, 7, 8, 9, 10, 11, 12, 13, 14, 15], [(28, some 11), (32, some 15)], false⟩, ⟨[0], [0, 1, 2, 3, 4, 5, 6, 7, 8, 9, 10, 11], [(1, none), (28, some 11)], false⟩, ⟨[0], [0, 1, 2, 3, 4, 5, 6, 7, 8, 9, 10, 11], [(5, none), (28, some 11)], false⟩, ⟨[0], [0, 1, 2, 3, 4, 5, 6, 7, 8, 9, 10, 11, 17, 18], [(28, some 11), (34, some 17), (35, some 18)], false⟩, ⟨[0], [0, 1, 2, 3, 4, 5, 6, 7, 8, 9, 10, 11, 17, 18, 19], [(28, some 11), (36, some 19)], false⟩, ⟨[0], [0, 1, 2, 3, 4, 5, 6, 7, 8, 9, 10, 11, 17, 18, 19, 20], [(28, some 11), (37, some 20)], false⟩, ⟨[], [0, 1, 2, 3, 4, 5, 6, 7, 8, 9, 10, 11, 12, 13, 14, 15, 16, 17, 18, 19, 20, 21], [], false⟩, ⟨[], [0, 1, 2, 3, 4, 5, 6, 7, 8, 9, 10, 11, 12, 13, 14, 15, 16, 17, 18, 19, 20, 21, 22], [], false⟩, ⟨[], [0, 1, 2, 3, 4, 5, 6, 7, 8, 9, 10, 11, 12, 13, 14, 15, 16, 17, 18, 19, 20, 21, 22, 23], [], false⟩] 22 (by kernel_rfl) (by kernel_rfl)
      ·refine ⟨?_, ?_, ?_, ?_, ?_, ?_, ?_, ?_, ?_, ?_, ?_, ?_, ?_, ?_, ?_, ?_, ?_, ?_, ?_, ?_, ?_, ?_, trivial⟩
       ·intro tm hr
        simp [AllL, rdV] at hr
        simp [hr, nth_d e10, nth_d e11, ← e12, ← e14]
        intros; first | exact KD.mk | exact KD.mkN
       ·intro tm hr
        simp [AllL, rdV] at hr
        simp [hr, nth_d e10, nth_d e11, ← e12, ← e14]
        intros; first | exact KD.mk | exact KD.mkN
       ·intro tm hr
        simp [AllL, rdV] at hr
        simp [hr, nth_d e10, nth_d e11, ← e12, ← e14]
        intros; first | exact KD.mk | exact KD.mkN
       ·intro tm hr
        simp [AllL, rdV] at hr
        simp [hr, nth_d e10, nth_d e11, ← e12, ← e14]
        intros; first | exact KD.mk | exact KD.mkN
       ·intro tm hr
        simp [AllL, rdV] at hr
        simp [hr, nth_d e10, nth_d e11, ← e12, ← e14]
        intros; first | exact KD.mk | exact KD.mkN
       ·intro tm hr
        simp [AllL, rdV] at hr
        simp [hr, nth_d e10, nth_d e11, ← e12, ← e14]
        intros; first | exact KD.mk | exact KD.mkN
       ·intro tm hr
        simp [AllL, rdV] at hr
        simp [hr, nth_d e10, nth_d e11, ← e12, ← e14]
        intros; first | exact KD.mk | exact KD.mkN
       ·intro tm hr
        simp [AllL, rdV] at hr
        simp [hr, nth_d e10, nth_d e11, ← e12, ← e14]
        intros; first | exact KD.mk | exact KD.mkN
       ·intro tm hr
        simp [AllL, rdV] at hr
        simp [hr, nth_d e10, nth_d e11, ← e12, ← e14]
        intros; first | exact KD.mk | exact KD.mkN
       ·intro tm hr
        simp [AllL, rdV] at hr
        simp [hr, nth_d e10, nth_d e11, ← e12, ← e14]
        intros; first | exact KD.mk | exact KD.mkN
       ·intro tm hr
        simp [AllL, rdV] at hr
        simp [hr, nth_d e10, nth_d e11, ← e12, ← e14]
        intros; first | exact KD.mk | exact KD.mkN
       ·intro tm hr
        simp [AllL, rdV] at hr
        simp [hr, nth_d e10, nth_d e11, ← e12, ← e14]
        intros; first | exact KD.mk | exact KD.mkN
       ·intro tm hr
        simp [AllL, rdV] at hr
        simp [hr, nth_d e10, nth_d e11, ← e12, ← e14]
        intros; first | exact KD.mk | exact KD.mkN
       ·intro tm hr
        simp [AllL, rdV] at hr
        simp [hr, nth_d e10, nth_d e11, ← e12, ← e14]
        intros; first | exact KD.mk | exact KD.mkN
       ·intro tm hr
        simp [AllL, rdV] at hr
        simp [hr, nth_d e10, nth_d e11, ← e12, ← e14]
        intros; first | exact KD.mk | exact KD.mkN
       ·intro tm hr
        simp [AllL, rdV] at hr
        simp [hr, nth_d e10, nth_d e11, ← e12, ← e14]
        intros; first | exact KD.mk | exact KD.mkN
       ·intro tm hr
        simp [AllL, rdV] at hr
        simp [hr, nth_d e10, nth_d e11, ← e12, ← e14]
        intros; first | exact KD.mk | exact KD.mkN
       ·intro tm hr
        simp [AllL, rdV] at hr
        simp [hr, nth_d e10, nth_d e11, ← e12, ← e14]
        intros; first | exact KD.mk | exact KD.mkN
       ·intro tm hr
        simp [AllL, rdV] at hr
        simp [hr, nth_d e10, nth_d e11, ← e12, ← e14]
        intros; first | exact KD.mk | exact KD.mkN
       ·intro tm hr
        simp [AllL, rdV] at hr
        simp [hr, nth_d e10, nth_d e11, ← e12, ← e14]
        intros; first | exact KD.mk | exact KD.mkN
       ·intro tm hr
        simp [AllL, rdV] at hr
        simp [hr, nth_d e10, nth_d e11, ← e12, ← e14]
        intros; first | exact KD.mk | exact KD.mkN
       ·intro tm hr
        simp [AllL, rdV] at hr
        simp [hr, nth_d e10, nth_d e11, ← e12, ← e14]
        intros; first | exact KD.mk | exact KD.mkN
      ·rfl
      ·simp [tmD, putD, nth_d e10, nth_d e11, ← e12, ← e14]; rfl
      ·simp [nth_d e10, nth_d e11, ← e12, ← e14]
       intros
       refine xcall_plain en_r5_SameItem_ft (s_r5_SameItem_ft e13) rfl ⟨.same rfl, .g ⟨.s _, .s _, .al _ _ _, .al _ _ _, .s _, trivial⟩, trivial⟩ ?_
       try simp [nth_d e10, nth_d e11, ← e12, ← e14]
       intros; rfl
      obtain rfl := Option.some.inj h
      refine nP_i ?_
      refine Weak.mixN [] hn0 (by decide) ?_ ?_ rfl
      all_goals first | (simp [inv_cons, inv_nil, pickOb]; done) | rfl
    ·rintro e s hp
     obtain ⟨rfl, hw⟩ := hp
     refine ⟨_, hw, ?_⟩
     try simp only [sp_l, sp_r, Post.seq, Post.block, Nat.reduceEqDiff, reduceIte, Nat.zero_ne_one, Nat.one_ne_zero]
     replace h := ltE h; obtain ⟨v15, e15, h⟩ := h
     rw [← e15]
     cases v15 with
     | true =>
      replace h := iteT rfl h
      refine AW.cond_true (by simp) ?_
      apply AW.step
      ·simp
       intros; rfl
      obtain rfl := Option.some.inj h
      refine AW.ret ?_
      try simp only [sp_l, sp_r, Post.seq, Post.block, Nat.reduceEqDiff, reduceIte, Nat.zero_ne_one, Nat.one_ne_zero]
      refine rP_i ?_
      refine Left.plain hnb (by simp [Try.f42, resV, resC, comp]; rfl) rfl rfl ?_
      simp
     | false =>
      replace h := iteF rfl h
      refine AW.cond_false (by simp) ?_
      refine AW.skip ?_
      try simp only [sp_l, sp_r, Post.seq, Post.block, Nat.reduceEqDiff, reduceIte, Nat.zero_ne_one, Nat.one_ne_zero]
      try simp only [sp_l, sp_r, Post.seq, Post.block, Nat.reduceEqDiff, reduceIte, Nat.zero_ne_one, Nat.one_ne_zero]
      replace h := ltE h; obtain ⟨v16, e16, h⟩ := h
      apply AW.last
      ·simp [← e16]
       intros; rfl
      obtain rfl := Option.some.inj h
      refine nP_i ?_
      refine Weak.mixN [] hn0 (by decide) ?_ ?_ rfl
      all_goals first | (simp [inv_cons, inv_nil, pickOb]; done) | rfl
   | false =>
    replace h := iteF rfl h
    refine AW.cond_false (by simp) ?_
    refine AW.exit ?_
    try simp only [sp_l, sp_r, Post.seq, Post.block, Nat.reduceEqDiff, reduceIte, Nat.zero_ne_one, Nat.one_ne_zero]
    obtain rfl := Option.some.inj h
    try simp only [sp_l, sp_r]
    refine xP_i ?_
    refine Weak.mixN [] hn0 (by decide) ?_ ?_ rfl
    all_goals first | (simp [inv_cons, inv_nil, pickOb]; done) | rfl
  ·rintro e s hp
   rcases y5 with y17 | y18
   ·replace h := smL h
    obtain ⟨rfl, hw⟩ := hp
    refine ⟨_, hw, ?_⟩
    try simp only [sp_l, sp_r, Post.seq, Post.block, Nat.reduceEqDiff, reduceIte, Nat.zero_ne_one, Nat.one_ne_zero]
    apply AW.step
    ·simp
     intros; rfl
    obtain rfl := Option.some.inj h
    refine AW.ret ?_
    refine Left.plain hnb (by simp [Try.f42, resV, resC, comp]; rfl) rfl rfl ?_
    simp
   ·replace h := smR h
    obtain ⟨rfl, hl⟩ := hp
    refine ⟨_, Weak.refl _, ?_⟩
    obtain rfl := Option.some.inj h
    exact hl
theorem en_r5_SameSpace_ft : Enters Try.prog 42 := enters Try.func42 (by kernel_rfl) rfl
def l11_SpaceAll_sh (n : Nat) (a0 : List Pair) (a1 : List Pair) (a2 : List Effect) (a3 : ByteArray) (a4 : Int) (a5 : Int) : Option Bool :=
bn (bn (l11_Great_sh n a0) fun v2 =>
ite' v2 (some (true)) (bn (l11_Great_sh n a1) fun v3 =>
ite' v3 (some (true)) (bn (l11_Heavy_sh n a2) fun v4 =>
ite' v4 (some (true)) (lt (lenS a3) fun v5 =>
lt (gtI v5 200) fun v6 =>
some (v6))))) fun (y1 : Bool) =>
lt (y1) fun v7 =>
ite' v7 (bn (l11_awake_sh n) fun v8 =>
some v8) (bn (bn (space_May_sh n a0) fun v10 =>
bn (r5_MaySpace_sh n a0) fun v11 =>
lt (neB v10 v11) fun v12 =>
ite' v12 (some (true)) (bn (space_May_sh n a1) fun v13 =>
bn (r5_MaySpace_sh n a1) fun v14 =>
lt (neB v13 v14) fun v15 =>
some (v15))) fun (y9 : Bool) =>
lt (y9) fun v16 =>
ite' v16 (some false) (bn (bn (r5_MaySpace_sh n a0) fun v18 =>
lt (notB v18) fun v19 =>
ite' v19 (some (true)) (bn (r5_MaySpace_sh n a1) fun v20 =>
lt (notB v20) fun v21 =>
ite' v21 (some (true)) (bn (r5_MayEffects_sh n a2) fun v22 =>
lt (notB v22) fun v23 =>
some (v23)))) fun (y17 : Bool) =>
lt (y17) fun v24 =>
ite' v24 (bn (l11_awake_sh n) fun v25 =>
some v25) (bn (space_Same_sh n a0 a1) fun v26 =>
bn (r5_SameSpace_sh n a0 a1) fun v27 =>
lt (neB v26 v27) fun v28 =>
ite' v28 (some false) (chk (room a0.length 96) <|
bn (space_Get_sh n a0 a3 a4) fun v30 =>
bn (space_Raw_sh n a0 a3) fun v31 =>
bn (r5_Get_sh n a0 a3 a4) fun v32 =>
bn (r5_Raw_sh n a0 a3) fun v33 =>
bn (bn (r5_SameItem_sh n v30.1 v32.i) fun v35 =>
ite' v35 (lt (eqB v30.2 v32.ok) fun v36 =>
ite' v36 (bn (r5_SameItem_sh n v31.1 v33.i) fun v37 =>
ite' v37 (lt (eqB v31.2 v33.ok) fun v38 =>
ite' v38 (bn (space_Apply_sh n a0 a2) fun v39 =>
bn (r5_Apply_sh n a0 a2) fun v40 =>
bn (r5_SameSpace_sh n v39 v40) fun v41 =>
ite' v41 (bn (space_In_sh n a0 a5) fun v42 =>
bn (r5_In_sh n a0 a5) fun v43 =>
bn (r1_Texts_sh n v42 v43) fun v44 =>
ite' v44 (bn (space_All_sh n a0) fun v45 =>
bn (r5_All_sh n a0) fun v46 =>
bn (r5_SameEffects_sh n v45 v46) fun v47 =>
ite' v47 (chk (room a0.length 1) <|
bn (r5_SameSpace_ft_sh n a0 a0) fun v49 =>
ite' v49 (bn (l11_awake_sh n) fun v50 =>
some (v50)) (some (false))) (some (false))) (some (false))) (some (false))) (some (false))) (some (false))) (some (false))) (some (false))) fun (y34 : Bool) =>
some y34))))
set_option maxRecDepth 8000 in
set_option maxHeartbeats 8000000 in
theorem s_l11_SpaceAll {n : Nat} {a0 : List Pair} {a1 : List Pair} {a2 : List Effect} {a3 : ByteArray} {a4 : Int} {a5 : Int} {r : Bool} (h : l11_SpaceAll_sh n a0 a1 a2 a3 a4 a5 = some r) : Sound Try.prog 14 [.l (.d false 6 (encPair a0)), .l (.d false 6 (encPair a1)), .l (.d false 7 (encEffect a2)), .l (.s (.string a3)), .l (.s (.int .i64 a4)), .l (.s (.int .i64 a5))] [] (.l (.s (.bool r))) [] := by
 unfold l11_SpaceAll_sh at h
 refine Sound.of_aw (fn := Try.f14) (c := _) Try.func14 rfl (by simp [Try.f14]) fun cx hG hnb => ?_
 rw [show Try.f14.ntmps = 147 from rfl]
 have hn0 : cx.nb = 0 := hnb
 simp only [st0_mk, initTm, List.map_cons, List.map_nil]
 apply AW.step
 ·simp
  intros; rfl
 refine AW.seq ?_
 replace h := bnE h; obtain ⟨y1, g1, h⟩ := h
 refine AW.flow (p := fun gh ls => (nP (cx := cx) (fun q => (⟨[(0, .l (.d false 6 (encPair a0))), (1, .l (.d false 6 (encPair a1))), (2, .l (.d false 7 (encEffect a2))), (3, .l (.s (.string a3))), (4, .l (.s (.int .i64 a4))), (5, .l (.s (.int .i64 a5))), (34, .l (.s (.bool q)))], [], 147, gh, ls⟩ : St))) y1) ?_ ?_
 ·replace h := g1; clear g1
  replace h := bnE h; obtain ⟨v2, e2, h⟩ := h
  cases v2 with
  | true =>
   replace h := iteT rfl h
   apply AW.last
   ·simp
    intros
    refine xcall_plain en_l11_Great (s_l11_Great e2) rfl ⟨.same rfl, trivial⟩ ?_
    try simp
    intros; rfl
   obtain rfl := Option.some.inj h
   refine nP_i ?_
   refine Weak.mixN [] hn0 (by decide) ?_ ?_ rfl
   all_goals first | (simp [inv_cons, inv_nil, pickOb]; done) | rfl
  | false =>
   replace h := iteF rfl h
   replace h := bnE h; obtain ⟨v3, e3, h⟩ := h
   cases v3 with
   | true =>
    replace h := iteT rfl h
    apply AW.last
    ·simp
     intros
     refine xcall_plain en_l11_Great (s_l11_Great e2) rfl ⟨.same rfl, trivial⟩ ?_
     try simp
     intros
     refine xcall_plain en_l11_Great (s_l11_Great e3) rfl ⟨.same rfl, trivial⟩ ?_
     try simp
     intros; rfl
    obtain rfl := Option.some.inj h
    refine nP_i ?_
    refine Weak.mixN [] hn0 (by decide) ?_ ?_ rfl
    all_goals first | (simp [inv_cons, inv_nil, pickOb]; done) | rfl
   | false =>
    replace h := iteF rfl h
    replace h := bnE h; obtain ⟨v4, e4, h⟩ := h
    cases v4 with
    | true =>
     replace h := iteT rfl h
     apply AW.last
     ·simp
      intros
      refine xcall_plain en_l11_Great (s_l11_Great e2) rfl ⟨.same rfl, trivial⟩ ?_
      try simp
      intros
      refine xcall_plain en_l11_Great (s_l11_Great e3) rfl ⟨.same rfl, trivial⟩ ?_
      try simp
      intros
      refine xcall_plain en_l11_Heavy (s_l11_Heavy e4) rfl ⟨.same rfl, trivial⟩ ?_
      try simp
      intros; rfl
     obtain rfl := Option.some.inj h
     refine nP_i ?_
     refine Weak.mixN [] hn0 (by decide) ?_ ?_ rfl
     all_goals first | (simp [inv_cons, inv_nil, pickOb]; done) | rfl
    | false =>
     replace h := iteF rfl h
     replace h := ltE h; obtain ⟨v5, e5, h⟩ := h
     replace h := ltE h; obtain ⟨v6, e6, h⟩ := h
     apply AW.last
     ·simp [← e5, ← e6]
      intros
      refine xcall_plain en_l11_Great (s_l11_Great e2) rfl ⟨.same rfl, trivial⟩ ?_
      try simp [← e5, ← e6]
      intros
      refine xcall_plain en_l11_Great (s_l11_Great e3) rfl ⟨.same rfl, trivial⟩ ?_
      try simp [← e5, ← e6]
      intros
      refine xcall_plain en_l11_Heavy (s_l11_Heavy e4) rfl ⟨.same rfl, trivial⟩ ?_
      try simp [← e5, ← e6]
      intros; rfl
     obtain rfl := Option.some.inj h
     refine nP_i ?_
     refine Weak.mixN [] hn0 (by decide) ?_ ?_ rfl
     all_goals first | (simp [inv_cons, inv_nil, pickOb]; done) | rfl
 ·rintro e s hp
  obtain ⟨rfl, hw⟩ := hp
  refine ⟨_, hw, ?_⟩
  try simp only [sp_l, sp_r, Post.seq, Post.block, Nat.reduceEqDiff, reduceIte, Nat.zero_ne_one, Nat.one_ne_zero]
  replace h := ltE h; obtain ⟨v7, e7, h⟩ := h
  rw [← e7]
  cases v7 with
  | true =>
   replace h := iteT rfl h
   refine AW.cond_true (by simp) ?_
   replace h := bnE h; obtain ⟨v8, e8, h⟩ := h
   apply AW.step
   ·simp
    intros
    refine xcall_plain en_l11_awake (s_l11_awake e8) rfl trivial ?_
    try simp
    intros; rfl
   obtain rfl := Option.some.inj h
   refine AW.ret ?_
   refine Left.plain hnb (by simp [Try.f14, resV, resC, comp]; rfl) rfl rfl ?_
   simp
  | false =>
   replace h := iteF rfl h
   refine AW.cond_false (by simp) ?_
   refine AW.skip ?_
   try simp only [sp_l, sp_r, Post.seq, Post.block, Nat.reduceEqDiff, reduceIte, Nat.zero_ne_one, Nat.one_ne_zero]
   try simp only [sp_l, sp_r, Post.seq, Post.block, Nat.reduceEqDiff, reduceIte, Nat.zero_ne_one, Nat.one_ne_zero]
   refine AW.seq ?_
   replace h := bnE h; obtain ⟨y9, g9, h⟩ := h
   refine AW.flow (p := fun gh ls => (nP (cx := cx) (fun q => (⟨[(0, .l (.d false 6 (encPair a0))), (1, .l (.d false 6 (encPair a1))), (2, .l (.d false 7 (encEffect a2))), (3, .l (.s (.string a3))), (4, .l (.s (.int .i64 a4))), (5, .l (.s (.int .i64 a5))), (47, .l (.s (.bool q)))], [], 147, gh, ls⟩ : St))) y9) ?_ ?_
   ·replace h := g9; clear g9
    replace h := bnE h; obtain ⟨v10, e10, h⟩ := h
    replace h := bnE h; obtain ⟨v11, e11, h⟩ := h
    replace h := ltE h; obtain ⟨v12, e12, h⟩ := h
    cases v12 with
    | true =>
     replace h := iteT rfl h
     apply AW.last
     ·simp [← e12]
      intros
      refine xcall_plain en_space_May (s_space_May e10) rfl ⟨.same rfl, trivial⟩ ?_
      try simp [← e12]
      intros
      refine xcall_plain en_r5_MaySpace (s_r5_MaySpace e11) rfl ⟨.same rfl, trivial⟩ ?_
      try simp [← e12]
      intros; rfl
     obtain rfl := Option.some.inj h
     refine nP_i ?_
     refine Weak.mixN [] hn0 (by decide) ?_ ?_ rfl
     all_goals first | (simp [inv_cons, inv_nil, pickOb]; done) | rfl
    | false =>
     replace h := iteF rfl h
     replace h := bnE h; obtain ⟨v13, e13, h⟩ := h
     replace h := bnE h; obtain ⟨v14, e14, h⟩ := h
     replace h := ltE h; obtain ⟨v15, e15, h⟩ := h
     apply AW.last
     ·simp [← e12, ← e15]
      intros
      refine xcall_plain en_space_May (s_space_May e10) rfl ⟨.same rfl, trivial⟩ ?_
      try simp [← e12, ← e15]
      intros
      refine xcall_plain en_r5_MaySpace (s_r5_MaySpace e11) rfl ⟨.same rfl, trivial⟩ ?_
      try simp [← e12, ← e15]
      intros
      refine xcall_plain en_space_May (s_space_May e13) rfl ⟨.same rfl, trivial⟩ ?_
      try simp [← e12, ← e15]
      intros
      refine xcall_plain en_r5_MaySpace (s_r5_MaySpace e14) rfl ⟨.same rfl, trivial⟩ ?_
      try simp [← e12, ← e15]
      intros; rfl
     obtain rfl := Option.some.inj h
     refine nP_i ?_
     refine Weak.mixN [] hn0 (by decide) ?_ ?_ rfl
     all_goals first | (simp [inv_cons, inv_nil, pickOb]; done) | rfl
   ·rintro e s hp
    obtain ⟨rfl, hw⟩ := hp
    refine ⟨_, hw, ?_⟩
    try simp only [sp_l, sp_r, Post.seq, Post.block, Nat.reduceEqDiff, reduceIte, Nat.zero_ne_one, Nat.one_ne_zero]
    replace h := ltE h; obtain ⟨v16, e16, h⟩ := h
    rw [← e16]
    cases v16 with
    | true =>
     replace h := iteT rfl h
     refine AW.cond_true (by simp) ?_
     apply AW.step
     ·simp
      intros; rfl
     obtain rfl := Option.some.inj h
     refine AW.ret ?_
     refine Left.plain hnb (by simp [Try.f14, resV, resC, comp]; rfl) rfl rfl ?_
     simp
    | false =>
     replace h := iteF rfl h
     refine AW.cond_false (by simp) ?_
     refine AW.skip ?_
     try simp only [sp_l, sp_r, Post.seq, Post.block, Nat.reduceEqDiff, reduceIte, Nat.zero_ne_one, Nat.one_ne_zero]
     try simp only [sp_l, sp_r, Post.seq, Post.block, Nat.reduceEqDiff, reduceIte, Nat.zero_ne_one, Nat.one_ne_zero]
     refine AW.seq ?_
     replace h := bnE h; obtain ⟨y17, g17, h⟩ := h
     refine AW.flow (p := fun gh ls => (nP (cx := cx) (fun q => (⟨[(0, .l (.d false 6 (encPair a0))), (1, .l (.d false 6 (encPair a1))), (2, .l (.d false 7 (encEffect a2))), (3, .l (.s (.string a3))), (4, .l (.s (.int .i64 a4))), (5, .l (.s (.int .i64 a5))), (60, .l (.s (.bool q)))], [], 147, gh, ls⟩ : St))) y17) ?_ ?_
     ·replace h := g17; clear g17
      replace h := bnE h; obtain ⟨v18, e18, h⟩ := h
      replace h := ltE h; obtain ⟨v19, e19, h⟩ := h
      cases v19 with
      | true =>
       replace h := iteT rfl h
       apply AW.last
       ·simp [← e19]
        intros
        refine xcall_plain en_r5_MaySpace (s_r5_MaySpace e18) rfl ⟨.same rfl, trivial⟩ ?_
        try simp [← e19]
        intros; rfl
       obtain rfl := Option.some.inj h
       refine nP_i ?_
       refine Weak.mixN [] hn0 (by decide) ?_ ?_ rfl
       all_goals first | (simp [inv_cons, inv_nil, pickOb]; done) | rfl
      | false =>
       replace h := iteF rfl h
       replace h := bnE h; obtain ⟨v20, e20, h⟩ := h
       replace h := ltE h; obtain ⟨v21, e21, h⟩ := h
       cases v21 with
       | true =>
        replace h := iteT rfl h
        apply AW.last
        ·simp [← e19, ← e21]
         intros
         refine xcall_plain en_r5_MaySpace (s_r5_MaySpace e18) rfl ⟨.same rfl, trivial⟩ ?_
         try simp [← e19, ← e21]
         intros
         refine xcall_plain en_r5_MaySpace (s_r5_MaySpace e20) rfl ⟨.same rfl, trivial⟩ ?_
         try simp [← e19, ← e21]
         intros; rfl
        obtain rfl := Option.some.inj h
        refine nP_i ?_
        refine Weak.mixN [] hn0 (by decide) ?_ ?_ rfl
        all_goals first | (simp [inv_cons, inv_nil, pickOb]; done) | rfl
       | false =>
        replace h := iteF rfl h
        replace h := bnE h; obtain ⟨v22, e22, h⟩ := h
        replace h := ltE h; obtain ⟨v23, e23, h⟩ := h
        apply AW.last
        ·simp [← e19, ← e21, ← e23]
         intros
         refine xcall_plain en_r5_MaySpace (s_r5_MaySpace e18) rfl ⟨.same rfl, trivial⟩ ?_
         try simp [← e19, ← e21, ← e23]
         intros
         refine xcall_plain en_r5_MaySpace (s_r5_MaySpace e20) rfl ⟨.same rfl, trivial⟩ ?_
         try simp [← e19, ← e21, ← e23]
         intros
         refine xcall_plain en_r5_MayEffects (s_r5_MayEffects e22) rfl ⟨.same rfl, trivial⟩ ?_
         try simp [← e19, ← e21, ← e23]
         intros; rfl
        obtain rfl := Option.some.inj h
        refine nP_i ?_
        refine Weak.mixN [] hn0 (by decide) ?_ ?_ rfl
        all_goals first | (simp [inv_cons, inv_nil, pickOb]; done) | rfl
     ·rintro e s hp
      obtain ⟨rfl, hw⟩ := hp
      refine ⟨_, hw, ?_⟩
      try simp only [sp_l, sp_r, Post.seq, Post.block, Nat.reduceEqDiff, reduceIte, Nat.zero_ne_one, Nat.one_ne_zero]
      replace h := ltE h; obtain ⟨v24, e24, h⟩ := h
      rw [← e24]
      cases v24 with
      | true =>
       replace h := iteT rfl h
       refine AW.cond_true (by simp) ?_
       replace h := bnE h; obtain ⟨v25, e25, h⟩ := h
       apply AW.step
       ·simp
        intros
        refine xcall_plain en_l11_awake (s_l11_awake e25) rfl trivial ?_
        try simp
        intros; rfl
       obtain rfl := Option.some.inj h
       refine AW.ret ?_
       refine Left.plain hnb (by simp [Try.f14, resV, resC, comp]; rfl) rfl rfl ?_
       simp
      | false =>
       replace h := iteF rfl h
       refine AW.cond_false (by simp) ?_
       refine AW.skip ?_
       try simp only [sp_l, sp_r, Post.seq, Post.block, Nat.reduceEqDiff, reduceIte, Nat.zero_ne_one, Nat.one_ne_zero]
       try simp only [sp_l, sp_r, Post.seq, Post.block, Nat.reduceEqDiff, reduceIte, Nat.zero_ne_one, Nat.one_ne_zero]
       refine AW.seq ?_
       replace h := bnE h; obtain ⟨v26, e26, h⟩ := h
       replace h := bnE h; obtain ⟨v27, e27, h⟩ := h
       replace h := ltE h; obtain ⟨v28, e28, h⟩ := h
       apply AW.step
       ·simp [← e28]
        intros
        refine xcall_plain en_space_Same (s_space_Same e26) rfl ⟨.same rfl, .same rfl, trivial⟩ ?_
        try simp [← e28]
        intros
        refine xcall_plain en_r5_SameSpace (s_r5_SameSpace e27) rfl ⟨.same rfl, .same rfl, trivial⟩ ?_
        try simp [← e28]
        intros; rfl
       cases v28 with
       | true =>
        replace h := iteT rfl h
        refine AW.cond_true (by simp) ?_
        apply AW.step
        ·simp
         intros; rfl
        obtain rfl := Option.some.inj h
        refine AW.ret ?_
        refine Left.plain hnb (by simp [Try.f14, resV, resC, comp]; rfl) rfl rfl ?_
        simp
       | false =>
        replace h := iteF rfl h
        refine AW.cond_false (by simp) ?_
        refine AW.skip ?_
        try simp only [sp_l, sp_r, Post.seq, Post.block, Nat.reduceEqDiff, reduceIte, Nat.zero_ne_one, Nat.one_ne_zero]
        try simp only [sp_l, sp_r, Post.seq, Post.block, Nat.reduceEqDiff, reduceIte, Nat.zero_ne_one, Nat.one_ne_zero]
        replace h := chkE h; obtain ⟨e29, h⟩ := h
        apply AW.step
        ·simp
         intros
         refine xrow_own ?_
         try simp
         intros
         refine xapp_pushN (acc := []) (ys := encPair a0) (cap := none) (k := a0.length) tb_el56 tb_ti125 (by simp) (by rw [src_d]; simp) (by simp) (by simp) (by simp) (by simpa using (room_d e29).1) ?_
         try simp
         intros; rfl
        replace h := bnE h; obtain ⟨v30, e30, h⟩ := h
        apply AW.step
        ·simp
         intros
         refine xcall_plain en_space_Get (s_space_Get e30) rfl ⟨.same rfl, .same rfl, .same rfl, trivial⟩ ?_
         try simp
         intros; rfl
        replace h := bnE h; obtain ⟨v31, e31, h⟩ := h
        apply AW.step
        ·simp
         intros
         refine xcall_plain en_space_Raw (s_space_Raw e31) rfl ⟨.same rfl, .same rfl, trivial⟩ ?_
         try simp
         intros; rfl
        replace h := bnE h; obtain ⟨v32, e32, h⟩ := h
        replace h := bnE h; obtain ⟨v33, e33, h⟩ := h
        apply AW.step
        ·simp
         intros
         refine xcall_plain en_r5_Get (s_r5_Get e32) rfl ⟨.same rfl, .same rfl, .same rfl, trivial⟩ ?_
         try simp
         intros
         refine xcall_plain en_r5_Raw (s_r5_Raw e33) rfl ⟨.same rfl, .same rfl, trivial⟩ ?_
         try simp
         intros; rfl
        replace h := bnE h; obtain ⟨y34, g34, h⟩ := h
        refine AW.flow (p := fun gh ls => (nP (cx := cx) (fun q => (⟨[(12, .l (.s (.bool q)))], [], 147, gh, ls⟩ : St))) y34) ?_ ?_
        ·replace h := g34; clear g34
         replace h := bnE h; obtain ⟨v35, e35, h⟩ := h
         cases v35 with
         | true =>
          replace h := iteT rfl h
          replace h := ltE h; obtain ⟨v36, e36, h⟩ := h
          cases v36 with
          | true =>
           replace h := iteT rfl h
           replace h := bnE h; obtain ⟨v37, e37, h⟩ := h
           cases v37 with
           | true =>
            replace h := iteT rfl h
            replace h := ltE h; obtain ⟨v38, e38, h⟩ := h
            cases v38 with
            | true =>
             replace h := iteT rfl h
             replace h := bnE h; obtain ⟨v39, e39, h⟩ := h
             replace h := bnE h; obtain ⟨v40, e40, h⟩ := h
             replace h := bnE h; obtain ⟨v41, e41, h⟩ := h
             cases v41 with
             | true =>
              replace h := iteT rfl h
              replace h := bnE h; obtain ⟨v42, e42, h⟩ := h
              replace h := bnE h; obtain ⟨v43, e43, h⟩ := h
              replace h := bnE h; obtain ⟨v44, e44, h⟩ := h
              cases v44 with
              | true =>
               replace h := iteT rfl h
               replace h := bnE h; obtain ⟨v45, e45, h⟩ := h
               replace h := bnE h; obtain ⟨v46, e46, h⟩ := h
               replace h := bnE h; obtain ⟨v47, e47, h⟩ := h
               cases v47 with
               | true =>
                replace h := iteT rfl h
                replace h := chkE h; obtain ⟨e48, h⟩ := h
                replace h := bnE h; obtain ⟨v49, e49, h⟩ := h
                cases v49 with
                | true =>
                 replace h := iteT rfl h
                 replace h := bnE h; obtain ⟨v50, e50, h⟩ := h
                 apply AW.last
                 ·simp [← e36, ← e38]
                  intros
                  refine xcall_plain en_r5_SameItem (s_r5_SameItem e35) rfl ⟨.same rfl, .same rfl, trivial⟩ ?_
                  try simp [← e36, ← e38]
                  intros
                  refine xcall_plain en_r5_SameItem (s_r5_SameItem e37) rfl ⟨.same rfl, .same rfl, trivial⟩ ?_
                  try simp [← e36, ← e38]
                  intros
                  refine xcall_plain en_space_Apply (s_space_Apply e39) rfl ⟨.same rfl, .same rfl, trivial⟩ ?_
                  try simp [← e36, ← e38]
                  intros
                  refine xcall_plain en_r5_Apply (s_r5_Apply e40) rfl ⟨.same rfl, .same rfl, trivial⟩ ?_
                  try simp [← e36, ← e38]
                  intros
                  refine xcall_plain en_r5_SameSpace (s_r5_SameSpace e41) rfl ⟨.same rfl, .same rfl, trivial⟩ ?_
                  try simp [← e36, ← e38]
                  intros
                  refine xcall_plain en_space_In (s_space_In e42) rfl ⟨.same rfl, .same rfl, trivial⟩ ?_
                  try simp [← e36, ← e38]
                  intros
                  refine xcall_plain en_r5_In (s_r5_In e43) rfl ⟨.same rfl, .same rfl, trivial⟩ ?_
                  try simp [← e36, ← e38]
                  intros
                  refine xcall_plain en_r1_Texts (s_r1_Texts e44) rfl ⟨.same rfl, .same rfl, trivial⟩ ?_
                  try simp [← e36, ← e38]
                  intros
                  refine xcall_plain en_space_All (s_space_All e45) rfl ⟨.same rfl, trivial⟩ ?_
                  try simp [← e36, ← e38]
                  intros
                  refine xcall_plain en_r5_All (s_r5_All e46) rfl ⟨.same rfl, trivial⟩ ?_
                  try simp [← e36, ← e38]
                  intros
                  refine xcall_plain en_r5_SameEffects (s_r5_SameEffects e47) rfl ⟨.same rfl, .same rfl, trivial⟩ ?_
                  try simp [← e36, ← e38]
                  intros
                  refine xcall_plain en_r5_SameSpace_ft (s_r5_SameSpace_ft e49) rfl ⟨.same rfl, .rowd (by simp) rfl (by omega) (encPair_sz _) (by simp) (by first | exact (room_d e48).2 | simpa using (room_d e48).2 | simp), trivial⟩ ?_
                  try simp [← e36, ← e38]
                  intros
                  refine xcall_plain en_l11_awake (s_l11_awake e50) rfl trivial ?_
                  try simp [← e36, ← e38]
                  intros; rfl
                 obtain rfl := Option.some.inj h
                 refine nP_i ?_
                 refine Weak.mixN [] hn0 (by decide) ?_ ?_ rfl
                 all_goals first | (simp [inv_cons, inv_nil, pickOb]; done) | rfl
                | false =>
                 replace h := iteF rfl h
                 apply AW.last
                 ·simp [← e36, ← e38]
                  intros
                  refine xcall_plain en_r5_SameItem (s_r5_SameItem e35) rfl ⟨.same rfl, .same rfl, trivial⟩ ?_
                  try simp [← e36, ← e38]
                  intros
                  refine xcall_plain en_r5_SameItem (s_r5_SameItem e37) rfl ⟨.same rfl, .same rfl, trivial⟩ ?_
                  try simp [← e36, ← e38]
                  intros
                  refine xcall_plain en_space_Apply (s_space_Apply e39) rfl ⟨.same rfl, .same rfl, trivial⟩ ?_
                  try simp [← e36, ← e38]
                  intros
                  refine xcall_plain en_r5_Apply (s_r5_Apply e40) rfl ⟨.same rfl, .same rfl, trivial⟩ ?_
                  try simp [← e36, ← e38]
                  intros
                  refine xcall_plain en_r5_SameSpace (s_r5_SameSpace e41) rfl ⟨.same rfl, .same rfl, trivial⟩ ?_
                  try simp [← e36, ← e38]
                  intros
                  refine xcall_plain en_space_In (s_space_In e42) rfl ⟨.same rfl, .same rfl, trivial⟩ ?_
                  try simp [← e36, ← e38]
                  intros
                  refine xcall_plain en_r5_In (s_r5_In e43) rfl ⟨.same rfl, .same rfl, trivial⟩ ?_
                  try simp [← e36, ← e38]
                  intros
                  refine xcall_plain en_r1_Texts (s_r1_Texts e44) rfl ⟨.same rfl, .same rfl, trivial⟩ ?_
                  try simp [← e36, ← e38]
                  intros
                  refine xcall_plain en_space_All (s_space_All e45) rfl ⟨.same rfl, trivial⟩ ?_
                  try simp [← e36, ← e38]
                  intros
                  refine xcall_plain en_r5_All (s_r5_All e46) rfl ⟨.same rfl, trivial⟩ ?_
                  try simp [← e36, ← e38]
                  intros
                  refine xcall_plain en_r5_SameEffects (s_r5_SameEffects e47) rfl ⟨.same rfl, .same rfl, trivial⟩ ?_
                  try simp [← e36, ← e38]
                  intros
                  refine xcall_plain en_r5_SameSpace_ft (s_r5_SameSpace_ft e49) rfl ⟨.same rfl, .rowd (by simp) rfl (by omega) (encPair_sz _) (by simp) (by first | exact (room_d e48).2 | simpa using (room_d e48).2 | simp), trivial⟩ ?_
                  try simp [← e36, ← e38]
                  intros; rfl
                 obtain rfl := Option.some.inj h
                 refine nP_i ?_
                 refine Weak.mixN [] hn0 (by decide) ?_ ?_ rfl
                 all_goals first | (simp [inv_cons, inv_nil, pickOb]; done) | rfl
               | false =>
                replace h := iteF rfl h
                apply AW.last
                ·simp [← e36, ← e38]
                 intros
                 refine xcall_plain en_r5_SameItem (s_r5_SameItem e35) rfl ⟨.same rfl, .same rfl, trivial⟩ ?_
                 try simp [← e36, ← e38]
                 intros
                 refine xcall_plain en_r5_SameItem (s_r5_SameItem e37) rfl ⟨.same rfl, .same rfl, trivial⟩ ?_
                 try simp [← e36, ← e38]
                 intros
                 refine xcall_plain en_space_Apply (s_space_Apply e39) rfl ⟨.same rfl, .same rfl, trivial⟩ ?_
                 try simp [← e36, ← e38]
                 intros
                 refine xcall_plain en_r5_Apply (s_r5_Apply e40) rfl ⟨.same rfl, .same rfl, trivial⟩ ?_
                 try simp [← e36, ← e38]
                 intros
                 refine xcall_plain en_r5_SameSpace (s_r5_SameSpace e41) rfl ⟨.same rfl, .same rfl, trivial⟩ ?_
                 try simp [← e36, ← e38]
                 intros
                 refine xcall_plain en_space_In (s_space_In e42) rfl ⟨.same rfl, .same rfl, trivial⟩ ?_
                 try simp [← e36, ← e38]
                 intros
                 refine xcall_plain en_r5_In (s_r5_In e43) rfl ⟨.same rfl, .same rfl, trivial⟩ ?_
                 try simp [← e36, ← e38]
                 intros
                 refine xcall_plain en_r1_Texts (s_r1_Texts e44) rfl ⟨.same rfl, .same rfl, trivial⟩ ?_
                 try simp [← e36, ← e38]
                 intros
                 refine xcall_plain en_space_All (s_space_All e45) rfl ⟨.same rfl, trivial⟩ ?_
                 try simp [← e36, ← e38]
                 intros
                 refine xcall_plain en_r5_All (s_r5_All e46) rfl ⟨.same rfl, trivial⟩ ?_
                 try simp [← e36, ← e38]
                 intros
                 refine xcall_plain en_r5_SameEffects (s_r5_SameEffects e47) rfl ⟨.same rfl, .same rfl, trivial⟩ ?_
                 try simp [← e36, ← e38]
                 intros; rfl
                obtain rfl := Option.some.inj h
                refine nP_i ?_
                refine Weak.mixN [] hn0 (by decide) ?_ ?_ rfl
                all_goals first | (simp [inv_cons, inv_nil, pickOb]; done) | rfl
              | false =>
               replace h := iteF rfl h
               apply AW.last
               ·simp [← e36, ← e38]
                intros
                refine xcall_plain en_r5_SameItem (s_r5_SameItem e35) rfl ⟨.same rfl, .same rfl, trivial⟩ ?_
                try simp [← e36, ← e38]
                intros
                refine xcall_plain en_r5_SameItem (s_r5_SameItem e37) rfl ⟨.same rfl, .same rfl, trivial⟩ ?_
                try simp [← e36, ← e38]
                intros
                refine xcall_plain en_space_Apply (s_space_Apply e39) rfl ⟨.same rfl, .same rfl, trivial⟩ ?_
                try simp [← e36, ← e38]
                intros
                refine xcall_plain en_r5_Apply (s_r5_Apply e40) rfl ⟨.same rfl, .same rfl, trivial⟩ ?_
                try simp [← e36, ← e38]
                intros
                refine xcall_plain en_r5_SameSpace (s_r5_SameSpace e41) rfl ⟨.same rfl, .same rfl, trivial⟩ ?_
                try simp [← e36, ← e38]
                intros
                refine xcall_plain en_space_In (s_space_In e42) rfl ⟨.same rfl, .same rfl, trivial⟩ ?_
                try simp [← e36, ← e38]
                intros
                refine xcall_plain en_r5_In (s_r5_In e43) rfl ⟨.same rfl, .same rfl, trivial⟩ ?_
                try simp [← e36, ← e38]
                intros
                refine xcall_plain en_r1_Texts (s_r1_Texts e44) rfl ⟨.same rfl, .same rfl, trivial⟩ ?_
                try simp [← e36, ← e38]
                intros; rfl
               obtain rfl := Option.some.inj h
               refine nP_i ?_
               refine Weak.mixN [] hn0 (by decide) ?_ ?_ rfl
               all_goals first | (simp [inv_cons, inv_nil, pickOb]; done) | rfl
             | false =>
              replace h := iteF rfl h
              apply AW.last
              ·simp [← e36, ← e38]
               intros
               refine xcall_plain en_r5_SameItem (s_r5_SameItem e35) rfl ⟨.same rfl, .same rfl, trivial⟩ ?_
               try simp [← e36, ← e38]
               intros
               refine xcall_plain en_r5_SameItem (s_r5_SameItem e37) rfl ⟨.same rfl, .same rfl, trivial⟩ ?_
               try simp [← e36, ← e38]
               intros
               refine xcall_plain en_space_Apply (s_space_Apply e39) rfl ⟨.same rfl, .same rfl, trivial⟩ ?_
               try simp [← e36, ← e38]
               intros
               refine xcall_plain en_r5_Apply (s_r5_Apply e40) rfl ⟨.same rfl, .same rfl, trivial⟩ ?_
               try simp [← e36, ← e38]
               intros
               refine xcall_plain en_r5_SameSpace (s_r5_SameSpace e41) rfl ⟨.same rfl, .same rfl, trivial⟩ ?_
               try simp [← e36, ← e38]
               intros; rfl
              obtain rfl := Option.some.inj h
              refine nP_i ?_
              refine Weak.mixN [] hn0 (by decide) ?_ ?_ rfl
              all_goals first | (simp [inv_cons, inv_nil, pickOb]; done) | rfl
            | false =>
             replace h := iteF rfl h
             apply AW.last
             ·simp [← e36, ← e38]
              intros
              refine xcall_plain en_r5_SameItem (s_r5_SameItem e35) rfl ⟨.same rfl, .same rfl, trivial⟩ ?_
              try simp [← e36, ← e38]
              intros
              refine xcall_plain en_r5_SameItem (s_r5_SameItem e37) rfl ⟨.same rfl, .same rfl, trivial⟩ ?_
              try simp [← e36, ← e38]
              intros; rfl
             obtain rfl := Option.some.inj h
             refine nP_i ?_
             refine Weak.mixN [] hn0 (by decide) ?_ ?_ rfl
             all_goals first | (simp [inv_cons, inv_nil, pickOb]; done) | rfl
           | false =>
            replace h := iteF rfl h
            apply AW.last
            ·simp [← e36]
             intros
             refine xcall_plain en_r5_SameItem (s_r5_SameItem e35) rfl ⟨.same rfl, .same rfl, trivial⟩ ?_
             try simp [← e36]
             intros
             refine xcall_plain en_r5_SameItem (s_r5_SameItem e37) rfl ⟨.same rfl, .same rfl, trivial⟩ ?_
             try simp [← e36]
             intros; rfl
            obtain rfl := Option.some.inj h
            refine nP_i ?_
            refine Weak.mixN [] hn0 (by decide) ?_ ?_ rfl
            all_goals first | (simp [inv_cons, inv_nil, pickOb]; done) | rfl
          | false =>
           replace h := iteF rfl h
           apply AW.last
           ·simp [← e36]
            intros
            refine xcall_plain en_r5_SameItem (s_r5_SameItem e35) rfl ⟨.same rfl, .same rfl, trivial⟩ ?_
            try simp [← e36]
            intros; rfl
           obtain rfl := Option.some.inj h
           refine nP_i ?_
           refine Weak.mixN [] hn0 (by decide) ?_ ?_ rfl
           all_goals first | (simp [inv_cons, inv_nil, pickOb]; done) | rfl
         | false =>
          replace h := iteF rfl h
          apply AW.last
          ·simp
           intros
           refine xcall_plain en_r5_SameItem (s_r5_SameItem e35) rfl ⟨.same rfl, .same rfl, trivial⟩ ?_
           try simp
           intros; rfl
          obtain rfl := Option.some.inj h
          refine nP_i ?_
          refine Weak.mixN [] hn0 (by decide) ?_ ?_ rfl
          all_goals first | (simp [inv_cons, inv_nil, pickOb]; done) | rfl
        ·rintro e s hp
         obtain ⟨rfl, hw⟩ := hp
         refine ⟨_, hw, ?_⟩
         try simp only [sp_l, sp_r, Post.seq, Post.block, Nat.reduceEqDiff, reduceIte, Nat.zero_ne_one, Nat.one_ne_zero]
         obtain rfl := Option.some.inj h
         refine AW.ret ?_
         refine Left.plain hnb (by simp [Try.f14, resV, resC, comp]; rfl) rfl rfl ?_
         simp
end Go.Proofs.Ytlkhfdccapkcdaa

/- Plain laws: SpaceMade, SpaceAll. -/
namespace Go.Proofs.Ytlkhfdccapkcdaa
open Go Go.RowKit
set_option linter.unusedVariables false
set_option linter.unusedSimpArgs false
theorem ft_SameSpace (l : List Pair) (h : okP l) (hl : l.length ≤ 1000000000) : r5_SameSpace_ft_sh big l l = some true := r_SameSpace_refl l h hl
theorem ne_same {a b : Bool} (p : Prop) (h1 : a = true ↔ p) (h2 : b = true ↔ p) : neB a b = false := by
  have : a = b := Bool.eq_iff_iff.2 (h1.trans h2.symm)
  rw [this, neB_self]
theorem SpaceAll_ok (db other : List Pair) (l : List Effect) (key : ByteArray) (now slot : Int) : l11_SpaceAll_sh big db other l key now slot = some true := by
  refine Rn.eq ?_
  unfold l11_SpaceAll_sh
  refine Rn.bn (P := fun b => b = false → (db.length ≤ 50 ∧ okP db) ∧ (other.length ≤ 50 ∧ okP other) ∧ (l.length ≤ 50 ∧ ∀ e ∈ l, okI e.item) ∧ key.size ≤ 200) ?_ fun b hb => Rn.lt (Rn.ite (fun _ => Rn.bnE awake11_ok (Rn.some rfl)) (fun hg => ?_))
  · have hsm : ∀ i : Item, i.f.length ≤ 50 ∧ i.l.length ≤ 50 → okI i := fun i hi => ⟨by omega, by omega⟩
    refine Rn.bn (GreatDb_ok db) fun b2 h2 => Rn.ite (fun _ => Rn.some (by simp)) (fun g2 => ?_)
    refine Rn.bn (GreatDb_ok other) fun b3 h3 => Rn.ite (fun _ => Rn.some (by simp)) (fun g3 => ?_)
    refine Rn.bn (Heavy_ok l) fun b4 h4 => Rn.ite (fun _ => Rn.some (by simp)) (fun g4 => ?_)
    refine Rn.lt (Rn.lt (Rn.some fun g5 => ?_))
    have g5 := gtI_n g5
    simp only [lenS] at g5
    have h2 := h2 g2
    have h3 := h3 g3
    have h4 := h4 g4
    exact ⟨⟨h2.1, fun p hp => hsm _ (h2.2 p hp)⟩, ⟨h3.1, fun p hp => hsm _ (h3.2 p hp)⟩, ⟨h4.1, fun p hp => hsm _ (h4.2 p hp)⟩, by omega⟩
  obtain ⟨⟨d1, d2⟩, ⟨o1, o2⟩, ⟨l1, l2⟩, hk⟩ := hb hg
  clear hb hg
  obtain ⟨v1, e1, i1⟩ := space_May_iff db (by omega) d2
  obtain ⟨v2, e2, i2⟩ := MaySpace_iff db (by omega)
  obtain ⟨v3, e3, i3⟩ := space_May_iff other (by omega) o2
  obtain ⟨v4, e4, i4⟩ := MaySpace_iff other (by omega)
  rw [e1, e2, e3, e4]
  refine Rn.bnE (v := false) ?_ (Rn.lt ?_)
  · simp only [bn_some, lt_eq]
    rw [ne_same _ i1 i2, ne_same _ i3 i4]
    rfl
  rw [ite_f]
  refine Rn.bn (P := fun b => b = false → mayS db ∧ mayS other) ?_ fun b hb => Rn.lt (Rn.ite (fun _ => Rn.bnE awake11_ok (Rn.some rfl)) (fun hg => ?_))
  · refine Rn.bnE rfl (Rn.lt (Rn.ite (fun _ => Rn.some (by simp)) (fun g1 => Rn.bnE rfl (Rn.lt (Rn.ite (fun _ => Rn.some (by simp)) (fun g2 => Rn.bn (MayEffects_ok l (by omega)) fun v _ => Rn.lt (Rn.some fun _ => ?_)))))))
    exact ⟨i2.1 (by simpa [notB] using g1), i4.1 (by simpa [notB] using g2)⟩
  obtain ⟨a1, a2⟩ := hb hg
  clear hb hg
  obtain ⟨a3, a4⟩ := a1
  refine Rn.bnE (space_Same_dec db other (by omega) d2) (Rn.bnE (r_SameSpace_dec db other (by omega) d2) (Rn.lt ?_))
  rw [neB_self, ite_f]
  refine Rn.room (by omega) (by omega) ?_
  refine Rn.bnE (space_Get_ok db key now a4 d2 (by omega)) (Rn.bnE (space_Raw_ok db key a4 d2 (by omega)) (Rn.bnE (r_Get_ok db key now (by omega)) (Rn.bnE (r_Raw_ok db key (by omega)) ?_)))
  have hro : okI ((getP db key now).getD noI) := okI_getD fun it h => getP_ok d2 h
  have hrr : okI ((rawP db key).getD noI) := okI_getD fun it h => rawP_ok d2 h
  obtain ⟨f1, f2, f3⟩ := foldA_inv l db a4 d2 l2
  have hkn : ∀ p ∈ db, p.key.size ≤ 1000000000000 := fun p hp => by have := (a3 p hp).1; omega
  have hil := inP_len db slot
  refine Rn.bnE (v := true) ?_ (Rn.some rfl)
  rw [r_SameItem_refl _ hro, r_SameItem_refl _ hrr]
  simp only [lt_eq, bn_some, ite_t, ite_f, sm_inl, sm_inr, lenI_eq, Option.some.injEq, eqB_self]
  rw [space_Apply_ok db l a4 d2 l2 (by omega), r_Apply_ok db l a4 d2 l2 (by omega)]
  simp only [lt_eq, bn_some, ite_t, ite_f, sm_inl, sm_inr, lenI_eq, Option.some.injEq]
  rw [r_SameSpace_refl _ f2 (by omega)]
  simp only [lt_eq, bn_some, ite_t, ite_f, sm_inl, sm_inr, lenI_eq, Option.some.injEq]
  rw [space_In_ok db _ (by omega) hkn, r_In_ok db _ (by omega) hkn]
  simp only [lt_eq, bn_some, ite_t, ite_f, sm_inl, sm_inr, lenI_eq, Option.some.injEq]
  rw [r_eqT_refl _ (by omega)]
  simp only [lt_eq, bn_some, ite_t, ite_f, sm_inl, sm_inr, lenI_eq, Option.some.injEq]
  rw [space_All_ok db d2 (by omega), r_All_ok db (by omega)]
  simp only [lt_eq, bn_some, ite_t, ite_f, sm_inl, sm_inr, lenI_eq, Option.some.injEq]
  have hall : okE (allP db) := ⟨by simp [allP]; omega, fun e he => by
    simp only [allP, List.mem_map] at he
    obtain ⟨p, hp, rfl⟩ := he
    exact d2 p hp⟩
  rw [r_SameEffects_refl _ hall]
  simp only [lt_eq, bn_some, ite_t, ite_f, sm_inl, sm_inr, lenI_eq, Option.some.injEq]
  rw [chk_room (by omega) (by omega), ft_SameSpace db d2 (by omega)]
  simp only [lt_eq, bn_some, ite_t, ite_f, sm_inl, sm_inr, lenI_eq, Option.some.injEq]
  rw [awake11_ok]
  rfl
end Go.Proofs.Ytlkhfdccapkcdaa

/- What is read as data of the program's structs. -/
namespace Go.Proofs.Ytlkhfdccapkcdaa
open Go Go.RowKit
set_option linter.unusedVariables false
set_option linter.unusedSimpArgs false
set_option linter.constructorNameAsVariable false
set_option maxRecDepth 100000
section
variable {P : Program} {n t : Nat} {ts : List T}
theorem WfT.bool (hu : P.underlying t = some .bool) (h : WfT P (n + 1) t ts) : ∃ b, ts = [.v (.bool b)] := by rw [WfT, hu] at h; exact h
theorem WfT.int {k : IntKind} (hu : P.underlying t = some (.int k)) (h : WfT P (n + 1) t ts) : ∃ i, ts = [.v (.int k i)] ∧ (Lit.int k i).wf = true := by rw [WfT, hu] at h; exact h
theorem WfT.str (hu : P.underlying t = some .string) (h : WfT P (n + 1) t ts) : ∃ s, ts = [.v (.string s)] ∧ s.size ≤ maxLen := by rw [WfT, hu] at h; exact h
theorem WfT.slice {e : Nat} (hu : P.underlying t = some (.slice e)) (h : WfT P (n + 1) t ts) : ∃ es, ts = [.sl (P.cellsOf e) es] ∧ es.length * P.bytesOf e ≤ reachBytes ∧ ∀ x ∈ es, WfT P n e x := by rw [WfT, hu] at h; exact h
theorem WfT.struct {fs : Array Go.Field} (hu : P.underlying t = some (.struct fs)) (h : WfT P (n + 1) t ts) : ∃ ps : List (List T), ts = ps.flatten ∧ All2 (fun p f => WfT P n f p) ps (fs.toList.map (·.type)) := by rw [WfT, hu] at h; exact h
end
theorem All2.cons_r {α β : Type} {R : α → β → Prop} {l : List α} {b : β} {bs : List β} (h : All2 R l (b :: bs)) : ∃ x xs, l = x :: xs ∧ R x b ∧ All2 R xs bs := by
  cases l with
  | nil => exact h.elim
  | cons x xs => exact ⟨x, xs, rfl, h⟩
theorem All2.nil_r {α β : Type} {R : α → β → Prop} {l : List α} (h : All2 R l ([] : List β)) : l = [] := by
  cases l with
  | nil => rfl
  | cons x xs => exact h.elim
def rngI (i : Int) : Prop := -9223372036854775808 ≤ i ∧ i ≤ 9223372036854775807
theorem wf_rngI {i : Int} (h : (Lit.int .i64 i).wf = true) : rngI i := by
  have h' := (Bool.and_eq_true _ _ ▸ h : _ ∧ _)
  have h1 := of_decide_eq_true h'.1
  have h2 := of_decide_eq_true h'.2
  exact ⟨h1, h2⟩
theorem wf_list {α : Type} {enc : List α → List (List T)} {R : List T → Prop} {rng : α → Prop} (hn : enc [] = []) (hc : ∀ x l, enc (x :: l) = enc [x] ++ enc l) (h1 : ∀ e, R e → ∃ x, enc [x] = [e] ∧ rng x) :
    ∀ es, (∀ x ∈ es, R x) → ∃ l, es = enc l ∧ ∀ x ∈ l, rng x
  | [], _ => ⟨[], hn.symm, fun x h => by cases h⟩
  | e :: es, h => by
    obtain ⟨x, hx, rx⟩ := h1 e (h e (by simp))
    obtain ⟨l, rfl, rl⟩ := wf_list hn hc h1 es fun y hy => h y (by simp [hy])
    refine ⟨x :: l, by rw [hc, hx]; rfl, ?_⟩
    intro y hy
    rcases List.mem_cons.1 hy with rfl | hy
    · exact rx
    · exact rl y hy
theorem wf_S (n : Nat) (e : List T) (h : WfT Try.prog (n + 1) 9 e) : ∃ x : ByteArray, encS [x] = [e] ∧ True := by
  obtain ⟨f, rfl, -⟩ := WfT.str (t := 9) Try.underlying9 h
  exact ⟨f, rfl, trivial⟩
theorem wf_Ss {n : Nat} {es : List (List T)} (h : ∀ x ∈ es, WfT Try.prog (n + 1) 9 x) : ∃ l : List ByteArray, es = encS l ∧ ∀ x ∈ l, True :=
  wf_list (enc := encS) (R := fun e => WfT Try.prog (n + 1) 9 e) (rng := fun _ => True) rfl (fun _ _ => rfl) (@wf_S n) es h
/-- Bytes. -/
def rngU (i : Int) : Prop := 0 ≤ i ∧ i ≤ 255
/-- What fits memory. -/
theorem wf_len {l b s m : Nat} (h : l * b ≤ reachBytes) (hb : b = s) (hs : 0 < s) (hm : reachBytes / s = m) : l ≤ m := by
  subst hb hm
  exact (Nat.le_div_iff_mul_le hs).2 h
def rngField (x : Field) : Prop := True
theorem wf_Field (n : Nat) (e : List T) (h : WfT Try.prog (n + 2) 105 e) : ∃ x : Field, encField [x] = [e] ∧ rngField x := by
  obtain ⟨q0, rfl, w0⟩ := WfT.struct (t := 105) Try.underlying105 h
  obtain ⟨p0, q1, rfl, g0, w1⟩ := All2.cons_r w0
  obtain ⟨p1, q2, rfl, g1, w2⟩ := All2.cons_r w1
  obtain rfl := All2.nil_r w2
  obtain ⟨f0, rfl, -⟩ := WfT.str (t := 9) Try.underlying9 g0
  obtain ⟨f1, rfl, -⟩ := WfT.str (t := 9) Try.underlying9 g1
  exact ⟨⟨f0, f1⟩, rfl, trivial⟩
theorem wf_Fields {n : Nat} {es : List (List T)} (h : ∀ x ∈ es, WfT Try.prog (n + 2) 105 x) : ∃ l : List Field, es = encField l ∧ ∀ x ∈ l, rngField x :=
  wf_list (enc := encField) (R := fun e => WfT Try.prog (n + 2) 105 e) (rng := rngField) rfl (fun _ _ => rfl) (@wf_Field n) es h
def rngItem (x : Item) : Prop := (rngI x.kind) ∧ (x.f.length ≤ 4398046510976 ∧ ∀ y ∈ x.f, rngField y) ∧ (x.l.length ≤ 8796093021952) ∧ (rngI x.exp)
theorem wf_Item (n : Nat) (e : List T) (h : WfT Try.prog (n + 4) 34 e) : ∃ x : Item, encItem [x] = [e] ∧ rngItem x := by
  obtain ⟨q0, rfl, w0⟩ := WfT.struct (t := 34) Try.underlying34 h
  obtain ⟨p0, q1, rfl, g0, w1⟩ := All2.cons_r w0
  obtain ⟨p1, q2, rfl, g1, w2⟩ := All2.cons_r w1
  obtain ⟨p2, q3, rfl, g2, w3⟩ := All2.cons_r w2
  obtain ⟨p3, q4, rfl, g3, w4⟩ := All2.cons_r w3
  obtain ⟨p4, q5, rfl, g4, w5⟩ := All2.cons_r w4
  obtain rfl := All2.nil_r w5
  obtain ⟨f0, rfl, v0⟩ := WfT.int (t := 3) Try.underlying3 g0
  have r0 := wf_rngI v0
  obtain ⟨f1, rfl, -⟩ := WfT.str (t := 9) Try.underlying9 g1
  obtain ⟨es2, rfl, b2, k2⟩ := WfT.slice (t := 31) Try.underlying31 g2
  obtain ⟨f2, rfl, r2⟩ := wf_Fields k2
  have b2 : f2.length ≤ 4398046510976 := wf_len (by simpa using b2) (show Try.prog.bytesOf 105 = 32 by kernel_rfl) (by decide) (by decide)
  obtain ⟨es3, rfl, b3, k3⟩ := WfT.slice (t := 32) Try.underlying32 g3
  obtain ⟨f3, rfl, r3⟩ := wf_Ss k3
  have b3 : f3.length ≤ 8796093021952 := wf_len (by simpa using b3) (show Try.prog.bytesOf 9 = 16 by kernel_rfl) (by decide) (by decide)
  obtain ⟨f4, rfl, v4⟩ := WfT.int (t := 3) Try.underlying3 g4
  have r4 := wf_rngI v4
  exact ⟨⟨f0, f1, f2, f3, f4⟩, rfl, ⟨r0, ⟨b2, r2⟩, b3, r4⟩⟩
def rngPair (x : Pair) : Prop := (rngItem x.item)
theorem wf_Pair (n : Nat) (e : List T) (h : WfT Try.prog (n + 5) 125 e) : ∃ x : Pair, encPair [x] = [e] ∧ rngPair x := by
  obtain ⟨q0, rfl, w0⟩ := WfT.struct (t := 125) Try.underlying125 h
  obtain ⟨p0, q1, rfl, g0, w1⟩ := All2.cons_r w0
  obtain ⟨p1, q2, rfl, g1, w2⟩ := All2.cons_r w1
  obtain rfl := All2.nil_r w2
  obtain ⟨f0, rfl, -⟩ := WfT.str (t := 9) Try.underlying9 g0
  obtain ⟨f1, e1, r1⟩ := wf_Item _ _ g1
  have e1 := (List.cons.inj e1).1
  subst e1
  exact ⟨⟨f0, f1⟩, rfl, r1⟩
theorem wf_Pairs {n : Nat} {es : List (List T)} (h : ∀ x ∈ es, WfT Try.prog (n + 5) 125 x) : ∃ l : List Pair, es = encPair l ∧ ∀ x ∈ l, rngPair x :=
  wf_list (enc := encPair) (R := fun e => WfT Try.prog (n + 5) 125 e) (rng := rngPair) rfl (fun _ _ => rfl) (@wf_Pair n) es h
def rngEffect (x : Effect) : Prop := (rngItem x.item)
theorem wf_Effect (n : Nat) (e : List T) (h : WfT Try.prog (n + 5) 36 e) : ∃ x : Effect, encEffect [x] = [e] ∧ rngEffect x := by
  obtain ⟨q0, rfl, w0⟩ := WfT.struct (t := 36) Try.underlying36 h
  obtain ⟨p0, q1, rfl, g0, w1⟩ := All2.cons_r w0
  obtain ⟨p1, q2, rfl, g1, w2⟩ := All2.cons_r w1
  obtain ⟨p2, q3, rfl, g2, w3⟩ := All2.cons_r w2
  obtain rfl := All2.nil_r w3
  obtain ⟨f0, rfl, -⟩ := WfT.str (t := 9) Try.underlying9 g0
  obtain ⟨f1, rfl⟩ := WfT.bool (t := 4) Try.underlying4 g1
  obtain ⟨f2, e2, r2⟩ := wf_Item _ _ g2
  have e2 := (List.cons.inj e2).1
  subst e2
  exact ⟨⟨f0, f1, f2⟩, rfl, r2⟩
theorem wf_Effects {n : Nat} {es : List (List T)} (h : ∀ x ∈ es, WfT Try.prog (n + 5) 36 x) : ∃ l : List Effect, es = encEffect l ∧ ∀ x ∈ l, rngEffect x :=
  wf_list (enc := encEffect) (R := fun e => WfT Try.prog (n + 5) 36 e) (rng := rngEffect) rfl (fun _ _ => rfl) (@wf_Effect n) es h
def rngRid (x : Rid) : Prop := (rngI x.node) ∧ (rngI x.epoch)
def rngFeed (x : Feed) : Prop := (rngRid x.rid) ∧ (rngI x.off) ∧ (x.back.length ≤ 1353245080300 ∧ ∀ y ∈ x.back, rngEffect y) ∧ (rngRid x.prev) ∧ (rngI x.upto)
def rngClaim (x : Claim) : Prop := (rngI x.frm) ∧ (rngI x.to) ∧ (rngI x.node) ∧ (rngI x.epoch)
def rngMsg (x : Msg) : Prop := (rngI x.kind) ∧ (rngI x.frm) ∧ (rngI x.to) ∧ (rngI x.epoch) ∧ (x.claims.length ≤ 4398046510976 ∧ ∀ y ∈ x.claims, rngClaim y) ∧ (x.nodes.length ≤ 17592186043904 ∧ ∀ y ∈ x.nodes, rngI y) ∧ (rngI x.node) ∧ (rngI x.slot) ∧ (rngI x.num) ∧ (rngRid x.rid) ∧ (rngRid x.prev) ∧ (rngI x.off) ∧ (x.effects.length ≤ 1353245080300 ∧ ∀ y ∈ x.effects, rngEffect y)
end Go.Proofs.Ytlkhfdccapkcdaa

/- What all rows need. -/
namespace Go.Proofs.Ytlkhfdccapkcdaa
open Go Go.RowKit
open Go.ChangeShapes Go.WideShapes Go.ChangeAt Go.RowKit
theorem Try.own : ownKnob Try.prog.godebug = none := by kernel_rfl
theorem Try.laidOut : laidOutB Try.prog = true := by kernel_rfl
end Go.Proofs.Ytlkhfdccapkcdaa

