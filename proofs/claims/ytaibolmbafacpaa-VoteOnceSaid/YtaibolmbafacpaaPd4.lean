/- Part 4 of the proof. -/
import Derived.Test.YtaibolmbafacpaaPd3
import Derived.Test.YtaibolmbafacpaaRows
import Derived.ProofKit
/- Walks, printed: claims_own, claims_Own, vote_grants, vote_Grant -/
namespace Go.Proofs.Ytaibolmbafacpaa
open Go Go.RowKit
set_option linter.unusedVariables false
set_option linter.unusedSimpArgs false
def claims_own_sh (n : Nat) (a0 : Item) : Option Item :=
chk (small 32 a0.f) <|
chk (small 16 a0.l) <|
chk (room a0.f.length 1) <|
chk (room a0.l.length 1) <|
some a0
set_option maxRecDepth 8000 in
set_option maxHeartbeats 8000000 in
theorem s_claims_own {n : Nat} {a0 : Item} {r : Item} (h : claims_own_sh n a0 = some r) : Sound Try.prog 39 [.g [.s (.int .i64 a0.kind), .s (.string a0.s), .d false 2 (encField a0.f), .d false 1 (encS a0.l), .s (.int .i64 a0.exp)]] [] (.g [.s (.int .i64 r.kind), .s (.string r.s), .d false 2 (encField r.f), .d false 1 (encS r.l), .s (.int .i64 r.exp)]) [] := by
 unfold claims_own_sh at h
 refine Sound.of_aw (fn := Try.f39) (c := _) Try.func39 rfl (by simp [Try.f39]) fun cx hG hnb => ?_
 rw [show Try.f39.ntmps = 12 from rfl]
 have hn0 : cx.nb = 0 := hnb
 simp only [st0_mk, initTm, List.map_cons, List.map_nil]
 apply AW.step
 ·simp
  intros; rfl
 replace h := chkE h; obtain ⟨e1, h⟩ := h
 replace h := chkE h; obtain ⟨e2, h⟩ := h
 apply AW.drawnE (V := [_, _, _, _, _, _, _]) (M := [[some ⟨93, 5, false, none, [.s (.int .i64 a0.kind), .s (.string a0.s), .d false 2 (encField a0.f), .d false 1 (encS a0.l), .s (.int .i64 a0.exp)]⟩, some ⟨93, 5, false, none, [.s (.int .i64 0), .s (.string ⟨#[]⟩), .s (.slice none 0 0), .s (.slice none 0 0), .s (.int .i64 0)]⟩], [some ⟨93, 5, false, none, [.s (.int .i64 a0.kind), .s (.string a0.s), .d false 2 (encField a0.f), .d false 1 (encS a0.l), .s (.int .i64 a0.exp)]⟩, some ⟨93, 5, false, none, [.s (.int .i64 0), .s (.string ⟨#[]⟩), .s (.slice none 0 0), .s (.slice none 0 0), .s (.int .i64 0)]⟩, some ⟨112, 2, true, none, lvs (encField a0.f)⟩], [some ⟨93, 5, false, none, [.s (.int .i64 a0.kind), .s (.string a0.s), .d false 2 (encField a0.f), .d false 1 (encS a0.l), .s (.int .i64 a0.exp)]⟩, some ⟨93, 5, false, none, [.s (.int .i64 0), .s (.string ⟨#[]⟩), .s (.slice none 0 0), .s (.slice none 0 0), .s (.int .i64 0)]⟩, some ⟨112, 2, true, none, lvs (encField a0.f)⟩, some ⟨9, 1, true, none, lvs (encS a0.l)⟩]]) mixed [⟨[0], [], [(1, none)], false⟩, ⟨[0], [0], [(3, some 0)], false⟩, ⟨[0], [0, 1], [(4, some 1)], true⟩, ⟨[0, 1], [], [(1, none)], false⟩, ⟨[0, 1], [3], [(6, some 3)], false⟩, ⟨[1], [0, 1, 2, 3, 4], [(7, some 4)], true⟩, ⟨[1, 2], [0, 1, 2, 3, 4], [(1, none)], false⟩, ⟨[], [0, 1, 2, 3, 4, 5, 6], [], false⟩, ⟨[], [0, 1, 2, 3, 4, 5, 6, 7], [], false⟩, ⟨[], [0, 1, 2, 3, 4, 5, 6, 7, 8], [], false⟩] 7 2 (by kernel_rfl) (by kernel_rfl)
 ·rfl
 ·refine ⟨?_, ?_, ?_, ⟨?_, ?_⟩, ⟨?_, ?_⟩, ?_, ⟨?_, ?_⟩, trivial⟩
  ·intro tm hr
   simp [AllL, rdV] at hr
   simp [hr, outR]
   intros; first | exact KD.mk | exact KD.mkN
  ·intro tm hr
   simp [AllL, rdV] at hr
   simp [hr, outR]
   intros; first | exact KD.mk | exact KD.mkN
  ·intro tm hr
   simp [AllL, rdV] at hr
   simp [hr, outR]
   intros
   refine xcall_new en_cl_Field (s_cl_Field a0.f (small_d e1)) rfl (by simp) ⟨.d _ _ _, trivial⟩ ?_
   try simp [outR]
   intros; first | exact KD.mk | exact KD.mkN
  ·intro tm hr
   simp [AllL, rdV] at hr
   simp [hr, outR]
   intros; first | exact KD.mk | exact KD.mkN
  ·intro tm hr
   simp [AllL, rdV] at hr
   simp [hr, outR]
   intros; first | exact KD.mk | exact KD.mkN
  ·intro tm hr
   simp [AllL, rdV] at hr
   simp [hr, outR]
   intros; first | exact KD.mk | exact KD.mkN
  ·intro tm hr
   simp [AllL, rdV] at hr
   simp [hr, outR]
   intros; first | exact KD.mk | exact KD.mkN
  ·intro tm hr
   simp [AllL, rdV] at hr
   simp [hr, outR]
   intros
   refine xcall_new en_cl_S (s_cl_S a0.l (small_d e2)) rfl (by simp) ⟨.d _ _ _, trivial⟩ ?_
   try simp [outR]
   intros; first | exact KD.mk | exact KD.mkN
  ·intro tm hr
   simp [AllL, rdV] at hr
   simp [hr, outR]
   intros; first | exact KD.mk | exact KD.mkN
  ·intro tm hr
   simp [AllL, rdV] at hr
   simp [hr, outR]
   intros; first | exact KD.mk | exact KD.mkN
 ·rfl
 ·simp [tmD, putD, outR]; rfl
 ·simp [outR]
  intros; rfl
 apply AW.step
 ·simp
  intros; rfl
 replace h := chkE h; obtain ⟨e3, h⟩ := h
 refine AW.frzRow 2 (ty := 112) (cap := none) (sz := 2) (es := encField a0.f) (by simp) (by omega) (encField_sz _) (by first | exact (room_d e3).2 | simpa using (room_d e3).2 | simp) (by simp [Tm.frz, AV.frz, LV.frz]; rfl) (by simp [Ob.frz, LV.frz]; rfl) rfl ?_
 replace h := chkE h; obtain ⟨e4, h⟩ := h
 refine AW.frzRow 3 (ty := 9) (cap := none) (sz := 1) (es := encS a0.l) (by simp) (by omega) (encS_sz _) (by first | exact (room_d e4).2 | simpa using (room_d e4).2 | simp) (by simp [Tm.frz, AV.frz, LV.frz]; rfl) (by simp [Ob.frz, LV.frz]; rfl) rfl ?_
 obtain rfl := Option.some.inj h
 refine AW.ret ?_
 refine Left.plain hnb (by simp [Try.f39, resV, resC, comp]; rfl) rfl rfl ?_
 simp
theorem en_claims_own : Enters Try.prog 39 := enters Try.func39 (by kernel_rfl) rfl
def claims_Own_sh (n : Nat) (a0 : Node) : Option Node :=
chk (small 32 a0.claims) <|
chk (small 40 a0.moves) <|
chk (small 24 a0.seen) <|
chk (small 8 a0.votes) <|
chk (small 96 a0.db) <|
chk (small 104 a0.feed.back) <|
lt (lenI a0.db) fun v7 =>
bn (iter n (fun (y8 : Int × List Pair) =>
lt (ltI y8.1 v7) fun v11 =>
ite' v11 (bn (nth y8.2 y8.1) fun v12 =>
bn (claims_own_sh n v12.item) fun v14 =>
lt (y8.2.set y8.1.toNat (⟨v12.key, v14⟩ : Pair)) fun v16 =>
lt (addI .i64 y8.1 1) fun v20 =>
some (.inl (v20, v16))) (some (.inr y8.2))) (0, a0.db)) fun (y9 : List Pair) =>
lt (lenI a0.feed.back) fun v21 =>
bn (iter n (fun (y22 : Int × List Effect) =>
lt (ltI y22.1 v21) fun v25 =>
ite' v25 (bn (nth y22.2 y22.1) fun v26 =>
bn (claims_own_sh n v26.item) fun v28 =>
lt (y22.2.set y22.1.toNat (⟨v26.key, v26.gone, v28⟩ : Effect)) fun v30 =>
lt (addI .i64 y22.1 1) fun v34 =>
some (.inl (v34, v30))) (some (.inr y22.2))) (0, a0.feed.back)) fun (y23 : List Effect) =>
chk (small 8 a0.watch.heard) <|
chk (small 24 a0.watch.says) <|
lt (lenI a0.watch.says) fun v37 =>
bn (iter n (fun (y38 : Int × List (List Int)) =>
lt (ltI y38.1 v37) fun v41 =>
ite' v41 (bn (nth y38.2 y38.1) fun v42 =>
chk (small 8 v42) <|
lt (y38.2.set y38.1.toNat v42) fun v46 =>
lt (addI .i64 y38.1 1) fun v49 =>
some (.inl (v49, v46))) (some (.inr y38.2))) (0, a0.watch.says)) fun (y39 : List (List Int)) =>
chk (room a0.claims.length 1) <|
chk (room y9.length 1) <|
chk (room a0.moves.length 1) <|
chk (room a0.seen.length 1) <|
chk (room y23.length 1) <|
chk (room a0.watch.heard.length 1) <|
chk (room y39.length 1) <|
chk (room a0.votes.length 1) <|
some (⟨a0.count, a0.id, a0.master, a0.epoch, a0.voted, a0.claims, y9, a0.moves, a0.last, a0.seen, (⟨a0.feed.rid, a0.feed.off, y23, a0.feed.prev, a0.feed.upto⟩ : Feed), (⟨a0.watch.heard, y39⟩ : Watch), a0.asked, a0.votes, a0.wait⟩ : Node)
set_option maxRecDepth 8000 in
set_option maxHeartbeats 8000000 in
theorem s_claims_Own {n : Nat} {a0 : Node} {r : Node} (h : claims_Own_sh n a0 = some r) : Sound Try.prog 19 [.g [.s (.int .i64 a0.count), .s (.int .i64 a0.id), .s (.int .i64 a0.master), .s (.int .i64 a0.epoch), .s (.int .i64 a0.voted), .d false 4 (encClaim a0.claims), .d false 6 (encPair a0.db), .d false 4 (encMove a0.moves), .s (.int .i64 a0.last), .d false 3 (encSeen a0.seen), .s (.int .i64 a0.feed.rid.node), .s (.int .i64 a0.feed.rid.epoch), .s (.int .i64 a0.feed.off), .d false 7 (encEffect a0.feed.back), .s (.int .i64 a0.feed.prev.node), .s (.int .i64 a0.feed.prev.epoch), .s (.int .i64 a0.feed.upto), .d false 1 (encI a0.watch.heard), .d false 1 (encLI a0.watch.says), .s (.int .i64 a0.asked), .d false 1 (encI a0.votes), .s (.int .i64 a0.wait)]] [] (.g [.s (.int .i64 r.count), .s (.int .i64 r.id), .s (.int .i64 r.master), .s (.int .i64 r.epoch), .s (.int .i64 r.voted), .d false 4 (encClaim r.claims), .d false 6 (encPair r.db), .d false 4 (encMove r.moves), .s (.int .i64 r.last), .d false 3 (encSeen r.seen), .s (.int .i64 r.feed.rid.node), .s (.int .i64 r.feed.rid.epoch), .s (.int .i64 r.feed.off), .d false 7 (encEffect r.feed.back), .s (.int .i64 r.feed.prev.node), .s (.int .i64 r.feed.prev.epoch), .s (.int .i64 r.feed.upto), .d false 1 (encI r.watch.heard), .d false 1 (encLI r.watch.says), .s (.int .i64 r.asked), .d false 1 (encI r.votes), .s (.int .i64 r.wait)]) [] := by
 unfold claims_Own_sh at h
 refine Sound.of_aw (fn := Try.f19) (c := _) Try.func19 rfl (by simp [Try.f19]) fun cx hG hnb => ?_
 rw [show Try.f19.ntmps = 104 from rfl]
 have hn0 : cx.nb = 0 := hnb
 simp only [st0_mk, initTm, List.map_cons, List.map_nil]
 apply AW.step
 ·simp
  intros; rfl
 replace h := chkE h; obtain ⟨e1, h⟩ := h
 replace h := chkE h; obtain ⟨e2, h⟩ := h
 replace h := chkE h; obtain ⟨e3, h⟩ := h
 replace h := chkE h; obtain ⟨e4, h⟩ := h
 apply AW.drawnE (V := [_, _, _, _, _, _, _, _, _, _, _, _, _]) (M := [[some ⟨38, 22, false, none, [.s (.int .i64 a0.count), .s (.int .i64 a0.id), .s (.int .i64 a0.master), .s (.int .i64 a0.epoch), .s (.int .i64 a0.voted), .d false 4 (encClaim a0.claims), .d false 6 (encPair a0.db), .d false 4 (encMove a0.moves), .s (.int .i64 a0.last), .d false 3 (encSeen a0.seen), .s (.int .i64 a0.feed.rid.node), .s (.int .i64 a0.feed.rid.epoch), .s (.int .i64 a0.feed.off), .d false 7 (encEffect a0.feed.back), .s (.int .i64 a0.feed.prev.node), .s (.int .i64 a0.feed.prev.epoch), .s (.int .i64 a0.feed.upto), .d false 1 (encI a0.watch.heard), .d false 1 (encLI a0.watch.says), .s (.int .i64 a0.asked), .d false 1 (encI a0.votes), .s (.int .i64 a0.wait)]⟩, some ⟨38, 22, false, none, [.s (.int .i64 0), .s (.int .i64 0), .s (.int .i64 0), .s (.int .i64 0), .s (.int .i64 0), .s (.slice none 0 0), .s (.slice none 0 0), .s (.slice none 0 0), .s (.int .i64 0), .s (.slice none 0 0), .s (.int .i64 0), .s (.int .i64 0), .s (.int .i64 0), .s (.slice none 0 0), .s (.int .i64 0), .s (.int .i64 0), .s (.int .i64 0), .s (.slice none 0 0), .s (.slice none 0 0), .s (.int .i64 0), .s (.slice none 0 0), .s (.int .i64 0)]⟩], [some ⟨38, 22, false, none, [.s (.int .i64 a0.count), .s (.int .i64 a0.id), .s (.int .i64 a0.master), .s (.int .i64 a0.epoch), .s (.int .i64 a0.voted), .d false 4 (encClaim a0.claims), .d false 6 (encPair a0.db), .d false 4 (encMove a0.moves), .s (.int .i64 a0.last), .d false 3 (encSeen a0.seen), .s (.int .i64 a0.feed.rid.node), .s (.int .i64 a0.feed.rid.epoch), .s (.int .i64 a0.feed.off), .d false 7 (encEffect a0.feed.back), .s (.int .i64 a0.feed.prev.node), .s (.int .i64 a0.feed.prev.epoch), .s (.int .i64 a0.feed.upto), .d false 1 (encI a0.watch.heard), .d false 1 (encLI a0.watch.says), .s (.int .i64 a0.asked), .d false 1 (encI a0.votes), .s (.int .i64 a0.wait)]⟩, some ⟨38, 22, false, none, [.s (.int .i64 0), .s (.int .i64 0), .s (.int .i64 0), .s (.int .i64 0), .s (.int .i64 0), .s (.slice none 0 0), .s (.slice none 0 0), .s (.slice none 0 0), .s (.int .i64 0), .s (.slice none 0 0), .s (.int .i64 0), .s (.int .i64 0), .s (.int .i64 0), .s (.slice none 0 0), .s (.int .i64 0), .s (.int .i64 0), .s (.int .i64 0), .s (.slice none 0 0), .s (.slice none 0 0), .s (.int .i64 0), .s (.slice none 0 0), .s (.int .i64 0)]⟩, some ⟨63, 4, true, none, lvs (encClaim a0.claims)⟩], [some ⟨38, 22, false, none, [.s (.int .i64 a0.count), .s (.int .i64 a0.id), .s (.int .i64 a0.master), .s (.int .i64 a0.epoch), .s (.int .i64 a0.voted), .d false 4 (encClaim a0.claims), .d false 6 (encPair a0.db), .d false 4 (encMove a0.moves), .s (.int .i64 a0.last), .d false 3 (encSeen a0.seen), .s (.int .i64 a0.feed.rid.node), .s (.int .i64 a0.feed.rid.epoch), .s (.int .i64 a0.feed.off), .d false 7 (encEffect a0.feed.back), .s (.int .i64 a0.feed.prev.node), .s (.int .i64 a0.feed.prev.epoch), .s (.int .i64 a0.feed.upto), .d false 1 (encI a0.watch.heard), .d false 1 (encLI a0.watch.says), .s (.int .i64 a0.asked), .d false 1 (encI a0.votes), .s (.int .i64 a0.wait)]⟩, some ⟨38, 22, false, none, [.s (.int .i64 0), .s (.int .i64 0), .s (.int .i64 0), .s (.int .i64 0), .s (.int .i64 0), .s (.slice none 0 0), .s (.slice none 0 0), .s (.slice none 0 0), .s (.int .i64 0), .s (.slice none 0 0), .s (.int .i64 0), .s (.int .i64 0), .s (.int .i64 0), .s (.slice none 0 0), .s (.int .i64 0), .s (.int .i64 0), .s (.int .i64 0), .s (.slice none 0 0), .s (.slice none 0 0), .s (.int .i64 0), .s (.slice none 0 0), .s (.int .i64 0)]⟩, some ⟨63, 4, true, none, lvs (encClaim a0.claims)⟩, some ⟨84, 4, true, none, lvs (encMove a0.moves)⟩], [some ⟨38, 22, false, none, [.s (.int .i64 a0.count), .s (.int .i64 a0.id), .s (.int .i64 a0.master), .s (.int .i64 a0.epoch), .s (.int .i64 a0.voted), .d false 4 (encClaim a0.claims), .d false 6 (encPair a0.db), .d false 4 (encMove a0.moves), .s (.int .i64 a0.last), .d false 3 (encSeen a0.seen), .s (.int .i64 a0.feed.rid.node), .s (.int .i64 a0.feed.rid.epoch), .s (.int .i64 a0.feed.off), .d false 7 (encEffect a0.feed.back), .s (.int .i64 a0.feed.prev.node), .s (.int .i64 a0.feed.prev.epoch), .s (.int .i64 a0.feed.upto), .d false 1 (encI a0.watch.heard), .d false 1 (encLI a0.watch.says), .s (.int .i64 a0.asked), .d false 1 (encI a0.votes), .s (.int .i64 a0.wait)]⟩, some ⟨38, 22, false, none, [.s (.int .i64 0), .s (.int .i64 0), .s (.int .i64 0), .s (.int .i64 0), .s (.int .i64 0), .s (.slice none 0 0), .s (.slice none 0 0), .s (.slice none 0 0), .s (.int .i64 0), .s (.slice none 0 0), .s (.int .i64 0), .s (.int .i64 0), .s (.int .i64 0), .s (.slice none 0 0), .s (.int .i64 0), .s (.int .i64 0), .s (.int .i64 0), .s (.slice none 0 0), .s (.slice none 0 0), .s (.int .i64 0), .s (.slice none 0 0), .s (.int .i64 0)]⟩, some ⟨63, 4, true, none, lvs (encClaim a0.claims)⟩, some ⟨84, 4, true, none, lvs (encMove a0.moves)⟩, some ⟨87, 3, true, none, lvs (encSeen a0.seen)⟩], [some ⟨38, 22, false, none, [.s (.int .i64 a0.count), .s (.int .i64 a0.id), .s (.int .i64 a0.master), .s (.int .i64 a0.epoch), .s (.int .i64 a0.voted), .d false 4 (encClaim a0.claims), .d false 6 (encPair a0.db), .d false 4 (encMove a0.moves), .s (.int .i64 a0.last), .d false 3 (encSeen a0.seen), .s (.int .i64 a0.feed.rid.node), .s (.int .i64 a0.feed.rid.epoch), .s (.int .i64 a0.feed.off), .d false 7 (encEffect a0.feed.back), .s (.int .i64 a0.feed.prev.node), .s (.int .i64 a0.feed.prev.epoch), .s (.int .i64 a0.feed.upto), .d false 1 (encI a0.watch.heard), .d false 1 (encLI a0.watch.says), .s (.int .i64 a0.asked), .d false 1 (encI a0.votes), .s (.int .i64 a0.wait)]⟩, some ⟨38, 22, false, none, [.s (.int .i64 0), .s (.int .i64 0), .s (.int .i64 0), .s (.int .i64 0), .s (.int .i64 0), .s (.slice none 0 0), .s (.slice none 0 0), .s (.slice none 0 0), .s (.int .i64 0), .s (.slice none 0 0), .s (.int .i64 0), .s (.int .i64 0), .s (.int .i64 0), .s (.slice none 0 0), .s (.int .i64 0), .s (.int .i64 0), .s (.int .i64 0), .s (.slice none 0 0), .s (.slice none 0 0), .s (.int .i64 0), .s (.slice none 0 0), .s (.int .i64 0)]⟩, some ⟨63, 4, true, none, lvs (encClaim a0.claims)⟩, some ⟨84, 4, true, none, lvs (encMove a0.moves)⟩, some ⟨87, 3, true, none, lvs (encSeen a0.seen)⟩, some ⟨3, 1, true, none, lvs (encI a0.votes)⟩]]) mixed [⟨[0], [], [(1, none)], false⟩, ⟨[0], [0], [(7, some 0)], false⟩, ⟨[0], [0, 1], [(8, some 1)], true⟩, ⟨[0, 1], [], [(1, none)], false⟩, ⟨[0, 1], [3], [(10, some 3)], false⟩, ⟨[1], [0, 1, 2, 3, 4], [(11, some 4)], true⟩, ⟨[0, 1, 2], [], [(1, none)], false⟩, ⟨[0, 1, 2], [6], [(13, some 6)], false⟩, ⟨[2], [0, 1, 2, 3, 4, 5, 6, 7], [(14, some 7)], true⟩, ⟨[0, 1, 2, 3], [], [(1, none)], false⟩, ⟨[0, 1, 2, 3], [9], [(16, some 9)], false⟩, ⟨[3], [0, 1, 2, 3, 4, 5, 6, 7, 8, 9, 10], [(17, some 10)], true⟩, ⟨[1, 2, 3, 4], [0, 1, 2, 3, 4, 6, 7, 9, 10], [(1, none)], false⟩, ⟨[], [0, 1, 2, 3, 4, 5, 6, 7, 8, 9, 10, 11, 12], [], false⟩, ⟨[], [0, 1, 2, 3, 4, 5, 6, 7, 8, 9, 10, 11, 12, 13], [], false⟩, ⟨[], [0, 1, 2, 3, 4, 5, 6, 7, 8, 9, 10, 11, 12, 13, 14], [], false⟩, ⟨[], [0, 1, 2, 3, 4, 5, 6, 7, 8, 9, 10, 11, 12, 13, 14, 15], [], false⟩, ⟨[], [0, 1, 2, 3, 4, 5, 6, 7, 8, 9, 10, 11, 12, 13, 14, 15, 16], [], false⟩, ⟨[], [0, 1, 2, 3, 4, 5, 6, 7, 8, 9, 10, 11, 12, 13, 14, 15, 16, 17], [], false⟩, ⟨[], [0, 1, 2, 3, 4, 5, 6, 7, 8, 9, 10, 11, 12, 13, 14, 15, 16, 17, 18], [], false⟩] 13 4 (by kernel_rfl) (by kernel_rfl)
 ·rfl
 ·refine ⟨?_, ?_, ?_, ⟨?_, ?_⟩, ⟨?_, ?_⟩, ?_, ⟨?_, ?_, ?_⟩, ⟨?_, ?_, ?_⟩, ?_, ⟨?_, ?_, ?_, ?_⟩, ⟨?_, ?_, ?_, ?_⟩, ?_, ⟨?_, ?_, ?_, ?_⟩, trivial⟩
  ·intro tm hr
   simp [AllL, rdV] at hr
   simp [hr, outR]
   intros; first | exact KD.mk | exact KD.mkN
  ·intro tm hr
   simp [AllL, rdV] at hr
   simp [hr, outR]
   intros; first | exact KD.mk | exact KD.mkN
  ·intro tm hr
   simp [AllL, rdV] at hr
   simp [hr, outR]
   intros
   refine xcall_new en_cl_Claim (s_cl_Claim a0.claims (small_d e1)) rfl (by simp) ⟨.d _ _ _, trivial⟩ ?_
   try simp [outR]
   intros; first | exact KD.mk | exact KD.mkN
  ·intro tm hr
   simp [AllL, rdV] at hr
   simp [hr, outR]
   intros; first | exact KD.mk | exact KD.mkN
  ·intro tm hr
   simp [AllL, rdV] at hr
   simp [hr, outR]
   intros; first | exact KD.mk | exact KD.mkN
  ·intro tm hr
   simp [AllL, rdV] at hr
   simp [hr, outR]
   intros; first | exact KD.mk | exact KD.mkN
  ·intro tm hr
   simp [AllL, rdV] at hr
   simp [hr, outR]
   intros; first | exact KD.mk | exact KD.mkN
  ·intro tm hr
   simp [AllL, rdV] at hr
   simp [hr, outR]
   intros
   refine xcall_new en_cl_Move (s_cl_Move a0.moves (small_d e2)) rfl (by simp) ⟨.d _ _ _, trivial⟩ ?_
   try simp [outR]
   intros; first | exact KD.mk | exact KD.mkN
  ·intro tm hr
   simp [AllL, rdV] at hr
   simp [hr, outR]
   intros; first | exact KD.mk | exact KD.mkN
  ·intro tm hr
   simp [AllL, rdV] at hr
   simp [hr, outR]
   intros; first | exact KD.mk | exact KD.mkN
  ·intro tm hr
   simp [AllL, rdV] at hr
   simp [hr, outR]
   intros; first | exact KD.mk | exact KD.mkN
  ·intro tm hr
   simp [AllL, rdV] at hr
   simp [hr, outR]
   intros; first | exact KD.mk | exact KD.mkN
  ·intro tm hr
   simp [AllL, rdV] at hr
   simp [hr, outR]
   intros; first | exact KD.mk | exact KD.mkN
  ·intro tm hr
   simp [AllL, rdV] at hr
   simp [hr, outR]
   intros; first | exact KD.mk | exact KD.mkN
  ·intro tm hr
   simp [AllL, rdV] at hr
   simp [hr, outR]
   intros
   refine xcall_new en_cl_Seen (s_cl_Seen a0.seen (small_d e3)) rfl (by simp) ⟨.d _ _ _, trivial⟩ ?_
   try simp [outR]
   intros; first | exact KD.mk | exact KD.mkN
  ·intro tm hr
   simp [AllL, rdV] at hr
   simp [hr, outR]
   intros; first | exact KD.mk | exact KD.mkN
  ·intro tm hr
   simp [AllL, rdV] at hr
   simp [hr, outR]
   intros; first | exact KD.mk | exact KD.mkN
  ·intro tm hr
   simp [AllL, rdV] at hr
   simp [hr, outR]
   intros; first | exact KD.mk | exact KD.mkN
  ·intro tm hr
   simp [AllL, rdV] at hr
   simp [hr, outR]
   intros; first | exact KD.mk | exact KD.mkN
  ·intro tm hr
   simp [AllL, rdV] at hr
   simp [hr, outR]
   intros; first | exact KD.mk | exact KD.mkN
  ·intro tm hr
   simp [AllL, rdV] at hr
   simp [hr, outR]
   intros; first | exact KD.mk | exact KD.mkN
  ·intro tm hr
   simp [AllL, rdV] at hr
   simp [hr, outR]
   intros; first | exact KD.mk | exact KD.mkN
  ·intro tm hr
   simp [AllL, rdV] at hr
   simp [hr, outR]
   intros; first | exact KD.mk | exact KD.mkN
  ·intro tm hr
   simp [AllL, rdV] at hr
   simp [hr, outR]
   intros
   refine xcall_new en_cl_I (s_cl_I a0.votes (small_d e4)) rfl (by simp) ⟨.d _ _ _, trivial⟩ ?_
   try simp [outR]
   intros; first | exact KD.mk | exact KD.mkN
  ·intro tm hr
   simp [AllL, rdV] at hr
   simp [hr, outR]
   intros; first | exact KD.mk | exact KD.mkN
  ·intro tm hr
   simp [AllL, rdV] at hr
   simp [hr, outR]
   intros; first | exact KD.mk | exact KD.mkN
  ·intro tm hr
   simp [AllL, rdV] at hr
   simp [hr, outR]
   intros; first | exact KD.mk | exact KD.mkN
  ·intro tm hr
   simp [AllL, rdV] at hr
   simp [hr, outR]
   intros; first | exact KD.mk | exact KD.mkN
 ·rfl
 ·simp [tmD, putD, outR]; rfl
 ·simp [outR]
  intros; rfl
 replace h := chkE h; obtain ⟨e5, h⟩ := h
 replace h := chkE h; obtain ⟨e6, h⟩ := h
 apply AW.drawnE (V := [_, _, _, _, _, _, _, _]) (M := [[some ⟨38, 22, false, none, [.s (.int .i64 a0.count), .s (.int .i64 a0.id), .s (.int .i64 a0.master), .s (.int .i64 a0.epoch), .s (.int .i64 a0.voted), .r 2 4 0 a0.claims.length, .d false 6 (encPair a0.db), .r 3 4 0 a0.moves.length, .s (.int .i64 a0.last), .r 4 3 0 a0.seen.length, .s (.int .i64 a0.feed.rid.node), .s (.int .i64 a0.feed.rid.epoch), .s (.int .i64 a0.feed.off), .d false 7 (encEffect a0.feed.back), .s (.int .i64 a0.feed.prev.node), .s (.int .i64 a0.feed.prev.epoch), .s (.int .i64 a0.feed.upto), .d false 1 (encI a0.watch.heard), .d false 1 (encLI a0.watch.says), .s (.int .i64 a0.asked), .r 5 1 0 a0.votes.length, .s (.int .i64 a0.wait)]⟩, some ⟨38, 22, false, none, [.s (.int .i64 0), .s (.int .i64 0), .s (.int .i64 0), .s (.int .i64 0), .s (.int .i64 0), .s (.slice none 0 0), .s (.slice none 0 0), .s (.slice none 0 0), .s (.int .i64 0), .s (.slice none 0 0), .s (.int .i64 0), .s (.int .i64 0), .s (.int .i64 0), .s (.slice none 0 0), .s (.int .i64 0), .s (.int .i64 0), .s (.int .i64 0), .s (.slice none 0 0), .s (.slice none 0 0), .s (.int .i64 0), .s (.slice none 0 0), .s (.int .i64 0)]⟩, some ⟨63, 4, true, none, lvs (encClaim a0.claims)⟩, some ⟨84, 4, true, none, lvs (encMove a0.moves)⟩, some ⟨87, 3, true, none, lvs (encSeen a0.seen)⟩, some ⟨3, 1, true, none, lvs (encI a0.votes)⟩], [some ⟨38, 22, false, none, [.s (.int .i64 a0.count), .s (.int .i64 a0.id), .s (.int .i64 a0.master), .s (.int .i64 a0.epoch), .s (.int .i64 a0.voted), .r 2 4 0 a0.claims.length, .d false 6 (encPair a0.db), .r 3 4 0 a0.moves.length, .s (.int .i64 a0.last), .r 4 3 0 a0.seen.length, .s (.int .i64 a0.feed.rid.node), .s (.int .i64 a0.feed.rid.epoch), .s (.int .i64 a0.feed.off), .d false 7 (encEffect a0.feed.back), .s (.int .i64 a0.feed.prev.node), .s (.int .i64 a0.feed.prev.epoch), .s (.int .i64 a0.feed.upto), .d false 1 (encI a0.watch.heard), .d false 1 (encLI a0.watch.says), .s (.int .i64 a0.asked), .r 5 1 0 a0.votes.length, .s (.int .i64 a0.wait)]⟩, some ⟨38, 22, false, none, [.s (.int .i64 0), .s (.int .i64 0), .s (.int .i64 0), .s (.int .i64 0), .s (.int .i64 0), .s (.slice none 0 0), .s (.slice none 0 0), .s (.slice none 0 0), .s (.int .i64 0), .s (.slice none 0 0), .s (.int .i64 0), .s (.int .i64 0), .s (.int .i64 0), .s (.slice none 0 0), .s (.int .i64 0), .s (.int .i64 0), .s (.int .i64 0), .s (.slice none 0 0), .s (.slice none 0 0), .s (.int .i64 0), .s (.slice none 0 0), .s (.int .i64 0)]⟩, some ⟨63, 4, true, none, lvs (encClaim a0.claims)⟩, some ⟨84, 4, true, none, lvs (encMove a0.moves)⟩, some ⟨87, 3, true, none, lvs (encSeen a0.seen)⟩, some ⟨3, 1, true, none, lvs (encI a0.votes)⟩, some ⟨95, 6, true, none, lvs (encPair a0.db)⟩], [some ⟨38, 22, false, none, [.s (.int .i64 a0.count), .s (.int .i64 a0.id), .s (.int .i64 a0.master), .s (.int .i64 a0.epoch), .s (.int .i64 a0.voted), .r 2 4 0 a0.claims.length, .d false 6 (encPair a0.db), .r 3 4 0 a0.moves.length, .s (.int .i64 a0.last), .r 4 3 0 a0.seen.length, .s (.int .i64 a0.feed.rid.node), .s (.int .i64 a0.feed.rid.epoch), .s (.int .i64 a0.feed.off), .d false 7 (encEffect a0.feed.back), .s (.int .i64 a0.feed.prev.node), .s (.int .i64 a0.feed.prev.epoch), .s (.int .i64 a0.feed.upto), .d false 1 (encI a0.watch.heard), .d false 1 (encLI a0.watch.says), .s (.int .i64 a0.asked), .r 5 1 0 a0.votes.length, .s (.int .i64 a0.wait)]⟩, some ⟨38, 22, false, none, [.s (.int .i64 0), .s (.int .i64 0), .s (.int .i64 0), .s (.int .i64 0), .s (.int .i64 0), .s (.slice none 0 0), .s (.slice none 0 0), .s (.slice none 0 0), .s (.int .i64 0), .s (.slice none 0 0), .s (.int .i64 0), .s (.int .i64 0), .s (.int .i64 0), .s (.slice none 0 0), .s (.int .i64 0), .s (.int .i64 0), .s (.int .i64 0), .s (.slice none 0 0), .s (.slice none 0 0), .s (.int .i64 0), .s (.slice none 0 0), .s (.int .i64 0)]⟩, some ⟨63, 4, true, none, lvs (encClaim a0.claims)⟩, some ⟨84, 4, true, none, lvs (encMove a0.moves)⟩, some ⟨87, 3, true, none, lvs (encSeen a0.seen)⟩, some ⟨3, 1, true, none, lvs (encI a0.votes)⟩, some ⟨95, 6, true, none, lvs (encPair a0.db)⟩, some ⟨98, 7, true, none, lvs (encEffect a0.feed.back)⟩]]) mixed [⟨[0], [], [(1, none)], false⟩, ⟨[0], [0], [(23, some 0)], false⟩, ⟨[0], [0, 1], [(24, some 1)], true⟩, ⟨[0, 1], [], [(1, none)], false⟩, ⟨[0, 1], [3], [(26, some 3)], false⟩, ⟨[0, 1], [3, 4], [(27, some 4)], false⟩, ⟨[1], [0, 1, 2, 3, 4, 5], [(28, some 5)], true⟩, ⟨[1, 2], [0, 1, 2, 3, 4, 5], [(1, none)], false⟩, ⟨[], [0, 1, 2, 3, 4, 5, 6, 7], [], false⟩, ⟨[], [0, 1, 2, 3, 4, 5, 6, 7, 8], [], false⟩, ⟨[], [0, 1, 2, 3, 4, 5, 6, 7, 8, 9], [], false⟩, ⟨[], [0, 1, 2, 3, 4, 5, 6, 7, 8, 9, 10], [], false⟩] 8 2 (by kernel_rfl) (by kernel_rfl)
 ·rfl
 ·refine ⟨?_, ?_, ?_, ⟨?_, ?_⟩, ⟨?_, ?_⟩, ⟨?_, ?_⟩, ?_, ⟨?_, ?_⟩, trivial⟩
  ·intro tm hr
   simp [AllL, rdV] at hr
   simp [hr, outR]
   intros; first | exact KD.mk | exact KD.mkN
  ·intro tm hr
   simp [AllL, rdV] at hr
   simp [hr, outR]
   intros; first | exact KD.mk | exact KD.mkN
  ·intro tm hr
   simp [AllL, rdV] at hr
   simp [hr, outR]
   intros
   refine xcall_new en_cl_Pair (s_cl_Pair a0.db (small_d e5)) rfl (by simp) ⟨.same rfl, trivial⟩ ?_
   try simp [outR]
   intros; first | exact KD.mk | exact KD.mkN
  ·intro tm hr
   simp [AllL, rdV] at hr
   simp [hr, outR]
   intros; first | exact KD.mk | exact KD.mkN
  ·intro tm hr
   simp [AllL, rdV] at hr
   simp [hr, outR]
   intros; first | exact KD.mk | exact KD.mkN
  ·intro tm hr
   simp [AllL, rdV] at hr
   simp [hr, outR]
   intros; first | exact KD.mk | exact KD.mkN
  ·intro tm hr
   simp [AllL, rdV] at hr
   simp [hr, outR]
   intros; first | exact KD.mk | exact KD.mkN
  ·intro tm hr
   simp [AllL, rdV] at hr
   simp [hr, outR]
   intros; first | exact KD.mk | exact KD.mkN
  ·intro tm hr
   simp [AllL, rdV] at hr
   simp [hr, outR]
   intros; first | exact KD.mk | exact KD.mkN
  ·intro tm hr
   simp [AllL, rdV] at hr
   simp [hr, outR]
   intros
   refine xcall_new en_cl_Effect (s_cl_Effect a0.feed.back (small_d e6)) rfl (by simp) ⟨.same rfl, trivial⟩ ?_
   try simp [outR]
   intros; first | exact KD.mk | exact KD.mkN
  ·intro tm hr
   simp [AllL, rdV] at hr
   simp [hr, outR]
   intros; first | exact KD.mk | exact KD.mkN
  ·intro tm hr
   simp [AllL, rdV] at hr
   simp [hr, outR]
   intros; first | exact KD.mk | exact KD.mkN
 ·rfl
 ·simp [tmD, putD, outR]; rfl
 ·simp [outR]
  intros; rfl
 refine AW.seq ?_
 replace h := ltE h; obtain ⟨v7, e7, h⟩ := h
 apply AW.step
 ·simp [lenI_cast e7]
  intros; rfl
 refine AW.block ?_
 replace h := bnE h; obtain ⟨y9, g9, h⟩ := h
 refine AW.iterP g9 (mk := fun gh ls q => (⟨[(1, .l (.p 0 0)), (2, .l (.p 1 0)), (35, .l (.s (.int .i64 v7))), (36, .l (.s (.int .i64 q.1)))], [some ⟨38, 22, false, none, [.s (.int .i64 a0.count), .s (.int .i64 a0.id), .s (.int .i64 a0.master), .s (.int .i64 a0.epoch), .s (.int .i64 a0.voted), .r 2 4 0 a0.claims.length, .r 3 6 0 q.2.length, .r 4 4 0 a0.moves.length, .s (.int .i64 a0.last), .r 5 3 0 a0.seen.length, .s (.int .i64 a0.feed.rid.node), .s (.int .i64 a0.feed.rid.epoch), .s (.int .i64 a0.feed.off), .r 6 7 0 a0.feed.back.length, .s (.int .i64 a0.feed.prev.node), .s (.int .i64 a0.feed.prev.epoch), .s (.int .i64 a0.feed.upto), .d false 1 (encI a0.watch.heard), .d false 1 (encLI a0.watch.says), .s (.int .i64 a0.asked), .r 7 1 0 a0.votes.length, .s (.int .i64 a0.wait)]⟩, some ⟨38, 22, false, none, [.s (.int .i64 0), .s (.int .i64 0), .s (.int .i64 0), .s (.int .i64 0), .s (.int .i64 0), .s (.slice none 0 0), .s (.slice none 0 0), .s (.slice none 0 0), .s (.int .i64 0), .s (.slice none 0 0), .s (.int .i64 0), .s (.int .i64 0), .s (.int .i64 0), .s (.slice none 0 0), .s (.int .i64 0), .s (.int .i64 0), .s (.int .i64 0), .s (.slice none 0 0), .s (.slice none 0 0), .s (.int .i64 0), .s (.slice none 0 0), .s (.int .i64 0)]⟩, some ⟨63, 4, true, none, lvs (encClaim a0.claims)⟩, some ⟨95, 6, true, none, lvs (encPair q.2)⟩, some ⟨84, 4, true, none, lvs (encMove a0.moves)⟩, some ⟨87, 3, true, none, lvs (encSeen a0.seen)⟩, some ⟨98, 7, true, none, lvs (encEffect a0.feed.back)⟩, some ⟨3, 1, true, none, lvs (encI a0.votes)⟩], 104, gh, ls⟩ : St)) (N := fun gh ls => (xP 0 (cx := cx) (fun q => (⟨[(1, .l (.p 0 0)), (2, .l (.p 1 0))], [some ⟨38, 22, false, none, [.s (.int .i64 a0.count), .s (.int .i64 a0.id), .s (.int .i64 a0.master), .s (.int .i64 a0.epoch), .s (.int .i64 a0.voted), .r 2 4 0 a0.claims.length, .r 3 6 0 q.length, .r 4 4 0 a0.moves.length, .s (.int .i64 a0.last), .r 5 3 0 a0.seen.length, .s (.int .i64 a0.feed.rid.node), .s (.int .i64 a0.feed.rid.epoch), .s (.int .i64 a0.feed.off), .r 6 7 0 a0.feed.back.length, .s (.int .i64 a0.feed.prev.node), .s (.int .i64 a0.feed.prev.epoch), .s (.int .i64 a0.feed.upto), .d false 1 (encI a0.watch.heard), .d false 1 (encLI a0.watch.says), .s (.int .i64 a0.asked), .r 7 1 0 a0.votes.length, .s (.int .i64 a0.wait)]⟩, some ⟨38, 22, false, none, [.s (.int .i64 0), .s (.int .i64 0), .s (.int .i64 0), .s (.int .i64 0), .s (.int .i64 0), .s (.slice none 0 0), .s (.slice none 0 0), .s (.slice none 0 0), .s (.int .i64 0), .s (.slice none 0 0), .s (.int .i64 0), .s (.int .i64 0), .s (.int .i64 0), .s (.slice none 0 0), .s (.int .i64 0), .s (.int .i64 0), .s (.int .i64 0), .s (.slice none 0 0), .s (.slice none 0 0), .s (.int .i64 0), .s (.slice none 0 0), .s (.int .i64 0)]⟩, some ⟨63, 4, true, none, lvs (encClaim a0.claims)⟩, some ⟨95, 6, true, none, lvs (encPair q)⟩, some ⟨84, 4, true, none, lvs (encMove a0.moves)⟩, some ⟨87, 3, true, none, lvs (encSeen a0.seen)⟩, some ⟨98, 7, true, none, lvs (encEffect a0.feed.back)⟩, some ⟨3, 1, true, none, lvs (encI a0.votes)⟩], 104, gh, ls⟩ : St)))) ?_ noX ?_ ?_
 ·refine Weak.mixN [some 0, some 1, some 2, some 6, some 3, some 4, some 7, some 5] hn0 (by decide) ?_ ?_ rfl
  all_goals first | (simp [inv_cons, inv_nil, pickOb]; done) | rfl
 ·clear h; intro y8 y10 h
  replace h := ltE h; obtain ⟨v11, e11, h⟩ := h
  apply AW.step
  ·simp [← e11]
   intros; rfl
  refine AW.seq ?_
  cases v11 with
  | true =>
   replace h := iteT rfl h
   refine AW.cond_true (by simp) ?_
   refine AW.skip ?_
   try simp only [sp_l, sp_r, Post.seq, Post.block, Nat.reduceEqDiff, reduceIte, Nat.zero_ne_one, Nat.one_ne_zero]
   try simp only [sp_l, sp_r, Post.seq, Post.block, Nat.reduceEqDiff, reduceIte, Nat.zero_ne_one, Nat.one_ne_zero]
   refine AW.seq ?_
   refine AW.block ?_
   apply AW.step
   ·simp
    intros; rfl
   replace h := bnE h; obtain ⟨v12, e12, h⟩ := h
   have f13 := nth_lt e12
   try simp [nth_d e12] at f13
   replace h := bnE h; obtain ⟨v14, e14, h⟩ := h
   have f15 := nth_lt e12
   try simp [nth_d e12, f13, encPair_seg (nth_d e12).2 (j := 1) (k := 5) (by decide), encPair_fitj (nth_d e12).2 (j := 1) (m := 5) (by decide), lvs1] at f15
   replace h := ltE h; obtain ⟨v16, e16, h⟩ := h
   have f17 := encPair_put (nth_d e12).2 e16 (j := 1) (cs := [.s (.int .i64 v14.kind), .s (.string v14.s), .d false 2 (encField v14.f), .d false 1 (encS v14.l), .s (.int .i64 v14.exp)]) (by simp) rfl
   try simp at f17
   have f18 := f13
   try simp only [set_len e16] at f18
   have f19 := f15
   try simp only [set_len e16] at f19
   apply AW.drawnR (V := [_, _, _, _, _, _, _, _, _, _]) mixed [⟨[0], [], [(1, none)], false⟩, ⟨[0], [0], [(39, some 0)], false⟩, ⟨[0], [], [(3, none)], false⟩, ⟨[0], [], [(1, none)], false⟩, ⟨[0], [3], [(42, some 3)], false⟩, ⟨[0], [], [(3, none)], false⟩, ⟨[0], [3, 4, 5], [(43, some 4), (44, some 5)], false⟩, ⟨[0], [3, 4, 5, 6], [(45, some 6)], false⟩, ⟨[0], [3, 4, 5, 6, 7], [(46, some 7)], false⟩, ⟨[0], [3, 4, 5, 6, 7, 8], [(47, some 8)], false⟩, ⟨[], [0, 1, 2, 3, 4, 5, 6, 7, 8, 9], [], false⟩, ⟨[], [0, 1, 2, 3, 4, 5, 6, 7, 8, 9, 10], [], false⟩, ⟨[], [0, 1, 2, 3, 4, 5, 6, 7, 8, 9, 10, 11], [], false⟩] 10 (by kernel_rfl) (by kernel_rfl)
   ·refine ⟨?_, ?_, ?_, ?_, ?_, ?_, ?_, ?_, ?_, ?_, trivial⟩
    ·intro tm hr
     simp [AllL, rdV] at hr
     simp [hr, nth_d e12, f13, encPair_seg (nth_d e12).2 (j := 1) (k := 5) (by decide), encPair_fitj (nth_d e12).2 (j := 1) (m := 5) (by decide), lvs1, f15, f17, f18, f19]
     intros; first | exact KD.mk | exact KD.mkN
    ·intro tm hr
     simp [AllL, rdV] at hr
     simp [hr, nth_d e12, f13, encPair_seg (nth_d e12).2 (j := 1) (k := 5) (by decide), encPair_fitj (nth_d e12).2 (j := 1) (m := 5) (by decide), lvs1, f15, f17, f18, f19]
     intros; first | exact KD.mk | exact KD.mkN
    ·intro tm hr
     simp [AllL, rdV] at hr
     simp [hr, nth_d e12, f13, encPair_seg (nth_d e12).2 (j := 1) (k := 5) (by decide), encPair_fitj (nth_d e12).2 (j := 1) (m := 5) (by decide), lvs1, f15, f17, f18, f19]
     intros; first | exact KD.mk | exact KD.mkN
    ·intro tm hr
     simp [AllL, rdV] at hr
     simp [hr, nth_d e12, f13, encPair_seg (nth_d e12).2 (j := 1) (k := 5) (by decide), encPair_fitj (nth_d e12).2 (j := 1) (m := 5) (by decide), lvs1, f15, f17, f18, f19]
     intros; first | exact KD.mk | exact KD.mkN
    ·intro tm hr
     simp [AllL, rdV] at hr
     simp [hr, nth_d e12, f13, encPair_seg (nth_d e12).2 (j := 1) (k := 5) (by decide), encPair_fitj (nth_d e12).2 (j := 1) (m := 5) (by decide), lvs1, f15, f17, f18, f19]
     intros; first | exact KD.mk | exact KD.mkN
    ·intro tm hr
     simp [AllL, rdV] at hr
     simp [hr, nth_d e12, f13, encPair_seg (nth_d e12).2 (j := 1) (k := 5) (by decide), encPair_fitj (nth_d e12).2 (j := 1) (m := 5) (by decide), lvs1, f15, f17, f18, f19]
     intros; first | exact KD.mk | exact KD.mkN
    ·intro tm hr
     simp [AllL, rdV] at hr
     simp [hr, nth_d e12, f13, encPair_seg (nth_d e12).2 (j := 1) (k := 5) (by decide), encPair_fitj (nth_d e12).2 (j := 1) (m := 5) (by decide), lvs1, f15, f17, f18, f19]
     intros; first | exact KD.mk | exact KD.mkN
    ·intro tm hr
     simp [AllL, rdV] at hr
     simp [hr, nth_d e12, f13, encPair_seg (nth_d e12).2 (j := 1) (k := 5) (by decide), encPair_fitj (nth_d e12).2 (j := 1) (m := 5) (by decide), lvs1, f15, f17, f18, f19]
     intros; first | exact KD.mk | exact KD.mkN
    ·intro tm hr
     simp [AllL, rdV] at hr
     simp [hr, nth_d e12, f13, encPair_seg (nth_d e12).2 (j := 1) (k := 5) (by decide), encPair_fitj (nth_d e12).2 (j := 1) (m := 5) (by decide), lvs1, f15, f17, f18, f19]
     intros; first | exact KD.mk | exact KD.mkN
    ·intro tm hr
     simp [AllL, rdV] at hr
     simp [hr, nth_d e12, f13, encPair_seg (nth_d e12).2 (j := 1) (k := 5) (by decide), encPair_fitj (nth_d e12).2 (j := 1) (m := 5) (by decide), lvs1, f15, f17, f18, f19]
     intros
     refine xcall_plain en_claims_own (s_claims_own e14) rfl ⟨.same rfl, trivial⟩ ?_
     try simp [nth_d e12, f13, encPair_seg (nth_d e12).2 (j := 1) (k := 5) (by decide), encPair_fitj (nth_d e12).2 (j := 1) (m := 5) (by decide), lvs1, f15, f17, f18, f19]
     intros; first | exact KD.mk | exact KD.mkN
   ·rfl
   ·simp [tmD, putD, nth_d e12, f13, encPair_seg (nth_d e12).2 (j := 1) (k := 5) (by decide), encPair_fitj (nth_d e12).2 (j := 1) (m := 5) (by decide), lvs1, f15, f17, f18, f19]; rfl
   ·simp [nth_d e12, f13, encPair_seg (nth_d e12).2 (j := 1) (k := 5) (by decide), encPair_fitj (nth_d e12).2 (j := 1) (m := 5) (by decide), lvs1, f15, f17, f18, f19]
    intros; rfl
   try simp only [sp_l, sp_r, Post.seq, Post.block, Nat.reduceEqDiff, reduceIte, Nat.zero_ne_one, Nat.one_ne_zero]
   replace h := ltE h; obtain ⟨v20, e20, h⟩ := h
   apply AW.last
   ·simp [← e20]
    intros; rfl
   obtain rfl := Option.some.inj h
   refine nP_i ?_
   refine Weak.mixN [some 0, some 1, some 2, some 3, some 4, some 5, some 6, some 7] hn0 (by decide) ?_ ?_ rfl
   all_goals first | (simp [inv_cons, inv_nil, pickOb, set_len e16]; done) | rfl
  | false =>
   replace h := iteF rfl h
   refine AW.cond_false (by simp) ?_
   refine AW.exit ?_
   try simp only [sp_l, sp_r, Post.seq, Post.block, Nat.reduceEqDiff, reduceIte, Nat.zero_ne_one, Nat.one_ne_zero]
   obtain rfl := Option.some.inj h
   refine xP_i ?_
   refine Weak.mixN [some 0, some 1, some 2, some 3, some 4, some 5, some 6, some 7] hn0 (by decide) ?_ ?_ rfl
   all_goals first | (simp [inv_cons, inv_nil, pickOb]; done) | rfl
 ·rintro e s hp
  obtain ⟨rfl, hw⟩ := hp
  refine ⟨_, hw, ?_⟩
  try simp only [sp_l, sp_r, Post.seq, Post.block, Nat.reduceEqDiff, reduceIte, Nat.zero_ne_one, Nat.one_ne_zero]
  refine AW.seq ?_
  replace h := ltE h; obtain ⟨v21, e21, h⟩ := h
  apply AW.step
  ·simp [lenI_cast e21]
   intros; rfl
  refine AW.block ?_
  replace h := bnE h; obtain ⟨y23, g23, h⟩ := h
  refine AW.iterP g23 (mk := fun gh ls q => (⟨[(1, .l (.p 0 0)), (2, .l (.p 1 0)), (55, .l (.s (.int .i64 v21))), (56, .l (.s (.int .i64 q.1)))], [some ⟨38, 22, false, none, [.s (.int .i64 a0.count), .s (.int .i64 a0.id), .s (.int .i64 a0.master), .s (.int .i64 a0.epoch), .s (.int .i64 a0.voted), .r 2 4 0 a0.claims.length, .r 3 6 0 y9.length, .r 4 4 0 a0.moves.length, .s (.int .i64 a0.last), .r 5 3 0 a0.seen.length, .s (.int .i64 a0.feed.rid.node), .s (.int .i64 a0.feed.rid.epoch), .s (.int .i64 a0.feed.off), .r 6 7 0 q.2.length, .s (.int .i64 a0.feed.prev.node), .s (.int .i64 a0.feed.prev.epoch), .s (.int .i64 a0.feed.upto), .d false 1 (encI a0.watch.heard), .d false 1 (encLI a0.watch.says), .s (.int .i64 a0.asked), .r 7 1 0 a0.votes.length, .s (.int .i64 a0.wait)]⟩, some ⟨38, 22, false, none, [.s (.int .i64 0), .s (.int .i64 0), .s (.int .i64 0), .s (.int .i64 0), .s (.int .i64 0), .s (.slice none 0 0), .s (.slice none 0 0), .s (.slice none 0 0), .s (.int .i64 0), .s (.slice none 0 0), .s (.int .i64 0), .s (.int .i64 0), .s (.int .i64 0), .s (.slice none 0 0), .s (.int .i64 0), .s (.int .i64 0), .s (.int .i64 0), .s (.slice none 0 0), .s (.slice none 0 0), .s (.int .i64 0), .s (.slice none 0 0), .s (.int .i64 0)]⟩, some ⟨63, 4, true, none, lvs (encClaim a0.claims)⟩, some ⟨95, 6, true, none, lvs (encPair y9)⟩, some ⟨84, 4, true, none, lvs (encMove a0.moves)⟩, some ⟨87, 3, true, none, lvs (encSeen a0.seen)⟩, some ⟨98, 7, true, none, lvs (encEffect q.2)⟩, some ⟨3, 1, true, none, lvs (encI a0.votes)⟩], 104, gh, ls⟩ : St)) (N := fun gh ls => (xP 2 (cx := cx) (fun q => (⟨[(1, .l (.p 0 0)), (2, .l (.p 1 0))], [some ⟨38, 22, false, none, [.s (.int .i64 a0.count), .s (.int .i64 a0.id), .s (.int .i64 a0.master), .s (.int .i64 a0.epoch), .s (.int .i64 a0.voted), .r 2 4 0 a0.claims.length, .r 3 6 0 y9.length, .r 4 4 0 a0.moves.length, .s (.int .i64 a0.last), .r 5 3 0 a0.seen.length, .s (.int .i64 a0.feed.rid.node), .s (.int .i64 a0.feed.rid.epoch), .s (.int .i64 a0.feed.off), .r 6 7 0 q.length, .s (.int .i64 a0.feed.prev.node), .s (.int .i64 a0.feed.prev.epoch), .s (.int .i64 a0.feed.upto), .d false 1 (encI a0.watch.heard), .d false 1 (encLI a0.watch.says), .s (.int .i64 a0.asked), .r 7 1 0 a0.votes.length, .s (.int .i64 a0.wait)]⟩, some ⟨38, 22, false, none, [.s (.int .i64 0), .s (.int .i64 0), .s (.int .i64 0), .s (.int .i64 0), .s (.int .i64 0), .s (.slice none 0 0), .s (.slice none 0 0), .s (.slice none 0 0), .s (.int .i64 0), .s (.slice none 0 0), .s (.int .i64 0), .s (.int .i64 0), .s (.int .i64 0), .s (.slice none 0 0), .s (.int .i64 0), .s (.int .i64 0), .s (.int .i64 0), .s (.slice none 0 0), .s (.slice none 0 0), .s (.int .i64 0), .s (.slice none 0 0), .s (.int .i64 0)]⟩, some ⟨63, 4, true, none, lvs (encClaim a0.claims)⟩, some ⟨95, 6, true, none, lvs (encPair y9)⟩, some ⟨84, 4, true, none, lvs (encMove a0.moves)⟩, some ⟨87, 3, true, none, lvs (encSeen a0.seen)⟩, some ⟨98, 7, true, none, lvs (encEffect q)⟩, some ⟨3, 1, true, none, lvs (encI a0.votes)⟩], 104, gh, ls⟩ : St)))) ?_ noX ?_ ?_
  ·refine Weak.mixN [some 0, some 1, some 2, some 3, some 4, some 5, some 6, some 7] hn0 (by decide) ?_ ?_ rfl
   all_goals first | (simp [inv_cons, inv_nil, pickOb]; done) | rfl
  ·clear h; intro y22 y24 h
   replace h := ltE h; obtain ⟨v25, e25, h⟩ := h
   apply AW.step
   ·simp [← e25]
    intros; rfl
   refine AW.seq ?_
   cases v25 with
   | true =>
    replace h := iteT rfl h
    refine AW.cond_true (by simp) ?_
    refine AW.skip ?_
    try simp only [sp_l, sp_r, Post.seq, Post.block, Nat.reduceEqDiff, reduceIte, Nat.zero_ne_one, Nat.one_ne_zero]
    try simp only [sp_l, sp_r, Post.seq, Post.block, Nat.reduceEqDiff, reduceIte, Nat.zero_ne_one, Nat.one_ne_zero]
    refine AW.seq ?_
    refine AW.block ?_
    apply AW.step
    ·simp
     intros; rfl
    replace h := bnE h; obtain ⟨v26, e26, h⟩ := h
    have f27 := nth_lt e26
    try simp [nth_d e26] at f27
    replace h := bnE h; obtain ⟨v28, e28, h⟩ := h
    have f29 := nth_lt e26
    try simp [nth_d e26, f27, encEffect_seg (nth_d e26).2 (j := 2) (k := 5) (by decide), encEffect_fitj (nth_d e26).2 (j := 2) (m := 5) (by decide), lvs1] at f29
    replace h := ltE h; obtain ⟨v30, e30, h⟩ := h
    have f31 := encEffect_put (nth_d e26).2 e30 (j := 2) (cs := [.s (.int .i64 v28.kind), .s (.string v28.s), .d false 2 (encField v28.f), .d false 1 (encS v28.l), .s (.int .i64 v28.exp)]) (by simp) rfl
    try simp at f31
    have f32 := f27
    try simp only [set_len e30] at f32
    have f33 := f29
    try simp only [set_len e30] at f33
    apply AW.drawnR (V := [_, _, _, _, _, _, _, _, _, _, _, _]) mixed [⟨[0], [], [(1, none)], false⟩, ⟨[0], [0], [(59, some 0)], false⟩, ⟨[0], [0, 1], [(60, some 1)], false⟩, ⟨[0], [], [(4, none)], false⟩, ⟨[0], [], [(1, none)], false⟩, ⟨[0], [4], [(63, some 4)], false⟩, ⟨[0], [4, 5], [(64, some 5)], false⟩, ⟨[0], [], [(4, none)], false⟩, ⟨[0], [4, 5, 6, 7], [(65, some 6), (66, some 7)], false⟩, ⟨[0], [4, 5, 6, 7, 8], [(67, some 8)], false⟩, ⟨[0], [4, 5, 6, 7, 8, 9], [(68, some 9)], false⟩, ⟨[0], [4, 5, 6, 7, 8, 9, 10], [(69, some 10)], false⟩, ⟨[], [0, 1, 2, 3, 4, 5, 6, 7, 8, 9, 10, 11], [], false⟩, ⟨[], [0, 1, 2, 3, 4, 5, 6, 7, 8, 9, 10, 11, 12], [], false⟩, ⟨[], [0, 1, 2, 3, 4, 5, 6, 7, 8, 9, 10, 11, 12, 13], [], false⟩] 12 (by kernel_rfl) (by kernel_rfl)
    ·refine ⟨?_, ?_, ?_, ?_, ?_, ?_, ?_, ?_, ?_, ?_, ?_, ?_, trivial⟩
     ·intro tm hr
      simp [AllL, rdV] at hr
      simp [hr, nth_d e26, f27, encEffect_seg (nth_d e26).2 (j := 2) (k := 5) (by decide), encEffect_fitj (nth_d e26).2 (j := 2) (m := 5) (by decide), lvs1, f29, f31, f32, f33]
      intros; first | exact KD.mk | exact KD.mkN
     ·intro tm hr
      simp [AllL, rdV] at hr
      simp [hr, nth_d e26, f27, encEffect_seg (nth_d e26).2 (j := 2) (k := 5) (by decide), encEffect_fitj (nth_d e26).2 (j := 2) (m := 5) (by decide), lvs1, f29, f31, f32, f33]
      intros; first | exact KD.mk | exact KD.mkN
     ·intro tm hr
      simp [AllL, rdV] at hr
      simp [hr, nth_d e26, f27, encEffect_seg (nth_d e26).2 (j := 2) (k := 5) (by decide), encEffect_fitj (nth_d e26).2 (j := 2) (m := 5) (by decide), lvs1, f29, f31, f32, f33]
      intros; first | exact KD.mk | exact KD.mkN
     ·intro tm hr
      simp [AllL, rdV] at hr
      simp [hr, nth_d e26, f27, encEffect_seg (nth_d e26).2 (j := 2) (k := 5) (by decide), encEffect_fitj (nth_d e26).2 (j := 2) (m := 5) (by decide), lvs1, f29, f31, f32, f33]
      intros; first | exact KD.mk | exact KD.mkN
     ·intro tm hr
      simp [AllL, rdV] at hr
      simp [hr, nth_d e26, f27, encEffect_seg (nth_d e26).2 (j := 2) (k := 5) (by decide), encEffect_fitj (nth_d e26).2 (j := 2) (m := 5) (by decide), lvs1, f29, f31, f32, f33]
      intros; first | exact KD.mk | exact KD.mkN
     ·intro tm hr
      simp [AllL, rdV] at hr
      simp [hr, nth_d e26, f27, encEffect_seg (nth_d e26).2 (j := 2) (k := 5) (by decide), encEffect_fitj (nth_d e26).2 (j := 2) (m := 5) (by decide), lvs1, f29, f31, f32, f33]
      intros; first | exact KD.mk | exact KD.mkN
     ·intro tm hr
      simp [AllL, rdV] at hr
      simp [hr, nth_d e26, f27, encEffect_seg (nth_d e26).2 (j := 2) (k := 5) (by decide), encEffect_fitj (nth_d e26).2 (j := 2) (m := 5) (by decide), lvs1, f29, f31, f32, f33]
      intros; first | exact KD.mk | exact KD.mkN
     ·intro tm hr
      simp [AllL, rdV] at hr
      simp [hr, nth_d e26, f27, encEffect_seg (nth_d e26).2 (j := 2) (k := 5) (by decide), encEffect_fitj (nth_d e26).2 (j := 2) (m := 5) (by decide), lvs1, f29, f31, f32, f33]
      intros; first | exact KD.mk | exact KD.mkN
     ·intro tm hr
      simp [AllL, rdV] at hr
      simp [hr, nth_d e26, f27, encEffect_seg (nth_d e26).2 (j := 2) (k := 5) (by decide), encEffect_fitj (nth_d e26).2 (j := 2) (m := 5) (by decide), lvs1, f29, f31, f32, f33]
      intros; first | exact KD.mk | exact KD.mkN
     ·intro tm hr
      simp [AllL, rdV] at hr
      simp [hr, nth_d e26, f27, encEffect_seg (nth_d e26).2 (j := 2) (k := 5) (by decide), encEffect_fitj (nth_d e26).2 (j := 2) (m := 5) (by decide), lvs1, f29, f31, f32, f33]
      intros; first | exact KD.mk | exact KD.mkN
     ·intro tm hr
      simp [AllL, rdV] at hr
      simp [hr, nth_d e26, f27, encEffect_seg (nth_d e26).2 (j := 2) (k := 5) (by decide), encEffect_fitj (nth_d e26).2 (j := 2) (m := 5) (by decide), lvs1, f29, f31, f32, f33]
      intros; first | exact KD.mk | exact KD.mkN
     ·intro tm hr
      simp [AllL, rdV] at hr
      simp [hr, nth_d e26, f27, encEffect_seg (nth_d e26).2 (j := 2) (k := 5) (by decide), encEffect_fitj (nth_d e26).2 (j := 2) (m := 5) (by decide), lvs1, f29, f31, f32, f33]
      intros
      refine xcall_plain en_claims_own (s_claims_own e28) rfl ⟨.same rfl, trivial⟩ ?_
      try simp [nth_d e26, f27, encEffect_seg (nth_d e26).2 (j := 2) (k := 5) (by decide), encEffect_fitj (nth_d e26).2 (j := 2) (m := 5) (by decide), lvs1, f29, f31, f32, f33]
      intros; first | exact KD.mk | exact KD.mkN
    ·rfl
    ·simp [tmD, putD, nth_d e26, f27, encEffect_seg (nth_d e26).2 (j := 2) (k := 5) (by decide), encEffect_fitj (nth_d e26).2 (j := 2) (m := 5) (by decide), lvs1, f29, f31, f32, f33]; rfl
    ·simp [nth_d e26, f27, encEffect_seg (nth_d e26).2 (j := 2) (k := 5) (by decide), encEffect_fitj (nth_d e26).2 (j := 2) (m := 5) (by decide), lvs1, f29, f31, f32, f33]
     intros; rfl
    try simp only [sp_l, sp_r, Post.seq, Post.block, Nat.reduceEqDiff, reduceIte, Nat.zero_ne_one, Nat.one_ne_zero]
    replace h := ltE h; obtain ⟨v34, e34, h⟩ := h
    apply AW.last
    ·simp [← e34]
     intros; rfl
    obtain rfl := Option.some.inj h
    refine nP_i ?_
    refine Weak.mixN [some 0, some 1, some 2, some 3, some 4, some 5, some 6, some 7] hn0 (by decide) ?_ ?_ rfl
    all_goals first | (simp [inv_cons, inv_nil, pickOb, set_len e30]; done) | rfl
   | false =>
    replace h := iteF rfl h
    refine AW.cond_false (by simp) ?_
    refine AW.exit ?_
    try simp only [sp_l, sp_r, Post.seq, Post.block, Nat.reduceEqDiff, reduceIte, Nat.zero_ne_one, Nat.one_ne_zero]
    obtain rfl := Option.some.inj h
    refine xP_i ?_
    refine Weak.mixN [some 0, some 1, some 2, some 3, some 4, some 5, some 6, some 7] hn0 (by decide) ?_ ?_ rfl
    all_goals first | (simp [inv_cons, inv_nil, pickOb]; done) | rfl
  ·rintro e s hp
   obtain ⟨rfl, hw⟩ := hp
   refine ⟨_, hw, ?_⟩
   try simp only [sp_l, sp_r, Post.seq, Post.block, Nat.reduceEqDiff, reduceIte, Nat.zero_ne_one, Nat.one_ne_zero]
   replace h := chkE h; obtain ⟨e35, h⟩ := h
   replace h := chkE h; obtain ⟨e36, h⟩ := h
   apply AW.drawnE (V := [_, _, _, _, _, _, _, _, _, _]) (M := [[some ⟨38, 22, false, none, [.s (.int .i64 a0.count), .s (.int .i64 a0.id), .s (.int .i64 a0.master), .s (.int .i64 a0.epoch), .s (.int .i64 a0.voted), .r 2 4 0 a0.claims.length, .r 3 6 0 y9.length, .r 4 4 0 a0.moves.length, .s (.int .i64 a0.last), .r 5 3 0 a0.seen.length, .s (.int .i64 a0.feed.rid.node), .s (.int .i64 a0.feed.rid.epoch), .s (.int .i64 a0.feed.off), .r 6 7 0 y23.length, .s (.int .i64 a0.feed.prev.node), .s (.int .i64 a0.feed.prev.epoch), .s (.int .i64 a0.feed.upto), .d false 1 (encI a0.watch.heard), .d false 1 (encLI a0.watch.says), .s (.int .i64 a0.asked), .r 7 1 0 a0.votes.length, .s (.int .i64 a0.wait)]⟩, some ⟨38, 22, false, none, [.s (.int .i64 0), .s (.int .i64 0), .s (.int .i64 0), .s (.int .i64 0), .s (.int .i64 0), .s (.slice none 0 0), .s (.slice none 0 0), .s (.slice none 0 0), .s (.int .i64 0), .s (.slice none 0 0), .s (.int .i64 0), .s (.int .i64 0), .s (.int .i64 0), .s (.slice none 0 0), .s (.int .i64 0), .s (.int .i64 0), .s (.int .i64 0), .s (.slice none 0 0), .s (.slice none 0 0), .s (.int .i64 0), .s (.slice none 0 0), .s (.int .i64 0)]⟩, some ⟨63, 4, true, none, lvs (encClaim a0.claims)⟩, some ⟨95, 6, true, none, lvs (encPair y9)⟩, some ⟨84, 4, true, none, lvs (encMove a0.moves)⟩, some ⟨87, 3, true, none, lvs (encSeen a0.seen)⟩, some ⟨98, 7, true, none, lvs (encEffect y23)⟩, some ⟨3, 1, true, none, lvs (encI a0.votes)⟩], [some ⟨38, 22, false, none, [.s (.int .i64 a0.count), .s (.int .i64 a0.id), .s (.int .i64 a0.master), .s (.int .i64 a0.epoch), .s (.int .i64 a0.voted), .r 2 4 0 a0.claims.length, .r 3 6 0 y9.length, .r 4 4 0 a0.moves.length, .s (.int .i64 a0.last), .r 5 3 0 a0.seen.length, .s (.int .i64 a0.feed.rid.node), .s (.int .i64 a0.feed.rid.epoch), .s (.int .i64 a0.feed.off), .r 6 7 0 y23.length, .s (.int .i64 a0.feed.prev.node), .s (.int .i64 a0.feed.prev.epoch), .s (.int .i64 a0.feed.upto), .d false 1 (encI a0.watch.heard), .d false 1 (encLI a0.watch.says), .s (.int .i64 a0.asked), .r 7 1 0 a0.votes.length, .s (.int .i64 a0.wait)]⟩, some ⟨38, 22, false, none, [.s (.int .i64 0), .s (.int .i64 0), .s (.int .i64 0), .s (.int .i64 0), .s (.int .i64 0), .s (.slice none 0 0), .s (.slice none 0 0), .s (.slice none 0 0), .s (.int .i64 0), .s (.slice none 0 0), .s (.int .i64 0), .s (.int .i64 0), .s (.int .i64 0), .s (.slice none 0 0), .s (.int .i64 0), .s (.int .i64 0), .s (.int .i64 0), .s (.slice none 0 0), .s (.slice none 0 0), .s (.int .i64 0), .s (.slice none 0 0), .s (.int .i64 0)]⟩, some ⟨63, 4, true, none, lvs (encClaim a0.claims)⟩, some ⟨95, 6, true, none, lvs (encPair y9)⟩, some ⟨84, 4, true, none, lvs (encMove a0.moves)⟩, some ⟨87, 3, true, none, lvs (encSeen a0.seen)⟩, some ⟨98, 7, true, none, lvs (encEffect y23)⟩, some ⟨3, 1, true, none, lvs (encI a0.votes)⟩, some ⟨3, 1, true, none, lvs (encI a0.watch.heard)⟩], [some ⟨38, 22, false, none, [.s (.int .i64 a0.count), .s (.int .i64 a0.id), .s (.int .i64 a0.master), .s (.int .i64 a0.epoch), .s (.int .i64 a0.voted), .r 2 4 0 a0.claims.length, .r 3 6 0 y9.length, .r 4 4 0 a0.moves.length, .s (.int .i64 a0.last), .r 5 3 0 a0.seen.length, .s (.int .i64 a0.feed.rid.node), .s (.int .i64 a0.feed.rid.epoch), .s (.int .i64 a0.feed.off), .r 6 7 0 y23.length, .s (.int .i64 a0.feed.prev.node), .s (.int .i64 a0.feed.prev.epoch), .s (.int .i64 a0.feed.upto), .d false 1 (encI a0.watch.heard), .d false 1 (encLI a0.watch.says), .s (.int .i64 a0.asked), .r 7 1 0 a0.votes.length, .s (.int .i64 a0.wait)]⟩, some ⟨38, 22, false, none, [.s (.int .i64 0), .s (.int .i64 0), .s (.int .i64 0), .s (.int .i64 0), .s (.int .i64 0), .s (.slice none 0 0), .s (.slice none 0 0), .s (.slice none 0 0), .s (.int .i64 0), .s (.slice none 0 0), .s (.int .i64 0), .s (.int .i64 0), .s (.int .i64 0), .s (.slice none 0 0), .s (.int .i64 0), .s (.int .i64 0), .s (.int .i64 0), .s (.slice none 0 0), .s (.slice none 0 0), .s (.int .i64 0), .s (.slice none 0 0), .s (.int .i64 0)]⟩, some ⟨63, 4, true, none, lvs (encClaim a0.claims)⟩, some ⟨95, 6, true, none, lvs (encPair y9)⟩, some ⟨84, 4, true, none, lvs (encMove a0.moves)⟩, some ⟨87, 3, true, none, lvs (encSeen a0.seen)⟩, some ⟨98, 7, true, none, lvs (encEffect y23)⟩, some ⟨3, 1, true, none, lvs (encI a0.votes)⟩, some ⟨3, 1, true, none, lvs (encI a0.watch.heard)⟩, some ⟨33, 1, true, none, lvs (encLI a0.watch.says)⟩]]) mixed [⟨[0], [], [(1, none)], false⟩, ⟨[0], [0], [(74, some 0)], false⟩, ⟨[0], [0, 1], [(75, some 1)], false⟩, ⟨[0], [0, 1, 2], [(76, some 2)], true⟩, ⟨[0, 1], [], [(1, none)], false⟩, ⟨[0, 1], [4], [(78, some 4)], false⟩, ⟨[0, 1], [4, 5], [(79, some 5)], false⟩, ⟨[1], [0, 1, 2, 3, 4, 5, 6], [(80, some 6)], true⟩, ⟨[1, 2], [0, 1, 2, 3, 4, 5, 6], [(1, none)], false⟩, ⟨[1, 2], [0, 1, 2, 3, 4, 5, 6, 8], [(82, some 8)], false⟩, ⟨[], [0, 1, 2, 3, 4, 5, 6, 7, 8, 9], [], false⟩, ⟨[], [0, 1, 2, 3, 4, 5, 6, 7, 8, 9, 10], [], false⟩, ⟨[], [0, 1, 2, 3, 4, 5, 6, 7, 8, 9, 10, 11], [], false⟩, ⟨[], [0, 1, 2, 3, 4, 5, 6, 7, 8, 9, 10, 11, 12], [], false⟩] 10 2 (by kernel_rfl) (by kernel_rfl)
   ·rfl
   ·refine ⟨?_, ?_, ?_, ?_, ⟨?_, ?_⟩, ⟨?_, ?_⟩, ⟨?_, ?_⟩, ?_, ⟨?_, ?_⟩, ⟨?_, ?_⟩, trivial⟩
    ·intro tm hr
     simp [AllL, rdV] at hr
     simp [hr, outR]
     intros; first | exact KD.mk | exact KD.mkN
    ·intro tm hr
     simp [AllL, rdV] at hr
     simp [hr, outR]
     intros; first | exact KD.mk | exact KD.mkN
    ·intro tm hr
     simp [AllL, rdV] at hr
     simp [hr, outR]
     intros; first | exact KD.mk | exact KD.mkN
    ·intro tm hr
     simp [AllL, rdV] at hr
     simp [hr, outR]
     intros
     refine xcall_new en_cl_I (s_cl_I a0.watch.heard (small_d e35)) rfl (by simp) ⟨.d _ _ _, trivial⟩ ?_
     try simp [outR]
     intros; first | exact KD.mk | exact KD.mkN
    ·intro tm hr
     simp [AllL, rdV] at hr
     simp [hr, outR]
     intros; first | exact KD.mk | exact KD.mkN
    ·intro tm hr
     simp [AllL, rdV] at hr
     simp [hr, outR]
     intros; first | exact KD.mk | exact KD.mkN
    ·intro tm hr
     simp [AllL, rdV] at hr
     simp [hr, outR]
     intros; first | exact KD.mk | exact KD.mkN
    ·intro tm hr
     simp [AllL, rdV] at hr
     simp [hr, outR]
     intros; first | exact KD.mk | exact KD.mkN
    ·intro tm hr
     simp [AllL, rdV] at hr
     simp [hr, outR]
     intros; first | exact KD.mk | exact KD.mkN
    ·intro tm hr
     simp [AllL, rdV] at hr
     simp [hr, outR]
     intros; first | exact KD.mk | exact KD.mkN
    ·intro tm hr
     simp [AllL, rdV] at hr
     simp [hr, outR]
     intros
     refine xcall_new en_cl_LI (s_cl_LI a0.watch.says (small_d e36)) rfl (by simp) ⟨.same rfl, trivial⟩ ?_
     try simp [outR]
     intros; first | exact KD.mk | exact KD.mkN
    ·intro tm hr
     simp [AllL, rdV] at hr
     simp [hr, outR]
     intros; first | exact KD.mk | exact KD.mkN
    ·intro tm hr
     simp [AllL, rdV] at hr
     simp [hr, outR]
     intros; first | exact KD.mk | exact KD.mkN
    ·intro tm hr
     simp [AllL, rdV] at hr
     simp [hr, outR]
     intros; first | exact KD.mk | exact KD.mkN
    ·intro tm hr
     simp [AllL, rdV] at hr
     simp [hr, outR]
     intros; first | exact KD.mk | exact KD.mkN
   ·rfl
   ·simp [tmD, putD, outR]; rfl
   ·simp [outR]
    intros; rfl
   refine AW.seq ?_
   replace h := ltE h; obtain ⟨v37, e37, h⟩ := h
   apply AW.step
   ·simp [lenI_cast e37]
    intros; rfl
   refine AW.block ?_
   replace h := bnE h; obtain ⟨y39, g39, h⟩ := h
   refine AW.iterP g39 (mk := fun gh ls q => (⟨[(1, .l (.p 0 0)), (2, .l (.p 1 0)), (88, .l (.r 2 1 0 q.2.length)), (89, .l (.s (.int .i64 v37))), (90, .l (.s (.int .i64 q.1)))], [some ⟨38, 22, false, none, [.s (.int .i64 a0.count), .s (.int .i64 a0.id), .s (.int .i64 a0.master), .s (.int .i64 a0.epoch), .s (.int .i64 a0.voted), .r 3 4 0 a0.claims.length, .r 4 6 0 y9.length, .r 5 4 0 a0.moves.length, .s (.int .i64 a0.last), .r 6 3 0 a0.seen.length, .s (.int .i64 a0.feed.rid.node), .s (.int .i64 a0.feed.rid.epoch), .s (.int .i64 a0.feed.off), .r 7 7 0 y23.length, .s (.int .i64 a0.feed.prev.node), .s (.int .i64 a0.feed.prev.epoch), .s (.int .i64 a0.feed.upto), .r 8 1 0 a0.watch.heard.length, .r 2 1 0 q.2.length, .s (.int .i64 a0.asked), .r 9 1 0 a0.votes.length, .s (.int .i64 a0.wait)]⟩, some ⟨38, 22, false, none, [.s (.int .i64 0), .s (.int .i64 0), .s (.int .i64 0), .s (.int .i64 0), .s (.int .i64 0), .s (.slice none 0 0), .s (.slice none 0 0), .s (.slice none 0 0), .s (.int .i64 0), .s (.slice none 0 0), .s (.int .i64 0), .s (.int .i64 0), .s (.int .i64 0), .s (.slice none 0 0), .s (.int .i64 0), .s (.int .i64 0), .s (.int .i64 0), .s (.slice none 0 0), .s (.slice none 0 0), .s (.int .i64 0), .s (.slice none 0 0), .s (.int .i64 0)]⟩, some ⟨33, 1, true, none, lvs (encLI q.2)⟩, some ⟨63, 4, true, none, lvs (encClaim a0.claims)⟩, some ⟨95, 6, true, none, lvs (encPair y9)⟩, some ⟨84, 4, true, none, lvs (encMove a0.moves)⟩, some ⟨87, 3, true, none, lvs (encSeen a0.seen)⟩, some ⟨98, 7, true, none, lvs (encEffect y23)⟩, some ⟨3, 1, true, none, lvs (encI a0.watch.heard)⟩, some ⟨3, 1, true, none, lvs (encI a0.votes)⟩], 104, gh, ls⟩ : St)) (N := fun gh ls => (xP 4 (cx := cx) (fun q => (⟨[(1, .l (.p 0 0)), (2, .l (.p 1 0))], [some ⟨38, 22, false, none, [.s (.int .i64 a0.count), .s (.int .i64 a0.id), .s (.int .i64 a0.master), .s (.int .i64 a0.epoch), .s (.int .i64 a0.voted), .r 2 4 0 a0.claims.length, .r 3 6 0 y9.length, .r 4 4 0 a0.moves.length, .s (.int .i64 a0.last), .r 5 3 0 a0.seen.length, .s (.int .i64 a0.feed.rid.node), .s (.int .i64 a0.feed.rid.epoch), .s (.int .i64 a0.feed.off), .r 6 7 0 y23.length, .s (.int .i64 a0.feed.prev.node), .s (.int .i64 a0.feed.prev.epoch), .s (.int .i64 a0.feed.upto), .r 7 1 0 a0.watch.heard.length, .r 8 1 0 q.length, .s (.int .i64 a0.asked), .r 9 1 0 a0.votes.length, .s (.int .i64 a0.wait)]⟩, some ⟨38, 22, false, none, [.s (.int .i64 0), .s (.int .i64 0), .s (.int .i64 0), .s (.int .i64 0), .s (.int .i64 0), .s (.slice none 0 0), .s (.slice none 0 0), .s (.slice none 0 0), .s (.int .i64 0), .s (.slice none 0 0), .s (.int .i64 0), .s (.int .i64 0), .s (.int .i64 0), .s (.slice none 0 0), .s (.int .i64 0), .s (.int .i64 0), .s (.int .i64 0), .s (.slice none 0 0), .s (.slice none 0 0), .s (.int .i64 0), .s (.slice none 0 0), .s (.int .i64 0)]⟩, some ⟨63, 4, true, none, lvs (encClaim a0.claims)⟩, some ⟨95, 6, true, none, lvs (encPair y9)⟩, some ⟨84, 4, true, none, lvs (encMove a0.moves)⟩, some ⟨87, 3, true, none, lvs (encSeen a0.seen)⟩, some ⟨98, 7, true, none, lvs (encEffect y23)⟩, some ⟨3, 1, true, none, lvs (encI a0.watch.heard)⟩, some ⟨33, 1, true, none, lvs (encLI q)⟩, some ⟨3, 1, true, none, lvs (encI a0.votes)⟩], 104, gh, ls⟩ : St)))) ?_ noX ?_ ?_
   ·refine Weak.mixN [some 0, some 1, some 9, some 2, some 3, some 4, some 5, some 6, some 8, some 7] hn0 (by decide) ?_ ?_ rfl
    all_goals first | (simp [inv_cons, inv_nil, pickOb]; done) | rfl
   ·clear h; intro y38 y40 h
    replace h := ltE h; obtain ⟨v41, e41, h⟩ := h
    apply AW.step
    ·simp [← e41]
     intros; rfl
    refine AW.seq ?_
    cases v41 with
    | true =>
     replace h := iteT rfl h
     refine AW.cond_true (by simp) ?_
     refine AW.skip ?_
     try simp only [sp_l, sp_r, Post.seq, Post.block, Nat.reduceEqDiff, reduceIte, Nat.zero_ne_one, Nat.one_ne_zero]
     try simp only [sp_l, sp_r, Post.seq, Post.block, Nat.reduceEqDiff, reduceIte, Nat.zero_ne_one, Nat.one_ne_zero]
     refine AW.seq ?_
     refine AW.block ?_
     replace h := bnE h; obtain ⟨v42, e42, h⟩ := h
     have f43 := nth_lt e42
     try simp [nth_d e42] at f43
     apply AW.step
     ·simp [nth_d e42, f43, encLI_cell0 (nth_d e42).2, lvs1]
      intros; rfl
     replace h := chkE h; obtain ⟨e44, h⟩ := h
     have f45 := nth_lt e42
     try simp [nth_d e42] at f45
     replace h := ltE h; obtain ⟨v46, e46, h⟩ := h
     have f47 := encLI_put0 (nth_d e42).2 e46 (cs := [.d false 1 (encI v42)]) (by simp) rfl
     try simp at f47
     have f48 := f45
     try simp only [set_len e46] at f48
     apply AW.drawnR (V := [_, _, _, _, _, _]) mixed [⟨[0], [], [(1, none)], false⟩, ⟨[0], [0], [(95, some 0)], false⟩, ⟨[0], [0, 1], [(96, some 1)], false⟩, ⟨[0], [], [(5, none)], false⟩, ⟨[0], [], [(6, none)], false⟩, ⟨[0], [4], [(99, some 4)], false⟩, ⟨[], [0, 1, 2, 3, 4, 5], [], false⟩, ⟨[], [0, 1, 2, 3, 4, 5, 6], [], false⟩] 6 (by kernel_rfl) (by kernel_rfl)
     ·refine ⟨?_, ?_, ?_, ?_, ?_, ?_, trivial⟩
      ·intro tm hr
       simp [AllL, rdV] at hr
       simp [hr, nth_d e42, f45, encLI_fit (nth_d e42).2 (show 1 ≤ 1 by decide), f47, f48]
       intros; first | exact KD.mk | exact KD.mkN
      ·intro tm hr
       simp [AllL, rdV] at hr
       simp [hr, nth_d e42, f45, encLI_fit (nth_d e42).2 (show 1 ≤ 1 by decide), f47, f48]
       intros; first | exact KD.mk | exact KD.mkN
      ·intro tm hr
       simp [AllL, rdV] at hr
       simp [hr, nth_d e42, f45, encLI_fit (nth_d e42).2 (show 1 ≤ 1 by decide), f47, f48]
       intros; first | exact KD.mk | exact KD.mkN
      ·intro tm hr
       simp [AllL, rdV] at hr
       simp [hr, nth_d e42, f45, encLI_fit (nth_d e42).2 (show 1 ≤ 1 by decide), f47, f48]
       intros; first | exact KD.mk | exact KD.mkN
      ·intro tm hr
       simp [AllL, rdV] at hr
       simp [hr, nth_d e42, f45, encLI_fit (nth_d e42).2 (show 1 ≤ 1 by decide), f47, f48]
       intros; first | exact KD.mk | exact KD.mkN
      ·intro tm hr
       simp [AllL, rdV] at hr
       simp [hr, nth_d e42, f45, encLI_fit (nth_d e42).2 (show 1 ≤ 1 by decide), f47, f48]
       intros
       refine xcall_plain en_cl_I (z_cl_I v42 (small_d e44)) rfl ⟨.d _ _ _, trivial⟩ ?_
       try simp [nth_d e42, f45, encLI_fit (nth_d e42).2 (show 1 ≤ 1 by decide), f47, f48]
       intros; first | exact KD.mk | exact KD.mkN
     ·rfl
     ·simp [tmD, putD, nth_d e42, f45, encLI_fit (nth_d e42).2 (show 1 ≤ 1 by decide), f47, f48]; rfl
     ·simp [nth_d e42, f45, encLI_fit (nth_d e42).2 (show 1 ≤ 1 by decide), f47, f48]
      intros; rfl
     try simp only [sp_l, sp_r, Post.seq, Post.block, Nat.reduceEqDiff, reduceIte, Nat.zero_ne_one, Nat.one_ne_zero]
     replace h := ltE h; obtain ⟨v49, e49, h⟩ := h
     apply AW.last
     ·simp [← e49]
      intros; rfl
     obtain rfl := Option.some.inj h
     refine nP_i ?_
     refine Weak.mixN [some 0, some 1, some 2, some 3, some 4, some 5, some 6, some 7, some 8, some 9] hn0 (by decide) ?_ ?_ rfl
     all_goals first | (simp [inv_cons, inv_nil, pickOb, set_len e46]; done) | rfl
    | false =>
     replace h := iteF rfl h
     refine AW.cond_false (by simp) ?_
     refine AW.exit ?_
     try simp only [sp_l, sp_r, Post.seq, Post.block, Nat.reduceEqDiff, reduceIte, Nat.zero_ne_one, Nat.one_ne_zero]
     obtain rfl := Option.some.inj h
     refine xP_i ?_
     refine Weak.mixN [some 0, some 1, some 3, some 4, some 5, some 6, some 7, some 8, some 2, some 9] hn0 (by decide) ?_ ?_ rfl
     all_goals first | (simp [inv_cons, inv_nil, pickOb]; done) | rfl
   ·rintro e s hp
    obtain ⟨rfl, hw⟩ := hp
    refine ⟨_, hw, ?_⟩
    try simp only [sp_l, sp_r, Post.seq, Post.block, Nat.reduceEqDiff, reduceIte, Nat.zero_ne_one, Nat.one_ne_zero]
    apply AW.step
    ·simp
     intros; rfl
    replace h := chkE h; obtain ⟨e50, h⟩ := h
    refine AW.frzRow 2 (ty := 63) (cap := none) (sz := 4) (es := encClaim a0.claims) (by simp) (by omega) (encClaim_sz _) (by first | exact (room_d e50).2 | simpa using (room_d e50).2 | simp) (by simp [Tm.frz, AV.frz, LV.frz]; rfl) (by simp [Ob.frz, LV.frz]; rfl) rfl ?_
    replace h := chkE h; obtain ⟨e51, h⟩ := h
    refine AW.frzRow 3 (ty := 95) (cap := none) (sz := 6) (es := encPair y9) (by simp) (by omega) (encPair_sz _) (by first | exact (room_d e51).2 | simpa using (room_d e51).2 | simp) (by simp [Tm.frz, AV.frz, LV.frz]; rfl) (by simp [Ob.frz, LV.frz]; rfl) rfl ?_
    replace h := chkE h; obtain ⟨e52, h⟩ := h
    refine AW.frzRow 4 (ty := 84) (cap := none) (sz := 4) (es := encMove a0.moves) (by simp) (by omega) (encMove_sz _) (by first | exact (room_d e52).2 | simpa using (room_d e52).2 | simp) (by simp [Tm.frz, AV.frz, LV.frz]; rfl) (by simp [Ob.frz, LV.frz]; rfl) rfl ?_
    replace h := chkE h; obtain ⟨e53, h⟩ := h
    refine AW.frzRow 5 (ty := 87) (cap := none) (sz := 3) (es := encSeen a0.seen) (by simp) (by omega) (encSeen_sz _) (by first | exact (room_d e53).2 | simpa using (room_d e53).2 | simp) (by simp [Tm.frz, AV.frz, LV.frz]; rfl) (by simp [Ob.frz, LV.frz]; rfl) rfl ?_
    replace h := chkE h; obtain ⟨e54, h⟩ := h
    refine AW.frzRow 6 (ty := 98) (cap := none) (sz := 7) (es := encEffect y23) (by simp) (by omega) (encEffect_sz _) (by first | exact (room_d e54).2 | simpa using (room_d e54).2 | simp) (by simp [Tm.frz, AV.frz, LV.frz]; rfl) (by simp [Ob.frz, LV.frz]; rfl) rfl ?_
    replace h := chkE h; obtain ⟨e55, h⟩ := h
    refine AW.frzRow 7 (ty := 3) (cap := none) (sz := 1) (es := encI a0.watch.heard) (by simp) (by omega) (encI_sz _) (by first | exact (room_d e55).2 | simpa using (room_d e55).2 | simp) (by simp [Tm.frz, AV.frz, LV.frz]; rfl) (by simp [Ob.frz, LV.frz]; rfl) rfl ?_
    replace h := chkE h; obtain ⟨e56, h⟩ := h
    refine AW.frzRow 8 (ty := 33) (cap := none) (sz := 1) (es := encLI y39) (by simp) (by omega) (encLI_sz _) (by first | exact (room_d e56).2 | simpa using (room_d e56).2 | simp) (by simp [Tm.frz, AV.frz, LV.frz]; rfl) (by simp [Ob.frz, LV.frz]; rfl) rfl ?_
    replace h := chkE h; obtain ⟨e57, h⟩ := h
    refine AW.frzRow 9 (ty := 3) (cap := none) (sz := 1) (es := encI a0.votes) (by simp) (by omega) (encI_sz _) (by first | exact (room_d e57).2 | simpa using (room_d e57).2 | simp) (by simp [Tm.frz, AV.frz, LV.frz]; rfl) (by simp [Ob.frz, LV.frz]; rfl) rfl ?_
    obtain rfl := Option.some.inj h
    refine AW.ret ?_
    refine Left.plain hnb (by simp [Try.f19, resV, resC, comp]; rfl) rfl rfl ?_
    simp
theorem en_claims_Own : Enters Try.prog 19 := enters Try.func19 (by kernel_rfl) rfl
def vote_grants_sh (n : Nat) (a0 : Node) (a1 : Msg) : Option Bool :=
bn (claims_Masters_sh n a0.claims) fun v1 =>
bn (lt (eqI a0.master (-1)) fun v3 =>
ite' v3 (bn (slices_Contains_int_sh n v1 a0.id) fun v4 =>
some (v4)) (some (false))) fun (y2 : Bool) =>
bn (lt (y2) fun v6 =>
ite' v6 (lt (gtI a1.epoch a0.voted) fun v7 =>
ite' v7 (lt (geI a1.epoch a0.epoch) fun v8 =>
ite' v8 (bn (watch_Failed_sh n a0.watch a0.id v1 a1.node) fun v9 =>
some (v9)) (some (false))) (some (false))) (some (false))) fun (y5 : Bool) =>
some y5
set_option maxRecDepth 8000 in
set_option maxHeartbeats 8000000 in
theorem s_vote_grants {n : Nat} {a0 : Node} {a1 : Msg} {r : Bool} (h : vote_grants_sh n a0 a1 = some r) : Sound Try.prog 20 [.g [.s (.int .i64 a0.count), .s (.int .i64 a0.id), .s (.int .i64 a0.master), .s (.int .i64 a0.epoch), .s (.int .i64 a0.voted), .d false 4 (encClaim a0.claims), .d false 6 (encPair a0.db), .d false 4 (encMove a0.moves), .s (.int .i64 a0.last), .d false 3 (encSeen a0.seen), .s (.int .i64 a0.feed.rid.node), .s (.int .i64 a0.feed.rid.epoch), .s (.int .i64 a0.feed.off), .d false 7 (encEffect a0.feed.back), .s (.int .i64 a0.feed.prev.node), .s (.int .i64 a0.feed.prev.epoch), .s (.int .i64 a0.feed.upto), .d false 1 (encI a0.watch.heard), .d false 1 (encLI a0.watch.says), .s (.int .i64 a0.asked), .d false 1 (encI a0.votes), .s (.int .i64 a0.wait)], .g [.s (.int .i64 a1.kind), .s (.int .i64 a1.frm), .s (.int .i64 a1.to), .s (.int .i64 a1.epoch), .d false 4 (encClaim a1.claims), .d false 1 (encI a1.nodes), .s (.int .i64 a1.node), .s (.int .i64 a1.slot), .s (.int .i64 a1.num), .s (.int .i64 a1.rid.node), .s (.int .i64 a1.rid.epoch), .s (.int .i64 a1.prev.node), .s (.int .i64 a1.prev.epoch), .s (.int .i64 a1.off), .d false 7 (encEffect a1.effects)]] [] (.l (.s (.bool r))) [] := by
 unfold vote_grants_sh at h
 refine Sound.of_aw (fn := Try.f20) (c := _) Try.func20 rfl (by simp [Try.f20]) fun cx hG hnb => ?_
 rw [show Try.f20.ntmps = 44 from rfl]
 have hn0 : cx.nb = 0 := hnb
 simp only [st0_mk, initTm, List.map_cons, List.map_nil]
 apply AW.step
 ·simp
  intros; rfl
 replace h := bnE h; obtain ⟨v1, e1, h⟩ := h
 apply AW.step
 ·simp
  intros
  refine xcall_plain en_claims_Masters (s_claims_Masters e1) rfl ⟨.same rfl, trivial⟩ ?_
  try simp
  intros; rfl
 replace h := bnE h; obtain ⟨y2, g2, h⟩ := h
 refine AW.flow (p := fun gh ls => (nP (cx := cx) (fun q => (⟨[(2, .l (.p 0 0)), (3, .l (.p 1 0)), (5, .l (.d false 1 (encI v1))), (6, .l (.s (.bool q)))], [some ⟨38, 22, false, none, [.s (.int .i64 a0.count), .s (.int .i64 a0.id), .s (.int .i64 a0.master), .s (.int .i64 a0.epoch), .s (.int .i64 a0.voted), .d false 4 (encClaim a0.claims), .d false 6 (encPair a0.db), .d false 4 (encMove a0.moves), .s (.int .i64 a0.last), .d false 3 (encSeen a0.seen), .s (.int .i64 a0.feed.rid.node), .s (.int .i64 a0.feed.rid.epoch), .s (.int .i64 a0.feed.off), .d false 7 (encEffect a0.feed.back), .s (.int .i64 a0.feed.prev.node), .s (.int .i64 a0.feed.prev.epoch), .s (.int .i64 a0.feed.upto), .d false 1 (encI a0.watch.heard), .d false 1 (encLI a0.watch.says), .s (.int .i64 a0.asked), .d false 1 (encI a0.votes), .s (.int .i64 a0.wait)]⟩, some ⟨45, 15, false, none, [.s (.int .i64 a1.kind), .s (.int .i64 a1.frm), .s (.int .i64 a1.to), .s (.int .i64 a1.epoch), .d false 4 (encClaim a1.claims), .d false 1 (encI a1.nodes), .s (.int .i64 a1.node), .s (.int .i64 a1.slot), .s (.int .i64 a1.num), .s (.int .i64 a1.rid.node), .s (.int .i64 a1.rid.epoch), .s (.int .i64 a1.prev.node), .s (.int .i64 a1.prev.epoch), .s (.int .i64 a1.off), .d false 7 (encEffect a1.effects)]⟩], 44, gh, ls⟩ : St))) y2) ?_ ?_
 ·replace h := g2; clear g2
  replace h := ltE h; obtain ⟨v3, e3, h⟩ := h
  cases v3 with
  | true =>
   replace h := iteT rfl h
   replace h := bnE h; obtain ⟨v4, e4, h⟩ := h
   apply AW.last
   ·simp [← e3]
    intros
    refine xcall_plain en_slices_Contains_int (s_slices_Contains_int e4) rfl ⟨.same rfl, .same rfl, trivial⟩ ?_
    try simp [← e3]
    intros; rfl
   obtain rfl := Option.some.inj h
   refine nP_i ?_
   refine Weak.mixN [some 0, some 1] hn0 (by decide) ?_ ?_ rfl
   all_goals first | (simp [inv_cons, inv_nil, pickOb]; done) | rfl
  | false =>
   replace h := iteF rfl h
   apply AW.last
   ·simp [← e3]
    intros; rfl
   obtain rfl := Option.some.inj h
   refine nP_i ?_
   refine Weak.mixN [some 0, some 1] hn0 (by decide) ?_ ?_ rfl
   all_goals first | (simp [inv_cons, inv_nil, pickOb]; done) | rfl
 ·rintro e s hp
  obtain ⟨rfl, hw⟩ := hp
  refine ⟨_, hw, ?_⟩
  try simp only [sp_l, sp_r, Post.seq, Post.block, Nat.reduceEqDiff, reduceIte, Nat.zero_ne_one, Nat.one_ne_zero]
  replace h := bnE h; obtain ⟨y5, g5, h⟩ := h
  refine AW.flow (p := fun gh ls => (nP (cx := cx) (fun q => (⟨[(4, .l (.s (.bool q)))], [], 44, gh, ls⟩ : St))) y5) ?_ ?_
  ·replace h := g5; clear g5
   replace h := ltE h; obtain ⟨v6, e6, h⟩ := h
   cases v6 with
   | true =>
    replace h := iteT rfl h
    replace h := ltE h; obtain ⟨v7, e7, h⟩ := h
    cases v7 with
    | true =>
     replace h := iteT rfl h
     replace h := ltE h; obtain ⟨v8, e8, h⟩ := h
     cases v8 with
     | true =>
      replace h := iteT rfl h
      replace h := bnE h; obtain ⟨v9, e9, h⟩ := h
      apply AW.last
      ·simp [← e6, ← e7, ← e8]
       intros
       refine xcall_plain en_watch_Failed (s_watch_Failed e9) rfl ⟨.same rfl, .same rfl, .same rfl, .same rfl, trivial⟩ ?_
       try simp [← e6, ← e7, ← e8]
       intros; rfl
      obtain rfl := Option.some.inj h
      refine nP_i ?_
      refine Weak.mixN [] hn0 (by decide) ?_ ?_ rfl
      all_goals first | (simp [inv_cons, inv_nil, pickOb]; done) | rfl
     | false =>
      replace h := iteF rfl h
      apply AW.last
      ·simp [← e6, ← e7, ← e8]
       intros; rfl
      obtain rfl := Option.some.inj h
      refine nP_i ?_
      refine Weak.mixN [] hn0 (by decide) ?_ ?_ rfl
      all_goals first | (simp [inv_cons, inv_nil, pickOb]; done) | rfl
    | false =>
     replace h := iteF rfl h
     apply AW.last
     ·simp [← e6, ← e7]
      intros; rfl
     obtain rfl := Option.some.inj h
     refine nP_i ?_
     refine Weak.mixN [] hn0 (by decide) ?_ ?_ rfl
     all_goals first | (simp [inv_cons, inv_nil, pickOb]; done) | rfl
   | false =>
    replace h := iteF rfl h
    apply AW.last
    ·simp [← e6]
     intros; rfl
    obtain rfl := Option.some.inj h
    refine nP_i ?_
    refine Weak.mixN [] hn0 (by decide) ?_ ?_ rfl
    all_goals first | (simp [inv_cons, inv_nil, pickOb]; done) | rfl
  ·rintro e s hp
   obtain ⟨rfl, hw⟩ := hp
   refine ⟨_, hw, ?_⟩
   try simp only [sp_l, sp_r, Post.seq, Post.block, Nat.reduceEqDiff, reduceIte, Nat.zero_ne_one, Nat.one_ne_zero]
   obtain rfl := Option.some.inj h
   refine AW.ret ?_
   refine Left.plain hnb (by simp [Try.f20, resV, resC, comp]; rfl) rfl rfl ?_
   simp
theorem en_vote_grants : Enters Try.prog 20 := enters Try.func20 (by kernel_rfl) rfl
def vote_Grant_sh (n : Nat) (a0 : Node) (a1 : Msg) : Option (Node × List Msg) :=
bn (claims_Own_sh n a0) fun v1 =>
bn (bn (vote_grants_sh n v1 a1) fun v3 =>
ite' v3 (chk (room 1 168) <|
some ((a1.epoch, [(⟨8, v1.id, a1.frm, a1.epoch, [], [], 0, 0, 0, (⟨0, 0⟩ : Rid), (⟨0, 0⟩ : Rid), 0, []⟩ : Msg)]))) (some ((v1.voted, [])))) fun (y2 : Int × List Msg) =>
lt (maxI v1.epoch a1.epoch) fun v5 =>
chk (room y2.2.length 1) <|
some ((⟨v1.count, v1.id, v1.master, v5, y2.1, v1.claims, v1.db, v1.moves, v1.last, v1.seen, v1.feed, v1.watch, v1.asked, v1.votes, v1.wait⟩ : Node), y2.2)
set_option maxRecDepth 8000 in
set_option maxHeartbeats 8000000 in
theorem s_vote_Grant {n : Nat} {a0 : Node} {a1 : Msg} {r : Node × List Msg} (h : vote_Grant_sh n a0 a1 = some r) : Sound Try.prog 10 [.g [.s (.int .i64 a0.count), .s (.int .i64 a0.id), .s (.int .i64 a0.master), .s (.int .i64 a0.epoch), .s (.int .i64 a0.voted), .d false 4 (encClaim a0.claims), .d false 6 (encPair a0.db), .d false 4 (encMove a0.moves), .s (.int .i64 a0.last), .d false 3 (encSeen a0.seen), .s (.int .i64 a0.feed.rid.node), .s (.int .i64 a0.feed.rid.epoch), .s (.int .i64 a0.feed.off), .d false 7 (encEffect a0.feed.back), .s (.int .i64 a0.feed.prev.node), .s (.int .i64 a0.feed.prev.epoch), .s (.int .i64 a0.feed.upto), .d false 1 (encI a0.watch.heard), .d false 1 (encLI a0.watch.says), .s (.int .i64 a0.asked), .d false 1 (encI a0.votes), .s (.int .i64 a0.wait)], .g [.s (.int .i64 a1.kind), .s (.int .i64 a1.frm), .s (.int .i64 a1.to), .s (.int .i64 a1.epoch), .d false 4 (encClaim a1.claims), .d false 1 (encI a1.nodes), .s (.int .i64 a1.node), .s (.int .i64 a1.slot), .s (.int .i64 a1.num), .s (.int .i64 a1.rid.node), .s (.int .i64 a1.rid.epoch), .s (.int .i64 a1.prev.node), .s (.int .i64 a1.prev.epoch), .s (.int .i64 a1.off), .d false 7 (encEffect a1.effects)]] [] (.t [(true, [.s (.int .i64 r.1.count), .s (.int .i64 r.1.id), .s (.int .i64 r.1.master), .s (.int .i64 r.1.epoch), .s (.int .i64 r.1.voted), .d false 4 (encClaim r.1.claims), .d false 6 (encPair r.1.db), .d false 4 (encMove r.1.moves), .s (.int .i64 r.1.last), .d false 3 (encSeen r.1.seen), .s (.int .i64 r.1.feed.rid.node), .s (.int .i64 r.1.feed.rid.epoch), .s (.int .i64 r.1.feed.off), .d false 7 (encEffect r.1.feed.back), .s (.int .i64 r.1.feed.prev.node), .s (.int .i64 r.1.feed.prev.epoch), .s (.int .i64 r.1.feed.upto), .d false 1 (encI r.1.watch.heard), .d false 1 (encLI r.1.watch.says), .s (.int .i64 r.1.asked), .d false 1 (encI r.1.votes), .s (.int .i64 r.1.wait)]), (false, [.d false 15 (encMsg r.2)])]) [] := by
 unfold vote_Grant_sh at h
 refine Sound.of_aw (fn := Try.f10) (c := _) Try.func10 rfl (by simp [Try.f10]) fun cx hG hnb => ?_
 rw [show Try.f10.ntmps = 33 from rfl]
 have hn0 : cx.nb = 0 := hnb
 simp only [st0_mk, initTm, List.map_cons, List.map_nil]
 apply AW.step
 ·simp
  intros; rfl
 replace h := bnE h; obtain ⟨v1, e1, h⟩ := h
 apply AW.step
 ·simp
  intros
  refine xcall_plain en_claims_Own (s_claims_Own e1) rfl ⟨.same rfl, trivial⟩ ?_
  try simp
  intros; rfl
 apply AW.step
 ·simp
  intros; rfl
 replace h := bnE h; obtain ⟨y2, g2, h⟩ := h
 refine AW.flow (p := fun gh ls => (nP (cx := cx) (fun q => (⟨[(2, .l (.p 0 0)), (3, .l (.p 1 0)), (4, .l (.p 2 0)), (6, .l (.r 3 15 0 q.2.length))], [some ⟨38, 22, false, none, [.s (.int .i64 v1.count), .s (.int .i64 v1.id), .s (.int .i64 v1.master), .s (.int .i64 v1.epoch), .s (.int .i64 q.1), .d false 4 (encClaim v1.claims), .d false 6 (encPair v1.db), .d false 4 (encMove v1.moves), .s (.int .i64 v1.last), .d false 3 (encSeen v1.seen), .s (.int .i64 v1.feed.rid.node), .s (.int .i64 v1.feed.rid.epoch), .s (.int .i64 v1.feed.off), .d false 7 (encEffect v1.feed.back), .s (.int .i64 v1.feed.prev.node), .s (.int .i64 v1.feed.prev.epoch), .s (.int .i64 v1.feed.upto), .d false 1 (encI v1.watch.heard), .d false 1 (encLI v1.watch.says), .s (.int .i64 v1.asked), .d false 1 (encI v1.votes), .s (.int .i64 v1.wait)]⟩, some ⟨45, 15, false, none, [.s (.int .i64 a1.kind), .s (.int .i64 a1.frm), .s (.int .i64 a1.to), .s (.int .i64 a1.epoch), .d false 4 (encClaim a1.claims), .d false 1 (encI a1.nodes), .s (.int .i64 a1.node), .s (.int .i64 a1.slot), .s (.int .i64 a1.num), .s (.int .i64 a1.rid.node), .s (.int .i64 a1.rid.epoch), .s (.int .i64 a1.prev.node), .s (.int .i64 a1.prev.epoch), .s (.int .i64 a1.off), .d false 7 (encEffect a1.effects)]⟩, some ⟨38, 22, false, none, [.s (.int .i64 0), .s (.int .i64 0), .s (.int .i64 0), .s (.int .i64 0), .s (.int .i64 0), .s (.slice none 0 0), .s (.slice none 0 0), .s (.slice none 0 0), .s (.int .i64 0), .s (.slice none 0 0), .s (.int .i64 0), .s (.int .i64 0), .s (.int .i64 0), .s (.slice none 0 0), .s (.int .i64 0), .s (.int .i64 0), .s (.int .i64 0), .s (.slice none 0 0), .s (.slice none 0 0), .s (.int .i64 0), .s (.slice none 0 0), .s (.int .i64 0)]⟩, some ⟨45, 15, true, none, lvs (encMsg q.2)⟩], 33, gh, ls⟩ : St))) y2) ?_ ?_
 ·replace h := g2; clear g2
  replace h := bnE h; obtain ⟨v3, e3, h⟩ := h
  apply AW.step
  ·simp
   intros
   refine xcall_plain en_vote_grants (s_vote_grants e3) rfl ⟨.same rfl, .same rfl, trivial⟩ ?_
   try simp
   intros; rfl
  cases v3 with
  | true =>
   replace h := iteT rfl h
   refine AW.cond_true (by simp) ?_
   apply AW.step
   ·simp
    intros; rfl
   replace h := chkE h; obtain ⟨e4, h⟩ := h
   apply AW.last
   ·simp [-xapp_n']
    intros
    refine xrow_data (es := encMsg [(⟨8, v1.id, a1.frm, a1.epoch, [], [], 0, 0, 0, (⟨0, 0⟩ : Rid), (⟨0, 0⟩ : Rid), 0, []⟩ : Msg)]) (by simp [encMsg, lvs, All2]) (encMsg_sz _) (by omega) (by simp) ?_
    try simp [-xapp_n']
    intros
    refine xapp_nilpush (ys := encMsg [(⟨8, v1.id, a1.frm, a1.epoch, [], [], 0, 0, 0, (⟨0, 0⟩ : Rid), (⟨0, 0⟩ : Rid), 0, []⟩ : Msg)]) (k := 1) tb_el41 tb_ti45 (by rw [src_d]; simp) (by simp) (by first | (simp; done) | simpa using (room_d e4).1) ?_
    try simp [-xapp_n']
    intros; rfl
   obtain rfl := Option.some.inj h
   refine nP_i ?_
   refine Weak.mixN [some 0, some 1, some 2, some 3] hn0 (by decide) ?_ ?_ rfl
   all_goals first | (simp [inv_cons, inv_nil, pickOb]; done) | rfl
  | false =>
   replace h := iteF rfl h
   refine AW.cond_false (by simp) ?_
   refine AW.skip ?_
   try simp only [sp_l, sp_r, Post.seq, Post.block, Nat.reduceEqDiff, reduceIte, Nat.zero_ne_one, Nat.one_ne_zero]
   obtain rfl := Option.some.inj h
   refine nP_i ?_
   refine W.nilRow 6 45 15 3 (by simp) rfl rfl ?_
   refine Weak.mixN [some 0, some 1, some 2, some 3] hn0 (by decide) ?_ ?_ rfl
   all_goals first | (simp [inv_cons, inv_nil, pickOb]; done) | rfl
 ·rintro e s hp
  obtain ⟨rfl, hw⟩ := hp
  refine ⟨_, hw, ?_⟩
  try simp only [sp_l, sp_r, Post.seq, Post.block, Nat.reduceEqDiff, reduceIte, Nat.zero_ne_one, Nat.one_ne_zero]
  replace h := ltE h; obtain ⟨v5, e5, h⟩ := h
  apply AW.step
  ·simp [← e5]
   intros; rfl
  apply AW.step
  ·simp
   intros; rfl
  replace h := chkE h; obtain ⟨e6, h⟩ := h
  refine AW.frzRow 3 (ty := 45) (cap := none) (sz := 15) (es := encMsg y2.2) (by simp) (by omega) (encMsg_sz _) (by first | exact (room_d e6).2 | simpa using (room_d e6).2 | simp) (by simp [Tm.frz, AV.frz, LV.frz]; rfl) (by simp [Ob.frz, LV.frz]; rfl) rfl ?_
  obtain rfl := Option.some.inj h
  refine AW.ret ?_
  refine Left.plain hnb (by simp [Try.f10, resV, resC, comp]; rfl) rfl rfl ?_
  simp
theorem en_vote_Grant : Enters Try.prog 10 := enters Try.func10 (by kernel_rfl) rfl
end Go.Proofs.Ytaibolmbafacpaa

/- Walks, printed: vote_Ask, l18_awake, l18_VoteOnce -/
namespace Go.Proofs.Ytaibolmbafacpaa
open Go Go.RowKit
set_option linter.unusedVariables false
set_option linter.unusedSimpArgs false
def vote_Ask_sh (n : Nat) (a0 : Node) : Option (Node × List Msg) :=
bn (claims_Own_sh n a0) fun v1 =>
lt (eqI v1.master (-1)) fun v2 =>
ite' v2 (some (v1, [])) (lt (addI .i64 v1.epoch 1) fun v3 =>
bn (iter n (fun (y4 : Int × List Msg) =>
lt (ltI y4.1 v1.count) fun v7 =>
ite' v7 (bn (lt (neI y4.1 v1.id) fun v9 =>
ite' v9 (chk (room (y4.2.length + 1) 168) <|
lt (y4.2 ++ [(⟨7, v1.id, y4.1, v3, [], [], v1.master, 0, 0, (⟨0, 0⟩ : Rid), (⟨0, 0⟩ : Rid), 0, []⟩ : Msg)]) fun v11 =>
some (v11)) (some (y4.2))) fun (y8 : List Msg) =>
lt (addI .i64 y4.1 1) fun v12 =>
some (.inl (v12, y8))) (some (.inr y4.2))) (0, [])) fun (y5 : List Msg) =>
chk (room y5.length 1) <|
some ((⟨v1.count, v1.id, v1.master, v3, v1.voted, v1.claims, v1.db, v1.moves, v1.last, v1.seen, v1.feed, v1.watch, v3, [], 4⟩ : Node), y5))
set_option maxRecDepth 8000 in
set_option maxHeartbeats 8000000 in
theorem s_vote_Ask {n : Nat} {a0 : Node} {r : Node × List Msg} (h : vote_Ask_sh n a0 = some r) : Sound Try.prog 14 [.g [.s (.int .i64 a0.count), .s (.int .i64 a0.id), .s (.int .i64 a0.master), .s (.int .i64 a0.epoch), .s (.int .i64 a0.voted), .d false 4 (encClaim a0.claims), .d false 6 (encPair a0.db), .d false 4 (encMove a0.moves), .s (.int .i64 a0.last), .d false 3 (encSeen a0.seen), .s (.int .i64 a0.feed.rid.node), .s (.int .i64 a0.feed.rid.epoch), .s (.int .i64 a0.feed.off), .d false 7 (encEffect a0.feed.back), .s (.int .i64 a0.feed.prev.node), .s (.int .i64 a0.feed.prev.epoch), .s (.int .i64 a0.feed.upto), .d false 1 (encI a0.watch.heard), .d false 1 (encLI a0.watch.says), .s (.int .i64 a0.asked), .d false 1 (encI a0.votes), .s (.int .i64 a0.wait)]] [] (.t [(true, [.s (.int .i64 r.1.count), .s (.int .i64 r.1.id), .s (.int .i64 r.1.master), .s (.int .i64 r.1.epoch), .s (.int .i64 r.1.voted), .d false 4 (encClaim r.1.claims), .d false 6 (encPair r.1.db), .d false 4 (encMove r.1.moves), .s (.int .i64 r.1.last), .d false 3 (encSeen r.1.seen), .s (.int .i64 r.1.feed.rid.node), .s (.int .i64 r.1.feed.rid.epoch), .s (.int .i64 r.1.feed.off), .d false 7 (encEffect r.1.feed.back), .s (.int .i64 r.1.feed.prev.node), .s (.int .i64 r.1.feed.prev.epoch), .s (.int .i64 r.1.feed.upto), .d false 1 (encI r.1.watch.heard), .d false 1 (encLI r.1.watch.says), .s (.int .i64 r.1.asked), .d false 1 (encI r.1.votes), .s (.int .i64 r.1.wait)]), (false, [.d false 15 (encMsg r.2)])]) [] := by
 unfold vote_Ask_sh at h
 refine Sound.of_aw (fn := Try.f14) (c := _) Try.func14 rfl (by simp [Try.f14]) fun cx hG hnb => ?_
 rw [show Try.f14.ntmps = 44 from rfl]
 have hn0 : cx.nb = 0 := hnb
 simp only [st0_mk, initTm, List.map_cons, List.map_nil]
 apply AW.step
 ·simp
  intros; rfl
 replace h := bnE h; obtain ⟨v1, e1, h⟩ := h
 apply AW.step
 ·simp
  intros
  refine xcall_plain en_claims_Own (s_claims_Own e1) rfl ⟨.same rfl, trivial⟩ ?_
  try simp
  intros; rfl
 refine AW.seq ?_
 replace h := ltE h; obtain ⟨v2, e2, h⟩ := h
 apply AW.step
 ·simp [← e2]
  intros; rfl
 cases v2 with
 | true =>
  replace h := iteT rfl h
  refine AW.cond_true (by simp) ?_
  apply AW.step
  ·simp
   intros; rfl
  refine AW.nilD 3 15 (by simp) ?_
  obtain rfl := Option.some.inj h
  refine AW.ret ?_
  refine Left.plain hnb (by simp [Try.f14, resV, resC, comp]; rfl) rfl rfl ?_
  simp
 | false =>
  replace h := iteF rfl h
  refine AW.cond_false (by simp) ?_
  refine AW.skip ?_
  try simp only [sp_l, sp_r, Post.seq, Post.block, Nat.reduceEqDiff, reduceIte, Nat.zero_ne_one, Nat.one_ne_zero]
  try simp only [sp_l, sp_r, Post.seq, Post.block, Nat.reduceEqDiff, reduceIte, Nat.zero_ne_one, Nat.one_ne_zero]
  replace h := ltE h; obtain ⟨v3, e3, h⟩ := h
  apply AW.step
  ·simp [← e3]
   intros; rfl
  apply AW.step
  ·simp
   intros; rfl
  apply AW.step
  ·simp
   intros; rfl
  refine AW.seq ?_
  apply AW.step
  ·simp
   intros; rfl
  refine AW.block ?_
  replace h := bnE h; obtain ⟨y5, g5, h⟩ := h
  refine AW.iterP g5 (mk := fun gh ls q => (⟨[(1, .l (.p 0 0)), (2, .l (.p 1 0)), (4, .l (.r 2 15 0 q.2.length)), (22, .l (.s (.int .i64 v1.count))), (23, .l (.s (.int .i64 q.1)))], [some ⟨38, 22, false, none, [.s (.int .i64 v1.count), .s (.int .i64 v1.id), .s (.int .i64 v1.master), .s (.int .i64 v3), .s (.int .i64 v1.voted), .d false 4 (encClaim v1.claims), .d false 6 (encPair v1.db), .d false 4 (encMove v1.moves), .s (.int .i64 v1.last), .d false 3 (encSeen v1.seen), .s (.int .i64 v1.feed.rid.node), .s (.int .i64 v1.feed.rid.epoch), .s (.int .i64 v1.feed.off), .d false 7 (encEffect v1.feed.back), .s (.int .i64 v1.feed.prev.node), .s (.int .i64 v1.feed.prev.epoch), .s (.int .i64 v1.feed.upto), .d false 1 (encI v1.watch.heard), .d false 1 (encLI v1.watch.says), .s (.int .i64 v3), .s (.slice none 0 0), .s (.int .i64 4)]⟩, some ⟨38, 22, false, none, [.s (.int .i64 0), .s (.int .i64 0), .s (.int .i64 0), .s (.int .i64 0), .s (.int .i64 0), .s (.slice none 0 0), .s (.slice none 0 0), .s (.slice none 0 0), .s (.int .i64 0), .s (.slice none 0 0), .s (.int .i64 0), .s (.int .i64 0), .s (.int .i64 0), .s (.slice none 0 0), .s (.int .i64 0), .s (.int .i64 0), .s (.int .i64 0), .s (.slice none 0 0), .s (.slice none 0 0), .s (.int .i64 0), .s (.slice none 0 0), .s (.int .i64 0)]⟩, some ⟨45, 15, true, none, lvs (encMsg q.2)⟩], 44, gh, ls⟩ : St)) (N := fun gh ls => (xP 0 (cx := cx) (fun q => (⟨[(1, .l (.p 0 0)), (2, .l (.p 1 0)), (4, .l (.r 2 15 0 q.length))], [some ⟨38, 22, false, none, [.s (.int .i64 v1.count), .s (.int .i64 v1.id), .s (.int .i64 v1.master), .s (.int .i64 v3), .s (.int .i64 v1.voted), .d false 4 (encClaim v1.claims), .d false 6 (encPair v1.db), .d false 4 (encMove v1.moves), .s (.int .i64 v1.last), .d false 3 (encSeen v1.seen), .s (.int .i64 v1.feed.rid.node), .s (.int .i64 v1.feed.rid.epoch), .s (.int .i64 v1.feed.off), .d false 7 (encEffect v1.feed.back), .s (.int .i64 v1.feed.prev.node), .s (.int .i64 v1.feed.prev.epoch), .s (.int .i64 v1.feed.upto), .d false 1 (encI v1.watch.heard), .d false 1 (encLI v1.watch.says), .s (.int .i64 v3), .s (.slice none 0 0), .s (.int .i64 4)]⟩, some ⟨38, 22, false, none, [.s (.int .i64 0), .s (.int .i64 0), .s (.int .i64 0), .s (.int .i64 0), .s (.int .i64 0), .s (.slice none 0 0), .s (.slice none 0 0), .s (.slice none 0 0), .s (.int .i64 0), .s (.slice none 0 0), .s (.int .i64 0), .s (.int .i64 0), .s (.int .i64 0), .s (.slice none 0 0), .s (.int .i64 0), .s (.int .i64 0), .s (.int .i64 0), .s (.slice none 0 0), .s (.slice none 0 0), .s (.int .i64 0), .s (.slice none 0 0), .s (.int .i64 0)]⟩, some ⟨45, 15, true, none, lvs (encMsg q)⟩], 44, gh, ls⟩ : St)))) ?_ noX ?_ ?_
  ·refine W.nilRow 4 45 15 2 (by simp) rfl rfl ?_
   refine Weak.mixN [some 0, some 1, some 2] hn0 (by decide) ?_ ?_ rfl
   all_goals first | (simp [inv_cons, inv_nil, pickOb]; done) | rfl
  ·clear h; intro y4 y6 h
   replace h := ltE h; obtain ⟨v7, e7, h⟩ := h
   apply AW.step
   ·simp [← e7]
    intros; rfl
   refine AW.seq ?_
   cases v7 with
   | true =>
    replace h := iteT rfl h
    refine AW.cond_true (by simp) ?_
    refine AW.skip ?_
    try simp only [sp_l, sp_r, Post.seq, Post.block, Nat.reduceEqDiff, reduceIte, Nat.zero_ne_one, Nat.one_ne_zero]
    try simp only [sp_l, sp_r, Post.seq, Post.block, Nat.reduceEqDiff, reduceIte, Nat.zero_ne_one, Nat.one_ne_zero]
    replace h := bnE h; obtain ⟨y8, g8, h⟩ := h
    refine AW.flow (p := fun gh ls => (nP (cx := cx) (fun q => (⟨[(1, .l (.p 0 0)), (2, .l (.p 1 0)), (4, .l (.r 2 15 0 q.length)), (22, .l (.s (.int .i64 v1.count))), (23, .l (.s (.int .i64 y4.1)))], [some ⟨38, 22, false, none, [.s (.int .i64 v1.count), .s (.int .i64 v1.id), .s (.int .i64 v1.master), .s (.int .i64 v3), .s (.int .i64 v1.voted), .d false 4 (encClaim v1.claims), .d false 6 (encPair v1.db), .d false 4 (encMove v1.moves), .s (.int .i64 v1.last), .d false 3 (encSeen v1.seen), .s (.int .i64 v1.feed.rid.node), .s (.int .i64 v1.feed.rid.epoch), .s (.int .i64 v1.feed.off), .d false 7 (encEffect v1.feed.back), .s (.int .i64 v1.feed.prev.node), .s (.int .i64 v1.feed.prev.epoch), .s (.int .i64 v1.feed.upto), .d false 1 (encI v1.watch.heard), .d false 1 (encLI v1.watch.says), .s (.int .i64 v3), .s (.slice none 0 0), .s (.int .i64 4)]⟩, some ⟨38, 22, false, none, [.s (.int .i64 0), .s (.int .i64 0), .s (.int .i64 0), .s (.int .i64 0), .s (.int .i64 0), .s (.slice none 0 0), .s (.slice none 0 0), .s (.slice none 0 0), .s (.int .i64 0), .s (.slice none 0 0), .s (.int .i64 0), .s (.int .i64 0), .s (.int .i64 0), .s (.slice none 0 0), .s (.int .i64 0), .s (.int .i64 0), .s (.int .i64 0), .s (.slice none 0 0), .s (.slice none 0 0), .s (.int .i64 0), .s (.slice none 0 0), .s (.int .i64 0)]⟩, some ⟨45, 15, true, none, lvs (encMsg q)⟩], 44, gh, ls⟩ : St))) y8) ?_ ?_
    ·replace h := g8; clear g8
     refine AW.block ?_
     apply AW.step
     ·simp
      intros; rfl
     replace h := ltE h; obtain ⟨v9, e9, h⟩ := h
     apply AW.step
     ·simp [← e9]
      intros; rfl
     cases v9 with
     | true =>
      replace h := iteT rfl h
      refine AW.cond_true (by simp) ?_
      replace h := chkE h; obtain ⟨e10, h⟩ := h
      replace h := ltE h; obtain ⟨v11, e11, h⟩ := h
      apply AW.last
      ·simp [← encMsg_append, ← e11, app_len1 e11]
       intros
       refine xrow_data (es := encMsg [(⟨7, v1.id, y4.1, v3, [], [], v1.master, 0, 0, (⟨0, 0⟩ : Rid), (⟨0, 0⟩ : Rid), 0, []⟩ : Msg)]) (by simp [encMsg, lvs, All2]) (encMsg_sz _) (by omega) (by simp) ?_
       try simp [← encMsg_append, ← e11, app_len1 e11]
       intros
       refine xapp_pushN (acc := encMsg y4.2) (ys := encMsg [(⟨7, v1.id, y4.1, v3, [], [], v1.master, 0, 0, (⟨0, 0⟩ : Rid), (⟨0, 0⟩ : Rid), 0, []⟩ : Msg)]) (cap := none) (k := 1) tb_el41 tb_ti45 (by simp) (by rw [src_d]; simp) (encMsg_sz _) (by simp) (by simp) (by first | (simp; done) | simpa using (room_d e10).1) ?_
       try simp [← encMsg_append, ← e11, app_len1 e11]
       intros; rfl
      obtain rfl := Option.some.inj h
      refine nP_i ?_
      refine Weak.mixN [some 0, some 1, some 3] hn0 (by decide) ?_ ?_ rfl
      all_goals first | (simp [inv_cons, inv_nil, pickOb]; done) | rfl
     | false =>
      replace h := iteF rfl h
      refine AW.cond_false (by simp) ?_
      refine AW.skip ?_
      try simp only [sp_l, sp_r, Post.seq, Post.block, Nat.reduceEqDiff, reduceIte, Nat.zero_ne_one, Nat.one_ne_zero]
      obtain rfl := Option.some.inj h
      refine nP_i ?_
      refine Weak.mixN [some 0, some 1, some 2] hn0 (by decide) ?_ ?_ rfl
      all_goals first | (simp [inv_cons, inv_nil, pickOb]; done) | rfl
    ·rintro e s hp
     obtain ⟨rfl, hw⟩ := hp
     refine ⟨_, hw, ?_⟩
     try simp only [sp_l, sp_r, Post.seq, Post.block, Nat.reduceEqDiff, reduceIte, Nat.zero_ne_one, Nat.one_ne_zero]
     replace h := ltE h; obtain ⟨v12, e12, h⟩ := h
     apply AW.last
     ·simp [← e12]
      intros; rfl
     obtain rfl := Option.some.inj h
     refine nP_i ?_
     refine Weak.mixN [some 0, some 1, some 2] hn0 (by decide) ?_ ?_ rfl
     all_goals first | (simp [inv_cons, inv_nil, pickOb]; done) | rfl
   | false =>
    replace h := iteF rfl h
    refine AW.cond_false (by simp) ?_
    refine AW.exit ?_
    try simp only [sp_l, sp_r, Post.seq, Post.block, Nat.reduceEqDiff, reduceIte, Nat.zero_ne_one, Nat.one_ne_zero]
    obtain rfl := Option.some.inj h
    refine xP_i ?_
    refine Weak.mixN [some 0, some 1, some 2] hn0 (by decide) ?_ ?_ rfl
    all_goals first | (simp [inv_cons, inv_nil, pickOb]; done) | rfl
  ·rintro e s hp
   obtain ⟨rfl, hw⟩ := hp
   refine ⟨_, hw, ?_⟩
   try simp only [sp_l, sp_r, Post.seq, Post.block, Nat.reduceEqDiff, reduceIte, Nat.zero_ne_one, Nat.one_ne_zero]
   apply AW.step
   ·simp
    intros; rfl
   refine AW.nilCellD 1 20 1 rfl rfl rfl rfl ?_
   replace h := chkE h; obtain ⟨e13, h⟩ := h
   refine AW.frzRow 2 (ty := 45) (cap := none) (sz := 15) (es := encMsg y5) (by simp) (by omega) (encMsg_sz _) (by first | exact (room_d e13).2 | simpa using (room_d e13).2 | simp) (by simp [Tm.frz, AV.frz, LV.frz]; rfl) (by simp [Ob.frz, LV.frz]; rfl) rfl ?_
   obtain rfl := Option.some.inj h
   refine AW.ret ?_
   refine Left.plain hnb (by simp [Try.f14, resV, resC, comp]; rfl) rfl rfl ?_
   simp
theorem en_vote_Ask : Enters Try.prog 14 := enters Try.func14 (by kernel_rfl) rfl
def l18_awake_sh (n : Nat)  : Option Bool :=
bn (vote_Ask_sh n (⟨3, 0, -1, 0, 0, [], [], [], 0, [], (⟨(⟨0, 0⟩ : Rid), 0, [], (⟨0, 0⟩ : Rid), 0⟩ : Feed), (⟨[], []⟩ : Watch), 0, [], 0⟩ : Node)) fun v1 =>
bn (r23_New_sh n 4 3 3) fun v2 =>
bn (vote_Ask_sh n v2) fun v3 =>
bn (lt (eqI v1.1.epoch 0) fun v5 =>
ite' v5 (lt (lenI v1.2) fun v6 =>
lt (eqI v6 0) fun v7 =>
ite' v7 (lt (eqI v3.1.asked 2) fun v8 =>
ite' v8 (lt (lenI v3.2) fun v9 =>
lt (eqI v9 3) fun v10 =>
some (v10)) (some (false))) (some (false))) (some (false))) fun (y4 : Bool) =>
some y4
set_option maxRecDepth 8000 in
set_option maxHeartbeats 8000000 in
theorem s_l18_awake {n : Nat}  {r : Bool} (h : l18_awake_sh n  = some r) : Sound Try.prog 7 [] [] (.l (.s (.bool r))) [] := by
 unfold l18_awake_sh at h
 refine Sound.of_aw (fn := Try.f7) (c := _) Try.func7 rfl (by simp [Try.f7]) fun cx hG hnb => ?_
 rw [show Try.f7.ntmps = 33 from rfl]
 have hn0 : cx.nb = 0 := hnb
 simp only [st0_mk, initTm, List.map_cons, List.map_nil]
 apply AW.step
 ·simp
  intros; rfl
 replace h := bnE h; obtain ⟨v1, e1, h⟩ := h
 apply AW.step
 ·simp
  intros
  refine xcall_plain en_vote_Ask (s_vote_Ask e1) rfl ⟨.g ⟨.s _, .s _, .s _, .s _, .s _, .nil _ _, .nil _ _, .nil _ _, .s _, .nil _ _, .s _, .s _, .s _, .nil _ _, .s _, .s _, .s _, .nil _ _, .nil _ _, .s _, .nil _ _, .s _, trivial⟩, trivial⟩ ?_
  try simp
  intros; rfl
 replace h := bnE h; obtain ⟨v2, e2, h⟩ := h
 replace h := bnE h; obtain ⟨v3, e3, h⟩ := h
 apply AW.step
 ·simp
  intros
  refine xcall_plain en_r23_New (s_r23_New e2) rfl ⟨.same rfl, .same rfl, .same rfl, trivial⟩ ?_
  try simp
  intros
  refine xcall_plain en_vote_Ask (s_vote_Ask e3) rfl ⟨.same rfl, trivial⟩ ?_
  try simp
  intros; rfl
 replace h := bnE h; obtain ⟨y4, g4, h⟩ := h
 refine AW.flow (p := fun gh ls => (nP (cx := cx) (fun q => (⟨[(0, .l (.s (.bool q)))], [], 33, gh, ls⟩ : St))) y4) ?_ ?_
 ·replace h := g4; clear g4
  replace h := ltE h; obtain ⟨v5, e5, h⟩ := h
  cases v5 with
  | true =>
   replace h := iteT rfl h
   replace h := ltE h; obtain ⟨v6, e6, h⟩ := h
   replace h := ltE h; obtain ⟨v7, e7, h⟩ := h
   cases v7 with
   | true =>
    replace h := iteT rfl h
    replace h := ltE h; obtain ⟨v8, e8, h⟩ := h
    cases v8 with
    | true =>
     replace h := iteT rfl h
     replace h := ltE h; obtain ⟨v9, e9, h⟩ := h
     replace h := ltE h; obtain ⟨v10, e10, h⟩ := h
     apply AW.last
     ·simp [← e5, lenI_cast e6, ← e7, ← e8, lenI_cast e9, ← e10]
      intros; rfl
     obtain rfl := Option.some.inj h
     refine nP_i ?_
     refine Weak.mixN [] hn0 (by decide) ?_ ?_ rfl
     all_goals first | (simp [inv_cons, inv_nil, pickOb]; done) | rfl
    | false =>
     replace h := iteF rfl h
     apply AW.last
     ·simp [← e5, lenI_cast e6, ← e7, ← e8]
      intros; rfl
     obtain rfl := Option.some.inj h
     refine nP_i ?_
     refine Weak.mixN [] hn0 (by decide) ?_ ?_ rfl
     all_goals first | (simp [inv_cons, inv_nil, pickOb]; done) | rfl
   | false =>
    replace h := iteF rfl h
    apply AW.last
    ·simp [← e5, lenI_cast e6, ← e7]
     intros; rfl
    obtain rfl := Option.some.inj h
    refine nP_i ?_
    refine Weak.mixN [] hn0 (by decide) ?_ ?_ rfl
    all_goals first | (simp [inv_cons, inv_nil, pickOb]; done) | rfl
  | false =>
   replace h := iteF rfl h
   apply AW.last
   ·simp [← e5]
    intros; rfl
   obtain rfl := Option.some.inj h
   refine nP_i ?_
   refine Weak.mixN [] hn0 (by decide) ?_ ?_ rfl
   all_goals first | (simp [inv_cons, inv_nil, pickOb]; done) | rfl
 ·rintro e s hp
  obtain ⟨rfl, hw⟩ := hp
  refine ⟨_, hw, ?_⟩
  try simp only [sp_l, sp_r, Post.seq, Post.block, Nat.reduceEqDiff, reduceIte, Nat.zero_ne_one, Nat.one_ne_zero]
  obtain rfl := Option.some.inj h
  refine AW.ret ?_
  refine Left.plain hnb (by simp [Try.f7, resV, resC, comp]; rfl) rfl rfl ?_
  simp
theorem en_l18_awake : Enters Try.prog 7 := enters Try.func7 (by kernel_rfl) rfl
def l18_VoteOnce_sh (n : Nat) (a0 : List Int) (a1 : Int) : Option Bool :=
lt (lenI a0) fun v1 =>
lt (gtI v1 60) fun v2 =>
ite' v2 (bn (l18_awake_sh n) fun v3 =>
some v3) (lt (cvI .i64 a1) fun v4 =>
bn (remI .i64 v4 3) fun v5 =>
lt (addI .i64 1 v5) fun v6 =>
bn (r23_New_sh n 8 v6 5) fun v7 =>
bn (l18_Silent_sh n v7 0) fun v8 =>
bn (iter n (fun (y9 : Int × Int × Int × Int × Int × Int × Int × List Claim × List Pair × List Move × Int × List Seen × Int × Int × Int × List Effect × Int × Int × Int × List Int × List (List Int) × Int × List Int × Int) =>
lt (lenI a0) fun v12 =>
lt (ltI y9.2.1 v12) fun v13 =>
ite' v13 (bn (nth a0 y9.2.1) fun v14 =>
lt (cvI .i64 v14) fun v15 =>
bn (remI .i64 v15 24) fun v16 =>
bn (quoI .i64 v15 32) fun v17 =>
bn (remI .i64 v17 3) fun v18 =>
lt (addI .i64 5 v18) fun v19 =>
bn (quoI .i64 v15 16) fun v20 =>
bn (remI .i64 v20 2) fun v21 =>
lt (mulI .i64 v21 4) fun v22 =>
bn (vote_Grant_sh n (⟨y9.2.2.1, y9.2.2.2.1, y9.2.2.2.2.1, y9.2.2.2.2.2.1, y9.2.2.2.2.2.2.1, y9.2.2.2.2.2.2.2.1, y9.2.2.2.2.2.2.2.2.1, y9.2.2.2.2.2.2.2.2.2.1, y9.2.2.2.2.2.2.2.2.2.2.1, y9.2.2.2.2.2.2.2.2.2.2.2.1, (⟨(⟨y9.2.2.2.2.2.2.2.2.2.2.2.2.1, y9.2.2.2.2.2.2.2.2.2.2.2.2.2.1⟩ : Rid), y9.2.2.2.2.2.2.2.2.2.2.2.2.2.2.1, y9.2.2.2.2.2.2.2.2.2.2.2.2.2.2.2.1, (⟨y9.2.2.2.2.2.2.2.2.2.2.2.2.2.2.2.2.1, y9.2.2.2.2.2.2.2.2.2.2.2.2.2.2.2.2.2.1⟩ : Rid), y9.2.2.2.2.2.2.2.2.2.2.2.2.2.2.2.2.2.2.1⟩ : Feed), (⟨y9.2.2.2.2.2.2.2.2.2.2.2.2.2.2.2.2.2.2.2.1, y9.2.2.2.2.2.2.2.2.2.2.2.2.2.2.2.2.2.2.2.2.1⟩ : Watch), y9.2.2.2.2.2.2.2.2.2.2.2.2.2.2.2.2.2.2.2.2.2.1, y9.2.2.2.2.2.2.2.2.2.2.2.2.2.2.2.2.2.2.2.2.2.2.1, y9.2.2.2.2.2.2.2.2.2.2.2.2.2.2.2.2.2.2.2.2.2.2.2⟩ : Node) (⟨7, v19, y9.2.2.2.1, v16, [], [], v22, 0, 0, (⟨0, 0⟩ : Rid), (⟨0, 0⟩ : Rid), 0, []⟩ : Msg)) fun v23 =>
bn (lt (lenI v23.2) fun v25 =>
lt (gtI v25 1) fun v26 =>
ite' v26 (some (true)) (lt (ltI v23.1.epoch y9.2.2.2.2.2.1) fun v27 =>
ite' v27 (some (true)) (lt (ltI v23.1.voted y9.2.2.2.2.2.2.1) fun v28 =>
some (v28)))) fun (y24 : Bool) =>
lt (y24) fun v29 =>
ite' v29 (some (.inr (.inr false))) (bn (lt (lenI v23.2) fun v31 =>
lt (eqI v31 1) fun v32 =>
ite' v32 (bn (lt (leI v16 y9.1) fun v34 =>
ite' v34 (some (true)) (lt (ltI v16 y9.2.2.2.2.2.1) fun v35 =>
ite' v35 (some (true)) (lt (neI v23.1.voted v16) fun v36 =>
ite' v36 (some (true)) (bn (nth v23.2 0) fun v37 =>
lt (neI v37.epoch v16) fun v38 =>
ite' v38 (some (true)) (bn (nth a0 y9.2.1) fun v39 =>
lt (cvI .i64 v39) fun v40 =>
bn (quoI .i64 v40 32) fun v41 =>
bn (remI .i64 v41 3) fun v42 =>
lt (addI .i64 5 v42) fun v43 =>
lt (neI v37.to v43) fun v44 =>
ite' v44 (some (true)) (bn (quoI .i64 v40 16) fun v45 =>
bn (remI .i64 v45 2) fun v46 =>
lt (neI v46 0) fun v47 =>
some (v47))))))) fun (y33 : Bool) =>
lt (y33) fun v48 =>
ite' v48 (some (.inr false)) (some (.inl v16))) (some (.inl y9.1))) fun (y30 : Int ⊕ Bool) =>
sm y30 (fun y49 => lt (addI .i64 y9.2.1 1) fun v51 =>
some (.inl (y49, v51, v23.1.count, v23.1.id, v23.1.master, v23.1.epoch, v23.1.voted, v23.1.claims, v23.1.db, v23.1.moves, v23.1.last, v23.1.seen, v23.1.feed.rid.node, v23.1.feed.rid.epoch, v23.1.feed.off, v23.1.feed.back, v23.1.feed.prev.node, v23.1.feed.prev.epoch, v23.1.feed.upto, v23.1.watch.heard, v23.1.watch.says, v23.1.asked, v23.1.votes, v23.1.wait))) (fun y50 => some (.inr (.inr y50))))) (some (.inr (.inl ())))) (0, 0, v8.count, v8.id, v8.master, v8.epoch, v8.voted, v8.claims, v8.db, v8.moves, v8.last, v8.seen, v8.feed.rid.node, v8.feed.rid.epoch, v8.feed.off, v8.feed.back, v8.feed.prev.node, v8.feed.prev.epoch, v8.feed.upto, v8.watch.heard, v8.watch.says, v8.asked, v8.votes, v8.wait)) fun (y10 : Unit ⊕ Bool) =>
sm y10 (fun y52 => bn (l18_awake_sh n) fun v54 =>
some v54) (fun y53 => some y53))
set_option maxRecDepth 8000 in
set_option maxHeartbeats 8000000 in
theorem s_l18_VoteOnce {n : Nat} {a0 : List Int} {a1 : Int} {r : Bool} (h : l18_VoteOnce_sh n a0 a1 = some r) : Sound Try.prog 3 [.l (.d false 1 (encU a0)), .l (.s (.int .u8 a1))] [] (.l (.s (.bool r))) [] := by
 unfold l18_VoteOnce_sh at h
 refine Sound.of_aw (fn := Try.f3) (c := _) Try.func3 rfl (by simp [Try.f3]) fun cx hG hnb => ?_
 rw [show Try.f3.ntmps = 129 from rfl]
 have hn0 : cx.nb = 0 := hnb
 simp only [st0_mk, initTm, List.map_cons, List.map_nil]
 apply AW.step
 ·simp
  intros; rfl
 refine AW.seq ?_
 replace h := ltE h; obtain ⟨v1, e1, h⟩ := h
 replace h := ltE h; obtain ⟨v2, e2, h⟩ := h
 apply AW.step
 ·simp [lenI_cast e1, ← e2]
  intros; rfl
 cases v2 with
 | true =>
  replace h := iteT rfl h
  refine AW.cond_true (by simp) ?_
  replace h := bnE h; obtain ⟨v3, e3, h⟩ := h
  apply AW.step
  ·simp
   intros
   refine xcall_plain en_l18_awake (s_l18_awake e3) rfl trivial ?_
   try simp
   intros; rfl
  obtain rfl := Option.some.inj h
  refine AW.ret ?_
  refine Left.plain hnb (by simp [Try.f3, resV, resC, comp]; rfl) rfl rfl ?_
  simp
 | false =>
  replace h := iteF rfl h
  refine AW.cond_false (by simp) ?_
  refine AW.skip ?_
  try simp only [sp_l, sp_r, Post.seq, Post.block, Nat.reduceEqDiff, reduceIte, Nat.zero_ne_one, Nat.one_ne_zero]
  try simp only [sp_l, sp_r, Post.seq, Post.block, Nat.reduceEqDiff, reduceIte, Nat.zero_ne_one, Nat.one_ne_zero]
  replace h := ltE h; obtain ⟨v4, e4, h⟩ := h
  replace h := bnE h; obtain ⟨v5, e5, h⟩ := h
  replace h := ltE h; obtain ⟨v6, e6, h⟩ := h
  replace h := bnE h; obtain ⟨v7, e7, h⟩ := h
  replace h := bnE h; obtain ⟨v8, e8, h⟩ := h
  apply AW.step
  ·simp [← e4, e5, ← e6]
   intros
   refine xcall_plain en_r23_New (s_r23_New e7) rfl ⟨.same rfl, .same rfl, .same rfl, trivial⟩ ?_
   try simp [← e4, e5, ← e6]
   intros
   refine xcall_plain en_l18_Silent (s_l18_Silent e8) rfl ⟨.same rfl, .same rfl, trivial⟩ ?_
   try simp [← e4, e5, ← e6]
   intros; rfl
  apply AW.step
  ·simp
   intros; rfl
  refine AW.seq ?_
  apply AW.step
  ·simp
   intros; rfl
  refine AW.block ?_
  replace h := bnE h; obtain ⟨y10, g10, h⟩ := h
  refine AW.iterP g10 (mk := fun gh ls q => (⟨[(0, .l (.d false 1 (encU a0))), (5, .l (.p 0 0)), (6, .l (.s (.int .i64 q.1))), (7, .l (.s (.int .i64 q.2.1)))], [some ⟨38, 22, false, none, [.s (.int .i64 q.2.2.1), .s (.int .i64 q.2.2.2.1), .s (.int .i64 q.2.2.2.2.1), .s (.int .i64 q.2.2.2.2.2.1), .s (.int .i64 q.2.2.2.2.2.2.1), .d false 4 (encClaim q.2.2.2.2.2.2.2.1), .d false 6 (encPair q.2.2.2.2.2.2.2.2.1), .d false 4 (encMove q.2.2.2.2.2.2.2.2.2.1), .s (.int .i64 q.2.2.2.2.2.2.2.2.2.2.1), .d false 3 (encSeen q.2.2.2.2.2.2.2.2.2.2.2.1), .s (.int .i64 q.2.2.2.2.2.2.2.2.2.2.2.2.1), .s (.int .i64 q.2.2.2.2.2.2.2.2.2.2.2.2.2.1), .s (.int .i64 q.2.2.2.2.2.2.2.2.2.2.2.2.2.2.1), .d false 7 (encEffect q.2.2.2.2.2.2.2.2.2.2.2.2.2.2.2.1), .s (.int .i64 q.2.2.2.2.2.2.2.2.2.2.2.2.2.2.2.2.1), .s (.int .i64 q.2.2.2.2.2.2.2.2.2.2.2.2.2.2.2.2.2.1), .s (.int .i64 q.2.2.2.2.2.2.2.2.2.2.2.2.2.2.2.2.2.2.1), .d false 1 (encI q.2.2.2.2.2.2.2.2.2.2.2.2.2.2.2.2.2.2.2.1), .d false 1 (encLI q.2.2.2.2.2.2.2.2.2.2.2.2.2.2.2.2.2.2.2.2.1), .s (.int .i64 q.2.2.2.2.2.2.2.2.2.2.2.2.2.2.2.2.2.2.2.2.2.1), .d false 1 (encI q.2.2.2.2.2.2.2.2.2.2.2.2.2.2.2.2.2.2.2.2.2.2.1), .s (.int .i64 q.2.2.2.2.2.2.2.2.2.2.2.2.2.2.2.2.2.2.2.2.2.2.2)]⟩], 129, gh, ls⟩ : St)) (N := fun gh ls => (sp (xP 0 (cx := cx) (fun _ => (⟨[], [], 129, gh, ls⟩ : St))) (rP (cx := cx) (P := Try.prog) Try.f3 (fun q => .l (.s (.bool q))) (fun q => [])))) ?_ (noS noX noR) ?_ ?_
  ·refine Weak.mixN [some 0] hn0 (by decide) ?_ ?_ rfl
   all_goals first | (simp [inv_cons, inv_nil, pickOb]; done) | rfl
  ·clear h; intro y9 y11 h
   refine AW.seq ?_
   replace h := ltE h; obtain ⟨v12, e12, h⟩ := h
   replace h := ltE h; obtain ⟨v13, e13, h⟩ := h
   apply AW.step
   ·simp [lenI_cast e12, ← e13]
    intros; rfl
   cases v13 with
   | true =>
    replace h := iteT rfl h
    refine AW.cond_true (by simp) ?_
    refine AW.skip ?_
    try simp only [sp_l, sp_r, Post.seq, Post.block, Nat.reduceEqDiff, reduceIte, Nat.zero_ne_one, Nat.one_ne_zero]
    try simp only [sp_l, sp_r, Post.seq, Post.block, Nat.reduceEqDiff, reduceIte, Nat.zero_ne_one, Nat.one_ne_zero]
    refine AW.seq ?_
    refine AW.block ?_
    replace h := bnE h; obtain ⟨v14, e14, h⟩ := h
    replace h := ltE h; obtain ⟨v15, e15, h⟩ := h
    replace h := bnE h; obtain ⟨v16, e16, h⟩ := h
    apply AW.step
    ·simp [nth_d e14, ← e15, e16]
     intros; rfl
    replace h := bnE h; obtain ⟨v17, e17, h⟩ := h
    replace h := bnE h; obtain ⟨v18, e18, h⟩ := h
    replace h := ltE h; obtain ⟨v19, e19, h⟩ := h
    replace h := bnE h; obtain ⟨v20, e20, h⟩ := h
    replace h := bnE h; obtain ⟨v21, e21, h⟩ := h
    replace h := ltE h; obtain ⟨v22, e22, h⟩ := h
    replace h := bnE h; obtain ⟨v23, e23, h⟩ := h
    apply AW.drawnE (V := [_, _, _, _, _, _, _, _, _, _, _, _, _, _, _, _, _, _, _, _, _, _, _, _, _, _, _]) (M := [[some ⟨38, 22, false, none, [.s (.int .i64 y9.2.2.1), .s (.int .i64 y9.2.2.2.1), .s (.int .i64 y9.2.2.2.2.1), .s (.int .i64 y9.2.2.2.2.2.1), .s (.int .i64 y9.2.2.2.2.2.2.1), .d false 4 (encClaim y9.2.2.2.2.2.2.2.1), .d false 6 (encPair y9.2.2.2.2.2.2.2.2.1), .d false 4 (encMove y9.2.2.2.2.2.2.2.2.2.1), .s (.int .i64 y9.2.2.2.2.2.2.2.2.2.2.1), .d false 3 (encSeen y9.2.2.2.2.2.2.2.2.2.2.2.1), .s (.int .i64 y9.2.2.2.2.2.2.2.2.2.2.2.2.1), .s (.int .i64 y9.2.2.2.2.2.2.2.2.2.2.2.2.2.1), .s (.int .i64 y9.2.2.2.2.2.2.2.2.2.2.2.2.2.2.1), .d false 7 (encEffect y9.2.2.2.2.2.2.2.2.2.2.2.2.2.2.2.1), .s (.int .i64 y9.2.2.2.2.2.2.2.2.2.2.2.2.2.2.2.2.1), .s (.int .i64 y9.2.2.2.2.2.2.2.2.2.2.2.2.2.2.2.2.2.1), .s (.int .i64 y9.2.2.2.2.2.2.2.2.2.2.2.2.2.2.2.2.2.2.1), .d false 1 (encI y9.2.2.2.2.2.2.2.2.2.2.2.2.2.2.2.2.2.2.2.1), .d false 1 (encLI y9.2.2.2.2.2.2.2.2.2.2.2.2.2.2.2.2.2.2.2.2.1), .s (.int .i64 y9.2.2.2.2.2.2.2.2.2.2.2.2.2.2.2.2.2.2.2.2.2.1), .d false 1 (encI y9.2.2.2.2.2.2.2.2.2.2.2.2.2.2.2.2.2.2.2.2.2.2.1), .s (.int .i64 y9.2.2.2.2.2.2.2.2.2.2.2.2.2.2.2.2.2.2.2.2.2.2.2)]⟩], [some ⟨38, 22, false, none, [.s (.int .i64 y9.2.2.1), .s (.int .i64 y9.2.2.2.1), .s (.int .i64 y9.2.2.2.2.1), .s (.int .i64 y9.2.2.2.2.2.1), .s (.int .i64 y9.2.2.2.2.2.2.1), .d false 4 (encClaim y9.2.2.2.2.2.2.2.1), .d false 6 (encPair y9.2.2.2.2.2.2.2.2.1), .d false 4 (encMove y9.2.2.2.2.2.2.2.2.2.1), .s (.int .i64 y9.2.2.2.2.2.2.2.2.2.2.1), .d false 3 (encSeen y9.2.2.2.2.2.2.2.2.2.2.2.1), .s (.int .i64 y9.2.2.2.2.2.2.2.2.2.2.2.2.1), .s (.int .i64 y9.2.2.2.2.2.2.2.2.2.2.2.2.2.1), .s (.int .i64 y9.2.2.2.2.2.2.2.2.2.2.2.2.2.2.1), .d false 7 (encEffect y9.2.2.2.2.2.2.2.2.2.2.2.2.2.2.2.1), .s (.int .i64 y9.2.2.2.2.2.2.2.2.2.2.2.2.2.2.2.2.1), .s (.int .i64 y9.2.2.2.2.2.2.2.2.2.2.2.2.2.2.2.2.2.1), .s (.int .i64 y9.2.2.2.2.2.2.2.2.2.2.2.2.2.2.2.2.2.2.1), .d false 1 (encI y9.2.2.2.2.2.2.2.2.2.2.2.2.2.2.2.2.2.2.2.1), .d false 1 (encLI y9.2.2.2.2.2.2.2.2.2.2.2.2.2.2.2.2.2.2.2.2.1), .s (.int .i64 y9.2.2.2.2.2.2.2.2.2.2.2.2.2.2.2.2.2.2.2.2.2.1), .d false 1 (encI y9.2.2.2.2.2.2.2.2.2.2.2.2.2.2.2.2.2.2.2.2.2.2.1), .s (.int .i64 y9.2.2.2.2.2.2.2.2.2.2.2.2.2.2.2.2.2.2.2.2.2.2.2)]⟩, some ⟨38, 22, false, none, [.s (.int .i64 0), .s (.int .i64 0), .s (.int .i64 0), .s (.int .i64 0), .s (.int .i64 0), .s (.slice none 0 0), .s (.slice none 0 0), .s (.slice none 0 0), .s (.int .i64 0), .s (.slice none 0 0), .s (.int .i64 0), .s (.int .i64 0), .s (.int .i64 0), .s (.slice none 0 0), .s (.int .i64 0), .s (.int .i64 0), .s (.int .i64 0), .s (.slice none 0 0), .s (.slice none 0 0), .s (.int .i64 0), .s (.slice none 0 0), .s (.int .i64 0)]⟩], [some ⟨38, 22, false, none, [.s (.int .i64 y9.2.2.1), .s (.int .i64 y9.2.2.2.1), .s (.int .i64 y9.2.2.2.2.1), .s (.int .i64 y9.2.2.2.2.2.1), .s (.int .i64 y9.2.2.2.2.2.2.1), .d false 4 (encClaim y9.2.2.2.2.2.2.2.1), .d false 6 (encPair y9.2.2.2.2.2.2.2.2.1), .d false 4 (encMove y9.2.2.2.2.2.2.2.2.2.1), .s (.int .i64 y9.2.2.2.2.2.2.2.2.2.2.1), .d false 3 (encSeen y9.2.2.2.2.2.2.2.2.2.2.2.1), .s (.int .i64 y9.2.2.2.2.2.2.2.2.2.2.2.2.1), .s (.int .i64 y9.2.2.2.2.2.2.2.2.2.2.2.2.2.1), .s (.int .i64 y9.2.2.2.2.2.2.2.2.2.2.2.2.2.2.1), .d false 7 (encEffect y9.2.2.2.2.2.2.2.2.2.2.2.2.2.2.2.1), .s (.int .i64 y9.2.2.2.2.2.2.2.2.2.2.2.2.2.2.2.2.1), .s (.int .i64 y9.2.2.2.2.2.2.2.2.2.2.2.2.2.2.2.2.2.1), .s (.int .i64 y9.2.2.2.2.2.2.2.2.2.2.2.2.2.2.2.2.2.2.1), .d false 1 (encI y9.2.2.2.2.2.2.2.2.2.2.2.2.2.2.2.2.2.2.2.1), .d false 1 (encLI y9.2.2.2.2.2.2.2.2.2.2.2.2.2.2.2.2.2.2.2.2.1), .s (.int .i64 y9.2.2.2.2.2.2.2.2.2.2.2.2.2.2.2.2.2.2.2.2.2.1), .d false 1 (encI y9.2.2.2.2.2.2.2.2.2.2.2.2.2.2.2.2.2.2.2.2.2.2.1), .s (.int .i64 y9.2.2.2.2.2.2.2.2.2.2.2.2.2.2.2.2.2.2.2.2.2.2.2)]⟩, some ⟨38, 22, false, none, [.s (.int .i64 v23.1.count), .s (.int .i64 v23.1.id), .s (.int .i64 v23.1.master), .s (.int .i64 v23.1.epoch), .s (.int .i64 v23.1.voted), .d false 4 (encClaim v23.1.claims), .d false 6 (encPair v23.1.db), .d false 4 (encMove v23.1.moves), .s (.int .i64 v23.1.last), .d false 3 (encSeen v23.1.seen), .s (.int .i64 v23.1.feed.rid.node), .s (.int .i64 v23.1.feed.rid.epoch), .s (.int .i64 v23.1.feed.off), .d false 7 (encEffect v23.1.feed.back), .s (.int .i64 v23.1.feed.prev.node), .s (.int .i64 v23.1.feed.prev.epoch), .s (.int .i64 v23.1.feed.upto), .d false 1 (encI v23.1.watch.heard), .d false 1 (encLI v23.1.watch.says), .s (.int .i64 v23.1.asked), .d false 1 (encI v23.1.votes), .s (.int .i64 v23.1.wait)]⟩]]) mixed [⟨[0, 1], [], [(5, none)], false⟩, ⟨[0, 1], [], [(0, none)], false⟩, ⟨[0, 1], [], [(7, none)], false⟩, ⟨[0, 1], [1, 2], [(35, some 1), (36, some 2)], false⟩, ⟨[0, 1], [1, 2, 3], [(37, some 3)], false⟩, ⟨[0, 1], [1, 2, 3, 4], [(38, some 4)], false⟩, ⟨[0, 1], [1, 2, 3, 4, 5], [(39, some 5)], false⟩, ⟨[0, 1], [1, 2, 3, 4, 5, 6], [(40, some 6)], false⟩, ⟨[0, 1], [1, 2, 3, 4, 5, 6, 7], [(41, some 7)], false⟩, ⟨[0, 1], [], [(5, none)], false⟩, ⟨[0, 1], [9], [(43, some 9)], false⟩, ⟨[0, 1], [], [(8, none)], false⟩, ⟨[0, 1], [], [(0, none)], false⟩, ⟨[0, 1], [], [(7, none)], false⟩, ⟨[0, 1], [12, 13], [(46, some 12), (47, some 13)], false⟩, ⟨[0, 1], [12, 13, 14], [(48, some 14)], false⟩, ⟨[0, 1], [12, 13, 14, 15], [(49, some 15)], false⟩, ⟨[0, 1], [12, 13, 14, 15, 16], [(50, some 16)], false⟩, ⟨[0, 1], [12, 13, 14, 15, 16, 17], [(51, some 17)], false⟩, ⟨[0, 1], [12, 13, 14, 15, 16, 17, 18], [(52, some 18)], false⟩, ⟨[0, 1], [1, 2, 3, 4, 5, 6, 7, 8, 9, 10, 11, 12, 13, 14, 15, 16, 17, 18, 19], [(42, some 8), (44, some 10), (45, some 11), (53, some 19)], false⟩, ⟨[0, 1], [0, 1, 2, 3, 4, 5, 6, 7, 8, 9, 10, 11, 12, 13, 14, 15, 16, 17, 18, 19, 20], [(34, some 0), (54, some 20)], false⟩, ⟨[0, 1], [0, 1, 2, 3, 4, 5, 6, 7, 8, 9, 10, 11, 12, 13, 14, 15, 16, 17, 18, 19, 20, 21], [(55, some 21)], false⟩, ⟨[0, 1], [0, 1, 2, 3, 4, 5, 6, 7, 8, 9, 10, 11, 12, 13, 14, 15, 16, 17, 18, 19, 20, 21, 22], [(33, some 22)], false⟩, ⟨[0, 1, 2], [0, 1, 2, 3, 4, 5, 6, 7, 8, 9, 10, 11, 12, 13, 14, 15, 16, 17, 18, 19, 20, 21, 22], [(33, some 22)], false⟩, ⟨[0], [], [], true⟩, ⟨[1], [0, 1, 2, 3, 4, 5, 6, 7, 8, 9, 10, 11, 12, 13, 14, 15, 16, 17, 18, 19, 20, 21, 22, 23, 25], [(9, some 25), (56, some 23)], true⟩, ⟨[], [0, 1, 2, 3, 4, 5, 6, 7, 8, 9, 10, 11, 12, 13, 14, 15, 16, 17, 18, 19, 20, 21, 22, 23, 24, 25, 26], [], false⟩] 27 2 (by kernel_rfl) (by kernel_rfl)
    ·rfl
    ·refine ⟨⟨?_, ?_⟩, ⟨?_, ?_⟩, ⟨?_, ?_⟩, ⟨?_, ?_⟩, ⟨?_, ?_⟩, ⟨?_, ?_⟩, ⟨?_, ?_⟩, ⟨?_, ?_⟩, ⟨?_, ?_⟩, ⟨?_, ?_⟩, ⟨?_, ?_⟩, ⟨?_, ?_⟩, ⟨?_, ?_⟩, ⟨?_, ?_⟩, ⟨?_, ?_⟩, ⟨?_, ?_⟩, ⟨?_, ?_⟩, ⟨?_, ?_⟩, ⟨?_, ?_⟩, ⟨?_, ?_⟩, ⟨?_, ?_⟩, ⟨?_, ?_⟩, ⟨?_, ?_⟩, ⟨?_, ?_⟩, ⟨?_, ?_, ?_⟩, ?_, ?_, trivial⟩
     ·intro tm hr
      simp [AllL, rdV] at hr
      simp [hr, nth_d e14, ← e15, e17, e18, ← e19, e20, e21, ← e22]
      intros; first | exact KD.mk | exact KD.mkN
     ·intro tm hr
      simp [AllL, rdV] at hr
      simp [hr, nth_d e14, ← e15, e17, e18, ← e19, e20, e21, ← e22]
      intros; first | exact KD.mk | exact KD.mkN
     ·intro tm hr
      simp [AllL, rdV] at hr
      simp [hr, nth_d e14, ← e15, e17, e18, ← e19, e20, e21, ← e22]
      intros; first | exact KD.mk | exact KD.mkN
     ·intro tm hr
      simp [AllL, rdV] at hr
      simp [hr, nth_d e14, ← e15, e17, e18, ← e19, e20, e21, ← e22]
      intros; first | exact KD.mk | exact KD.mkN
     ·intro tm hr
      simp [AllL, rdV] at hr
      simp [hr, nth_d e14, ← e15, e17, e18, ← e19, e20, e21, ← e22]
      intros; first | exact KD.mk | exact KD.mkN
     ·intro tm hr
      simp [AllL, rdV] at hr
      simp [hr, nth_d e14, ← e15, e17, e18, ← e19, e20, e21, ← e22]
      intros; first | exact KD.mk | exact KD.mkN
     ·intro tm hr
      simp [AllL, rdV] at hr
      simp [hr, nth_d e14, ← e15, e17, e18, ← e19, e20, e21, ← e22]
      intros; first | exact KD.mk | exact KD.mkN
     ·intro tm hr
      simp [AllL, rdV] at hr
      simp [hr, nth_d e14, ← e15, e17, e18, ← e19, e20, e21, ← e22]
      intros; first | exact KD.mk | exact KD.mkN
     ·intro tm hr
      simp [AllL, rdV] at hr
      simp [hr, nth_d e14, ← e15, e17, e18, ← e19, e20, e21, ← e22]
      intros; first | exact KD.mk | exact KD.mkN
     ·intro tm hr
      simp [AllL, rdV] at hr
      simp [hr, nth_d e14, ← e15, e17, e18, ← e19, e20, e21, ← e22]
      intros; first | exact KD.mk | exact KD.mkN
     ·intro tm hr
      simp [AllL, rdV] at hr
      simp [hr, nth_d e14, ← e15, e17, e18, ← e19, e20, e21, ← e22]
      intros; first | exact KD.mk | exact KD.mkN
     ·intro tm hr
      simp [AllL, rdV] at hr
      simp [hr, nth_d e14, ← e15, e17, e18, ← e19, e20, e21, ← e22]
      intros; first | exact KD.mk | exact KD.mkN
     ·intro tm hr
      simp [AllL, rdV] at hr
      simp [hr, nth_d e14, ← e15, e17, e18, ← e19, e20, e21, ← e22]
      intros; first | exact KD.mk | exact KD.mkN
     ·intro tm hr
      simp [AllL, rdV] at hr
      simp [hr, nth_d e14, ← e15, e17, e18, ← e19, e20, e21, ← e22]
      intros; first | exact KD.mk | exact KD.mkN
     ·intro tm hr
      simp [AllL, rdV] at hr
      simp [hr, nth_d e14, ← e15, e17, e18, ← e19, e20, e21, ← e22]
      intros; first | exact KD.mk | exact KD.mkN
     ·intro tm hr
      simp [AllL, rdV] at hr
      simp [hr, nth_d e14, ← e15, e17, e18, ← e19, e20, e21, ← e22]
      intros; first | exact KD.mk | exact KD.mkN
     ·intro tm hr
      simp [AllL, rdV] at hr
      simp [hr, nth_d e14, ← e15, e17, e18, ← e19, e20, e21, ← e22]
      intros; first | exact KD.mk | exact KD.mkN
     ·intro tm hr
      simp [AllL, rdV] at hr
      simp [hr, nth_d e14, ← e15, e17, e18, ← e19, e20, e21, ← e22]
      intros; first | exact KD.mk | exact KD.mkN
     ·intro tm hr
      simp [AllL, rdV] at hr
      simp [hr, nth_d e14, ← e15, e17, e18, ← e19, e20, e21, ← e22]
      intros; first | exact KD.mk | exact KD.mkN
     ·intro tm hr
      simp [AllL, rdV] at hr
      simp [hr, nth_d e14, ← e15, e17, e18, ← e19, e20, e21, ← e22]
      intros; first | exact KD.mk | exact KD.mkN
     ·intro tm hr
      simp [AllL, rdV] at hr
      simp [hr, nth_d e14, ← e15, e17, e18, ← e19, e20, e21, ← e22]
      intros; first | exact KD.mk | exact KD.mkN
     ·intro tm hr
      simp [AllL, rdV] at hr
      simp [hr, nth_d e14, ← e15, e17, e18, ← e19, e20, e21, ← e22]
      intros; first | exact KD.mk | exact KD.mkN
     ·intro tm hr
      simp [AllL, rdV] at hr
      simp [hr, nth_d e14, ← e15, e17, e18, ← e19, e20, e21, ← e22]
      intros; first | exact KD.mk | exact KD.mkN
     ·intro tm hr
      simp [AllL, rdV] at hr
      simp [hr, nth_d e14, ← e15, e17, e18, ← e19, e20, e21, ← e22]
      intros; first | exact KD.mk | exact KD.mkN
     ·intro tm hr
      simp [AllL, rdV] at hr
      simp [hr, nth_d e14, ← e15, e17, e18, ← e19, e20, e21, ← e22]
      intros; first | exact KD.mk | exact KD.mkN
     ·intro tm hr
      simp [AllL, rdV] at hr
      simp [hr, nth_d e14, ← e15, e17, e18, ← e19, e20, e21, ← e22]
      intros; first | exact KD.mk | exact KD.mkN
     ·intro tm hr
      simp [AllL, rdV] at hr
      simp [hr, nth_d e14, ← e15, e17, e18, ← e19, e20, e21, ← e22]
      intros; first | exact KD.mk | exact KD.mkN
     ·intro tm hr
      simp [AllL, rdV] at hr
      simp [hr, nth_d e14, ← e15, e17, e18, ← e19, e20, e21, ← e22]
      intros; first | exact KD.mk | exact KD.mkN
     ·intro tm hr
      simp [AllL, rdV] at hr
      simp [hr, nth_d e14, ← e15, e17, e18, ← e19, e20, e21, ← e22]
      intros; first | exact KD.mk | exact KD.mkN
     ·intro tm hr
      simp [AllL, rdV] at hr
      simp [hr, nth_d e14, ← e15, e17, e18, ← e19, e20, e21, ← e22]
      intros; first | exact KD.mk | exact KD.mkN
     ·intro tm hr
      simp [AllL, rdV] at hr
      simp [hr, nth_d e14, ← e15, e17, e18, ← e19, e20, e21, ← e22]
      intros; first | exact KD.mk | exact KD.mkN
     ·intro tm hr
      simp [AllL, rdV] at hr
      simp [hr, nth_d e14, ← e15, e17, e18, ← e19, e20, e21, ← e22]
      intros; first | exact KD.mk | exact KD.mkN
     ·intro tm hr
      simp [AllL, rdV] at hr
      simp [hr, nth_d e14, ← e15, e17, e18, ← e19, e20, e21, ← e22]
      intros; first | exact KD.mk | exact KD.mkN
     ·intro tm hr
      simp [AllL, rdV] at hr
      simp [hr, nth_d e14, ← e15, e17, e18, ← e19, e20, e21, ← e22]
      intros; first | exact KD.mk | exact KD.mkN
     ·intro tm hr
      simp [AllL, rdV] at hr
      simp [hr, nth_d e14, ← e15, e17, e18, ← e19, e20, e21, ← e22]
      intros; first | exact KD.mk | exact KD.mkN
     ·intro tm hr
      simp [AllL, rdV] at hr
      simp [hr, nth_d e14, ← e15, e17, e18, ← e19, e20, e21, ← e22]
      intros; first | exact KD.mk | exact KD.mkN
     ·intro tm hr
      simp [AllL, rdV] at hr
      simp [hr, nth_d e14, ← e15, e17, e18, ← e19, e20, e21, ← e22]
      intros; first | exact KD.mk | exact KD.mkN
     ·intro tm hr
      simp [AllL, rdV] at hr
      simp [hr, nth_d e14, ← e15, e17, e18, ← e19, e20, e21, ← e22]
      intros; first | exact KD.mk | exact KD.mkN
     ·intro tm hr
      simp [AllL, rdV] at hr
      simp [hr, nth_d e14, ← e15, e17, e18, ← e19, e20, e21, ← e22]
      intros; first | exact KD.mk | exact KD.mkN
     ·intro tm hr
      simp [AllL, rdV] at hr
      simp [hr, nth_d e14, ← e15, e17, e18, ← e19, e20, e21, ← e22]
      intros; first | exact KD.mk | exact KD.mkN
     ·intro tm hr
      simp [AllL, rdV] at hr
      simp [hr, nth_d e14, ← e15, e17, e18, ← e19, e20, e21, ← e22]
      intros; first | exact KD.mk | exact KD.mkN
     ·intro tm hr
      simp [AllL, rdV] at hr
      simp [hr, nth_d e14, ← e15, e17, e18, ← e19, e20, e21, ← e22]
      intros; first | exact KD.mk | exact KD.mkN
     ·intro tm hr
      simp [AllL, rdV] at hr
      simp [hr, nth_d e14, ← e15, e17, e18, ← e19, e20, e21, ← e22]
      intros
      refine xcall_plain en_vote_Grant (s_vote_Grant e23) rfl ⟨.same rfl, .g ⟨.s _, .s _, .s _, .s _, .nil _ _, .nil _ _, .s _, .s _, .s _, .s _, .s _, .s _, .s _, .s _, .nil _ _, trivial⟩, trivial⟩ ?_
      try simp [nth_d e14, ← e15, e17, e18, ← e19, e20, e21, ← e22]
      intros; first | exact KD.mk | exact KD.mkN
     ·intro tm hr
      simp [AllL, rdV] at hr
      simp [hr, nth_d e14, ← e15, e17, e18, ← e19, e20, e21, ← e22]
      intros
      refine xcall_plain en_vote_Grant (s_vote_Grant e23) rfl ⟨.same rfl, .g ⟨.s _, .s _, .s _, .s _, .nil _ _, .nil _ _, .s _, .s _, .s _, .s _, .s _, .s _, .s _, .s _, .nil _ _, trivial⟩, trivial⟩ ?_
      try simp [nth_d e14, ← e15, e17, e18, ← e19, e20, e21, ← e22]
      intros; first | exact KD.mk | exact KD.mkN
     ·intro tm hr
      simp [AllL, rdV] at hr
      simp [hr, nth_d e14, ← e15, e17, e18, ← e19, e20, e21, ← e22]
      intros; first | exact KD.mk | exact KD.mkN
     ·intro tm hr
      simp [AllL, rdV] at hr
      simp [hr, nth_d e14, ← e15, e17, e18, ← e19, e20, e21, ← e22]
      intros; first | exact KD.mk | exact KD.mkN
     ·intro tm hr
      simp [AllL, rdV] at hr
      simp [hr, nth_d e14, ← e15, e17, e18, ← e19, e20, e21, ← e22]
      intros; first | exact KD.mk | exact KD.mkN
     ·intro tm hr
      simp [AllL, rdV] at hr
      simp [hr, nth_d e14, ← e15, e17, e18, ← e19, e20, e21, ← e22]
      intros; first | exact KD.mk | exact KD.mkN
     ·intro tm hr
      simp [AllL, rdV] at hr
      simp [hr, nth_d e14, ← e15, e17, e18, ← e19, e20, e21, ← e22]
      intros; first | exact KD.mk | exact KD.mkN
     ·intro tm hr
      simp [AllL, rdV] at hr
      simp [hr, nth_d e14, ← e15, e17, e18, ← e19, e20, e21, ← e22]
      intros; first | exact KD.mk | exact KD.mkN
     ·intro tm hr
      simp [AllL, rdV] at hr
      simp [hr, nth_d e14, ← e15, e17, e18, ← e19, e20, e21, ← e22]
      intros; first | exact KD.mk | exact KD.mkN
     ·intro tm hr
      simp [AllL, rdV] at hr
      simp [hr, nth_d e14, ← e15, e17, e18, ← e19, e20, e21, ← e22]
      intros; first | exact KD.mk | exact KD.mkN
     ·intro tm hr
      simp [AllL, rdV] at hr
      simp [hr, nth_d e14, ← e15, e17, e18, ← e19, e20, e21, ← e22]
      intros; first | exact KD.mk | exact KD.mkN
    ·rfl
    ·simp [tmD, putD, nth_d e14, ← e15, e17, e18, ← e19, e20, e21, ← e22]; rfl
    ·simp [nth_d e14, ← e15, e17, e18, ← e19, e20, e21, ← e22]
     intros; rfl
    refine AW.seq ?_
    replace h := bnE h; obtain ⟨y24, g24, h⟩ := h
    refine AW.flow (p := fun gh ls => (nP (cx := cx) (fun q => (⟨[(0, .l (.d false 1 (encU a0))), (5, .l (.p 0 0)), (6, .l (.s (.int .i64 y9.1))), (7, .l (.s (.int .i64 y9.2.1))), (8, .l (.s (.int .i64 v16))), (9, .l (.p 1 0)), (10, .l (.d false 15 (encMsg v23.2))), (74, .l (.s (.bool q)))], [some ⟨38, 22, false, none, [.s (.int .i64 y9.2.2.1), .s (.int .i64 y9.2.2.2.1), .s (.int .i64 y9.2.2.2.2.1), .s (.int .i64 y9.2.2.2.2.2.1), .s (.int .i64 y9.2.2.2.2.2.2.1), .d false 4 (encClaim y9.2.2.2.2.2.2.2.1), .d false 6 (encPair y9.2.2.2.2.2.2.2.2.1), .d false 4 (encMove y9.2.2.2.2.2.2.2.2.2.1), .s (.int .i64 y9.2.2.2.2.2.2.2.2.2.2.1), .d false 3 (encSeen y9.2.2.2.2.2.2.2.2.2.2.2.1), .s (.int .i64 y9.2.2.2.2.2.2.2.2.2.2.2.2.1), .s (.int .i64 y9.2.2.2.2.2.2.2.2.2.2.2.2.2.1), .s (.int .i64 y9.2.2.2.2.2.2.2.2.2.2.2.2.2.2.1), .d false 7 (encEffect y9.2.2.2.2.2.2.2.2.2.2.2.2.2.2.2.1), .s (.int .i64 y9.2.2.2.2.2.2.2.2.2.2.2.2.2.2.2.2.1), .s (.int .i64 y9.2.2.2.2.2.2.2.2.2.2.2.2.2.2.2.2.2.1), .s (.int .i64 y9.2.2.2.2.2.2.2.2.2.2.2.2.2.2.2.2.2.2.1), .d false 1 (encI y9.2.2.2.2.2.2.2.2.2.2.2.2.2.2.2.2.2.2.2.1), .d false 1 (encLI y9.2.2.2.2.2.2.2.2.2.2.2.2.2.2.2.2.2.2.2.2.1), .s (.int .i64 y9.2.2.2.2.2.2.2.2.2.2.2.2.2.2.2.2.2.2.2.2.2.1), .d false 1 (encI y9.2.2.2.2.2.2.2.2.2.2.2.2.2.2.2.2.2.2.2.2.2.2.1), .s (.int .i64 y9.2.2.2.2.2.2.2.2.2.2.2.2.2.2.2.2.2.2.2.2.2.2.2)]⟩, some ⟨38, 22, false, none, [.s (.int .i64 v23.1.count), .s (.int .i64 v23.1.id), .s (.int .i64 v23.1.master), .s (.int .i64 v23.1.epoch), .s (.int .i64 v23.1.voted), .d false 4 (encClaim v23.1.claims), .d false 6 (encPair v23.1.db), .d false 4 (encMove v23.1.moves), .s (.int .i64 v23.1.last), .d false 3 (encSeen v23.1.seen), .s (.int .i64 v23.1.feed.rid.node), .s (.int .i64 v23.1.feed.rid.epoch), .s (.int .i64 v23.1.feed.off), .d false 7 (encEffect v23.1.feed.back), .s (.int .i64 v23.1.feed.prev.node), .s (.int .i64 v23.1.feed.prev.epoch), .s (.int .i64 v23.1.feed.upto), .d false 1 (encI v23.1.watch.heard), .d false 1 (encLI v23.1.watch.says), .s (.int .i64 v23.1.asked), .d false 1 (encI v23.1.votes), .s (.int .i64 v23.1.wait)]⟩], 129, gh, ls⟩ : St))) y24) ?_ ?_
    ·replace h := g24; clear g24
     replace h := ltE h; obtain ⟨v25, e25, h⟩ := h
     replace h := ltE h; obtain ⟨v26, e26, h⟩ := h
     cases v26 with
     | true =>
      replace h := iteT rfl h
      apply AW.last
      ·simp [lenI_cast e25, ← e26]
       intros; rfl
      obtain rfl := Option.some.inj h
      refine nP_i ?_
      refine Weak.mixN [some 0, some 1] hn0 (by decide) ?_ ?_ rfl
      all_goals first | (simp [inv_cons, inv_nil, pickOb]; done) | rfl
     | false =>
      replace h := iteF rfl h
      replace h := ltE h; obtain ⟨v27, e27, h⟩ := h
      cases v27 with
      | true =>
       replace h := iteT rfl h
       apply AW.last
       ·simp [lenI_cast e25, ← e26, ← e27]
        intros; rfl
       obtain rfl := Option.some.inj h
       refine nP_i ?_
       refine Weak.mixN [some 0, some 1] hn0 (by decide) ?_ ?_ rfl
       all_goals first | (simp [inv_cons, inv_nil, pickOb]; done) | rfl
      | false =>
       replace h := iteF rfl h
       replace h := ltE h; obtain ⟨v28, e28, h⟩ := h
       apply AW.last
       ·simp [lenI_cast e25, ← e26, ← e27, ← e28]
        intros; rfl
       obtain rfl := Option.some.inj h
       refine nP_i ?_
       refine Weak.mixN [some 0, some 1] hn0 (by decide) ?_ ?_ rfl
       all_goals first | (simp [inv_cons, inv_nil, pickOb]; done) | rfl
    ·rintro e s hp
     obtain ⟨rfl, hw⟩ := hp
     refine ⟨_, hw, ?_⟩
     try simp only [sp_l, sp_r, Post.seq, Post.block, Nat.reduceEqDiff, reduceIte, Nat.zero_ne_one, Nat.one_ne_zero]
     replace h := ltE h; obtain ⟨v29, e29, h⟩ := h
     rw [← e29]
     cases v29 with
     | true =>
      replace h := iteT rfl h
      refine AW.cond_true (by simp) ?_
      apply AW.step
      ·simp
       intros; rfl
      obtain rfl := Option.some.inj h
      refine AW.ret ?_
      try simp only [sp_l, sp_r, Post.seq, Post.block, Nat.reduceEqDiff, reduceIte, Nat.zero_ne_one, Nat.one_ne_zero]
      refine rP_i ?_
      refine Left.plain hnb (by simp [Try.f3, resV, resC, comp]; rfl) rfl rfl ?_
      simp
     | false =>
      replace h := iteF rfl h
      refine AW.cond_false (by simp) ?_
      refine AW.skip ?_
      try simp only [sp_l, sp_r, Post.seq, Post.block, Nat.reduceEqDiff, reduceIte, Nat.zero_ne_one, Nat.one_ne_zero]
      try simp only [sp_l, sp_r, Post.seq, Post.block, Nat.reduceEqDiff, reduceIte, Nat.zero_ne_one, Nat.one_ne_zero]
      replace h := bnE h; obtain ⟨y30, g30, h⟩ := h
      refine AW.flow (p := fun gh ls => (sp (nP (cx := cx) (fun q => (⟨[(0, .l (.d false 1 (encU a0))), (5, .l (.p 0 0)), (6, .l (.s (.int .i64 q))), (7, .l (.s (.int .i64 y9.2.1))), (9, .l (.p 1 0))], [some ⟨38, 22, false, none, [.s (.int .i64 y9.2.2.1), .s (.int .i64 y9.2.2.2.1), .s (.int .i64 y9.2.2.2.2.1), .s (.int .i64 y9.2.2.2.2.2.1), .s (.int .i64 y9.2.2.2.2.2.2.1), .d false 4 (encClaim y9.2.2.2.2.2.2.2.1), .d false 6 (encPair y9.2.2.2.2.2.2.2.2.1), .d false 4 (encMove y9.2.2.2.2.2.2.2.2.2.1), .s (.int .i64 y9.2.2.2.2.2.2.2.2.2.2.1), .d false 3 (encSeen y9.2.2.2.2.2.2.2.2.2.2.2.1), .s (.int .i64 y9.2.2.2.2.2.2.2.2.2.2.2.2.1), .s (.int .i64 y9.2.2.2.2.2.2.2.2.2.2.2.2.2.1), .s (.int .i64 y9.2.2.2.2.2.2.2.2.2.2.2.2.2.2.1), .d false 7 (encEffect y9.2.2.2.2.2.2.2.2.2.2.2.2.2.2.2.1), .s (.int .i64 y9.2.2.2.2.2.2.2.2.2.2.2.2.2.2.2.2.1), .s (.int .i64 y9.2.2.2.2.2.2.2.2.2.2.2.2.2.2.2.2.2.1), .s (.int .i64 y9.2.2.2.2.2.2.2.2.2.2.2.2.2.2.2.2.2.2.1), .d false 1 (encI y9.2.2.2.2.2.2.2.2.2.2.2.2.2.2.2.2.2.2.2.1), .d false 1 (encLI y9.2.2.2.2.2.2.2.2.2.2.2.2.2.2.2.2.2.2.2.2.1), .s (.int .i64 y9.2.2.2.2.2.2.2.2.2.2.2.2.2.2.2.2.2.2.2.2.2.1), .d false 1 (encI y9.2.2.2.2.2.2.2.2.2.2.2.2.2.2.2.2.2.2.2.2.2.2.1), .s (.int .i64 y9.2.2.2.2.2.2.2.2.2.2.2.2.2.2.2.2.2.2.2.2.2.2.2)]⟩, some ⟨38, 22, false, none, [.s (.int .i64 v23.1.count), .s (.int .i64 v23.1.id), .s (.int .i64 v23.1.master), .s (.int .i64 v23.1.epoch), .s (.int .i64 v23.1.voted), .d false 4 (encClaim v23.1.claims), .d false 6 (encPair v23.1.db), .d false 4 (encMove v23.1.moves), .s (.int .i64 v23.1.last), .d false 3 (encSeen v23.1.seen), .s (.int .i64 v23.1.feed.rid.node), .s (.int .i64 v23.1.feed.rid.epoch), .s (.int .i64 v23.1.feed.off), .d false 7 (encEffect v23.1.feed.back), .s (.int .i64 v23.1.feed.prev.node), .s (.int .i64 v23.1.feed.prev.epoch), .s (.int .i64 v23.1.feed.upto), .d false 1 (encI v23.1.watch.heard), .d false 1 (encLI v23.1.watch.says), .s (.int .i64 v23.1.asked), .d false 1 (encI v23.1.votes), .s (.int .i64 v23.1.wait)]⟩], 129, gh, ls⟩ : St))) (rP (cx := cx) (P := Try.prog) Try.f3 (fun q => .l (.s (.bool q))) (fun q => []))) y30) ?_ ?_
      ·replace h := g30; clear g30
       replace h := ltE h; obtain ⟨v31, e31, h⟩ := h
       replace h := ltE h; obtain ⟨v32, e32, h⟩ := h
       apply AW.step
       ·simp [lenI_cast e31, ← e32]
        intros; rfl
       cases v32 with
       | true =>
        replace h := iteT rfl h
        refine AW.cond_true (by simp) ?_
        refine AW.seq ?_
        replace h := bnE h; obtain ⟨y33, g33, h⟩ := h
        refine AW.flow (p := fun gh ls => (nP (cx := cx) (fun q => (⟨[(0, .l (.d false 1 (encU a0))), (5, .l (.p 0 0)), (7, .l (.s (.int .i64 y9.2.1))), (8, .l (.s (.int .i64 v16))), (9, .l (.p 1 0)), (125, .l (.s (.bool q)))], [some ⟨38, 22, false, none, [.s (.int .i64 y9.2.2.1), .s (.int .i64 y9.2.2.2.1), .s (.int .i64 y9.2.2.2.2.1), .s (.int .i64 y9.2.2.2.2.2.1), .s (.int .i64 y9.2.2.2.2.2.2.1), .d false 4 (encClaim y9.2.2.2.2.2.2.2.1), .d false 6 (encPair y9.2.2.2.2.2.2.2.2.1), .d false 4 (encMove y9.2.2.2.2.2.2.2.2.2.1), .s (.int .i64 y9.2.2.2.2.2.2.2.2.2.2.1), .d false 3 (encSeen y9.2.2.2.2.2.2.2.2.2.2.2.1), .s (.int .i64 y9.2.2.2.2.2.2.2.2.2.2.2.2.1), .s (.int .i64 y9.2.2.2.2.2.2.2.2.2.2.2.2.2.1), .s (.int .i64 y9.2.2.2.2.2.2.2.2.2.2.2.2.2.2.1), .d false 7 (encEffect y9.2.2.2.2.2.2.2.2.2.2.2.2.2.2.2.1), .s (.int .i64 y9.2.2.2.2.2.2.2.2.2.2.2.2.2.2.2.2.1), .s (.int .i64 y9.2.2.2.2.2.2.2.2.2.2.2.2.2.2.2.2.2.1), .s (.int .i64 y9.2.2.2.2.2.2.2.2.2.2.2.2.2.2.2.2.2.2.1), .d false 1 (encI y9.2.2.2.2.2.2.2.2.2.2.2.2.2.2.2.2.2.2.2.1), .d false 1 (encLI y9.2.2.2.2.2.2.2.2.2.2.2.2.2.2.2.2.2.2.2.2.1), .s (.int .i64 y9.2.2.2.2.2.2.2.2.2.2.2.2.2.2.2.2.2.2.2.2.2.1), .d false 1 (encI y9.2.2.2.2.2.2.2.2.2.2.2.2.2.2.2.2.2.2.2.2.2.2.1), .s (.int .i64 y9.2.2.2.2.2.2.2.2.2.2.2.2.2.2.2.2.2.2.2.2.2.2.2)]⟩, some ⟨38, 22, false, none, [.s (.int .i64 v23.1.count), .s (.int .i64 v23.1.id), .s (.int .i64 v23.1.master), .s (.int .i64 v23.1.epoch), .s (.int .i64 v23.1.voted), .d false 4 (encClaim v23.1.claims), .d false 6 (encPair v23.1.db), .d false 4 (encMove v23.1.moves), .s (.int .i64 v23.1.last), .d false 3 (encSeen v23.1.seen), .s (.int .i64 v23.1.feed.rid.node), .s (.int .i64 v23.1.feed.rid.epoch), .s (.int .i64 v23.1.feed.off), .d false 7 (encEffect v23.1.feed.back), .s (.int .i64 v23.1.feed.prev.node), .s (.int .i64 v23.1.feed.prev.epoch), .s (.int .i64 v23.1.feed.upto), .d false 1 (encI v23.1.watch.heard), .d false 1 (encLI v23.1.watch.says), .s (.int .i64 v23.1.asked), .d false 1 (encI v23.1.votes), .s (.int .i64 v23.1.wait)]⟩], 129, gh, ls⟩ : St))) y33) ?_ ?_
        ·replace h := g33; clear g33
         replace h := ltE h; obtain ⟨v34, e34, h⟩ := h
         cases v34 with
         | true =>
          replace h := iteT rfl h
          apply AW.drawnR (V := [_, _, _, _, _, _, _, _, _, _, _, _, _, _, _, _, _, _, _, _, _, _, _, _, _, _, _, _, _, _, _, _, _, _, _, _, _, _, _, _, _]) mixed [⟨[0], [], [(8, none)], false⟩, ⟨[0], [], [(6, none)], false⟩, ⟨[0], [0, 1], [(78, some 0), (79, some 1)], false⟩, ⟨[0], [0, 1, 2], [(80, some 2)], false⟩, ⟨[0], [0, 1, 2, 3], [(8, none), (81, some 3)], false⟩, ⟨[0], [0, 1, 2, 3], [(5, none), (81, some 3)], false⟩, ⟨[0], [0, 1, 2, 3, 5], [(81, some 3), (83, some 5)], false⟩, ⟨[0], [0, 1, 2, 3, 4, 5, 6], [(81, some 3), (82, some 4), (84, some 6)], false⟩, ⟨[0], [0, 1, 2, 3, 4, 5, 6, 7], [(81, some 3), (85, some 7)], false⟩, ⟨[0], [0, 1, 2, 3, 4, 5, 6, 7, 8], [(86, some 8)], false⟩, ⟨[0], [0, 1, 2, 3, 4, 5, 6, 7, 8, 9], [(9, none), (87, some 9)], false⟩, ⟨[0], [0, 1, 2, 3, 4, 5, 6, 7, 8, 9, 10], [(87, some 9), (88, some 10)], false⟩, ⟨[0], [0, 1, 2, 3, 4, 5, 6, 7, 8, 9], [(8, none), (87, some 9)], false⟩, ⟨[0], [0, 1, 2, 3, 4, 5, 6, 7, 8, 9, 10, 11, 12], [(87, some 9), (89, some 11), (90, some 12)], false⟩, ⟨[0], [0, 1, 2, 3, 4, 5, 6, 7, 8, 9, 10, 11, 12, 13], [(87, some 9), (91, some 13)], false⟩, ⟨[0], [0, 1, 2, 3, 4, 5, 6, 7, 8, 9, 10, 11, 12, 13, 14], [(92, some 14)], false⟩, ⟨[0], [0, 1, 2, 3, 4, 5, 6, 7, 8, 9, 10, 11, 12, 13, 14, 15], [(10, none), (93, some 15)], false⟩, ⟨[0], [0, 1, 2, 3, 4, 5, 6, 7, 8, 9, 10, 11, 12, 13, 14, 15, 16], [(93, some 15), (94, some 16)], false⟩, ⟨[0], [0, 1, 2, 3, 4, 5, 6, 7, 8, 9, 10, 11, 12, 13, 14, 15, 16, 17], [(93, some 15), (95, some 17)], false⟩, ⟨[0], [0, 1, 2, 3, 4, 5, 6, 7, 8, 9, 10, 11, 12, 13, 14, 15, 16, 17, 18], [(93, some 15), (96, some 18)], false⟩, ⟨[0], [0, 1, 2, 3, 4, 5, 6, 7, 8, 9, 10, 11, 12, 13, 14, 15], [(8, none), (93, some 15)], false⟩, ⟨[0], [0, 1, 2, 3, 4, 5, 6, 7, 8, 9, 10, 11, 12, 13, 14, 15, 16, 17, 18, 19, 20], [(93, some 15), (97, some 19), (98, some 20)], false⟩, ⟨[0], [0, 1, 2, 3, 4, 5, 6, 7, 8, 9, 10, 11, 12, 13, 14, 15, 16, 17, 18, 19, 20, 21], [(93, some 15), (99, some 21)], false⟩, ⟨[0], [0, 1, 2, 3, 4, 5, 6, 7, 8, 9, 10, 11, 12, 13, 14, 15, 16, 17, 18, 19, 20, 21, 22], [(100, some 22)], false⟩, ⟨[0], [0, 1, 2, 3, 4, 5, 6, 7, 8, 9, 10, 11, 12, 13, 14, 15, 16, 17, 18, 19, 20, 21, 22, 23], [(10, none), (101, some 23)], false⟩, ⟨[0], [0, 1, 2, 3, 4, 5, 6, 7, 8, 9, 10, 11, 12, 13, 14, 15, 16, 17, 18, 19, 20, 21, 22, 23, 24], [(101, some 23), (102, some 24)], false⟩, ⟨[0], [0, 1, 2, 3, 4, 5, 6, 7, 8, 9, 10, 11, 12, 13, 14, 15, 16, 17, 18, 19, 20, 21, 22, 23, 24, 25], [(101, some 23), (103, some 25)], false⟩, ⟨[0], [0, 1, 2, 3, 4, 5, 6, 7, 8, 9, 10, 11, 12, 13, 14, 15, 16, 17, 18, 19, 20, 21, 22, 23, 24, 25, 26], [(101, some 23), (104, some 26)], false⟩, ⟨[0], [0, 1, 2, 3, 4, 5, 6, 7, 8, 9, 10, 11, 12, 13, 14, 15, 16, 17, 18, 19, 20, 21, 22, 23], [(0, none), (101, some 23)], false⟩, ⟨[0], [0, 1, 2, 3, 4, 5, 6, 7, 8, 9, 10, 11, 12, 13, 14, 15, 16, 17, 18, 19, 20, 21, 22, 23], [(7, none), (101, some 23)], false⟩, ⟨[0], [0, 1, 2, 3, 4, 5, 6, 7, 8, 9, 10, 11, 12, 13, 14, 15, 16, 17, 18, 19, 20, 21, 22, 23, 28, 29], [(101, some 23), (106, some 28), (107, some 29)], false⟩, ⟨[0], [0, 1, 2, 3, 4, 5, 6, 7, 8, 9, 10, 11, 12, 13, 14, 15, 16, 17, 18, 19, 20, 21, 22, 23, 28, 29, 30], [(101, some 23), (108, some 30)], false⟩, ⟨[0], [0, 1, 2, 3, 4, 5, 6, 7, 8, 9, 10, 11, 12, 13, 14, 15, 16, 17, 18, 19, 20, 21, 22, 23, 28, 29, 30, 31], [(101, some 23), (109, some 31)], false⟩, ⟨[0], [0, 1, 2, 3, 4, 5, 6, 7, 8, 9, 10, 11, 12, 13, 14, 15, 16, 17, 18, 19, 20, 21, 22, 23, 28, 29, 30, 31, 32], [(101, some 23), (110, some 32)], false⟩, ⟨[0], [0, 1, 2, 3, 4, 5, 6, 7, 8, 9, 10, 11, 12, 13, 14, 15, 16, 17, 18, 19, 20, 21, 22, 23, 28, 29, 30, 31, 32, 33], [(101, some 23), (111, some 33)], false⟩, ⟨[0], [0, 1, 2, 3, 4, 5, 6, 7, 8, 9, 10, 11, 12, 13, 14, 15, 16, 17, 18, 19, 20, 21, 22, 23, 28, 29, 30, 31, 32, 33, 34], [(101, some 23), (112, some 34)], false⟩, ⟨[0], [0, 1, 2, 3, 4, 5, 6, 7, 8, 9, 10, 11, 12, 13, 14, 15, 16, 17, 18, 19, 20, 21, 22, 23, 24, 25, 26, 27, 28, 29, 30, 31, 32, 33, 34, 35], [(101, some 23), (105, some 27), (113, some 35)], false⟩, ⟨[0], [0, 1, 2, 3, 4, 5, 6, 7, 8, 9, 10, 11, 12, 13, 14, 15, 16, 17, 18, 19, 20, 21, 22, 23, 24, 25, 26, 27, 28, 29, 30, 31, 32, 33, 34, 35, 36], [(101, some 23), (114, some 36)], false⟩, ⟨[0], [0, 1, 2, 3, 4, 5, 6, 7, 8, 9, 10, 11, 12, 13, 14, 15, 16, 17, 18, 19, 20, 21, 22, 23, 24, 25, 26, 27, 28, 29, 30, 31, 32, 33, 34, 35, 36, 37], [(115, some 37)], false⟩, ⟨[0], [0, 1, 2, 3, 4, 5, 6, 7, 8, 9, 10, 11, 12, 13, 14, 15, 16, 17, 18, 19, 20, 21, 22, 23, 24, 25, 26, 27, 28, 29, 30, 31, 32, 33, 34, 35, 36, 37, 38], [(0, none), (116, some 38)], false⟩, ⟨[0], [0, 1, 2, 3, 4, 5, 6, 7, 8, 9, 10, 11, 12, 13, 14, 15, 16, 17, 18, 19, 20, 21, 22, 23, 24, 25, 26, 27, 28, 29, 30, 31, 32, 33, 34, 35, 36, 37, 38], [(7, none), (116, some 38)], false⟩, ⟨[], [0, 1, 2, 3, 4, 5, 6, 7, 8, 9, 10, 11, 12, 13, 14, 15, 16, 17, 18, 19, 20, 21, 22, 23, 24, 25, 26, 27, 28, 29, 30, 31, 32, 33, 34, 35, 36, 37, 38, 39, 40], [], false⟩, ⟨[], [0, 1, 2, 3, 4, 5, 6, 7, 8, 9, 10, 11, 12, 13, 14, 15, 16, 17, 18, 19, 20, 21, 22, 23, 24, 25, 26, 27, 28, 29, 30, 31, 32, 33, 34, 35, 36, 37, 38, 39, 40, 41], [], false⟩, ⟨[], [0, 1, 2, 3, 4, 5, 6, 7, 8, 9, 10, 11, 12, 13, 14, 15, 16, 17, 18, 19, 20, 21, 22, 23, 24, 25, 26, 27, 28, 29, 30, 31, 32, 33, 34, 35, 36, 37, 38, 39, 40, 41, 42], [], false⟩, ⟨[], [0, 1, 2, 3, 4, 5, 6, 7, 8, 9, 10, 11, 12, 13, 14, 15, 16, 17, 18, 19, 20, 21, 22, 23, 24, 25, 26, 27, 28, 29, 30, 31, 32, 33, 34, 35, 36, 37, 38, 39, 40, 41, 42, 43], [], false⟩, ⟨[], [0, 1, 2, 3, 4, 5, 6, 7, 8, 9, 10, 11, 12, 13, 14, 15, 16, 17, 18, 19, 20, 21, 22, 23, 24, 25, 26, 27, 28, 29, 30, 31, 32, 33, 34, 35, 36, 37, 38, 39, 40, 41, 42, 43, 44], [], false⟩, ⟨[], [0, 1, 2, 3, 4, 5, 6, 7, 8, 9, 10, 11, 12, 13, 14, 15, 16, 17, 18, 19, 20, 21, 22, 23, 24, 25, 26, 27, 28, 29, 30, 31, 32, 33, 34, 35, 36, 37, 38, 39, 40, 41, 42, 43, 44, 45], [], false⟩, ⟨[], [0, 1, 2, 3, 4, 5, 6, 7, 8, 9, 10, 11, 12, 13, 14, 15, 16, 17, 18, 19, 20, 21, 22, 23, 24, 25, 26, 27, 28, 29, 30, 31, 32, 33, 34, 35, 36, 37, 38, 39, 40, 41, 42, 43, 44, 45, 46], [], false⟩] 41 (by kernel_rfl) (by kernel_rfl)
          ·refine ⟨?_, ?_, ?_, ?_, ?_, ?_, ?_, ?_, ?_, ?_, ?_, ?_, ?_, ?_, ?_, ?_, ?_, ?_, ?_, ?_, ?_, ?_, ?_, ?_, ?_, ?_, ?_, ?_, ?_, ?_, ?_, ?_, ?_, ?_, ?_, ?_, ?_, ?_, ?_, ?_, ?_, trivial⟩
           ·intro tm hr
            simp [AllL, rdV] at hr
            simp [hr, ← e34]
            intros; first | exact KD.mk | exact KD.mkN
           ·intro tm hr
            simp [AllL, rdV] at hr
            simp [hr, ← e34]
            intros; first | exact KD.mk | exact KD.mkN
           ·intro tm hr
            simp [AllL, rdV] at hr
            simp [hr, ← e34]
            intros; first | exact KD.mk | exact KD.mkN
           ·intro tm hr
            simp [AllL, rdV] at hr
            simp [hr, ← e34]
            intros; first | exact KD.mk | exact KD.mkN
           ·intro tm hr
            simp [AllL, rdV] at hr
            simp [hr, ← e34]
            intros; first | exact KD.mk | exact KD.mkN
           ·intro tm hr
            simp [AllL, rdV] at hr
            simp [hr, ← e34]
            intros; first | exact KD.mk | exact KD.mkN
           ·intro tm hr
            simp [AllL, rdV] at hr
            simp [hr, ← e34]
            intros; first | exact KD.mk | exact KD.mkN
           ·intro tm hr
            simp [AllL, rdV] at hr
            simp [hr, ← e34]
            intros; first | exact KD.mk | exact KD.mkN
           ·intro tm hr
            simp [AllL, rdV] at hr
            simp [hr, ← e34]
            intros; first | exact KD.mk | exact KD.mkN
           ·intro tm hr
            simp [AllL, rdV] at hr
            simp [hr, ← e34]
            intros; first | exact KD.mk | exact KD.mkN
           ·intro tm hr
            simp [AllL, rdV] at hr
            simp [hr, ← e34]
            intros; first | exact KD.mk | exact KD.mkN
           ·intro tm hr
            simp [AllL, rdV] at hr
            simp [hr, ← e34]
            intros; first | exact KD.mk | exact KD.mkN
           ·intro tm hr
            simp [AllL, rdV] at hr
            simp [hr, ← e34]
            intros; first | exact KD.mk | exact KD.mkN
           ·intro tm hr
            simp [AllL, rdV] at hr
            simp [hr, ← e34]
            intros; first | exact KD.mk | exact KD.mkN
           ·intro tm hr
            simp [AllL, rdV] at hr
            simp [hr, ← e34]
            intros; first | exact KD.mk | exact KD.mkN
           ·intro tm hr
            simp [AllL, rdV] at hr
            simp [hr, ← e34]
            intros; first | exact KD.mk | exact KD.mkN
           ·intro tm hr
            simp [AllL, rdV] at hr
            simp [hr, ← e34]
            intros; first | exact KD.mk | exact KD.mkN
           ·intro tm hr
            simp [AllL, rdV] at hr
            simp [hr, ← e34]
            intros; first | exact KD.mk | exact KD.mkN
           ·intro tm hr
            simp [AllL, rdV] at hr
            simp [hr, ← e34]
            intros; first | exact KD.mk | exact KD.mkN
           ·intro tm hr
            simp [AllL, rdV] at hr
            simp [hr, ← e34]
            intros; first | exact KD.mk | exact KD.mkN
           ·intro tm hr
            simp [AllL, rdV] at hr
            simp [hr, ← e34]
            intros; first | exact KD.mk | exact KD.mkN
           ·intro tm hr
            simp [AllL, rdV] at hr
            simp [hr, ← e34]
            intros; first | exact KD.mk | exact KD.mkN
           ·intro tm hr
            simp [AllL, rdV] at hr
            simp [hr, ← e34]
            intros; first | exact KD.mk | exact KD.mkN
           ·intro tm hr
            simp [AllL, rdV] at hr
            simp [hr, ← e34]
            intros; first | exact KD.mk | exact KD.mkN
           ·intro tm hr
            simp [AllL, rdV] at hr
            simp [hr, ← e34]
            intros; first | exact KD.mk | exact KD.mkN
           ·intro tm hr
            simp [AllL, rdV] at hr
            simp [hr, ← e34]
            intros; first | exact KD.mk | exact KD.mkN
           ·intro tm hr
            simp [AllL, rdV] at hr
            simp [hr, ← e34]
            intros; first | exact KD.mk | exact KD.mkN
           ·intro tm hr
            simp [AllL, rdV] at hr
            simp [hr, ← e34]
            intros; first | exact KD.mk | exact KD.mkN
           ·intro tm hr
            simp [AllL, rdV] at hr
            simp [hr, ← e34]
            intros; first | exact KD.mk | exact KD.mkN
           ·intro tm hr
            simp [AllL, rdV] at hr
            simp [hr, ← e34]
            intros; first | exact KD.mk | exact KD.mkN
           ·intro tm hr
            simp [AllL, rdV] at hr
            simp [hr, ← e34]
            intros; first | exact KD.mk | exact KD.mkN
           ·intro tm hr
            simp [AllL, rdV] at hr
            simp [hr, ← e34]
            intros; first | exact KD.mk | exact KD.mkN
           ·intro tm hr
            simp [AllL, rdV] at hr
            simp [hr, ← e34]
            intros; first | exact KD.mk | exact KD.mkN
           ·intro tm hr
            simp [AllL, rdV] at hr
            simp [hr, ← e34]
            intros; first | exact KD.mk | exact KD.mkN
           ·intro tm hr
            simp [AllL, rdV] at hr
            simp [hr, ← e34]
            intros; first | exact KD.mk | exact KD.mkN
           ·intro tm hr
            simp [AllL, rdV] at hr
            simp [hr, ← e34]
            intros; first | exact KD.mk | exact KD.mkN
           ·intro tm hr
            simp [AllL, rdV] at hr
            simp [hr, ← e34]
            intros; first | exact KD.mk | exact KD.mkN
           ·intro tm hr
            simp [AllL, rdV] at hr
            simp [hr, ← e34]
            intros; first | exact KD.mk | exact KD.mkN
           ·intro tm hr
            simp [AllL, rdV] at hr
            simp [hr, ← e34]
            intros; first | exact KD.mk | exact KD.mkN
           ·intro tm hr
            simp [AllL, rdV] at hr
            simp [hr, ← e34]
            intros; first | exact KD.mk | exact KD.mkN
           ·intro tm hr
            simp [AllL, rdV] at hr
            simp [hr, ← e34]
            intros; first | exact KD.mk | exact KD.mkN
          ·rfl
          ·simp [tmD, putD, ← e34]; rfl
          ·simp [← e34]
           intros; rfl
          obtain rfl := Option.some.inj h
          refine nP_i ?_
          refine Weak.mixN [some 0, some 1] hn0 (by decide) ?_ ?_ rfl
          all_goals first | (simp [inv_cons, inv_nil, pickOb]; done) | rfl
         | false =>
          replace h := iteF rfl h
          replace h := ltE h; obtain ⟨v35, e35, h⟩ := h
          cases v35 with
          | true =>
           replace h := iteT rfl h
           apply AW.drawnR (V := [_, _, _, _, _, _, _, _, _, _, _, _, _, _, _, _, _, _, _, _, _, _, _, _, _, _, _, _, _, _, _, _, _, _, _, _, _, _, _, _, _]) mixed [⟨[0], [], [(8, none)], false⟩, ⟨[0], [], [(6, none)], false⟩, ⟨[0], [0, 1], [(78, some 0), (79, some 1)], false⟩, ⟨[0], [0, 1, 2], [(80, some 2)], false⟩, ⟨[0], [0, 1, 2, 3], [(8, none), (81, some 3)], false⟩, ⟨[0], [0, 1, 2, 3], [(5, none), (81, some 3)], false⟩, ⟨[0], [0, 1, 2, 3, 5], [(81, some 3), (83, some 5)], false⟩, ⟨[0], [0, 1, 2, 3, 4, 5, 6], [(81, some 3), (82, some 4), (84, some 6)], false⟩, ⟨[0], [0, 1, 2, 3, 4, 5, 6, 7], [(81, some 3), (85, some 7)], false⟩, ⟨[0], [0, 1, 2, 3, 4, 5, 6, 7, 8], [(86, some 8)], false⟩, ⟨[0], [0, 1, 2, 3, 4, 5, 6, 7, 8, 9], [(9, none), (87, some 9)], false⟩, ⟨[0], [0, 1, 2, 3, 4, 5, 6, 7, 8, 9, 10], [(87, some 9), (88, some 10)], false⟩, ⟨[0], [0, 1, 2, 3, 4, 5, 6, 7, 8, 9], [(8, none), (87, some 9)], false⟩, ⟨[0], [0, 1, 2, 3, 4, 5, 6, 7, 8, 9, 10, 11, 12], [(87, some 9), (89, some 11), (90, some 12)], false⟩, ⟨[0], [0, 1, 2, 3, 4, 5, 6, 7, 8, 9, 10, 11, 12, 13], [(87, some 9), (91, some 13)], false⟩, ⟨[0], [0, 1, 2, 3, 4, 5, 6, 7, 8, 9, 10, 11, 12, 13, 14], [(92, some 14)], false⟩, ⟨[0], [0, 1, 2, 3, 4, 5, 6, 7, 8, 9, 10, 11, 12, 13, 14, 15], [(10, none), (93, some 15)], false⟩, ⟨[0], [0, 1, 2, 3, 4, 5, 6, 7, 8, 9, 10, 11, 12, 13, 14, 15, 16], [(93, some 15), (94, some 16)], false⟩, ⟨[0], [0, 1, 2, 3, 4, 5, 6, 7, 8, 9, 10, 11, 12, 13, 14, 15, 16, 17], [(93, some 15), (95, some 17)], false⟩, ⟨[0], [0, 1, 2, 3, 4, 5, 6, 7, 8, 9, 10, 11, 12, 13, 14, 15, 16, 17, 18], [(93, some 15), (96, some 18)], false⟩, ⟨[0], [0, 1, 2, 3, 4, 5, 6, 7, 8, 9, 10, 11, 12, 13, 14, 15], [(8, none), (93, some 15)], false⟩, ⟨[0], [0, 1, 2, 3, 4, 5, 6, 7, 8, 9, 10, 11, 12, 13, 14, 15, 16, 17, 18, 19, 20], [(93, some 15), (97, some 19), (98, some 20)], false⟩, ⟨[0], [0, 1, 2, 3, 4, 5, 6, 7, 8, 9, 10, 11, 12, 13, 14, 15, 16, 17, 18, 19, 20, 21], [(93, some 15), (99, some 21)], false⟩, ⟨[0], [0, 1, 2, 3, 4, 5, 6, 7, 8, 9, 10, 11, 12, 13, 14, 15, 16, 17, 18, 19, 20, 21, 22], [(100, some 22)], false⟩, ⟨[0], [0, 1, 2, 3, 4, 5, 6, 7, 8, 9, 10, 11, 12, 13, 14, 15, 16, 17, 18, 19, 20, 21, 22, 23], [(10, none), (101, some 23)], false⟩, ⟨[0], [0, 1, 2, 3, 4, 5, 6, 7, 8, 9, 10, 11, 12, 13, 14, 15, 16, 17, 18, 19, 20, 21, 22, 23, 24], [(101, some 23), (102, some 24)], false⟩, ⟨[0], [0, 1, 2, 3, 4, 5, 6, 7, 8, 9, 10, 11, 12, 13, 14, 15, 16, 17, 18, 19, 20, 21, 22, 23, 24, 25], [(101, some 23), (103, some 25)], false⟩, ⟨[0], [0, 1, 2, 3, 4, 5, 6, 7, 8, 9, 10, 11, 12, 13, 14, 15, 16, 17, 18, 19, 20, 21, 22, 23, 24, 25, 26], [(101, some 23), (104, some 26)], false⟩, ⟨[0], [0, 1, 2, 3, 4, 5, 6, 7, 8, 9, 10, 11, 12, 13, 14, 15, 16, 17, 18, 19, 20, 21, 22, 23], [(0, none), (101, some 23)], false⟩, ⟨[0], [0, 1, 2, 3, 4, 5, 6, 7, 8, 9, 10, 11, 12, 13, 14, 15, 16, 17, 18, 19, 20, 21, 22, 23], [(7, none), (101, some 23)], false⟩, ⟨[0], [0, 1, 2, 3, 4, 5, 6, 7, 8, 9, 10, 11, 12, 13, 14, 15, 16, 17, 18, 19, 20, 21, 22, 23, 28, 29], [(101, some 23), (106, some 28), (107, some 29)], false⟩, ⟨[0], [0, 1, 2, 3, 4, 5, 6, 7, 8, 9, 10, 11, 12, 13, 14, 15, 16, 17, 18, 19, 20, 21, 22, 23, 28, 29, 30], [(101, some 23), (108, some 30)], false⟩, ⟨[0], [0, 1, 2, 3, 4, 5, 6, 7, 8, 9, 10, 11, 12, 13, 14, 15, 16, 17, 18, 19, 20, 21, 22, 23, 28, 29, 30, 31], [(101, some 23), (109, some 31)], false⟩, ⟨[0], [0, 1, 2, 3, 4, 5, 6, 7, 8, 9, 10, 11, 12, 13, 14, 15, 16, 17, 18, 19, 20, 21, 22, 23, 28, 29, 30, 31, 32], [(101, some 23), (110, some 32)], false⟩, ⟨[0], [0, 1, 2, 3, 4, 5, 6, 7, 8, 9, 10, 11, 12, 13, 14, 15, 16, 17, 18, 19, 20, 21, 22, 23, 28, 29, 30, 31, 32, 33], [(101, some 23), (111, some 33)], false⟩, ⟨[0], [0, 1, 2, 3, 4, 5, 6, 7, 8, 9, 10, 11, 12, 13, 14, 15, 16, 17, 18, 19, 20, 21, 22, 23, 28, 29, 30, 31, 32, 33, 34], [(101, some 23), (112, some 34)], false⟩, ⟨[0], [0, 1, 2, 3, 4, 5, 6, 7, 8, 9, 10, 11, 12, 13, 14, 15, 16, 17, 18, 19, 20, 21, 22, 23, 24, 25, 26, 27, 28, 29, 30, 31, 32, 33, 34, 35], [(101, some 23), (105, some 27), (113, some 35)], false⟩, ⟨[0], [0, 1, 2, 3, 4, 5, 6, 7, 8, 9, 10, 11, 12, 13, 14, 15, 16, 17, 18, 19, 20, 21, 22, 23, 24, 25, 26, 27, 28, 29, 30, 31, 32, 33, 34, 35, 36], [(101, some 23), (114, some 36)], false⟩, ⟨[0], [0, 1, 2, 3, 4, 5, 6, 7, 8, 9, 10, 11, 12, 13, 14, 15, 16, 17, 18, 19, 20, 21, 22, 23, 24, 25, 26, 27, 28, 29, 30, 31, 32, 33, 34, 35, 36, 37], [(115, some 37)], false⟩, ⟨[0], [0, 1, 2, 3, 4, 5, 6, 7, 8, 9, 10, 11, 12, 13, 14, 15, 16, 17, 18, 19, 20, 21, 22, 23, 24, 25, 26, 27, 28, 29, 30, 31, 32, 33, 34, 35, 36, 37, 38], [(0, none), (116, some 38)], false⟩, ⟨[0], [0, 1, 2, 3, 4, 5, 6, 7, 8, 9, 10, 11, 12, 13, 14, 15, 16, 17, 18, 19, 20, 21, 22, 23, 24, 25, 26, 27, 28, 29, 30, 31, 32, 33, 34, 35, 36, 37, 38], [(7, none), (116, some 38)], false⟩, ⟨[], [0, 1, 2, 3, 4, 5, 6, 7, 8, 9, 10, 11, 12, 13, 14, 15, 16, 17, 18, 19, 20, 21, 22, 23, 24, 25, 26, 27, 28, 29, 30, 31, 32, 33, 34, 35, 36, 37, 38, 39, 40], [], false⟩, ⟨[], [0, 1, 2, 3, 4, 5, 6, 7, 8, 9, 10, 11, 12, 13, 14, 15, 16, 17, 18, 19, 20, 21, 22, 23, 24, 25, 26, 27, 28, 29, 30, 31, 32, 33, 34, 35, 36, 37, 38, 39, 40, 41], [], false⟩, ⟨[], [0, 1, 2, 3, 4, 5, 6, 7, 8, 9, 10, 11, 12, 13, 14, 15, 16, 17, 18, 19, 20, 21, 22, 23, 24, 25, 26, 27, 28, 29, 30, 31, 32, 33, 34, 35, 36, 37, 38, 39, 40, 41, 42], [], false⟩, ⟨[], [0, 1, 2, 3, 4, 5, 6, 7, 8, 9, 10, 11, 12, 13, 14, 15, 16, 17, 18, 19, 20, 21, 22, 23, 24, 25, 26, 27, 28, 29, 30, 31, 32, 33, 34, 35, 36, 37, 38, 39, 40, 41, 42, 43], [], false⟩, ⟨[], [0, 1, 2, 3, 4, 5, 6, 7, 8, 9, 10, 11, 12, 13, 14, 15, 16, 17, 18, 19, 20, 21, 22, 23, 24, 25, 26, 27, 28, 29, 30, 31, 32, 33, 34, 35, 36, 37, 38, 39, 40, 41, 42, 43, 44], [], false⟩, ⟨[], [0, 1, 2, 3, 4, 5, 6, 7, 8, 9, 10, 11, 12, 13, 14, 15, 16, 17, 18, 19, 20, 21, 22, 23, 24, 25, 26, 27, 28, 29, 30, 31, 32, 33, 34, 35, 36, 37, 38, 39, 40, 41, 42, 43, 44, 45], [], false⟩, ⟨[], [0, 1, 2, 3, 4, 5, 6, 7, 8, 9, 10, 11, 12, 13, 14, 15, 16, 17, 18, 19, 20, 21, 22, 23, 24, 25, 26, 27, 28, 29, 30, 31, 32, 33, 34, 35, 36, 37, 38, 39, 40, 41, 42, 43, 44, 45, 46], [], false⟩] 41 (by kernel_rfl) (by kernel_rfl)
           ·refine ⟨?_, ?_, ?_, ?_, ?_, ?_, ?_, ?_, ?_, ?_, ?_, ?_, ?_, ?_, ?_, ?_, ?_, ?_, ?_, ?_, ?_, ?_, ?_, ?_, ?_, ?_, ?_, ?_, ?_, ?_, ?_, ?_, ?_, ?_, ?_, ?_, ?_, ?_, ?_, ?_, ?_, trivial⟩
            ·intro tm hr
             simp [AllL, rdV] at hr
             simp [hr, ← e34, ← e35]
             intros; first | exact KD.mk | exact KD.mkN
            ·intro tm hr
             simp [AllL, rdV] at hr
             simp [hr, ← e34, ← e35]
             intros; first | exact KD.mk | exact KD.mkN
            ·intro tm hr
             simp [AllL, rdV] at hr
             simp [hr, ← e34, ← e35]
             intros; first | exact KD.mk | exact KD.mkN
            ·intro tm hr
             simp [AllL, rdV] at hr
             simp [hr, ← e34, ← e35]
             intros; first | exact KD.mk | exact KD.mkN
            ·intro tm hr
             simp [AllL, rdV] at hr
             simp [hr, ← e34, ← e35]
             intros; first | exact KD.mk | exact KD.mkN
            ·intro tm hr
             simp [AllL, rdV] at hr
             simp [hr, ← e34, ← e35]
             intros; first | exact KD.mk | exact KD.mkN
            ·intro tm hr
             simp [AllL, rdV] at hr
             simp [hr, ← e34, ← e35]
             intros; first | exact KD.mk | exact KD.mkN
            ·intro tm hr
             simp [AllL, rdV] at hr
             simp [hr, ← e34, ← e35]
             intros; first | exact KD.mk | exact KD.mkN
            ·intro tm hr
             simp [AllL, rdV] at hr
             simp [hr, ← e34, ← e35]
             intros; first | exact KD.mk | exact KD.mkN
            ·intro tm hr
             simp [AllL, rdV] at hr
             simp [hr, ← e34, ← e35]
             intros; first | exact KD.mk | exact KD.mkN
            ·intro tm hr
             simp [AllL, rdV] at hr
             simp [hr, ← e34, ← e35]
             intros; first | exact KD.mk | exact KD.mkN
            ·intro tm hr
             simp [AllL, rdV] at hr
             simp [hr, ← e34, ← e35]
             intros; first | exact KD.mk | exact KD.mkN
            ·intro tm hr
             simp [AllL, rdV] at hr
             simp [hr, ← e34, ← e35]
             intros; first | exact KD.mk | exact KD.mkN
            ·intro tm hr
             simp [AllL, rdV] at hr
             simp [hr, ← e34, ← e35]
             intros; first | exact KD.mk | exact KD.mkN
            ·intro tm hr
             simp [AllL, rdV] at hr
             simp [hr, ← e34, ← e35]
             intros; first | exact KD.mk | exact KD.mkN
            ·intro tm hr
             simp [AllL, rdV] at hr
             simp [hr, ← e34, ← e35]
             intros; first | exact KD.mk | exact KD.mkN
            ·intro tm hr
             simp [AllL, rdV] at hr
             simp [hr, ← e34, ← e35]
             intros; first | exact KD.mk | exact KD.mkN
            ·intro tm hr
             simp [AllL, rdV] at hr
             simp [hr, ← e34, ← e35]
             intros; first | exact KD.mk | exact KD.mkN
            ·intro tm hr
             simp [AllL, rdV] at hr
             simp [hr, ← e34, ← e35]
             intros; first | exact KD.mk | exact KD.mkN
            ·intro tm hr
             simp [AllL, rdV] at hr
             simp [hr, ← e34, ← e35]
             intros; first | exact KD.mk | exact KD.mkN
            ·intro tm hr
             simp [AllL, rdV] at hr
             simp [hr, ← e34, ← e35]
             intros; first | exact KD.mk | exact KD.mkN
            ·intro tm hr
             simp [AllL, rdV] at hr
             simp [hr, ← e34, ← e35]
             intros; first | exact KD.mk | exact KD.mkN
            ·intro tm hr
             simp [AllL, rdV] at hr
             simp [hr, ← e34, ← e35]
             intros; first | exact KD.mk | exact KD.mkN
            ·intro tm hr
             simp [AllL, rdV] at hr
             simp [hr, ← e34, ← e35]
             intros; first | exact KD.mk | exact KD.mkN
            ·intro tm hr
             simp [AllL, rdV] at hr
             simp [hr, ← e34, ← e35]
             intros; first | exact KD.mk | exact KD.mkN
            ·intro tm hr
             simp [AllL, rdV] at hr
             simp [hr, ← e34, ← e35]
             intros; first | exact KD.mk | exact KD.mkN
            ·intro tm hr
             simp [AllL, rdV] at hr
             simp [hr, ← e34, ← e35]
             intros; first | exact KD.mk | exact KD.mkN
            ·intro tm hr
             simp [AllL, rdV] at hr
             simp [hr, ← e34, ← e35]
             intros; first | exact KD.mk | exact KD.mkN
            ·intro tm hr
             simp [AllL, rdV] at hr
             simp [hr, ← e34, ← e35]
             intros; first | exact KD.mk | exact KD.mkN
            ·intro tm hr
             simp [AllL, rdV] at hr
             simp [hr, ← e34, ← e35]
             intros; first | exact KD.mk | exact KD.mkN
            ·intro tm hr
             simp [AllL, rdV] at hr
             simp [hr, ← e34, ← e35]
             intros; first | exact KD.mk | exact KD.mkN
            ·intro tm hr
             simp [AllL, rdV] at hr
             simp [hr, ← e34, ← e35]
             intros; first | exact KD.mk | exact KD.mkN
            ·intro tm hr
             simp [AllL, rdV] at hr
             simp [hr, ← e34, ← e35]
             intros; first | exact KD.mk | exact KD.mkN
            ·intro tm hr
             simp [AllL, rdV] at hr
             simp [hr, ← e34, ← e35]
             intros; first | exact KD.mk | exact KD.mkN
            ·intro tm hr
             simp [AllL, rdV] at hr
             simp [hr, ← e34, ← e35]
             intros; first | exact KD.mk | exact KD.mkN
            ·intro tm hr
             simp [AllL, rdV] at hr
             simp [hr, ← e34, ← e35]
             intros; first | exact KD.mk | exact KD.mkN
            ·intro tm hr
             simp [AllL, rdV] at hr
             simp [hr, ← e34, ← e35]
             intros; first | exact KD.mk | exact KD.mkN
            ·intro tm hr
             simp [AllL, rdV] at hr
             simp [hr, ← e34, ← e35]
             intros; first | exact KD.mk | exact KD.mkN
            ·intro tm hr
             simp [AllL, rdV] at hr
             simp [hr, ← e34, ← e35]
             intros; first | exact KD.mk | exact KD.mkN
            ·intro tm hr
             simp [AllL, rdV] at hr
             simp [hr, ← e34, ← e35]
             intros; first | exact KD.mk | exact KD.mkN
            ·intro tm hr
             simp [AllL, rdV] at hr
             simp [hr, ← e34, ← e35]
             intros; first | exact KD.mk | exact KD.mkN
           ·rfl
           ·simp [tmD, putD, ← e34, ← e35]; rfl
           ·simp [← e34, ← e35]
            intros; rfl
           obtain rfl := Option.some.inj h
           refine nP_i ?_
           refine Weak.mixN [some 0, some 1] hn0 (by decide) ?_ ?_ rfl
           all_goals first | (simp [inv_cons, inv_nil, pickOb]; done) | rfl
          | false =>
           replace h := iteF rfl h
           replace h := ltE h; obtain ⟨v36, e36, h⟩ := h
           cases v36 with
           | true =>
            replace h := iteT rfl h
            apply AW.drawnR (V := [_, _, _, _, _, _, _, _, _, _, _, _, _, _, _, _, _, _, _, _, _, _, _, _, _, _, _, _, _, _, _, _, _, _, _, _, _, _, _, _, _]) mixed [⟨[0], [], [(8, none)], false⟩, ⟨[0], [], [(6, none)], false⟩, ⟨[0], [0, 1], [(78, some 0), (79, some 1)], false⟩, ⟨[0], [0, 1, 2], [(80, some 2)], false⟩, ⟨[0], [0, 1, 2, 3], [(8, none), (81, some 3)], false⟩, ⟨[0], [0, 1, 2, 3], [(5, none), (81, some 3)], false⟩, ⟨[0], [0, 1, 2, 3, 5], [(81, some 3), (83, some 5)], false⟩, ⟨[0], [0, 1, 2, 3, 4, 5, 6], [(81, some 3), (82, some 4), (84, some 6)], false⟩, ⟨[0], [0, 1, 2, 3, 4, 5, 6, 7], [(81, some 3), (85, some 7)], false⟩, ⟨[0], [0, 1, 2, 3, 4, 5, 6, 7, 8], [(86, some 8)], false⟩, ⟨[0], [0, 1, 2, 3, 4, 5, 6, 7, 8, 9], [(9, none), (87, some 9)], false⟩, ⟨[0], [0, 1, 2, 3, 4, 5, 6, 7, 8, 9, 10], [(87, some 9), (88, some 10)], false⟩, ⟨[0], [0, 1, 2, 3, 4, 5, 6, 7, 8, 9], [(8, none), (87, some 9)], false⟩, ⟨[0], [0, 1, 2, 3, 4, 5, 6, 7, 8, 9, 10, 11, 12], [(87, some 9), (89, some 11), (90, some 12)], false⟩, ⟨[0], [0, 1, 2, 3, 4, 5, 6, 7, 8, 9, 10, 11, 12, 13], [(87, some 9), (91, some 13)], false⟩, ⟨[0], [0, 1, 2, 3, 4, 5, 6, 7, 8, 9, 10, 11, 12, 13, 14], [(92, some 14)], false⟩, ⟨[0], [0, 1, 2, 3, 4, 5, 6, 7, 8, 9, 10, 11, 12, 13, 14, 15], [(10, none), (93, some 15)], false⟩, ⟨[0], [0, 1, 2, 3, 4, 5, 6, 7, 8, 9, 10, 11, 12, 13, 14, 15, 16], [(93, some 15), (94, some 16)], false⟩, ⟨[0], [0, 1, 2, 3, 4, 5, 6, 7, 8, 9, 10, 11, 12, 13, 14, 15, 16, 17], [(93, some 15), (95, some 17)], false⟩, ⟨[0], [0, 1, 2, 3, 4, 5, 6, 7, 8, 9, 10, 11, 12, 13, 14, 15, 16, 17, 18], [(93, some 15), (96, some 18)], false⟩, ⟨[0], [0, 1, 2, 3, 4, 5, 6, 7, 8, 9, 10, 11, 12, 13, 14, 15], [(8, none), (93, some 15)], false⟩, ⟨[0], [0, 1, 2, 3, 4, 5, 6, 7, 8, 9, 10, 11, 12, 13, 14, 15, 16, 17, 18, 19, 20], [(93, some 15), (97, some 19), (98, some 20)], false⟩, ⟨[0], [0, 1, 2, 3, 4, 5, 6, 7, 8, 9, 10, 11, 12, 13, 14, 15, 16, 17, 18, 19, 20, 21], [(93, some 15), (99, some 21)], false⟩, ⟨[0], [0, 1, 2, 3, 4, 5, 6, 7, 8, 9, 10, 11, 12, 13, 14, 15, 16, 17, 18, 19, 20, 21, 22], [(100, some 22)], false⟩, ⟨[0], [0, 1, 2, 3, 4, 5, 6, 7, 8, 9, 10, 11, 12, 13, 14, 15, 16, 17, 18, 19, 20, 21, 22, 23], [(10, none), (101, some 23)], false⟩, ⟨[0], [0, 1, 2, 3, 4, 5, 6, 7, 8, 9, 10, 11, 12, 13, 14, 15, 16, 17, 18, 19, 20, 21, 22, 23, 24], [(101, some 23), (102, some 24)], false⟩, ⟨[0], [0, 1, 2, 3, 4, 5, 6, 7, 8, 9, 10, 11, 12, 13, 14, 15, 16, 17, 18, 19, 20, 21, 22, 23, 24, 25], [(101, some 23), (103, some 25)], false⟩, ⟨[0], [0, 1, 2, 3, 4, 5, 6, 7, 8, 9, 10, 11, 12, 13, 14, 15, 16, 17, 18, 19, 20, 21, 22, 23, 24, 25, 26], [(101, some 23), (104, some 26)], false⟩, ⟨[0], [0, 1, 2, 3, 4, 5, 6, 7, 8, 9, 10, 11, 12, 13, 14, 15, 16, 17, 18, 19, 20, 21, 22, 23], [(0, none), (101, some 23)], false⟩, ⟨[0], [0, 1, 2, 3, 4, 5, 6, 7, 8, 9, 10, 11, 12, 13, 14, 15, 16, 17, 18, 19, 20, 21, 22, 23], [(7, none), (101, some 23)], false⟩, ⟨[0], [0, 1, 2, 3, 4, 5, 6, 7, 8, 9, 10, 11, 12, 13, 14, 15, 16, 17, 18, 19, 20, 21, 22, 23, 28, 29], [(101, some 23), (106, some 28), (107, some 29)], false⟩, ⟨[0], [0, 1, 2, 3, 4, 5, 6, 7, 8, 9, 10, 11, 12, 13, 14, 15, 16, 17, 18, 19, 20, 21, 22, 23, 28, 29, 30], [(101, some 23), (108, some 30)], false⟩, ⟨[0], [0, 1, 2, 3, 4, 5, 6, 7, 8, 9, 10, 11, 12, 13, 14, 15, 16, 17, 18, 19, 20, 21, 22, 23, 28, 29, 30, 31], [(101, some 23), (109, some 31)], false⟩, ⟨[0], [0, 1, 2, 3, 4, 5, 6, 7, 8, 9, 10, 11, 12, 13, 14, 15, 16, 17, 18, 19, 20, 21, 22, 23, 28, 29, 30, 31, 32], [(101, some 23), (110, some 32)], false⟩, ⟨[0], [0, 1, 2, 3, 4, 5, 6, 7, 8, 9, 10, 11, 12, 13, 14, 15, 16, 17, 18, 19, 20, 21, 22, 23, 28, 29, 30, 31, 32, 33], [(101, some 23), (111, some 33)], false⟩, ⟨[0], [0, 1, 2, 3, 4, 5, 6, 7, 8, 9, 10, 11, 12, 13, 14, 15, 16, 17, 18, 19, 20, 21, 22, 23, 28, 29, 30, 31, 32, 33, 34], [(101, some 23), (112, some 34)], false⟩, ⟨[0], [0, 1, 2, 3, 4, 5, 6, 7, 8, 9, 10, 11, 12, 13, 14, 15, 16, 17, 18, 19, 20, 21, 22, 23, 24, 25, 26, 27, 28, 29, 30, 31, 32, 33, 34, 35], [(101, some 23), (105, some 27), (113, some 35)], false⟩, ⟨[0], [0, 1, 2, 3, 4, 5, 6, 7, 8, 9, 10, 11, 12, 13, 14, 15, 16, 17, 18, 19, 20, 21, 22, 23, 24, 25, 26, 27, 28, 29, 30, 31, 32, 33, 34, 35, 36], [(101, some 23), (114, some 36)], false⟩, ⟨[0], [0, 1, 2, 3, 4, 5, 6, 7, 8, 9, 10, 11, 12, 13, 14, 15, 16, 17, 18, 19, 20, 21, 22, 23, 24, 25, 26, 27, 28, 29, 30, 31, 32, 33, 34, 35, 36, 37], [(115, some 37)], false⟩, ⟨[0], [0, 1, 2, 3, 4, 5, 6, 7, 8, 9, 10, 11, 12, 13, 14, 15, 16, 17, 18, 19, 20, 21, 22, 23, 24, 25, 26, 27, 28, 29, 30, 31, 32, 33, 34, 35, 36, 37, 38], [(0, none), (116, some 38)], false⟩, ⟨[0], [0, 1, 2, 3, 4, 5, 6, 7, 8, 9, 10, 11, 12, 13, 14, 15, 16, 17, 18, 19, 20, 21, 22, 23, 24, 25, 26, 27, 28, 29, 30, 31, 32, 33, 34, 35, 36, 37, 38], [(7, none), (116, some 38)], false⟩, ⟨[], [0, 1, 2, 3, 4, 5, 6, 7, 8, 9, 10, 11, 12, 13, 14, 15, 16, 17, 18, 19, 20, 21, 22, 23, 24, 25, 26, 27, 28, 29, 30, 31, 32, 33, 34, 35, 36, 37, 38, 39, 40], [], false⟩, ⟨[], [0, 1, 2, 3, 4, 5, 6, 7, 8, 9, 10, 11, 12, 13, 14, 15, 16, 17, 18, 19, 20, 21, 22, 23, 24, 25, 26, 27, 28, 29, 30, 31, 32, 33, 34, 35, 36, 37, 38, 39, 40, 41], [], false⟩, ⟨[], [0, 1, 2, 3, 4, 5, 6, 7, 8, 9, 10, 11, 12, 13, 14, 15, 16, 17, 18, 19, 20, 21, 22, 23, 24, 25, 26, 27, 28, 29, 30, 31, 32, 33, 34, 35, 36, 37, 38, 39, 40, 41, 42], [], false⟩, ⟨[], [0, 1, 2, 3, 4, 5, 6, 7, 8, 9, 10, 11, 12, 13, 14, 15, 16, 17, 18, 19, 20, 21, 22, 23, 24, 25, 26, 27, 28, 29, 30, 31, 32, 33, 34, 35, 36, 37, 38, 39, 40, 41, 42, 43], [], false⟩, ⟨[], [0, 1, 2, 3, 4, 5, 6, 7, 8, 9, 10, 11, 12, 13, 14, 15, 16, 17, 18, 19, 20, 21, 22, 23, 24, 25, 26, 27, 28, 29, 30, 31, 32, 33, 34, 35, 36, 37, 38, 39, 40, 41, 42, 43, 44], [], false⟩, ⟨[], [0, 1, 2, 3, 4, 5, 6, 7, 8, 9, 10, 11, 12, 13, 14, 15, 16, 17, 18, 19, 20, 21, 22, 23, 24, 25, 26, 27, 28, 29, 30, 31, 32, 33, 34, 35, 36, 37, 38, 39, 40, 41, 42, 43, 44, 45], [], false⟩, ⟨[], [0, 1, 2, 3, 4, 5, 6, 7, 8, 9, 10, 11, 12, 13, 14, 15, 16, 17, 18, 19, 20, 21, 22, 23, 24, 25, 26, 27, 28, 29, 30, 31, 32, 33, 34, 35, 36, 37, 38, 39, 40, 41, 42, 43, 44, 45, 46], [], false⟩] 41 (by kernel_rfl) (by kernel_rfl)
            ·refine ⟨?_, ?_, ?_, ?_, ?_, ?_, ?_, ?_, ?_, ?_, ?_, ?_, ?_, ?_, ?_, ?_, ?_, ?_, ?_, ?_, ?_, ?_, ?_, ?_, ?_, ?_, ?_, ?_, ?_, ?_, ?_, ?_, ?_, ?_, ?_, ?_, ?_, ?_, ?_, ?_, ?_, trivial⟩
             ·intro tm hr
              simp [AllL, rdV] at hr
              simp [hr, ← e34, ← e35, ← e36]
              intros; first | exact KD.mk | exact KD.mkN
             ·intro tm hr
              simp [AllL, rdV] at hr
              simp [hr, ← e34, ← e35, ← e36]
              intros; first | exact KD.mk | exact KD.mkN
             ·intro tm hr
              simp [AllL, rdV] at hr
              simp [hr, ← e34, ← e35, ← e36]
              intros; first | exact KD.mk | exact KD.mkN
             ·intro tm hr
              simp [AllL, rdV] at hr
              simp [hr, ← e34, ← e35, ← e36]
              intros; first | exact KD.mk | exact KD.mkN
             ·intro tm hr
              simp [AllL, rdV] at hr
              simp [hr, ← e34, ← e35, ← e36]
              intros; first | exact KD.mk | exact KD.mkN
             ·intro tm hr
              simp [AllL, rdV] at hr
              simp [hr, ← e34, ← e35, ← e36]
              intros; first | exact KD.mk | exact KD.mkN
             ·intro tm hr
              simp [AllL, rdV] at hr
              simp [hr, ← e34, ← e35, ← e36]
              intros; first | exact KD.mk | exact KD.mkN
             ·intro tm hr
              simp [AllL, rdV] at hr
              simp [hr, ← e34, ← e35, ← e36]
              intros; first | exact KD.mk | exact KD.mkN
             ·intro tm hr
              simp [AllL, rdV] at hr
              simp [hr, ← e34, ← e35, ← e36]
              intros; first | exact KD.mk | exact KD.mkN
             ·intro tm hr
              simp [AllL, rdV] at hr
              simp [hr, ← e34, ← e35, ← e36]
              intros; first | exact KD.mk | exact KD.mkN
             ·intro tm hr
              simp [AllL, rdV] at hr
              simp [hr, ← e34, ← e35, ← e36]
              intros; first | exact KD.mk | exact KD.mkN
             ·intro tm hr
              simp [AllL, rdV] at hr
              simp [hr, ← e34, ← e35, ← e36]
              intros; first | exact KD.mk | exact KD.mkN
             ·intro tm hr
              simp [AllL, rdV] at hr
              simp [hr, ← e34, ← e35, ← e36]
              intros; first | exact KD.mk | exact KD.mkN
             ·intro tm hr
              simp [AllL, rdV] at hr
              simp [hr, ← e34, ← e35, ← e36]
              intros; first | exact KD.mk | exact KD.mkN
             ·intro tm hr
              simp [AllL, rdV] at hr
              simp [hr, ← e34, ← e35, ← e36]
              intros; first | exact KD.mk | exact KD.mkN
             ·intro tm hr
              simp [AllL, rdV] at hr
              simp [hr, ← e34, ← e35, ← e36]
              intros; first | exact KD.mk | exact KD.mkN
             ·intro tm hr
              simp [AllL, rdV] at hr
              simp [hr, ← e34, ← e35, ← e36]
              intros; first | exact KD.mk | exact KD.mkN
             ·intro tm hr
              simp [AllL, rdV] at hr
              simp [hr, ← e34, ← e35, ← e36]
              intros; first | exact KD.mk | exact KD.mkN
             ·intro tm hr
              simp [AllL, rdV] at hr
              simp [hr, ← e34, ← e35, ← e36]
              intros; first | exact KD.mk | exact KD.mkN
             ·intro tm hr
              simp [AllL, rdV] at hr
              simp [hr, ← e34, ← e35, ← e36]
              intros; first | exact KD.mk | exact KD.mkN
             ·intro tm hr
              simp [AllL, rdV] at hr
              simp [hr, ← e34, ← e35, ← e36]
              intros; first | exact KD.mk | exact KD.mkN
             ·intro tm hr
              simp [AllL, rdV] at hr
              simp [hr, ← e34, ← e35, ← e36]
              intros; first | exact KD.mk | exact KD.mkN
             ·intro tm hr
              simp [AllL, rdV] at hr
              simp [hr, ← e34, ← e35, ← e36]
              intros; first | exact KD.mk | exact KD.mkN
             ·intro tm hr
              simp [AllL, rdV] at hr
              simp [hr, ← e34, ← e35, ← e36]
              intros; first | exact KD.mk | exact KD.mkN
             ·intro tm hr
              simp [AllL, rdV] at hr
              simp [hr, ← e34, ← e35, ← e36]
              intros; first | exact KD.mk | exact KD.mkN
             ·intro tm hr
              simp [AllL, rdV] at hr
              simp [hr, ← e34, ← e35, ← e36]
              intros; first | exact KD.mk | exact KD.mkN
             ·intro tm hr
              simp [AllL, rdV] at hr
              simp [hr, ← e34, ← e35, ← e36]
              intros; first | exact KD.mk | exact KD.mkN
             ·intro tm hr
              simp [AllL, rdV] at hr
              simp [hr, ← e34, ← e35, ← e36]
              intros; first | exact KD.mk | exact KD.mkN
             ·intro tm hr
              simp [AllL, rdV] at hr
              simp [hr, ← e34, ← e35, ← e36]
              intros; first | exact KD.mk | exact KD.mkN
             ·intro tm hr
              simp [AllL, rdV] at hr
              simp [hr, ← e34, ← e35, ← e36]
              intros; first | exact KD.mk | exact KD.mkN
             ·intro tm hr
              simp [AllL, rdV] at hr
              simp [hr, ← e34, ← e35, ← e36]
              intros; first | exact KD.mk | exact KD.mkN
             ·intro tm hr
              simp [AllL, rdV] at hr
              simp [hr, ← e34, ← e35, ← e36]
              intros; first | exact KD.mk | exact KD.mkN
             ·intro tm hr
              simp [AllL, rdV] at hr
              simp [hr, ← e34, ← e35, ← e36]
              intros; first | exact KD.mk | exact KD.mkN
             ·intro tm hr
              simp [AllL, rdV] at hr
              simp [hr, ← e34, ← e35, ← e36]
              intros; first | exact KD.mk | exact KD.mkN
             ·intro tm hr
              simp [AllL, rdV] at hr
              simp [hr, ← e34, ← e35, ← e36]
              intros; first | exact KD.mk | exact KD.mkN
             ·intro tm hr
              simp [AllL, rdV] at hr
              simp [hr, ← e34, ← e35, ← e36]
              intros; first | exact KD.mk | exact KD.mkN
             ·intro tm hr
              simp [AllL, rdV] at hr
              simp [hr, ← e34, ← e35, ← e36]
              intros; first | exact KD.mk | exact KD.mkN
             ·intro tm hr
              simp [AllL, rdV] at hr
              simp [hr, ← e34, ← e35, ← e36]
              intros; first | exact KD.mk | exact KD.mkN
             ·intro tm hr
              simp [AllL, rdV] at hr
              simp [hr, ← e34, ← e35, ← e36]
              intros; first | exact KD.mk | exact KD.mkN
             ·intro tm hr
              simp [AllL, rdV] at hr
              simp [hr, ← e34, ← e35, ← e36]
              intros; first | exact KD.mk | exact KD.mkN
             ·intro tm hr
              simp [AllL, rdV] at hr
              simp [hr, ← e34, ← e35, ← e36]
              intros; first | exact KD.mk | exact KD.mkN
            ·rfl
            ·simp [tmD, putD, ← e34, ← e35, ← e36]; rfl
            ·simp [← e34, ← e35, ← e36]
             intros; rfl
            obtain rfl := Option.some.inj h
            refine nP_i ?_
            refine Weak.mixN [some 0, some 1] hn0 (by decide) ?_ ?_ rfl
            all_goals first | (simp [inv_cons, inv_nil, pickOb]; done) | rfl
           | false =>
            replace h := iteF rfl h
            replace h := bnE h; obtain ⟨v37, e37, h⟩ := h
            replace h := ltE h; obtain ⟨v38, e38, h⟩ := h
            cases v38 with
            | true =>
             replace h := iteT rfl h
             apply AW.drawnR (V := [_, _, _, _, _, _, _, _, _, _, _, _, _, _, _, _, _, _, _, _, _, _, _, _, _, _, _, _, _, _, _, _, _, _, _, _, _, _, _, _, _]) mixed [⟨[0], [], [(8, none)], false⟩, ⟨[0], [], [(6, none)], false⟩, ⟨[0], [0, 1], [(78, some 0), (79, some 1)], false⟩, ⟨[0], [0, 1, 2], [(80, some 2)], false⟩, ⟨[0], [0, 1, 2, 3], [(8, none), (81, some 3)], false⟩, ⟨[0], [0, 1, 2, 3], [(5, none), (81, some 3)], false⟩, ⟨[0], [0, 1, 2, 3, 5], [(81, some 3), (83, some 5)], false⟩, ⟨[0], [0, 1, 2, 3, 4, 5, 6], [(81, some 3), (82, some 4), (84, some 6)], false⟩, ⟨[0], [0, 1, 2, 3, 4, 5, 6, 7], [(81, some 3), (85, some 7)], false⟩, ⟨[0], [0, 1, 2, 3, 4, 5, 6, 7, 8], [(86, some 8)], false⟩, ⟨[0], [0, 1, 2, 3, 4, 5, 6, 7, 8, 9], [(9, none), (87, some 9)], false⟩, ⟨[0], [0, 1, 2, 3, 4, 5, 6, 7, 8, 9, 10], [(87, some 9), (88, some 10)], false⟩, ⟨[0], [0, 1, 2, 3, 4, 5, 6, 7, 8, 9], [(8, none), (87, some 9)], false⟩, ⟨[0], [0, 1, 2, 3, 4, 5, 6, 7, 8, 9, 10, 11, 12], [(87, some 9), (89, some 11), (90, some 12)], false⟩, ⟨[0], [0, 1, 2, 3, 4, 5, 6, 7, 8, 9, 10, 11, 12, 13], [(87, some 9), (91, some 13)], false⟩, ⟨[0], [0, 1, 2, 3, 4, 5, 6, 7, 8, 9, 10, 11, 12, 13, 14], [(92, some 14)], false⟩, ⟨[0], [0, 1, 2, 3, 4, 5, 6, 7, 8, 9, 10, 11, 12, 13, 14, 15], [(10, none), (93, some 15)], false⟩, ⟨[0], [0, 1, 2, 3, 4, 5, 6, 7, 8, 9, 10, 11, 12, 13, 14, 15, 16], [(93, some 15), (94, some 16)], false⟩, ⟨[0], [0, 1, 2, 3, 4, 5, 6, 7, 8, 9, 10, 11, 12, 13, 14, 15, 16, 17], [(93, some 15), (95, some 17)], false⟩, ⟨[0], [0, 1, 2, 3, 4, 5, 6, 7, 8, 9, 10, 11, 12, 13, 14, 15, 16, 17, 18], [(93, some 15), (96, some 18)], false⟩, ⟨[0], [0, 1, 2, 3, 4, 5, 6, 7, 8, 9, 10, 11, 12, 13, 14, 15], [(8, none), (93, some 15)], false⟩, ⟨[0], [0, 1, 2, 3, 4, 5, 6, 7, 8, 9, 10, 11, 12, 13, 14, 15, 16, 17, 18, 19, 20], [(93, some 15), (97, some 19), (98, some 20)], false⟩, ⟨[0], [0, 1, 2, 3, 4, 5, 6, 7, 8, 9, 10, 11, 12, 13, 14, 15, 16, 17, 18, 19, 20, 21], [(93, some 15), (99, some 21)], false⟩, ⟨[0], [0, 1, 2, 3, 4, 5, 6, 7, 8, 9, 10, 11, 12, 13, 14, 15, 16, 17, 18, 19, 20, 21, 22], [(100, some 22)], false⟩, ⟨[0], [0, 1, 2, 3, 4, 5, 6, 7, 8, 9, 10, 11, 12, 13, 14, 15, 16, 17, 18, 19, 20, 21, 22, 23], [(10, none), (101, some 23)], false⟩, ⟨[0], [0, 1, 2, 3, 4, 5, 6, 7, 8, 9, 10, 11, 12, 13, 14, 15, 16, 17, 18, 19, 20, 21, 22, 23, 24], [(101, some 23), (102, some 24)], false⟩, ⟨[0], [0, 1, 2, 3, 4, 5, 6, 7, 8, 9, 10, 11, 12, 13, 14, 15, 16, 17, 18, 19, 20, 21, 22, 23, 24, 25], [(101, some 23), (103, some 25)], false⟩, ⟨[0], [0, 1, 2, 3, 4, 5, 6, 7, 8, 9, 10, 11, 12, 13, 14, 15, 16, 17, 18, 19, 20, 21, 22, 23, 24, 25, 26], [(101, some 23), (104, some 26)], false⟩, ⟨[0], [0, 1, 2, 3, 4, 5, 6, 7, 8, 9, 10, 11, 12, 13, 14, 15, 16, 17, 18, 19, 20, 21, 22, 23], [(0, none), (101, some 23)], false⟩, ⟨[0], [0, 1, 2, 3, 4, 5, 6, 7, 8, 9, 10, 11, 12, 13, 14, 15, 16, 17, 18, 19, 20, 21, 22, 23], [(7, none), (101, some 23)], false⟩, ⟨[0], [0, 1, 2, 3, 4, 5, 6, 7, 8, 9, 10, 11, 12, 13, 14, 15, 16, 17, 18, 19, 20, 21, 22, 23, 28, 29], [(101, some 23), (106, some 28), (107, some 29)], false⟩, ⟨[0], [0, 1, 2, 3, 4, 5, 6, 7, 8, 9, 10, 11, 12, 13, 14, 15, 16, 17, 18, 19, 20, 21, 22, 23, 28, 29, 30], [(101, some 23), (108, some 30)], false⟩, ⟨[0], [0, 1, 2, 3, 4, 5, 6, 7, 8, 9, 10, 11, 12, 13, 14, 15, 16, 17, 18, 19, 20, 21, 22, 23, 28, 29, 30, 31], [(101, some 23), (109, some 31)], false⟩, ⟨[0], [0, 1, 2, 3, 4, 5, 6, 7, 8, 9, 10, 11, 12, 13, 14, 15, 16, 17, 18, 19, 20, 21, 22, 23, 28, 29, 30, 31, 32], [(101, some 23), (110, some 32)], false⟩, ⟨[0], [0, 1, 2, 3, 4, 5, 6, 7, 8, 9, 10, 11, 12, 13, 14, 15, 16, 17, 18, 19, 20, 21, 22, 23, 28, 29, 30, 31, 32, 33], [(101, some 23), (111, some 33)], false⟩, ⟨[0], [0, 1, 2, 3, 4, 5, 6, 7, 8, 9, 10, 11, 12, 13, 14, 15, 16, 17, 18, 19, 20, 21, 22, 23, 28, 29, 30, 31, 32, 33, 34], [(101, some 23), (112, some 34)], false⟩, ⟨[0], [0, 1, 2, 3, 4, 5, 6, 7, 8, 9, 10, 11, 12, 13, 14, 15, 16, 17, 18, 19, 20, 21, 22, 23, 24, 25, 26, 27, 28, 29, 30, 31, 32, 33, 34, 35], [(101, some 23), (105, some 27), (113, some 35)], false⟩, ⟨[0], [0, 1, 2, 3, 4, 5, 6, 7, 8, 9, 10, 11, 12, 13, 14, 15, 16, 17, 18, 19, 20, 21, 22, 23, 24, 25, 26, 27, 28, 29, 30, 31, 32, 33, 34, 35, 36], [(101, some 23), (114, some 36)], false⟩, ⟨[0], [0, 1, 2, 3, 4, 5, 6, 7, 8, 9, 10, 11, 12, 13, 14, 15, 16, 17, 18, 19, 20, 21, 22, 23, 24, 25, 26, 27, 28, 29, 30, 31, 32, 33, 34, 35, 36, 37], [(115, some 37)], false⟩, ⟨[0], [0, 1, 2, 3, 4, 5, 6, 7, 8, 9, 10, 11, 12, 13, 14, 15, 16, 17, 18, 19, 20, 21, 22, 23, 24, 25, 26, 27, 28, 29, 30, 31, 32, 33, 34, 35, 36, 37, 38], [(0, none), (116, some 38)], false⟩, ⟨[0], [0, 1, 2, 3, 4, 5, 6, 7, 8, 9, 10, 11, 12, 13, 14, 15, 16, 17, 18, 19, 20, 21, 22, 23, 24, 25, 26, 27, 28, 29, 30, 31, 32, 33, 34, 35, 36, 37, 38], [(7, none), (116, some 38)], false⟩, ⟨[], [0, 1, 2, 3, 4, 5, 6, 7, 8, 9, 10, 11, 12, 13, 14, 15, 16, 17, 18, 19, 20, 21, 22, 23, 24, 25, 26, 27, 28, 29, 30, 31, 32, 33, 34, 35, 36, 37, 38, 39, 40], [], false⟩, ⟨[], [0, 1, 2, 3, 4, 5, 6, 7, 8, 9, 10, 11, 12, 13, 14, 15, 16, 17, 18, 19, 20, 21, 22, 23, 24, 25, 26, 27, 28, 29, 30, 31, 32, 33, 34, 35, 36, 37, 38, 39, 40, 41], [], false⟩, ⟨[], [0, 1, 2, 3, 4, 5, 6, 7, 8, 9, 10, 11, 12, 13, 14, 15, 16, 17, 18, 19, 20, 21, 22, 23, 24, 25, 26, 27, 28, 29, 30, 31, 32, 33, 34, 35, 36, 37, 38, 39, 40, 41, 42], [], false⟩, ⟨[], [0, 1, 2, 3, 4, 5, 6, 7, 8, 9, 10, 11, 12, 13, 14, 15, 16, 17, 18, 19, 20, 21, 22, 23, 24, 25, 26, 27, 28, 29, 30, 31, 32, 33, 34, 35, 36, 37, 38, 39, 40, 41, 42, 43], [], false⟩, ⟨[], [0, 1, 2, 3, 4, 5, 6, 7, 8, 9, 10, 11, 12, 13, 14, 15, 16, 17, 18, 19, 20, 21, 22, 23, 24, 25, 26, 27, 28, 29, 30, 31, 32, 33, 34, 35, 36, 37, 38, 39, 40, 41, 42, 43, 44], [], false⟩, ⟨[], [0, 1, 2, 3, 4, 5, 6, 7, 8, 9, 10, 11, 12, 13, 14, 15, 16, 17, 18, 19, 20, 21, 22, 23, 24, 25, 26, 27, 28, 29, 30, 31, 32, 33, 34, 35, 36, 37, 38, 39, 40, 41, 42, 43, 44, 45], [], false⟩, ⟨[], [0, 1, 2, 3, 4, 5, 6, 7, 8, 9, 10, 11, 12, 13, 14, 15, 16, 17, 18, 19, 20, 21, 22, 23, 24, 25, 26, 27, 28, 29, 30, 31, 32, 33, 34, 35, 36, 37, 38, 39, 40, 41, 42, 43, 44, 45, 46], [], false⟩] 41 (by kernel_rfl) (by kernel_rfl)
             ·refine ⟨?_, ?_, ?_, ?_, ?_, ?_, ?_, ?_, ?_, ?_, ?_, ?_, ?_, ?_, ?_, ?_, ?_, ?_, ?_, ?_, ?_, ?_, ?_, ?_, ?_, ?_, ?_, ?_, ?_, ?_, ?_, ?_, ?_, ?_, ?_, ?_, ?_, ?_, ?_, ?_, ?_, trivial⟩
              ·intro tm hr
               simp [AllL, rdV] at hr
               simp [hr, ← e34, ← e35, ← e36, (show v23.2[0]? = some v37 from (nth_d e37).2), ← e38]
               intros; first | exact KD.mk | exact KD.mkN
              ·intro tm hr
               simp [AllL, rdV] at hr
               simp [hr, ← e34, ← e35, ← e36, (show v23.2[0]? = some v37 from (nth_d e37).2), ← e38]
               intros; first | exact KD.mk | exact KD.mkN
              ·intro tm hr
               simp [AllL, rdV] at hr
               simp [hr, ← e34, ← e35, ← e36, (show v23.2[0]? = some v37 from (nth_d e37).2), ← e38]
               intros; first | exact KD.mk | exact KD.mkN
              ·intro tm hr
               simp [AllL, rdV] at hr
               simp [hr, ← e34, ← e35, ← e36, (show v23.2[0]? = some v37 from (nth_d e37).2), ← e38]
               intros; first | exact KD.mk | exact KD.mkN
              ·intro tm hr
               simp [AllL, rdV] at hr
               simp [hr, ← e34, ← e35, ← e36, (show v23.2[0]? = some v37 from (nth_d e37).2), ← e38]
               intros; first | exact KD.mk | exact KD.mkN
              ·intro tm hr
               simp [AllL, rdV] at hr
               simp [hr, ← e34, ← e35, ← e36, (show v23.2[0]? = some v37 from (nth_d e37).2), ← e38]
               intros; first | exact KD.mk | exact KD.mkN
              ·intro tm hr
               simp [AllL, rdV] at hr
               simp [hr, ← e34, ← e35, ← e36, (show v23.2[0]? = some v37 from (nth_d e37).2), ← e38]
               intros; first | exact KD.mk | exact KD.mkN
              ·intro tm hr
               simp [AllL, rdV] at hr
               simp [hr, ← e34, ← e35, ← e36, (show v23.2[0]? = some v37 from (nth_d e37).2), ← e38]
               intros; first | exact KD.mk | exact KD.mkN
              ·intro tm hr
               simp [AllL, rdV] at hr
               simp [hr, ← e34, ← e35, ← e36, (show v23.2[0]? = some v37 from (nth_d e37).2), ← e38]
               intros; first | exact KD.mk | exact KD.mkN
              ·intro tm hr
               simp [AllL, rdV] at hr
               simp [hr, ← e34, ← e35, ← e36, (show v23.2[0]? = some v37 from (nth_d e37).2), ← e38]
               intros; first | exact KD.mk | exact KD.mkN
              ·intro tm hr
               simp [AllL, rdV] at hr
               simp [hr, ← e34, ← e35, ← e36, (show v23.2[0]? = some v37 from (nth_d e37).2), ← e38]
               intros; first | exact KD.mk | exact KD.mkN
              ·intro tm hr
               simp [AllL, rdV] at hr
               simp [hr, ← e34, ← e35, ← e36, (show v23.2[0]? = some v37 from (nth_d e37).2), ← e38]
               intros; first | exact KD.mk | exact KD.mkN
              ·intro tm hr
               simp [AllL, rdV] at hr
               simp [hr, ← e34, ← e35, ← e36, (show v23.2[0]? = some v37 from (nth_d e37).2), ← e38]
               intros; first | exact KD.mk | exact KD.mkN
              ·intro tm hr
               simp [AllL, rdV] at hr
               simp [hr, ← e34, ← e35, ← e36, (show v23.2[0]? = some v37 from (nth_d e37).2), ← e38]
               intros; first | exact KD.mk | exact KD.mkN
              ·intro tm hr
               simp [AllL, rdV] at hr
               simp [hr, ← e34, ← e35, ← e36, (show v23.2[0]? = some v37 from (nth_d e37).2), ← e38]
               intros; first | exact KD.mk | exact KD.mkN
              ·intro tm hr
               simp [AllL, rdV] at hr
               simp [hr, ← e34, ← e35, ← e36, (show v23.2[0]? = some v37 from (nth_d e37).2), ← e38]
               intros; first | exact KD.mk | exact KD.mkN
              ·intro tm hr
               simp [AllL, rdV] at hr
               simp [hr, ← e34, ← e35, ← e36, (show v23.2[0]? = some v37 from (nth_d e37).2), ← e38]
               intros; first | exact KD.mk | exact KD.mkN
              ·intro tm hr
               simp [AllL, rdV] at hr
               simp [hr, ← e34, ← e35, ← e36, (show v23.2[0]? = some v37 from (nth_d e37).2), ← e38]
               intros; first | exact KD.mk | exact KD.mkN
              ·intro tm hr
               simp [AllL, rdV] at hr
               simp [hr, ← e34, ← e35, ← e36, (show v23.2[0]? = some v37 from (nth_d e37).2), ← e38]
               intros; first | exact KD.mk | exact KD.mkN
              ·intro tm hr
               simp [AllL, rdV] at hr
               simp [hr, ← e34, ← e35, ← e36, (show v23.2[0]? = some v37 from (nth_d e37).2), ← e38]
               intros; first | exact KD.mk | exact KD.mkN
              ·intro tm hr
               simp [AllL, rdV] at hr
               simp [hr, ← e34, ← e35, ← e36, (show v23.2[0]? = some v37 from (nth_d e37).2), ← e38]
               intros; first | exact KD.mk | exact KD.mkN
              ·intro tm hr
               simp [AllL, rdV] at hr
               simp [hr, ← e34, ← e35, ← e36, (show v23.2[0]? = some v37 from (nth_d e37).2), ← e38]
               intros; first | exact KD.mk | exact KD.mkN
              ·intro tm hr
               simp [AllL, rdV] at hr
               simp [hr, ← e34, ← e35, ← e36, (show v23.2[0]? = some v37 from (nth_d e37).2), ← e38]
               intros; first | exact KD.mk | exact KD.mkN
              ·intro tm hr
               simp [AllL, rdV] at hr
               simp [hr, ← e34, ← e35, ← e36, (show v23.2[0]? = some v37 from (nth_d e37).2), ← e38]
               intros; first | exact KD.mk | exact KD.mkN
              ·intro tm hr
               simp [AllL, rdV] at hr
               simp [hr, ← e34, ← e35, ← e36, (show v23.2[0]? = some v37 from (nth_d e37).2), ← e38]
               intros; first | exact KD.mk | exact KD.mkN
              ·intro tm hr
               simp [AllL, rdV] at hr
               simp [hr, ← e34, ← e35, ← e36, (show v23.2[0]? = some v37 from (nth_d e37).2), ← e38]
               intros; first | exact KD.mk | exact KD.mkN
              ·intro tm hr
               simp [AllL, rdV] at hr
               simp [hr, ← e34, ← e35, ← e36, (show v23.2[0]? = some v37 from (nth_d e37).2), ← e38]
               intros; first | exact KD.mk | exact KD.mkN
              ·intro tm hr
               simp [AllL, rdV] at hr
               simp [hr, ← e34, ← e35, ← e36, (show v23.2[0]? = some v37 from (nth_d e37).2), ← e38]
               intros; first | exact KD.mk | exact KD.mkN
              ·intro tm hr
               simp [AllL, rdV] at hr
               simp [hr, ← e34, ← e35, ← e36, (show v23.2[0]? = some v37 from (nth_d e37).2), ← e38]
               intros; first | exact KD.mk | exact KD.mkN
              ·intro tm hr
               simp [AllL, rdV] at hr
               simp [hr, ← e34, ← e35, ← e36, (show v23.2[0]? = some v37 from (nth_d e37).2), ← e38]
               intros; first | exact KD.mk | exact KD.mkN
              ·intro tm hr
               simp [AllL, rdV] at hr
               simp [hr, ← e34, ← e35, ← e36, (show v23.2[0]? = some v37 from (nth_d e37).2), ← e38]
               intros; first | exact KD.mk | exact KD.mkN
              ·intro tm hr
               simp [AllL, rdV] at hr
               simp [hr, ← e34, ← e35, ← e36, (show v23.2[0]? = some v37 from (nth_d e37).2), ← e38]
               intros; first | exact KD.mk | exact KD.mkN
              ·intro tm hr
               simp [AllL, rdV] at hr
               simp [hr, ← e34, ← e35, ← e36, (show v23.2[0]? = some v37 from (nth_d e37).2), ← e38]
               intros; first | exact KD.mk | exact KD.mkN
              ·intro tm hr
               simp [AllL, rdV] at hr
               simp [hr, ← e34, ← e35, ← e36, (show v23.2[0]? = some v37 from (nth_d e37).2), ← e38]
               intros; first | exact KD.mk | exact KD.mkN
              ·intro tm hr
               simp [AllL, rdV] at hr
               simp [hr, ← e34, ← e35, ← e36, (show v23.2[0]? = some v37 from (nth_d e37).2), ← e38]
               intros; first | exact KD.mk | exact KD.mkN
              ·intro tm hr
               simp [AllL, rdV] at hr
               simp [hr, ← e34, ← e35, ← e36, (show v23.2[0]? = some v37 from (nth_d e37).2), ← e38]
               intros; first | exact KD.mk | exact KD.mkN
              ·intro tm hr
               simp [AllL, rdV] at hr
               simp [hr, ← e34, ← e35, ← e36, (show v23.2[0]? = some v37 from (nth_d e37).2), ← e38]
               intros; first | exact KD.mk | exact KD.mkN
              ·intro tm hr
               simp [AllL, rdV] at hr
               simp [hr, ← e34, ← e35, ← e36, (show v23.2[0]? = some v37 from (nth_d e37).2), ← e38]
               intros; first | exact KD.mk | exact KD.mkN
              ·intro tm hr
               simp [AllL, rdV] at hr
               simp [hr, ← e34, ← e35, ← e36, (show v23.2[0]? = some v37 from (nth_d e37).2), ← e38]
               intros; first | exact KD.mk | exact KD.mkN
              ·intro tm hr
               simp [AllL, rdV] at hr
               simp [hr, ← e34, ← e35, ← e36, (show v23.2[0]? = some v37 from (nth_d e37).2), ← e38]
               intros; first | exact KD.mk | exact KD.mkN
              ·intro tm hr
               simp [AllL, rdV] at hr
               simp [hr, ← e34, ← e35, ← e36, (show v23.2[0]? = some v37 from (nth_d e37).2), ← e38]
               intros; first | exact KD.mk | exact KD.mkN
             ·rfl
             ·simp [tmD, putD, ← e34, ← e35, ← e36, (show v23.2[0]? = some v37 from (nth_d e37).2), ← e38]; rfl
             ·simp [← e34, ← e35, ← e36, (show v23.2[0]? = some v37 from (nth_d e37).2), ← e38]
              intros; rfl
             obtain rfl := Option.some.inj h
             refine nP_i ?_
             refine Weak.mixN [some 0, some 1] hn0 (by decide) ?_ ?_ rfl
             all_goals first | (simp [inv_cons, inv_nil, pickOb]; done) | rfl
            | false =>
             replace h := iteF rfl h
             replace h := bnE h; obtain ⟨v39, e39, h⟩ := h
             replace h := ltE h; obtain ⟨v40, e40, h⟩ := h
             replace h := bnE h; obtain ⟨v41, e41, h⟩ := h
             replace h := bnE h; obtain ⟨v42, e42, h⟩ := h
             replace h := ltE h; obtain ⟨v43, e43, h⟩ := h
             replace h := ltE h; obtain ⟨v44, e44, h⟩ := h
             cases v44 with
             | true =>
              replace h := iteT rfl h
              apply AW.drawnR (V := [_, _, _, _, _, _, _, _, _, _, _, _, _, _, _, _, _, _, _, _, _, _, _, _, _, _, _, _, _, _, _, _, _, _, _, _, _, _, _, _, _]) mixed [⟨[0], [], [(8, none)], false⟩, ⟨[0], [], [(6, none)], false⟩, ⟨[0], [0, 1], [(78, some 0), (79, some 1)], false⟩, ⟨[0], [0, 1, 2], [(80, some 2)], false⟩, ⟨[0], [0, 1, 2, 3], [(8, none), (81, some 3)], false⟩, ⟨[0], [0, 1, 2, 3], [(5, none), (81, some 3)], false⟩, ⟨[0], [0, 1, 2, 3, 5], [(81, some 3), (83, some 5)], false⟩, ⟨[0], [0, 1, 2, 3, 4, 5, 6], [(81, some 3), (82, some 4), (84, some 6)], false⟩, ⟨[0], [0, 1, 2, 3, 4, 5, 6, 7], [(81, some 3), (85, some 7)], false⟩, ⟨[0], [0, 1, 2, 3, 4, 5, 6, 7, 8], [(86, some 8)], false⟩, ⟨[0], [0, 1, 2, 3, 4, 5, 6, 7, 8, 9], [(9, none), (87, some 9)], false⟩, ⟨[0], [0, 1, 2, 3, 4, 5, 6, 7, 8, 9, 10], [(87, some 9), (88, some 10)], false⟩, ⟨[0], [0, 1, 2, 3, 4, 5, 6, 7, 8, 9], [(8, none), (87, some 9)], false⟩, ⟨[0], [0, 1, 2, 3, 4, 5, 6, 7, 8, 9, 10, 11, 12], [(87, some 9), (89, some 11), (90, some 12)], false⟩, ⟨[0], [0, 1, 2, 3, 4, 5, 6, 7, 8, 9, 10, 11, 12, 13], [(87, some 9), (91, some 13)], false⟩, ⟨[0], [0, 1, 2, 3, 4, 5, 6, 7, 8, 9, 10, 11, 12, 13, 14], [(92, some 14)], false⟩, ⟨[0], [0, 1, 2, 3, 4, 5, 6, 7, 8, 9, 10, 11, 12, 13, 14, 15], [(10, none), (93, some 15)], false⟩, ⟨[0], [0, 1, 2, 3, 4, 5, 6, 7, 8, 9, 10, 11, 12, 13, 14, 15, 16], [(93, some 15), (94, some 16)], false⟩, ⟨[0], [0, 1, 2, 3, 4, 5, 6, 7, 8, 9, 10, 11, 12, 13, 14, 15, 16, 17], [(93, some 15), (95, some 17)], false⟩, ⟨[0], [0, 1, 2, 3, 4, 5, 6, 7, 8, 9, 10, 11, 12, 13, 14, 15, 16, 17, 18], [(93, some 15), (96, some 18)], false⟩, ⟨[0], [0, 1, 2, 3, 4, 5, 6, 7, 8, 9, 10, 11, 12, 13, 14, 15], [(8, none), (93, some 15)], false⟩, ⟨[0], [0, 1, 2, 3, 4, 5, 6, 7, 8, 9, 10, 11, 12, 13, 14, 15, 16, 17, 18, 19, 20], [(93, some 15), (97, some 19), (98, some 20)], false⟩, ⟨[0], [0, 1, 2, 3, 4, 5, 6, 7, 8, 9, 10, 11, 12, 13, 14, 15, 16, 17, 18, 19, 20, 21], [(93, some 15), (99, some 21)], false⟩, ⟨[0], [0, 1, 2, 3, 4, 5, 6, 7, 8, 9, 10, 11, 12, 13, 14, 15, 16, 17, 18, 19, 20, 21, 22], [(100, some 22)], false⟩, ⟨[0], [0, 1, 2, 3, 4, 5, 6, 7, 8, 9, 10, 11, 12, 13, 14, 15, 16, 17, 18, 19, 20, 21, 22, 23], [(10, none), (101, some 23)], false⟩, ⟨[0], [0, 1, 2, 3, 4, 5, 6, 7, 8, 9, 10, 11, 12, 13, 14, 15, 16, 17, 18, 19, 20, 21, 22, 23, 24], [(101, some 23), (102, some 24)], false⟩, ⟨[0], [0, 1, 2, 3, 4, 5, 6, 7, 8, 9, 10, 11, 12, 13, 14, 15, 16, 17, 18, 19, 20, 21, 22, 23, 24, 25], [(101, some 23), (103, some 25)], false⟩, ⟨[0], [0, 1, 2, 3, 4, 5, 6, 7, 8, 9, 10, 11, 12, 13, 14, 15, 16, 17, 18, 19, 20, 21, 22, 23, 24, 25, 26], [(101, some 23), (104, some 26)], false⟩, ⟨[0], [0, 1, 2, 3, 4, 5, 6, 7, 8, 9, 10, 11, 12, 13, 14, 15, 16, 17, 18, 19, 20, 21, 22, 23], [(0, none), (101, some 23)], false⟩, ⟨[0], [0, 1, 2, 3, 4, 5, 6, 7, 8, 9, 10, 11, 12, 13, 14, 15, 16, 17, 18, 19, 20, 21, 22, 23], [(7, none), (101, some 23)], false⟩, ⟨[0], [0, 1, 2, 3, 4, 5, 6, 7, 8, 9, 10, 11, 12, 13, 14, 15, 16, 17, 18, 19, 20, 21, 22, 23, 28, 29], [(101, some 23), (106, some 28), (107, some 29)], false⟩, ⟨[0], [0, 1, 2, 3, 4, 5, 6, 7, 8, 9, 10, 11, 12, 13, 14, 15, 16, 17, 18, 19, 20, 21, 22, 23, 28, 29, 30], [(101, some 23), (108, some 30)], false⟩, ⟨[0], [0, 1, 2, 3, 4, 5, 6, 7, 8, 9, 10, 11, 12, 13, 14, 15, 16, 17, 18, 19, 20, 21, 22, 23, 28, 29, 30, 31], [(101, some 23), (109, some 31)], false⟩, ⟨[0], [0, 1, 2, 3, 4, 5, 6, 7, 8, 9, 10, 11, 12, 13, 14, 15, 16, 17, 18, 19, 20, 21, 22, 23, 28, 29, 30, 31, 32], [(101, some 23), (110, some 32)], false⟩, ⟨[0], [0, 1, 2, 3, 4, 5, 6, 7, 8, 9, 10, 11, 12, 13, 14, 15, 16, 17, 18, 19, 20, 21, 22, 23, 28, 29, 30, 31, 32, 33], [(101, some 23), (111, some 33)], false⟩, ⟨[0], [0, 1, 2, 3, 4, 5, 6, 7, 8, 9, 10, 11, 12, 13, 14, 15, 16, 17, 18, 19, 20, 21, 22, 23, 28, 29, 30, 31, 32, 33, 34], [(101, some 23), (112, some 34)], false⟩, ⟨[0], [0, 1, 2, 3, 4, 5, 6, 7, 8, 9, 10, 11, 12, 13, 14, 15, 16, 17, 18, 19, 20, 21, 22, 23, 24, 25, 26, 27, 28, 29, 30, 31, 32, 33, 34, 35], [(101, some 23), (105, some 27), (113, some 35)], false⟩, ⟨[0], [0, 1, 2, 3, 4, 5, 6, 7, 8, 9, 10, 11, 12, 13, 14, 15, 16, 17, 18, 19, 20, 21, 22, 23, 24, 25, 26, 27, 28, 29, 30, 31, 32, 33, 34, 35, 36], [(101, some 23), (114, some 36)], false⟩, ⟨[0], [0, 1, 2, 3, 4, 5, 6, 7, 8, 9, 10, 11, 12, 13, 14, 15, 16, 17, 18, 19, 20, 21, 22, 23, 24, 25, 26, 27, 28, 29, 30, 31, 32, 33, 34, 35, 36, 37], [(115, some 37)], false⟩, ⟨[0], [0, 1, 2, 3, 4, 5, 6, 7, 8, 9, 10, 11, 12, 13, 14, 15, 16, 17, 18, 19, 20, 21, 22, 23, 24, 25, 26, 27, 28, 29, 30, 31, 32, 33, 34, 35, 36, 37, 38], [(0, none), (116, some 38)], false⟩, ⟨[0], [0, 1, 2, 3, 4, 5, 6, 7, 8, 9, 10, 11, 12, 13, 14, 15, 16, 17, 18, 19, 20, 21, 22, 23, 24, 25, 26, 27, 28, 29, 30, 31, 32, 33, 34, 35, 36, 37, 38], [(7, none), (116, some 38)], false⟩, ⟨[], [0, 1, 2, 3, 4, 5, 6, 7, 8, 9, 10, 11, 12, 13, 14, 15, 16, 17, 18, 19, 20, 21, 22, 23, 24, 25, 26, 27, 28, 29, 30, 31, 32, 33, 34, 35, 36, 37, 38, 39, 40], [], false⟩, ⟨[], [0, 1, 2, 3, 4, 5, 6, 7, 8, 9, 10, 11, 12, 13, 14, 15, 16, 17, 18, 19, 20, 21, 22, 23, 24, 25, 26, 27, 28, 29, 30, 31, 32, 33, 34, 35, 36, 37, 38, 39, 40, 41], [], false⟩, ⟨[], [0, 1, 2, 3, 4, 5, 6, 7, 8, 9, 10, 11, 12, 13, 14, 15, 16, 17, 18, 19, 20, 21, 22, 23, 24, 25, 26, 27, 28, 29, 30, 31, 32, 33, 34, 35, 36, 37, 38, 39, 40, 41, 42], [], false⟩, ⟨[], [0, 1, 2, 3, 4, 5, 6, 7, 8, 9, 10, 11, 12, 13, 14, 15, 16, 17, 18, 19, 20, 21, 22, 23, 24, 25, 26, 27, 28, 29, 30, 31, 32, 33, 34, 35, 36, 37, 38, 39, 40, 41, 42, 43], [], false⟩, ⟨[], [0, 1, 2, 3, 4, 5, 6, 7, 8, 9, 10, 11, 12, 13, 14, 15, 16, 17, 18, 19, 20, 21, 22, 23, 24, 25, 26, 27, 28, 29, 30, 31, 32, 33, 34, 35, 36, 37, 38, 39, 40, 41, 42, 43, 44], [], false⟩, ⟨[], [0, 1, 2, 3, 4, 5, 6, 7, 8, 9, 10, 11, 12, 13, 14, 15, 16, 17, 18, 19, 20, 21, 22, 23, 24, 25, 26, 27, 28, 29, 30, 31, 32, 33, 34, 35, 36, 37, 38, 39, 40, 41, 42, 43, 44, 45], [], false⟩, ⟨[], [0, 1, 2, 3, 4, 5, 6, 7, 8, 9, 10, 11, 12, 13, 14, 15, 16, 17, 18, 19, 20, 21, 22, 23, 24, 25, 26, 27, 28, 29, 30, 31, 32, 33, 34, 35, 36, 37, 38, 39, 40, 41, 42, 43, 44, 45, 46], [], false⟩] 41 (by kernel_rfl) (by kernel_rfl)
              ·refine ⟨?_, ?_, ?_, ?_, ?_, ?_, ?_, ?_, ?_, ?_, ?_, ?_, ?_, ?_, ?_, ?_, ?_, ?_, ?_, ?_, ?_, ?_, ?_, ?_, ?_, ?_, ?_, ?_, ?_, ?_, ?_, ?_, ?_, ?_, ?_, ?_, ?_, ?_, ?_, ?_, ?_, trivial⟩
               ·intro tm hr
                simp [AllL, rdV] at hr
                simp [hr, ← e34, ← e35, ← e36, (show v23.2[0]? = some v37 from (nth_d e37).2), ← e38, nth_d e39, ← e40, e41, e42, ← e43, ← e44]
                intros; first | exact KD.mk | exact KD.mkN
               ·intro tm hr
                simp [AllL, rdV] at hr
                simp [hr, ← e34, ← e35, ← e36, (show v23.2[0]? = some v37 from (nth_d e37).2), ← e38, nth_d e39, ← e40, e41, e42, ← e43, ← e44]
                intros; first | exact KD.mk | exact KD.mkN
               ·intro tm hr
                simp [AllL, rdV] at hr
                simp [hr, ← e34, ← e35, ← e36, (show v23.2[0]? = some v37 from (nth_d e37).2), ← e38, nth_d e39, ← e40, e41, e42, ← e43, ← e44]
                intros; first | exact KD.mk | exact KD.mkN
               ·intro tm hr
                simp [AllL, rdV] at hr
                simp [hr, ← e34, ← e35, ← e36, (show v23.2[0]? = some v37 from (nth_d e37).2), ← e38, nth_d e39, ← e40, e41, e42, ← e43, ← e44]
                intros; first | exact KD.mk | exact KD.mkN
               ·intro tm hr
                simp [AllL, rdV] at hr
                simp [hr, ← e34, ← e35, ← e36, (show v23.2[0]? = some v37 from (nth_d e37).2), ← e38, nth_d e39, ← e40, e41, e42, ← e43, ← e44]
                intros; first | exact KD.mk | exact KD.mkN
               ·intro tm hr
                simp [AllL, rdV] at hr
                simp [hr, ← e34, ← e35, ← e36, (show v23.2[0]? = some v37 from (nth_d e37).2), ← e38, nth_d e39, ← e40, e41, e42, ← e43, ← e44]
                intros; first | exact KD.mk | exact KD.mkN
               ·intro tm hr
                simp [AllL, rdV] at hr
                simp [hr, ← e34, ← e35, ← e36, (show v23.2[0]? = some v37 from (nth_d e37).2), ← e38, nth_d e39, ← e40, e41, e42, ← e43, ← e44]
                intros; first | exact KD.mk | exact KD.mkN
               ·intro tm hr
                simp [AllL, rdV] at hr
                simp [hr, ← e34, ← e35, ← e36, (show v23.2[0]? = some v37 from (nth_d e37).2), ← e38, nth_d e39, ← e40, e41, e42, ← e43, ← e44]
                intros; first | exact KD.mk | exact KD.mkN
               ·intro tm hr
                simp [AllL, rdV] at hr
                simp [hr, ← e34, ← e35, ← e36, (show v23.2[0]? = some v37 from (nth_d e37).2), ← e38, nth_d e39, ← e40, e41, e42, ← e43, ← e44]
                intros; first | exact KD.mk | exact KD.mkN
               ·intro tm hr
                simp [AllL, rdV] at hr
                simp [hr, ← e34, ← e35, ← e36, (show v23.2[0]? = some v37 from (nth_d e37).2), ← e38, nth_d e39, ← e40, e41, e42, ← e43, ← e44]
                intros; first | exact KD.mk | exact KD.mkN
               ·intro tm hr
                simp [AllL, rdV] at hr
                simp [hr, ← e34, ← e35, ← e36, (show v23.2[0]? = some v37 from (nth_d e37).2), ← e38, nth_d e39, ← e40, e41, e42, ← e43, ← e44]
                intros; first | exact KD.mk | exact KD.mkN
               ·intro tm hr
                simp [AllL, rdV] at hr
                simp [hr, ← e34, ← e35, ← e36, (show v23.2[0]? = some v37 from (nth_d e37).2), ← e38, nth_d e39, ← e40, e41, e42, ← e43, ← e44]
                intros; first | exact KD.mk | exact KD.mkN
               ·intro tm hr
                simp [AllL, rdV] at hr
                simp [hr, ← e34, ← e35, ← e36, (show v23.2[0]? = some v37 from (nth_d e37).2), ← e38, nth_d e39, ← e40, e41, e42, ← e43, ← e44]
                intros; first | exact KD.mk | exact KD.mkN
               ·intro tm hr
                simp [AllL, rdV] at hr
                simp [hr, ← e34, ← e35, ← e36, (show v23.2[0]? = some v37 from (nth_d e37).2), ← e38, nth_d e39, ← e40, e41, e42, ← e43, ← e44]
                intros; first | exact KD.mk | exact KD.mkN
               ·intro tm hr
                simp [AllL, rdV] at hr
                simp [hr, ← e34, ← e35, ← e36, (show v23.2[0]? = some v37 from (nth_d e37).2), ← e38, nth_d e39, ← e40, e41, e42, ← e43, ← e44]
                intros; first | exact KD.mk | exact KD.mkN
               ·intro tm hr
                simp [AllL, rdV] at hr
                simp [hr, ← e34, ← e35, ← e36, (show v23.2[0]? = some v37 from (nth_d e37).2), ← e38, nth_d e39, ← e40, e41, e42, ← e43, ← e44]
                intros; first | exact KD.mk | exact KD.mkN
               ·intro tm hr
                simp [AllL, rdV] at hr
                simp [hr, ← e34, ← e35, ← e36, (show v23.2[0]? = some v37 from (nth_d e37).2), ← e38, nth_d e39, ← e40, e41, e42, ← e43, ← e44]
                intros; first | exact KD.mk | exact KD.mkN
               ·intro tm hr
                simp [AllL, rdV] at hr
                simp [hr, ← e34, ← e35, ← e36, (show v23.2[0]? = some v37 from (nth_d e37).2), ← e38, nth_d e39, ← e40, e41, e42, ← e43, ← e44]
                intros; first | exact KD.mk | exact KD.mkN
               ·intro tm hr
                simp [AllL, rdV] at hr
                simp [hr, ← e34, ← e35, ← e36, (show v23.2[0]? = some v37 from (nth_d e37).2), ← e38, nth_d e39, ← e40, e41, e42, ← e43, ← e44]
                intros; first | exact KD.mk | exact KD.mkN
               ·intro tm hr
                simp [AllL, rdV] at hr
                simp [hr, ← e34, ← e35, ← e36, (show v23.2[0]? = some v37 from (nth_d e37).2), ← e38, nth_d e39, ← e40, e41, e42, ← e43, ← e44]
                intros; first | exact KD.mk | exact KD.mkN
               ·intro tm hr
                simp [AllL, rdV] at hr
                simp [hr, ← e34, ← e35, ← e36, (show v23.2[0]? = some v37 from (nth_d e37).2), ← e38, nth_d e39, ← e40, e41, e42, ← e43, ← e44]
                intros; first | exact KD.mk | exact KD.mkN
               ·intro tm hr
                simp [AllL, rdV] at hr
                simp [hr, ← e34, ← e35, ← e36, (show v23.2[0]? = some v37 from (nth_d e37).2), ← e38, nth_d e39, ← e40, e41, e42, ← e43, ← e44]
                intros; first | exact KD.mk | exact KD.mkN
               ·intro tm hr
                simp [AllL, rdV] at hr
                simp [hr, ← e34, ← e35, ← e36, (show v23.2[0]? = some v37 from (nth_d e37).2), ← e38, nth_d e39, ← e40, e41, e42, ← e43, ← e44]
                intros; first | exact KD.mk | exact KD.mkN
               ·intro tm hr
                simp [AllL, rdV] at hr
                simp [hr, ← e34, ← e35, ← e36, (show v23.2[0]? = some v37 from (nth_d e37).2), ← e38, nth_d e39, ← e40, e41, e42, ← e43, ← e44]
                intros; first | exact KD.mk | exact KD.mkN
               ·intro tm hr
                simp [AllL, rdV] at hr
                simp [hr, ← e34, ← e35, ← e36, (show v23.2[0]? = some v37 from (nth_d e37).2), ← e38, nth_d e39, ← e40, e41, e42, ← e43, ← e44]
                intros; first | exact KD.mk | exact KD.mkN
               ·intro tm hr
                simp [AllL, rdV] at hr
                simp [hr, ← e34, ← e35, ← e36, (show v23.2[0]? = some v37 from (nth_d e37).2), ← e38, nth_d e39, ← e40, e41, e42, ← e43, ← e44]
                intros; first | exact KD.mk | exact KD.mkN
               ·intro tm hr
                simp [AllL, rdV] at hr
                simp [hr, ← e34, ← e35, ← e36, (show v23.2[0]? = some v37 from (nth_d e37).2), ← e38, nth_d e39, ← e40, e41, e42, ← e43, ← e44]
                intros; first | exact KD.mk | exact KD.mkN
               ·intro tm hr
                simp [AllL, rdV] at hr
                simp [hr, ← e34, ← e35, ← e36, (show v23.2[0]? = some v37 from (nth_d e37).2), ← e38, nth_d e39, ← e40, e41, e42, ← e43, ← e44]
                intros; first | exact KD.mk | exact KD.mkN
               ·intro tm hr
                simp [AllL, rdV] at hr
                simp [hr, ← e34, ← e35, ← e36, (show v23.2[0]? = some v37 from (nth_d e37).2), ← e38, nth_d e39, ← e40, e41, e42, ← e43, ← e44]
                intros; first | exact KD.mk | exact KD.mkN
               ·intro tm hr
                simp [AllL, rdV] at hr
                simp [hr, ← e34, ← e35, ← e36, (show v23.2[0]? = some v37 from (nth_d e37).2), ← e38, nth_d e39, ← e40, e41, e42, ← e43, ← e44]
                intros; first | exact KD.mk | exact KD.mkN
               ·intro tm hr
                simp [AllL, rdV] at hr
                simp [hr, ← e34, ← e35, ← e36, (show v23.2[0]? = some v37 from (nth_d e37).2), ← e38, nth_d e39, ← e40, e41, e42, ← e43, ← e44]
                intros; first | exact KD.mk | exact KD.mkN
               ·intro tm hr
                simp [AllL, rdV] at hr
                simp [hr, ← e34, ← e35, ← e36, (show v23.2[0]? = some v37 from (nth_d e37).2), ← e38, nth_d e39, ← e40, e41, e42, ← e43, ← e44]
                intros; first | exact KD.mk | exact KD.mkN
               ·intro tm hr
                simp [AllL, rdV] at hr
                simp [hr, ← e34, ← e35, ← e36, (show v23.2[0]? = some v37 from (nth_d e37).2), ← e38, nth_d e39, ← e40, e41, e42, ← e43, ← e44]
                intros; first | exact KD.mk | exact KD.mkN
               ·intro tm hr
                simp [AllL, rdV] at hr
                simp [hr, ← e34, ← e35, ← e36, (show v23.2[0]? = some v37 from (nth_d e37).2), ← e38, nth_d e39, ← e40, e41, e42, ← e43, ← e44]
                intros; first | exact KD.mk | exact KD.mkN
               ·intro tm hr
                simp [AllL, rdV] at hr
                simp [hr, ← e34, ← e35, ← e36, (show v23.2[0]? = some v37 from (nth_d e37).2), ← e38, nth_d e39, ← e40, e41, e42, ← e43, ← e44]
                intros; first | exact KD.mk | exact KD.mkN
               ·intro tm hr
                simp [AllL, rdV] at hr
                simp [hr, ← e34, ← e35, ← e36, (show v23.2[0]? = some v37 from (nth_d e37).2), ← e38, nth_d e39, ← e40, e41, e42, ← e43, ← e44]
                intros; first | exact KD.mk | exact KD.mkN
               ·intro tm hr
                simp [AllL, rdV] at hr
                simp [hr, ← e34, ← e35, ← e36, (show v23.2[0]? = some v37 from (nth_d e37).2), ← e38, nth_d e39, ← e40, e41, e42, ← e43, ← e44]
                intros; first | exact KD.mk | exact KD.mkN
               ·intro tm hr
                simp [AllL, rdV] at hr
                simp [hr, ← e34, ← e35, ← e36, (show v23.2[0]? = some v37 from (nth_d e37).2), ← e38, nth_d e39, ← e40, e41, e42, ← e43, ← e44]
                intros; first | exact KD.mk | exact KD.mkN
               ·intro tm hr
                simp [AllL, rdV] at hr
                simp [hr, ← e34, ← e35, ← e36, (show v23.2[0]? = some v37 from (nth_d e37).2), ← e38, nth_d e39, ← e40, e41, e42, ← e43, ← e44]
                intros; first | exact KD.mk | exact KD.mkN
               ·intro tm hr
                simp [AllL, rdV] at hr
                simp [hr, ← e34, ← e35, ← e36, (show v23.2[0]? = some v37 from (nth_d e37).2), ← e38, nth_d e39, ← e40, e41, e42, ← e43, ← e44]
                intros; first | exact KD.mk | exact KD.mkN
               ·intro tm hr
                simp [AllL, rdV] at hr
                simp [hr, ← e34, ← e35, ← e36, (show v23.2[0]? = some v37 from (nth_d e37).2), ← e38, nth_d e39, ← e40, e41, e42, ← e43, ← e44]
                intros; first | exact KD.mk | exact KD.mkN
              ·rfl
              ·simp [tmD, putD, ← e34, ← e35, ← e36, (show v23.2[0]? = some v37 from (nth_d e37).2), ← e38, nth_d e39, ← e40, e41, e42, ← e43, ← e44]; rfl
              ·simp [← e34, ← e35, ← e36, (show v23.2[0]? = some v37 from (nth_d e37).2), ← e38, nth_d e39, ← e40, e41, e42, ← e43, ← e44]
               intros; rfl
              obtain rfl := Option.some.inj h
              refine nP_i ?_
              refine Weak.mixN [some 0, some 1] hn0 (by decide) ?_ ?_ rfl
              all_goals first | (simp [inv_cons, inv_nil, pickOb]; done) | rfl
             | false =>
              replace h := iteF rfl h
              replace h := bnE h; obtain ⟨v45, e45, h⟩ := h
              replace h := bnE h; obtain ⟨v46, e46, h⟩ := h
              replace h := ltE h; obtain ⟨v47, e47, h⟩ := h
              apply AW.drawnR (V := [_, _, _, _, _, _, _, _, _, _, _, _, _, _, _, _, _, _, _, _, _, _, _, _, _, _, _, _, _, _, _, _, _, _, _, _, _, _, _, _, _]) mixed [⟨[0], [], [(8, none)], false⟩, ⟨[0], [], [(6, none)], false⟩, ⟨[0], [0, 1], [(78, some 0), (79, some 1)], false⟩, ⟨[0], [0, 1, 2], [(80, some 2)], false⟩, ⟨[0], [0, 1, 2, 3], [(8, none), (81, some 3)], false⟩, ⟨[0], [0, 1, 2, 3], [(5, none), (81, some 3)], false⟩, ⟨[0], [0, 1, 2, 3, 5], [(81, some 3), (83, some 5)], false⟩, ⟨[0], [0, 1, 2, 3, 4, 5, 6], [(81, some 3), (82, some 4), (84, some 6)], false⟩, ⟨[0], [0, 1, 2, 3, 4, 5, 6, 7], [(81, some 3), (85, some 7)], false⟩, ⟨[0], [0, 1, 2, 3, 4, 5, 6, 7, 8], [(86, some 8)], false⟩, ⟨[0], [0, 1, 2, 3, 4, 5, 6, 7, 8, 9], [(9, none), (87, some 9)], false⟩, ⟨[0], [0, 1, 2, 3, 4, 5, 6, 7, 8, 9, 10], [(87, some 9), (88, some 10)], false⟩, ⟨[0], [0, 1, 2, 3, 4, 5, 6, 7, 8, 9], [(8, none), (87, some 9)], false⟩, ⟨[0], [0, 1, 2, 3, 4, 5, 6, 7, 8, 9, 10, 11, 12], [(87, some 9), (89, some 11), (90, some 12)], false⟩, ⟨[0], [0, 1, 2, 3, 4, 5, 6, 7, 8, 9, 10, 11, 12, 13], [(87, some 9), (91, some 13)], false⟩, ⟨[0], [0, 1, 2, 3, 4, 5, 6, 7, 8, 9, 10, 11, 12, 13, 14], [(92, some 14)], false⟩, ⟨[0], [0, 1, 2, 3, 4, 5, 6, 7, 8, 9, 10, 11, 12, 13, 14, 15], [(10, none), (93, some 15)], false⟩, ⟨[0], [0, 1, 2, 3, 4, 5, 6, 7, 8, 9, 10, 11, 12, 13, 14, 15, 16], [(93, some 15), (94, some 16)], false⟩, ⟨[0], [0, 1, 2, 3, 4, 5, 6, 7, 8, 9, 10, 11, 12, 13, 14, 15, 16, 17], [(93, some 15), (95, some 17)], false⟩, ⟨[0], [0, 1, 2, 3, 4, 5, 6, 7, 8, 9, 10, 11, 12, 13, 14, 15, 16, 17, 18], [(93, some 15), (96, some 18)], false⟩, ⟨[0], [0, 1, 2, 3, 4, 5, 6, 7, 8, 9, 10, 11, 12, 13, 14, 15], [(8, none), (93, some 15)], false⟩, ⟨[0], [0, 1, 2, 3, 4, 5, 6, 7, 8, 9, 10, 11, 12, 13, 14, 15, 16, 17, 18, 19, 20], [(93, some 15), (97, some 19), (98, some 20)], false⟩, ⟨[0], [0, 1, 2, 3, 4, 5, 6, 7, 8, 9, 10, 11, 12, 13, 14, 15, 16, 17, 18, 19, 20, 21], [(93, some 15), (99, some 21)], false⟩, ⟨[0], [0, 1, 2, 3, 4, 5, 6, 7, 8, 9, 10, 11, 12, 13, 14, 15, 16, 17, 18, 19, 20, 21, 22], [(100, some 22)], false⟩, ⟨[0], [0, 1, 2, 3, 4, 5, 6, 7, 8, 9, 10, 11, 12, 13, 14, 15, 16, 17, 18, 19, 20, 21, 22, 23], [(10, none), (101, some 23)], false⟩, ⟨[0], [0, 1, 2, 3, 4, 5, 6, 7, 8, 9, 10, 11, 12, 13, 14, 15, 16, 17, 18, 19, 20, 21, 22, 23, 24], [(101, some 23), (102, some 24)], false⟩, ⟨[0], [0, 1, 2, 3, 4, 5, 6, 7, 8, 9, 10, 11, 12, 13, 14, 15, 16, 17, 18, 19, 20, 21, 22, 23, 24, 25], [(101, some 23), (103, some 25)], false⟩, ⟨[0], [0, 1, 2, 3, 4, 5, 6, 7, 8, 9, 10, 11, 12, 13, 14, 15, 16, 17, 18, 19, 20, 21, 22, 23, 24, 25, 26], [(101, some 23), (104, some 26)], false⟩, ⟨[0], [0, 1, 2, 3, 4, 5, 6, 7, 8, 9, 10, 11, 12, 13, 14, 15, 16, 17, 18, 19, 20, 21, 22, 23], [(0, none), (101, some 23)], false⟩, ⟨[0], [0, 1, 2, 3, 4, 5, 6, 7, 8, 9, 10, 11, 12, 13, 14, 15, 16, 17, 18, 19, 20, 21, 22, 23], [(7, none), (101, some 23)], false⟩, ⟨[0], [0, 1, 2, 3, 4, 5, 6, 7, 8, 9, 10, 11, 12, 13, 14, 15, 16, 17, 18, 19, 20, 21, 22, 23, 28, 29], [(101, some 23), (106, some 28), (107, some 29)], false⟩, ⟨[0], [0, 1, 2, 3, 4, 5, 6, 7, 8, 9, 10, 11, 12, 13, 14, 15, 16, 17, 18, 19, 20, 21, 22, 23, 28, 29, 30], [(101, some 23), (108, some 30)], false⟩, ⟨[0], [0, 1, 2, 3, 4, 5, 6, 7, 8, 9, 10, 11, 12, 13, 14, 15, 16, 17, 18, 19, 20, 21, 22, 23, 28, 29, 30, 31], [(101, some 23), (109, some 31)], false⟩, ⟨[0], [0, 1, 2, 3, 4, 5, 6, 7, 8, 9, 10, 11, 12, 13, 14, 15, 16, 17, 18, 19, 20, 21, 22, 23, 28, 29, 30, 31, 32], [(101, some 23), (110, some 32)], false⟩, ⟨[0], [0, 1, 2, 3, 4, 5, 6, 7, 8, 9, 10, 11, 12, 13, 14, 15, 16, 17, 18, 19, 20, 21, 22, 23, 28, 29, 30, 31, 32, 33], [(101, some 23), (111, some 33)], false⟩, ⟨[0], [0, 1, 2, 3, 4, 5, 6, 7, 8, 9, 10, 11, 12, 13, 14, 15, 16, 17, 18, 19, 20, 21, 22, 23, 28, 29, 30, 31, 32, 33, 34], [(101, some 23), (112, some 34)], false⟩, ⟨[0], [0, 1, 2, 3, 4, 5, 6, 7, 8, 9, 10, 11, 12, 13, 14, 15, 16, 17, 18, 19, 20, 21, 22, 23, 24, 25, 26, 27, 28, 29, 30, 31, 32, 33, 34, 35], [(101, some 23), (105, some 27), (113, some 35)], false⟩, ⟨[0], [0, 1, 2, 3, 4, 5, 6, 7, 8, 9, 10, 11, 12, 13, 14, 15, 16, 17, 18, 19, 20, 21, 22, 23, 24, 25, 26, 27, 28, 29, 30, 31, 32, 33, 34, 35, 36], [(101, some 23), (114, some 36)], false⟩, ⟨[0], [0, 1, 2, 3, 4, 5, 6, 7, 8, 9, 10, 11, 12, 13, 14, 15, 16, 17, 18, 19, 20, 21, 22, 23, 24, 25, 26, 27, 28, 29, 30, 31, 32, 33, 34, 35, 36, 37], [(115, some 37)], false⟩, ⟨[0], [0, 1, 2, 3, 4, 5, 6, 7, 8, 9, 10, 11, 12, 13, 14, 15, 16, 17, 18, 19, 20, 21, 22, 23, 24, 25, 26, 27, 28, 29, 30, 31, 32, 33, 34, 35, 36, 37, 38], [(0, none), (116, some 38)], false⟩, ⟨[0], [0, 1, 2, 3, 4, 5, 6, 7, 8, 9, 10, 11, 12, 13, 14, 15, 16, 17, 18, 19, 20, 21, 22, 23, 24, 25, 26, 27, 28, 29, 30, 31, 32, 33, 34, 35, 36, 37, 38], [(7, none), (116, some 38)], false⟩, ⟨[], [0, 1, 2, 3, 4, 5, 6, 7, 8, 9, 10, 11, 12, 13, 14, 15, 16, 17, 18, 19, 20, 21, 22, 23, 24, 25, 26, 27, 28, 29, 30, 31, 32, 33, 34, 35, 36, 37, 38, 39, 40], [], false⟩, ⟨[], [0, 1, 2, 3, 4, 5, 6, 7, 8, 9, 10, 11, 12, 13, 14, 15, 16, 17, 18, 19, 20, 21, 22, 23, 24, 25, 26, 27, 28, 29, 30, 31, 32, 33, 34, 35, 36, 37, 38, 39, 40, 41], [], false⟩, ⟨[], [0, 1, 2, 3, 4, 5, 6, 7, 8, 9, 10, 11, 12, 13, 14, 15, 16, 17, 18, 19, 20, 21, 22, 23, 24, 25, 26, 27, 28, 29, 30, 31, 32, 33, 34, 35, 36, 37, 38, 39, 40, 41, 42], [], false⟩, ⟨[], [0, 1, 2, 3, 4, 5, 6, 7, 8, 9, 10, 11, 12, 13, 14, 15, 16, 17, 18, 19, 20, 21, 22, 23, 24, 25, 26, 27, 28, 29, 30, 31, 32, 33, 34, 35, 36, 37, 38, 39, 40, 41, 42, 43], [], false⟩, ⟨[], [0, 1, 2, 3, 4, 5, 6, 7, 8, 9, 10, 11, 12, 13, 14, 15, 16, 17, 18, 19, 20, 21, 22, 23, 24, 25, 26, 27, 28, 29, 30, 31, 32, 33, 34, 35, 36, 37, 38, 39, 40, 41, 42, 43, 44], [], false⟩, ⟨[], [0, 1, 2, 3, 4, 5, 6, 7, 8, 9, 10, 11, 12, 13, 14, 15, 16, 17, 18, 19, 20, 21, 22, 23, 24, 25, 26, 27, 28, 29, 30, 31, 32, 33, 34, 35, 36, 37, 38, 39, 40, 41, 42, 43, 44, 45], [], false⟩, ⟨[], [0, 1, 2, 3, 4, 5, 6, 7, 8, 9, 10, 11, 12, 13, 14, 15, 16, 17, 18, 19, 20, 21, 22, 23, 24, 25, 26, 27, 28, 29, 30, 31, 32, 33, 34, 35, 36, 37, 38, 39, 40, 41, 42, 43, 44, 45, 46], [], false⟩] 41 (by kernel_rfl) (by kernel_rfl)
              ·refine ⟨?_, ?_, ?_, ?_, ?_, ?_, ?_, ?_, ?_, ?_, ?_, ?_, ?_, ?_, ?_, ?_, ?_, ?_, ?_, ?_, ?_, ?_, ?_, ?_, ?_, ?_, ?_, ?_, ?_, ?_, ?_, ?_, ?_, ?_, ?_, ?_, ?_, ?_, ?_, ?_, ?_, trivial⟩
               ·intro tm hr
                simp [AllL, rdV] at hr
                simp [hr, ← e34, ← e35, ← e36, (show v23.2[0]? = some v37 from (nth_d e37).2), ← e38, nth_d e39, ← e40, e41, e42, ← e43, ← e44, e45, e46, ← e47]
                intros; first | exact KD.mk | exact KD.mkN
               ·intro tm hr
                simp [AllL, rdV] at hr
                simp [hr, ← e34, ← e35, ← e36, (show v23.2[0]? = some v37 from (nth_d e37).2), ← e38, nth_d e39, ← e40, e41, e42, ← e43, ← e44, e45, e46, ← e47]
                intros; first | exact KD.mk | exact KD.mkN
               ·intro tm hr
                simp [AllL, rdV] at hr
                simp [hr, ← e34, ← e35, ← e36, (show v23.2[0]? = some v37 from (nth_d e37).2), ← e38, nth_d e39, ← e40, e41, e42, ← e43, ← e44, e45, e46, ← e47]
                intros; first | exact KD.mk | exact KD.mkN
               ·intro tm hr
                simp [AllL, rdV] at hr
                simp [hr, ← e34, ← e35, ← e36, (show v23.2[0]? = some v37 from (nth_d e37).2), ← e38, nth_d e39, ← e40, e41, e42, ← e43, ← e44, e45, e46, ← e47]
                intros; first | exact KD.mk | exact KD.mkN
               ·intro tm hr
                simp [AllL, rdV] at hr
                simp [hr, ← e34, ← e35, ← e36, (show v23.2[0]? = some v37 from (nth_d e37).2), ← e38, nth_d e39, ← e40, e41, e42, ← e43, ← e44, e45, e46, ← e47]
                intros; first | exact KD.mk | exact KD.mkN
               ·intro tm hr
                simp [AllL, rdV] at hr
                simp [hr, ← e34, ← e35, ← e36, (show v23.2[0]? = some v37 from (nth_d e37).2), ← e38, nth_d e39, ← e40, e41, e42, ← e43, ← e44, e45, e46, ← e47]
                intros; first | exact KD.mk | exact KD.mkN
               ·intro tm hr
                simp [AllL, rdV] at hr
                simp [hr, ← e34, ← e35, ← e36, (show v23.2[0]? = some v37 from (nth_d e37).2), ← e38, nth_d e39, ← e40, e41, e42, ← e43, ← e44, e45, e46, ← e47]
                intros; first | exact KD.mk | exact KD.mkN
               ·intro tm hr
                simp [AllL, rdV] at hr
                simp [hr, ← e34, ← e35, ← e36, (show v23.2[0]? = some v37 from (nth_d e37).2), ← e38, nth_d e39, ← e40, e41, e42, ← e43, ← e44, e45, e46, ← e47]
                intros; first | exact KD.mk | exact KD.mkN
               ·intro tm hr
                simp [AllL, rdV] at hr
                simp [hr, ← e34, ← e35, ← e36, (show v23.2[0]? = some v37 from (nth_d e37).2), ← e38, nth_d e39, ← e40, e41, e42, ← e43, ← e44, e45, e46, ← e47]
                intros; first | exact KD.mk | exact KD.mkN
               ·intro tm hr
                simp [AllL, rdV] at hr
                simp [hr, ← e34, ← e35, ← e36, (show v23.2[0]? = some v37 from (nth_d e37).2), ← e38, nth_d e39, ← e40, e41, e42, ← e43, ← e44, e45, e46, ← e47]
                intros; first | exact KD.mk | exact KD.mkN
               ·intro tm hr
                simp [AllL, rdV] at hr
                simp [hr, ← e34, ← e35, ← e36, (show v23.2[0]? = some v37 from (nth_d e37).2), ← e38, nth_d e39, ← e40, e41, e42, ← e43, ← e44, e45, e46, ← e47]
                intros; first | exact KD.mk | exact KD.mkN
               ·intro tm hr
                simp [AllL, rdV] at hr
                simp [hr, ← e34, ← e35, ← e36, (show v23.2[0]? = some v37 from (nth_d e37).2), ← e38, nth_d e39, ← e40, e41, e42, ← e43, ← e44, e45, e46, ← e47]
                intros; first | exact KD.mk | exact KD.mkN
               ·intro tm hr
                simp [AllL, rdV] at hr
                simp [hr, ← e34, ← e35, ← e36, (show v23.2[0]? = some v37 from (nth_d e37).2), ← e38, nth_d e39, ← e40, e41, e42, ← e43, ← e44, e45, e46, ← e47]
                intros; first | exact KD.mk | exact KD.mkN
               ·intro tm hr
                simp [AllL, rdV] at hr
                simp [hr, ← e34, ← e35, ← e36, (show v23.2[0]? = some v37 from (nth_d e37).2), ← e38, nth_d e39, ← e40, e41, e42, ← e43, ← e44, e45, e46, ← e47]
                intros; first | exact KD.mk | exact KD.mkN
               ·intro tm hr
                simp [AllL, rdV] at hr
                simp [hr, ← e34, ← e35, ← e36, (show v23.2[0]? = some v37 from (nth_d e37).2), ← e38, nth_d e39, ← e40, e41, e42, ← e43, ← e44, e45, e46, ← e47]
                intros; first | exact KD.mk | exact KD.mkN
               ·intro tm hr
                simp [AllL, rdV] at hr
                simp [hr, ← e34, ← e35, ← e36, (show v23.2[0]? = some v37 from (nth_d e37).2), ← e38, nth_d e39, ← e40, e41, e42, ← e43, ← e44, e45, e46, ← e47]
                intros; first | exact KD.mk | exact KD.mkN
               ·intro tm hr
                simp [AllL, rdV] at hr
                simp [hr, ← e34, ← e35, ← e36, (show v23.2[0]? = some v37 from (nth_d e37).2), ← e38, nth_d e39, ← e40, e41, e42, ← e43, ← e44, e45, e46, ← e47]
                intros; first | exact KD.mk | exact KD.mkN
               ·intro tm hr
                simp [AllL, rdV] at hr
                simp [hr, ← e34, ← e35, ← e36, (show v23.2[0]? = some v37 from (nth_d e37).2), ← e38, nth_d e39, ← e40, e41, e42, ← e43, ← e44, e45, e46, ← e47]
                intros; first | exact KD.mk | exact KD.mkN
               ·intro tm hr
                simp [AllL, rdV] at hr
                simp [hr, ← e34, ← e35, ← e36, (show v23.2[0]? = some v37 from (nth_d e37).2), ← e38, nth_d e39, ← e40, e41, e42, ← e43, ← e44, e45, e46, ← e47]
                intros; first | exact KD.mk | exact KD.mkN
               ·intro tm hr
                simp [AllL, rdV] at hr
                simp [hr, ← e34, ← e35, ← e36, (show v23.2[0]? = some v37 from (nth_d e37).2), ← e38, nth_d e39, ← e40, e41, e42, ← e43, ← e44, e45, e46, ← e47]
                intros; first | exact KD.mk | exact KD.mkN
               ·intro tm hr
                simp [AllL, rdV] at hr
                simp [hr, ← e34, ← e35, ← e36, (show v23.2[0]? = some v37 from (nth_d e37).2), ← e38, nth_d e39, ← e40, e41, e42, ← e43, ← e44, e45, e46, ← e47]
                intros; first | exact KD.mk | exact KD.mkN
               ·intro tm hr
                simp [AllL, rdV] at hr
                simp [hr, ← e34, ← e35, ← e36, (show v23.2[0]? = some v37 from (nth_d e37).2), ← e38, nth_d e39, ← e40, e41, e42, ← e43, ← e44, e45, e46, ← e47]
                intros; first | exact KD.mk | exact KD.mkN
               ·intro tm hr
                simp [AllL, rdV] at hr
                simp [hr, ← e34, ← e35, ← e36, (show v23.2[0]? = some v37 from (nth_d e37).2), ← e38, nth_d e39, ← e40, e41, e42, ← e43, ← e44, e45, e46, ← e47]
                intros; first | exact KD.mk | exact KD.mkN
               ·intro tm hr
                simp [AllL, rdV] at hr
                simp [hr, ← e34, ← e35, ← e36, (show v23.2[0]? = some v37 from (nth_d e37).2), ← e38, nth_d e39, ← e40, e41, e42, ← e43, ← e44, e45, e46, ← e47]
                intros; first | exact KD.mk | exact KD.mkN
               ·intro tm hr
                simp [AllL, rdV] at hr
                simp [hr, ← e34, ← e35, ← e36, (show v23.2[0]? = some v37 from (nth_d e37).2), ← e38, nth_d e39, ← e40, e41, e42, ← e43, ← e44, e45, e46, ← e47]
                intros; first | exact KD.mk | exact KD.mkN
               ·intro tm hr
                simp [AllL, rdV] at hr
                simp [hr, ← e34, ← e35, ← e36, (show v23.2[0]? = some v37 from (nth_d e37).2), ← e38, nth_d e39, ← e40, e41, e42, ← e43, ← e44, e45, e46, ← e47]
                intros; first | exact KD.mk | exact KD.mkN
               ·intro tm hr
                simp [AllL, rdV] at hr
                simp [hr, ← e34, ← e35, ← e36, (show v23.2[0]? = some v37 from (nth_d e37).2), ← e38, nth_d e39, ← e40, e41, e42, ← e43, ← e44, e45, e46, ← e47]
                intros; first | exact KD.mk | exact KD.mkN
               ·intro tm hr
                simp [AllL, rdV] at hr
                simp [hr, ← e34, ← e35, ← e36, (show v23.2[0]? = some v37 from (nth_d e37).2), ← e38, nth_d e39, ← e40, e41, e42, ← e43, ← e44, e45, e46, ← e47]
                intros; first | exact KD.mk | exact KD.mkN
               ·intro tm hr
                simp [AllL, rdV] at hr
                simp [hr, ← e34, ← e35, ← e36, (show v23.2[0]? = some v37 from (nth_d e37).2), ← e38, nth_d e39, ← e40, e41, e42, ← e43, ← e44, e45, e46, ← e47]
                intros; first | exact KD.mk | exact KD.mkN
               ·intro tm hr
                simp [AllL, rdV] at hr
                simp [hr, ← e34, ← e35, ← e36, (show v23.2[0]? = some v37 from (nth_d e37).2), ← e38, nth_d e39, ← e40, e41, e42, ← e43, ← e44, e45, e46, ← e47]
                intros; first | exact KD.mk | exact KD.mkN
               ·intro tm hr
                simp [AllL, rdV] at hr
                simp [hr, ← e34, ← e35, ← e36, (show v23.2[0]? = some v37 from (nth_d e37).2), ← e38, nth_d e39, ← e40, e41, e42, ← e43, ← e44, e45, e46, ← e47]
                intros; first | exact KD.mk | exact KD.mkN
               ·intro tm hr
                simp [AllL, rdV] at hr
                simp [hr, ← e34, ← e35, ← e36, (show v23.2[0]? = some v37 from (nth_d e37).2), ← e38, nth_d e39, ← e40, e41, e42, ← e43, ← e44, e45, e46, ← e47]
                intros; first | exact KD.mk | exact KD.mkN
               ·intro tm hr
                simp [AllL, rdV] at hr
                simp [hr, ← e34, ← e35, ← e36, (show v23.2[0]? = some v37 from (nth_d e37).2), ← e38, nth_d e39, ← e40, e41, e42, ← e43, ← e44, e45, e46, ← e47]
                intros; first | exact KD.mk | exact KD.mkN
               ·intro tm hr
                simp [AllL, rdV] at hr
                simp [hr, ← e34, ← e35, ← e36, (show v23.2[0]? = some v37 from (nth_d e37).2), ← e38, nth_d e39, ← e40, e41, e42, ← e43, ← e44, e45, e46, ← e47]
                intros; first | exact KD.mk | exact KD.mkN
               ·intro tm hr
                simp [AllL, rdV] at hr
                simp [hr, ← e34, ← e35, ← e36, (show v23.2[0]? = some v37 from (nth_d e37).2), ← e38, nth_d e39, ← e40, e41, e42, ← e43, ← e44, e45, e46, ← e47]
                intros; first | exact KD.mk | exact KD.mkN
               ·intro tm hr
                simp [AllL, rdV] at hr
                simp [hr, ← e34, ← e35, ← e36, (show v23.2[0]? = some v37 from (nth_d e37).2), ← e38, nth_d e39, ← e40, e41, e42, ← e43, ← e44, e45, e46, ← e47]
                intros; first | exact KD.mk | exact KD.mkN
               ·intro tm hr
                simp [AllL, rdV] at hr
                simp [hr, ← e34, ← e35, ← e36, (show v23.2[0]? = some v37 from (nth_d e37).2), ← e38, nth_d e39, ← e40, e41, e42, ← e43, ← e44, e45, e46, ← e47]
                intros; first | exact KD.mk | exact KD.mkN
               ·intro tm hr
                simp [AllL, rdV] at hr
                simp [hr, ← e34, ← e35, ← e36, (show v23.2[0]? = some v37 from (nth_d e37).2), ← e38, nth_d e39, ← e40, e41, e42, ← e43, ← e44, e45, e46, ← e47]
                intros; first | exact KD.mk | exact KD.mkN
               ·intro tm hr
                simp [AllL, rdV] at hr
                simp [hr, ← e34, ← e35, ← e36, (show v23.2[0]? = some v37 from (nth_d e37).2), ← e38, nth_d e39, ← e40, e41, e42, ← e43, ← e44, e45, e46, ← e47]
                intros; first | exact KD.mk | exact KD.mkN
               ·intro tm hr
                simp [AllL, rdV] at hr
                simp [hr, ← e34, ← e35, ← e36, (show v23.2[0]? = some v37 from (nth_d e37).2), ← e38, nth_d e39, ← e40, e41, e42, ← e43, ← e44, e45, e46, ← e47]
                intros; first | exact KD.mk | exact KD.mkN
               ·intro tm hr
                simp [AllL, rdV] at hr
                simp [hr, ← e34, ← e35, ← e36, (show v23.2[0]? = some v37 from (nth_d e37).2), ← e38, nth_d e39, ← e40, e41, e42, ← e43, ← e44, e45, e46, ← e47]
                intros; first | exact KD.mk | exact KD.mkN
              ·rfl
              ·simp [tmD, putD, ← e34, ← e35, ← e36, (show v23.2[0]? = some v37 from (nth_d e37).2), ← e38, nth_d e39, ← e40, e41, e42, ← e43, ← e44, e45, e46, ← e47]; rfl
              ·simp [← e34, ← e35, ← e36, (show v23.2[0]? = some v37 from (nth_d e37).2), ← e38, nth_d e39, ← e40, e41, e42, ← e43, ← e44, e45, e46, ← e47]
               intros; rfl
              obtain rfl := Option.some.inj h
              refine nP_i ?_
              refine Weak.mixN [some 0, some 1] hn0 (by decide) ?_ ?_ rfl
              all_goals first | (simp [inv_cons, inv_nil, pickOb]; done) | rfl
        ·rintro e s hp
         obtain ⟨rfl, hw⟩ := hp
         refine ⟨_, hw, ?_⟩
         try simp only [sp_l, sp_r, Post.seq, Post.block, Nat.reduceEqDiff, reduceIte, Nat.zero_ne_one, Nat.one_ne_zero]
         replace h := ltE h; obtain ⟨v48, e48, h⟩ := h
         rw [← e48]
         cases v48 with
         | true =>
          replace h := iteT rfl h
          refine AW.cond_true (by simp) ?_
          apply AW.step
          ·simp
           intros; rfl
          obtain rfl := Option.some.inj h
          refine AW.ret ?_
          try simp only [sp_l, sp_r, Post.seq, Post.block, Nat.reduceEqDiff, reduceIte, Nat.zero_ne_one, Nat.one_ne_zero]
          refine rP_i ?_
          refine Left.plain hnb (by simp [Try.f3, resV, resC, comp]; rfl) rfl rfl ?_
          simp
         | false =>
          replace h := iteF rfl h
          refine AW.cond_false (by simp) ?_
          refine AW.skip ?_
          try simp only [sp_l, sp_r, Post.seq, Post.block, Nat.reduceEqDiff, reduceIte, Nat.zero_ne_one, Nat.one_ne_zero]
          try simp only [sp_l, sp_r, Post.seq, Post.block, Nat.reduceEqDiff, reduceIte, Nat.zero_ne_one, Nat.one_ne_zero]
          apply AW.last
          ·simp
           intros; rfl
          obtain rfl := Option.some.inj h
          try simp only [sp_l, sp_r]
          refine nP_i ?_
          refine Weak.mixN [some 0, some 1] hn0 (by decide) ?_ ?_ rfl
          all_goals first | (simp [inv_cons, inv_nil, pickOb]; done) | rfl
       | false =>
        replace h := iteF rfl h
        refine AW.cond_false (by simp) ?_
        refine AW.skip ?_
        try simp only [sp_l, sp_r, Post.seq, Post.block, Nat.reduceEqDiff, reduceIte, Nat.zero_ne_one, Nat.one_ne_zero]
        obtain rfl := Option.some.inj h
        try simp only [sp_l, sp_r]
        refine nP_i ?_
        refine Weak.mixN [some 0, some 1] hn0 (by decide) ?_ ?_ rfl
        all_goals first | (simp [inv_cons, inv_nil, pickOb]; done) | rfl
      ·rintro e s hp
       rcases y30 with y49 | y50
       ·replace h := smL h
        obtain ⟨rfl, hw⟩ := hp
        refine ⟨_, hw, ?_⟩
        try simp only [sp_l, sp_r, Post.seq, Post.block, Nat.reduceEqDiff, reduceIte, Nat.zero_ne_one, Nat.one_ne_zero]
        apply AW.last
        ·simp
         intros; rfl
        try simp only [sp_l, sp_r, Post.seq, Post.block, Nat.reduceEqDiff, reduceIte, Nat.zero_ne_one, Nat.one_ne_zero]
        replace h := ltE h; obtain ⟨v51, e51, h⟩ := h
        apply AW.last
        ·simp [← e51]
         intros; rfl
        obtain rfl := Option.some.inj h
        refine nP_i ?_
        refine Weak.mixN [some 0] hn0 (by decide) ?_ ?_ rfl
        all_goals first | (simp [inv_cons, inv_nil, pickOb]; done) | rfl
       ·replace h := smR h
        obtain ⟨rfl, hl⟩ := hp
        refine ⟨_, Weak.refl _, ?_⟩
        obtain rfl := Option.some.inj h
        first | exact rP_i hl | (simp only [sp_l, sp_r]; exact rP_i hl) | (simp only [sp_l, sp_r, Post.seq, Post.block, Nat.reduceEqDiff, reduceIte, Nat.zero_ne_one, Nat.one_ne_zero]; exact rP_i hl)
   | false =>
    replace h := iteF rfl h
    refine AW.cond_false (by simp) ?_
    refine AW.exit ?_
    try simp only [sp_l, sp_r, Post.seq, Post.block, Nat.reduceEqDiff, reduceIte, Nat.zero_ne_one, Nat.one_ne_zero]
    obtain rfl := Option.some.inj h
    try simp only [sp_l, sp_r]
    refine xP_i ?_
    refine Weak.mixN [] hn0 (by decide) ?_ ?_ rfl
    all_goals first | (simp [inv_cons, inv_nil, pickOb]; done) | rfl
  ·rintro e s hp
   rcases y10 with y52 | y53
   ·replace h := smL h
    obtain ⟨rfl, hw⟩ := hp
    refine ⟨_, hw, ?_⟩
    try simp only [sp_l, sp_r, Post.seq, Post.block, Nat.reduceEqDiff, reduceIte, Nat.zero_ne_one, Nat.one_ne_zero]
    replace h := bnE h; obtain ⟨v54, e54, h⟩ := h
    apply AW.step
    ·simp
     intros
     refine xcall_plain en_l18_awake (s_l18_awake e54) rfl trivial ?_
     try simp
     intros; rfl
    obtain rfl := Option.some.inj h
    refine AW.ret ?_
    refine Left.plain hnb (by simp [Try.f3, resV, resC, comp]; rfl) rfl rfl ?_
    simp
   ·replace h := smR h
    obtain ⟨rfl, hl⟩ := hp
    refine ⟨_, Weak.refl _, ?_⟩
    obtain rfl := Option.some.inj h
    exact hl
end Go.Proofs.Ytaibolmbafacpaa

/- Plain law: a master gives one vote an epoch. -/
namespace Go.Proofs.Ytaibolmbafacpaa
open Go Go.RowKit
set_option linter.unusedVariables false
set_option linter.unusedSimpArgs false
theorem vI_f {a b : Int} (h : ¬ a < b) : ltI a b = false := by simp [ltI]; omega
theorem vle_f {a b : Int} (h : b < a) : leI a b = false := decide_eq_false (by omega)
theorem vne_f (a : Int) : neI a a = false := by simp [neI]
theorem vrem {k : IntKind} {a b : Int} (h : 0 ≤ a) (hb : 0 < b) : remI k a b = some (a % b) := by
  have : ¬ b = 0 := by omega
  simp only [remI, ne_eq, this, not_false_eq_true, if_true, Int.tmod_eq_emod_of_nonneg h]
theorem vquo {a b : Int} (h : 0 ≤ a) (h2 : a < 9223372036854775808) (hb : 0 < b) : quoI .i64 a b = some (a / b) := by
  have hne : ¬ b = 0 := by omega
  have h3 : a / b ≤ a := Int.ediv_le_self b h
  have h4 : 0 ≤ a / b := Int.ediv_nonneg h (by omega)
  simp only [quoI, ne_eq, hne, not_false_eq_true, if_true, Int.tdiv_eq_ediv_of_nonneg h]
  rw [wrap64 (by omega) (by omega)]
theorem Rn.eqv {α : Type} {m : Option α} {v : α} (h : Rn m (· = v)) : m = Option.some v := by
  obtain ⟨w, h1, rfl⟩ := h
  exact h1
theorem awake18_ok : l18_awake_sh big = some true := by kernel_rfl
def heardV : List Int := [6, 0, 0, 0, 0, 0, 0, 0]
def saysV (k : Nat) : List (List Int) := (List.range 8).map fun i => if i = 0 ∨ i = k then [] else [0]
/-- A master to which the first one has been silent, whom all others suspect. -/
def nodeV (k : Nat) (E V : Int) : Node :=
  ⟨8, k, -1, E, V, [⟨0, 3275, 0, 1⟩, ⟨3276, 6552, 1, 1⟩, ⟨6553, 9829, 2, 1⟩, ⟨9830, 13106, 3, 1⟩, ⟨13107, 16383, 4, 1⟩], [], [], 0, [], ⟨⟨k, 0⟩, 0, [], ⟨0, 0⟩, 0⟩, ⟨heardV, saysV k⟩, 0, [], 0⟩
def newV (k : Nat) : Bool := match r23_New_sh big 8 k 5 with
  | some n => decide (l18_Silent_sh big n 0 = some (nodeV k 1 0))
  | none => false
theorem new1 : newV 1 = true := by kernel_rfl
theorem new2 : newV 2 = true := by kernel_rfl
theorem new3 : newV 3 = true := by kernel_rfl
theorem new_ok {k : Nat} (h : k = 1 ∨ k = 2 ∨ k = 3) : ∃ n, r23_New_sh big 8 k 5 = some n ∧ l18_Silent_sh big n 0 = some (nodeV k 1 0) := by
  have hn : newV k = true := by
    rcases h with rfl | rfl | rfl
    · exact new1
    · exact new2
    · exact new3
  unfold newV at hn
  split at hn
  · rename_i n hh
    exact ⟨n, hh, of_decide_eq_true hn⟩
  · simp at hn
theorem own1 (E V : Int) : claims_Own_sh big (nodeV 1 E V) = some (nodeV 1 E V) := by kernel_rfl
theorem own2 (E V : Int) : claims_Own_sh big (nodeV 2 E V) = some (nodeV 2 E V) := by kernel_rfl
theorem own3 (E V : Int) : claims_Own_sh big (nodeV 3 E V) = some (nodeV 3 E V) := by kernel_rfl
theorem own_ok {k : Nat} (h : k = 1 ∨ k = 2 ∨ k = 3) (E V : Int) : claims_Own_sh big (nodeV k E V) = some (nodeV k E V) := by
  rcases h with rfl | rfl | rfl
  · exact own1 E V
  · exact own2 E V
  · exact own3 E V
theorem masters_ok : claims_Masters_sh big [⟨0, 3275, 0, 1⟩, ⟨3276, 6552, 1, 1⟩, ⟨6553, 9829, 2, 1⟩, ⟨9830, 13106, 3, 1⟩, ⟨13107, 16383, 4, 1⟩] = some [0, 1, 2, 3, 4] := by kernel_rfl
def factsV (k : Nat) : Bool := decide (slices_Contains_int_sh big [0, 1, 2, 3, 4] k = some true) && decide (watch_Failed_sh big ⟨heardV, saysV k⟩ k [0, 1, 2, 3, 4] 0 = some true) && decide (watch_Failed_sh big ⟨heardV, saysV k⟩ k [0, 1, 2, 3, 4] 4 = some false)
theorem facts1 : factsV 1 = true := by kernel_rfl
theorem facts2 : factsV 2 = true := by kernel_rfl
theorem facts3 : factsV 3 = true := by kernel_rfl
theorem facts_ok {k : Nat} (h : k = 1 ∨ k = 2 ∨ k = 3) : slices_Contains_int_sh big [0, 1, 2, 3, 4] k = some true ∧ watch_Failed_sh big ⟨heardV, saysV k⟩ k [0, 1, 2, 3, 4] 0 = some true ∧ watch_Failed_sh big ⟨heardV, saysV k⟩ k [0, 1, 2, 3, 4] 4 = some false := by
  have hn : factsV k = true := by
    rcases h with rfl | rfl | rfl
    · exact facts1
    · exact facts2
    · exact facts3
  unfold factsV at hn
  simp only [Bool.and_eq_true, decide_eq_true_eq] at hn
  exact ⟨hn.1.1, hn.1.2, hn.2⟩
def askV (k : Nat) (frm e node : Int) : Msg := ⟨7, frm, k, e, [], [], node, 0, 0, ⟨0, 0⟩, ⟨0, 0⟩, 0, []⟩
def givenV (V E e node : Int) : Bool := decide (V < e) && (decide (E ≤ e) && decide (node = 0))
theorem v_and (b c : Bool) : ite' b (some c) (some false) = some (b && c) := by cases b <;> rfl
theorem grants_ok {k : Nat} (h : k = 1 ∨ k = 2 ∨ k = 3) (E V frm e node : Int) (hn : node = 0 ∨ node = 4) : vote_grants_sh big (nodeV k E V) (askV k frm e node) = some (givenV V E e node) := by
  obtain ⟨f1, f2, f3⟩ := facts_ok h
  have hF : watch_Failed_sh big ⟨heardV, saysV k⟩ k [0, 1, 2, 3, 4] node = some (decide (node = 0)) := by
    rcases hn with rfl | rfl
    · exact f2
    · exact f3
  unfold vote_grants_sh
  have e1 : claims_Masters_sh big (nodeV k E V).claims = some [0, 1, 2, 3, 4] := masters_ok
  rw [e1]
  simp only [bn_some, lt_eq]
  rw [show (nodeV k E V).id = (k : Int) from rfl, show (nodeV k E V).watch = ⟨heardV, saysV k⟩ from rfl, show (askV k frm e node).node = node from rfl, show (nodeV k E V).master = -1 from rfl, show eqI (-1 : Int) (-1) = true from rfl, f1, hF]
  simp only [bn_some, ite_t, v_and]
  rfl
def voteV (k : Nat) (frm e : Int) : Msg := ⟨8, k, frm, e, [], [], 0, 0, 0, ⟨0, 0⟩, ⟨0, 0⟩, 0, []⟩
theorem Grant_ok {k : Nat} (h : k = 1 ∨ k = 2 ∨ k = 3) (E V frm e node : Int) (hn : node = 0 ∨ node = 4) : vote_Grant_sh big (nodeV k E V) (askV k frm e node) =
    some (nodeV k (maxI E e) (bif givenV V E e node then e else V), bif givenV V E e node then [voteV k frm e] else []) := by
  unfold vote_Grant_sh
  rw [own_ok h]
  simp only [bn_some, lt_eq]
  rw [grants_ok h E V frm e node hn]
  simp only [bn_some]
  cases givenV V E e node
  · rfl
  · rfl
theorem VoteOnce_ok (asks : List Int) (id : Int) (hu : ∀ x ∈ asks, 0 ≤ x ∧ x ≤ 255) (h1 : 0 ≤ id ∧ id ≤ 255) : l18_VoteOnce_sh big asks id = some true := by
  refine Rn.eqv ?_
  unfold l18_VoteOnce_sh
  refine Rn.lt (Rn.lt (Rn.ite (fun _ => Rn.bnE awake18_ok (Rn.some rfl)) (fun hg => ?_)))
  have hlen : asks.length ≤ 60 := by
    have := of_decide_eq_false (p := (60 : Int) < (asks.length : Int)) hg
    omega
  refine Rn.lt ?_
  rw [cvI_64 (by omega) (by omega)]
  refine Rn.bnE (vrem h1.1 (by omega)) (Rn.lt ?_)
  rw [addI_64 (by omega) (by omega)]
  obtain ⟨k, hk, hk2⟩ : ∃ k : Nat, (1 + id % 3 : Int) = k ∧ (k = 1 ∨ k = 2 ∨ k = 3) := ⟨(1 + id % 3).toNat, by omega, by omega⟩
  rw [hk]
  obtain ⟨n0, hn1, hn2⟩ := new_ok hk2
  refine Rn.bnE hn1 (Rn.bnE hn2 ?_)
  refine Rn.bn (P := fun y => y = .inl ()) (Rn.iter _ (fun q a => ∃ E V : Int, a = (V, (q : Int), 8, (k : Int), -1, E, V, (nodeV k E V).claims, [], [], 0, [], (k : Int), 0, 0, [], 0, 0, 0, heardV, saysV k, 0, [], 0) ∧ 0 ≤ V) asks.length (by unfold big; omega) ⟨1, 0, rfl, by omega⟩ fun q a hq hI => ?_) fun y hy => ?_
  rotate_left
  · subst hy
    exact Rn.bnE awake18_ok (Rn.some rfl)
  obtain ⟨E, V, rfl, hV⟩ := hI
  refine Rn.lt (Rn.lt (Rn.ite (fun hd => ?_) (fun _ => Rn.some rfl)))
  have hql : q < asks.length := by
    have := of_decide_eq_true (p := ((q : Int) < (asks.length : Int))) hd
    omega
  have hx := hu _ (List.getElem_mem hql)
  refine Rn.bnE (nth_some hql) (Rn.lt ?_)
  have hnth := nth_some hql
  generalize asks[q] = x at hx hnth
  rw [cvI_64 (by omega) (by omega)]
  refine Rn.bnE (vrem hx.1 (by omega)) (Rn.bnE (vquo hx.1 (by omega) (by omega)) (Rn.bnE (vrem (by omega) (by omega)) (Rn.lt ?_)))
  rw [addI_64 (by omega) (by omega)]
  refine Rn.bnE (vquo hx.1 (by omega) (by omega)) (Rn.bnE (vrem (by omega) (by omega)) (Rn.lt ?_))
  have hm : mulI .i64 (x / 16 % 2) 4 = x / 16 % 2 * 4 := wrap64 (by omega) (by omega)
  rw [hm]
  have hE : ∃ e : Int, e = x % 24 ∧ 0 ≤ e := ⟨_, rfl, by omega⟩
  obtain ⟨e, he, he0⟩ := hE
  have hF : ∃ f : Int, f = 5 + x / 32 % 3 := ⟨_, rfl⟩
  obtain ⟨f, hf⟩ := hF
  have hN : ∃ nd : Int, nd = x / 16 % 2 * 4 ∧ (nd = 0 ∨ nd = 4) := ⟨_, rfl, by omega⟩
  obtain ⟨nd, hnd, hnd2⟩ := hN
  rw [← he, ← hf, ← hnd]
  refine Rn.bnE (Grant_ok hk2 E V f e nd hnd2) ?_
  have hmax : E ≤ maxI E e := by simp only [maxI]; omega
  cases hgv : givenV V E e nd
  · simp only [cond_false]
    refine Rn.bnE (v := false) ?_ (Rn.lt (Rn.ite (fun h => absurd h (by decide)) fun _ => Rn.bnE (v := .inl V) rfl ?_))
    · show (lt (lenI ([] : List Msg)) fun v25 => lt (gtI v25 1) fun v26 => ite' v26 (some true) (lt (ltI (maxI E e) E) fun v27 => ite' v27 (some true) (lt (ltI V V) fun v28 => some v28))) = some false
      simp only [lt_eq, lenI]
      rw [show gtI (([] : List Msg).length : Int) 1 = false from rfl, ite_f, vI_f (by omega), ite_f, vI_f (by omega)]
    · rw [sm_inl]
      refine Rn.lt (Rn.some ⟨hql, maxI E e, V, ?_, hV⟩)
      rw [addI_64 (by first | omega | (simp only; omega)) (by first | omega | (simp only; omega))]
      rfl
  · simp only [cond_true]
    have hgv := hgv
    simp only [givenV, Bool.and_eq_true, decide_eq_true_eq] at hgv
    obtain ⟨g1, g2, g3⟩ := hgv
    refine Rn.bnE (v := false) ?_ (Rn.lt (Rn.ite (fun h => absurd h (by decide)) fun _ => Rn.bnE (v := .inl e) ?_ ?_))
    · show (lt (lenI [voteV k f e]) fun v25 => lt (gtI v25 1) fun v26 => ite' v26 (some true) (lt (ltI (maxI E e) E) fun v27 => ite' v27 (some true) (lt (ltI e V) fun v28 => some v28))) = some false
      simp only [lt_eq, lenI]
      rw [show gtI (([voteV k f e] : List Msg).length : Int) 1 = false from rfl, ite_f, vI_f (by omega), ite_f, vI_f (by omega)]
    · simp only [lt_eq, lenI]
      rw [show eqI (([voteV k f e] : List Msg).length : Int) 1 = true from rfl, ite_t, vle_f (by omega), ite_f, vI_f (by omega), ite_f, show (nodeV k (maxI E e) e).voted = e from rfl, vne_f, ite_f, show nth [voteV k f e] 0 = some (voteV k f e) from rfl]
      simp only [bn_some]
      rw [show (voteV k f e).epoch = e from rfl, show (voteV k f e).to = f from rfl, vne_f, ite_f, hnth]
      simp only [bn_some]
      rw [cvI_64 (by omega) (by omega), vquo hx.1 (by omega) (by omega)]
      simp only [bn_some]
      rw [vrem (by omega) (by omega)]
      simp only [bn_some]
      rw [addI_64 (by omega) (by omega), ← hf, vne_f, ite_f, vquo hx.1 (by omega) (by omega)]
      simp only [bn_some]
      rw [vrem (by omega) (by omega)]
      simp only [bn_some]
      rw [show x / 16 % 2 = 0 by omega]
      rfl
    · rw [sm_inl]
      refine Rn.lt (Rn.some ⟨hql, maxI E e, e, ?_, by omega⟩)
      rw [addI_64 (by first | omega | (simp only; omega)) (by first | omega | (simp only; omega))]
      rfl
end Go.Proofs.Ytaibolmbafacpaa

/- What is read as data of the program's structs. -/
namespace Go.Proofs.Ytaibolmbafacpaa
open Go Go.RowKit
set_option linter.unusedVariables false
set_option linter.unusedSimpArgs false
set_option linter.constructorNameAsVariable false
set_option maxRecDepth 100000
section
variable {P : Program} {n t : Nat} {ts : List T}
theorem WfT.bool (hu : P.underlying t = some .bool) (h : WfT P (n + 1) t ts) : ∃ b, ts = [.v (.bool b)] := by rw [WfT, hu] at h; exact h
theorem WfT.int {k : IntKind} (hu : P.underlying t = some (.int k)) (h : WfT P (n + 1) t ts) : ∃ i, ts = [.v (.int k i)] ∧ (Lit.int k i).wf = true := by rw [WfT, hu] at h; exact h
theorem WfT.slice {e : Nat} (hu : P.underlying t = some (.slice e)) (h : WfT P (n + 1) t ts) : ∃ es, ts = [.sl (P.cellsOf e) es] ∧ es.length * P.bytesOf e ≤ reachBytes ∧ ∀ x ∈ es, WfT P n e x := by rw [WfT, hu] at h; exact h
theorem WfT.struct {fs : Array Go.Field} (hu : P.underlying t = some (.struct fs)) (h : WfT P (n + 1) t ts) : ∃ ps : List (List T), ts = ps.flatten ∧ All2 (fun p f => WfT P n f p) ps (fs.toList.map (·.type)) := by rw [WfT, hu] at h; exact h
end
theorem All2.cons_r {α β : Type} {R : α → β → Prop} {l : List α} {b : β} {bs : List β} (h : All2 R l (b :: bs)) : ∃ x xs, l = x :: xs ∧ R x b ∧ All2 R xs bs := by
  cases l with
  | nil => exact h.elim
  | cons x xs => exact ⟨x, xs, rfl, h⟩
theorem All2.nil_r {α β : Type} {R : α → β → Prop} {l : List α} (h : All2 R l ([] : List β)) : l = [] := by
  cases l with
  | nil => rfl
  | cons x xs => exact h.elim
def rngI (i : Int) : Prop := -9223372036854775808 ≤ i ∧ i ≤ 9223372036854775807
theorem wf_list {α : Type} {enc : List α → List (List T)} {R : List T → Prop} {rng : α → Prop} (hn : enc [] = []) (hc : ∀ x l, enc (x :: l) = enc [x] ++ enc l) (h1 : ∀ e, R e → ∃ x, enc [x] = [e] ∧ rng x) :
    ∀ es, (∀ x ∈ es, R x) → ∃ l, es = enc l ∧ ∀ x ∈ l, rng x
  | [], _ => ⟨[], hn.symm, fun x h => by cases h⟩
  | e :: es, h => by
    obtain ⟨x, hx, rx⟩ := h1 e (h e (by simp))
    obtain ⟨l, rfl, rl⟩ := wf_list hn hc h1 es fun y hy => h y (by simp [hy])
    refine ⟨x :: l, by rw [hc, hx]; rfl, ?_⟩
    intro y hy
    rcases List.mem_cons.1 hy with rfl | hy
    · exact rx
    · exact rl y hy
/-- Bytes. -/
def rngU (i : Int) : Prop := 0 ≤ i ∧ i ≤ 255
theorem wf_rngU {i : Int} (h : (Lit.int .u8 i).wf = true) : rngU i := by
  have h' := (Bool.and_eq_true _ _ ▸ h : _ ∧ _)
  exact ⟨of_decide_eq_true h'.1, of_decide_eq_true h'.2⟩
theorem wf_U (n : Nat) (e : List T) (h : WfT Try.prog (n + 1) 5 e) : ∃ x : Int, encU [x] = [e] ∧ rngU x := by
  obtain ⟨f, rfl, h2⟩ := WfT.int (t := 5) Try.underlying5 h
  have h' := (Bool.and_eq_true _ _ ▸ h2 : _ ∧ _)
  have h1 := of_decide_eq_true h'.1
  have h2 := of_decide_eq_true h'.2
  exact ⟨f, rfl, h1, h2⟩
theorem wf_Us {n : Nat} {es : List (List T)} (h : ∀ x ∈ es, WfT Try.prog (n + 1) 5 x) : ∃ l : List Int, es = encU l ∧ ∀ x ∈ l, rngU x :=
  wf_list (enc := encU) (R := fun e => WfT Try.prog (n + 1) 5 e) (rng := rngU) rfl (fun _ _ => rfl) (@wf_U n) es h
def rngField (x : Field) : Prop := True
def rngItem (x : Item) : Prop := (rngI x.kind) ∧ (x.f.length ≤ 4398046510976 ∧ ∀ y ∈ x.f, rngField y) ∧ (x.l.length ≤ 8796093021952) ∧ (rngI x.exp)
def rngPair (x : Pair) : Prop := (rngItem x.item)
def rngEffect (x : Effect) : Prop := (rngItem x.item)
def rngRid (x : Rid) : Prop := (rngI x.node) ∧ (rngI x.epoch)
def rngFeed (x : Feed) : Prop := (rngRid x.rid) ∧ (rngI x.off) ∧ (x.back.length ≤ 1353245080300 ∧ ∀ y ∈ x.back, rngEffect y) ∧ (rngRid x.prev) ∧ (rngI x.upto)
def rngClaim (x : Claim) : Prop := (rngI x.frm) ∧ (rngI x.to) ∧ (rngI x.node) ∧ (rngI x.epoch)
def rngMsg (x : Msg) : Prop := (rngI x.kind) ∧ (rngI x.frm) ∧ (rngI x.to) ∧ (rngI x.epoch) ∧ (x.claims.length ≤ 4398046510976 ∧ ∀ y ∈ x.claims, rngClaim y) ∧ (x.nodes.length ≤ 17592186043904 ∧ ∀ y ∈ x.nodes, rngI y) ∧ (rngI x.node) ∧ (rngI x.slot) ∧ (rngI x.num) ∧ (rngRid x.rid) ∧ (rngRid x.prev) ∧ (rngI x.off) ∧ (x.effects.length ≤ 1353245080300 ∧ ∀ y ∈ x.effects, rngEffect y)
end Go.Proofs.Ytaibolmbafacpaa

/- What all rows need. -/
namespace Go.Proofs.Ytaibolmbafacpaa
open Go Go.RowKit
open Go.ChangeShapes Go.WideShapes Go.ChangeAt Go.RowKit
theorem Try.own : ownKnob Try.prog.godebug = none := by kernel_rfl
theorem Try.laidOut : laidOutB Try.prog = true := by kernel_rfl
end Go.Proofs.Ytaibolmbafacpaa

