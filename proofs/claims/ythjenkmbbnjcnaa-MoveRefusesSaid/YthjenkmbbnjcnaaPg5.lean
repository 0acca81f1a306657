/- Part 5 of the proof. -/
import Derived.Test.YthjenkmbbnjcnaaPg4
import Derived.Test.YthjenkmbbnjcnaaRows
import Derived.ProofKit
set_option linter.unusedVariables false
set_option linter.unusedSimpArgs false
set_option linter.constructorNameAsVariable false
set_option maxRecDepth 8000
set_option maxHeartbeats 8000000
namespace Go.Proofs.Ythjenkmbbnjcnaa
open Go Go.RowKit
def BE (n:Nat) (a0:Item):Option Item :=
chk (small 32 a0.f) <|
chk (small 16 a0.l) <|
chk (room a0.f.length 1) <|
chk (room a0.l.length 1) <|
some a0
theorem CZ {n:Nat} {a0:Item} {r:Item} (h:BE n a0=some r):Sound Try.prog 79 [.g [.s (.int .i64 a0.kind),.s (.string a0.s),.d false 2 (encField a0.f),.d false 1 (encS a0.l),.s (.int .i64 a0.exp)]] [] (.g [.s (.int .i64 r.kind),.s (.string r.s),.d false 2 (encField r.f),.d false 1 (encS r.l),.s (.int .i64 r.exp)]) []:=by
 unfold BE at h
 refine Sound.of_aw (fn:=Try.f79) (c:=_) Try.func79 rfl (by simp[Try.f79]) fun cx hG hnb=>?_
 rw[show Try.f79.ntmps=12 from rfl]
 have hn0:cx.nb=0:=hnb
 simp only[Al,initTm,List.map_cons,List.map_nil]
 apply AW.step
 ·simp
  intros;rfl
 replace h:=chkE h;obtain⟨e1,h⟩:=h
 replace h:=chkE h;obtain⟨e2,h⟩:=h
 apply AW.drawnE (V:=[_,_,_,_,_,_,_]) (M:=[[some ⟨136,5,false,none,[.s (.int .i64 a0.kind),.s (.string a0.s),.d false 2 (encField a0.f),.d false 1 (encS a0.l),.s (.int .i64 a0.exp)]⟩,some ⟨136,5,false,none,[.s (.int .i64 0),.s (.string ⟨#[]⟩),.s (.slice none 0 0),.s (.slice none 0 0),.s (.int .i64 0)]⟩],[some ⟨136,5,false,none,[.s (.int .i64 a0.kind),.s (.string a0.s),.d false 2 (encField a0.f),.d false 1 (encS a0.l),.s (.int .i64 a0.exp)]⟩,some ⟨136,5,false,none,[.s (.int .i64 0),.s (.string ⟨#[]⟩),.s (.slice none 0 0),.s (.slice none 0 0),.s (.int .i64 0)]⟩,some ⟨179,2,true,none,lvs (encField a0.f)⟩],[some ⟨136,5,false,none,[.s (.int .i64 a0.kind),.s (.string a0.s),.d false 2 (encField a0.f),.d false 1 (encS a0.l),.s (.int .i64 a0.exp)]⟩,some ⟨136,5,false,none,[.s (.int .i64 0),.s (.string ⟨#[]⟩),.s (.slice none 0 0),.s (.slice none 0 0),.s (.int .i64 0)]⟩,some ⟨179,2,true,none,lvs (encField a0.f)⟩,some ⟨9,1,true,none,lvs (encS a0.l)⟩]]) mixed [⟨[0],[],[(1,none)],false⟩,⟨[0],[0],[(3,some 0)],false⟩,⟨[0],[0,1],[(4,some 1)],true⟩,⟨[0,1],[],[(1,none)],false⟩,⟨[0,1],[3],[(6,some 3)],false⟩,⟨[1],[0,1,2,3,4],[(7,some 4)],true⟩,⟨[1,2],[0,1,2,3,4],[(1,none)],false⟩,⟨[],[0,1,2,3,4,5,6],[],false⟩,⟨[],[0,1,2,3,4,5,6,7],[],false⟩,⟨[],[0,1,2,3,4,5,6,7,8],[],false⟩] 7 2 (by kernel_rfl) (by kernel_rfl)
 ·rfl
 ·refine⟨?_,?_,?_,⟨?_,?_⟩,⟨?_,?_⟩,?_,⟨?_,?_⟩,trivial⟩
  iterate 2 (· intro tm hr;simp[AllL,rdV] at hr;simp[hr,outR];intros;first|exact KD.mk|exact KD.mkN)
  ·intro tm hr
   simp[AllL,rdV] at hr
   simp[hr,outR]
   intros
   refine Aw Fn (FU a0.f (AP e1)) rfl (by simp) ⟨.d _ _ _,trivial⟩ ?_
   try simp[outR]
   intros;first|exact KD.mk|exact KD.mkN
  iterate 4 (· intro tm hr;simp[AllL,rdV] at hr;simp[hr,outR];intros;first|exact KD.mk|exact KD.mkN)
  ·intro tm hr
   simp[AllL,rdV] at hr
   simp[hr,outR]
   intros
   refine Aw ID (Jw a0.l (AP e2)) rfl (by simp) ⟨.d _ _ _,trivial⟩ ?_
   try simp[outR]
   intros;first|exact KD.mk|exact KD.mkN
  iterate 2 (· intro tm hr;simp[AllL,rdV] at hr;simp[hr,outR];intros;first|exact KD.mk|exact KD.mkN)
 ·rfl
 ·simp[tmD,putD,outR];rfl
 ·simp[outR]
  intros;rfl
 apply AW.step
 ·simp
  intros;rfl
 replace h:=chkE h;obtain⟨e3,h⟩:=h
 refine AW.frzRow 2 (ty:=179) (cap:=none) (sz:=2) (es:=encField a0.f) (by simp) (by omega) (B1 _) (by first|exact (Ah e3).2|simpa using (Ah e3).2|simp) (by simp[Tm.frz,AV.frz,LV.frz];rfl) (by simp[Ob.frz,LV.frz];rfl) rfl ?_
 replace h:=chkE h;obtain⟨e4,h⟩:=h
 refine AW.frzRow 3 (ty:=9) (cap:=none) (sz:=1) (es:=encS a0.l) (by simp) (by omega) (Cm _) (by first|exact (Ah e4).2|simpa using (Ah e4).2|simp) (by simp[Tm.frz,AV.frz,LV.frz];rfl) (by simp[Ob.frz,LV.frz];rfl) rfl ?_
 obtain rfl:=oi h
 refine AW.ret ?_
 refine Left.plain hnb (by simp[Try.f79,resV,resC,comp];rfl) rfl rfl ?_
 simp
theorem CC:Enters Try.prog 79:=enters Try.func79 (by kernel_rfl) rfl
def Dr (n:Nat) (a0:Node):Option Node :=
chk (small 32 a0.claims) <|
chk (small 40 a0.moves) <|
chk (small 24 a0.seen) <|
chk (small 8 a0.votes) <|
chk (small 96 a0.db) <|
chk (small 104 a0.feed.back) <|
lt (lenI a0.db) fun v7 =>
bn (iter n (fun (y8:Int×List Pair) =>
lt (ltI y8.1 v7) fun v11 =>
ite' v11 (bn (nth y8.2 y8.1) fun v12 =>
bn (BE n v12.item) fun v14 =>
lt (y8.2.set y8.1.toNat (⟨v12.key,v14⟩:Pair)) fun v16 =>
lt (addI .i64 y8.1 1) fun v20 =>
some (.inl (v20,v16))) (some (.inr y8.2))) (0,a0.db)) fun (y9:List Pair) =>
lt (lenI a0.feed.back) fun v21 =>
bn (iter n (fun (y22:Int×List Effect) =>
lt (ltI y22.1 v21) fun v25 =>
ite' v25 (bn (nth y22.2 y22.1) fun v26 =>
bn (BE n v26.item) fun v28 =>
lt (y22.2.set y22.1.toNat (⟨v26.key,v26.gone,v28⟩:Effect)) fun v30 =>
lt (addI .i64 y22.1 1) fun v34 =>
some (.inl (v34,v30))) (some (.inr y22.2))) (0,a0.feed.back)) fun (y23:List Effect) =>
chk (small 8 a0.watch.heard) <|
chk (small 24 a0.watch.says) <|
lt (lenI a0.watch.says) fun v37 =>
bn (iter n (fun (y38:Int×List (List Int)) =>
lt (ltI y38.1 v37) fun v41 =>
ite' v41 (bn (nth y38.2 y38.1) fun v42 =>
chk (small 8 v42) <|
lt (y38.2.set y38.1.toNat v42) fun v46 =>
lt (addI .i64 y38.1 1) fun v49 =>
some (.inl (v49,v46))) (some (.inr y38.2))) (0,a0.watch.says)) fun (y39:List (List Int)) =>
chk (room a0.claims.length 1) <|
chk (room y9.length 1) <|
chk (room a0.moves.length 1) <|
chk (room a0.seen.length 1) <|
chk (room y23.length 1) <|
chk (room a0.watch.heard.length 1) <|
chk (room y39.length 1) <|
chk (room a0.votes.length 1) <|
some (⟨a0.count,a0.id,a0.master,a0.epoch,a0.voted,a0.claims,y9,a0.moves,a0.last,a0.seen,(⟨a0.feed.rid,a0.feed.off,y23,a0.feed.prev,a0.feed.upto⟩:Feed),(⟨a0.watch.heard,y39⟩:Watch),a0.asked,a0.votes,a0.wait⟩:Node)
def DZ2t1:List DI:=[⟨[0],[],[(1,none)],false⟩,⟨[0],[0],[(39,some 0)],false⟩,⟨[0],[],[(3,none)],false⟩,⟨[0],[],[(1,none)],false⟩,⟨[0],[3],[(42,some 3)],false⟩,⟨[0],[],[(3,none)],false⟩,⟨[0],[3,4,5],[(43,some 4),(44,some 5)],false⟩,⟨[0],[3,4,5,6],[(45,some 6)],false⟩,⟨[0],[3,4,5,6,7],[(46,some 7)],false⟩,⟨[0],[3,4,5,6,7,8],[(47,some 8)],false⟩,⟨[],[0,1,2,3,4,5,6,7,8,9],[],false⟩,⟨[],[0,1,2,3,4,5,6,7,8,9,10],[],false⟩,⟨[],[0,1,2,3,4,5,6,7,8,9,10,11],[],false⟩]
def DZ2t2:List DI:=[⟨[0],[],[(1,none)],false⟩,⟨[0],[0],[(59,some 0)],false⟩,⟨[0],[0,1],[(60,some 1)],false⟩,⟨[0],[],[(4,none)],false⟩,⟨[0],[],[(1,none)],false⟩,⟨[0],[4],[(63,some 4)],false⟩,⟨[0],[4,5],[(64,some 5)],false⟩,⟨[0],[],[(4,none)],false⟩,⟨[0],[4,5,6,7],[(65,some 6),(66,some 7)],false⟩,⟨[0],[4,5,6,7,8],[(67,some 8)],false⟩,⟨[0],[4,5,6,7,8,9],[(68,some 9)],false⟩,⟨[0],[4,5,6,7,8,9,10],[(69,some 10)],false⟩,⟨[],[0,1,2,3,4,5,6,7,8,9,10,11],[],false⟩,⟨[],[0,1,2,3,4,5,6,7,8,9,10,11,12],[],false⟩,⟨[],[0,1,2,3,4,5,6,7,8,9,10,11,12,13],[],false⟩]
def DZ2t3:List DI:=[⟨[0],[],[(1,none)],false⟩,⟨[0],[0],[(95,some 0)],false⟩,⟨[0],[0,1],[(96,some 1)],false⟩,⟨[0],[],[(5,none)],false⟩,⟨[0],[],[(6,none)],false⟩,⟨[0],[4],[(99,some 4)],false⟩,⟨[],[0,1,2,3,4,5],[],false⟩,⟨[],[0,1,2,3,4,5,6],[],false⟩]
theorem HM {n:Nat} {a0:Node} {r:Node} (h:Dr n a0=some r):Sound Try.prog 59 [.g [.s (.int .i64 a0.count),.s (.int .i64 a0.id),.s (.int .i64 a0.master),.s (.int .i64 a0.epoch),.s (.int .i64 a0.voted),.d false 4 (encClaim a0.claims),.d false 6 (encPair a0.db),.d false 4 (encMove a0.moves),.s (.int .i64 a0.last),.d false 3 (encSeen a0.seen),.s (.int .i64 a0.feed.rid.node),.s (.int .i64 a0.feed.rid.epoch),.s (.int .i64 a0.feed.off),.d false 7 (encEffect a0.feed.back),.s (.int .i64 a0.feed.prev.node),.s (.int .i64 a0.feed.prev.epoch),.s (.int .i64 a0.feed.upto),.d false 1 (encI a0.watch.heard),.d false 1 (encLI a0.watch.says),.s (.int .i64 a0.asked),.d false 1 (encI a0.votes),.s (.int .i64 a0.wait)]] [] (.g [.s (.int .i64 r.count),.s (.int .i64 r.id),.s (.int .i64 r.master),.s (.int .i64 r.epoch),.s (.int .i64 r.voted),.d false 4 (encClaim r.claims),.d false 6 (encPair r.db),.d false 4 (encMove r.moves),.s (.int .i64 r.last),.d false 3 (encSeen r.seen),.s (.int .i64 r.feed.rid.node),.s (.int .i64 r.feed.rid.epoch),.s (.int .i64 r.feed.off),.d false 7 (encEffect r.feed.back),.s (.int .i64 r.feed.prev.node),.s (.int .i64 r.feed.prev.epoch),.s (.int .i64 r.feed.upto),.d false 1 (encI r.watch.heard),.d false 1 (encLI r.watch.says),.s (.int .i64 r.asked),.d false 1 (encI r.votes),.s (.int .i64 r.wait)]) []:=by
 unfold Dr at h
 refine Sound.of_aw (fn:=Try.f59) (c:=_) Try.func59 rfl (by simp[Try.f59]) fun cx hG hnb=>?_
 rw[show Try.f59.ntmps=104 from rfl]
 have hn0:cx.nb=0:=hnb
 simp only[Al,initTm,List.map_cons,List.map_nil]
 apply AW.step
 ·simp
  intros;rfl
 replace h:=chkE h;obtain⟨e1,h⟩:=h
 replace h:=chkE h;obtain⟨e2,h⟩:=h
 replace h:=chkE h;obtain⟨e3,h⟩:=h
 replace h:=chkE h;obtain⟨e4,h⟩:=h
 apply AW.drawnE (V:=[_,_,_,_,_,_,_,_,_,_,_,_,_]) (M:=[[some ⟨69,22,false,none,[.s (.int .i64 a0.count),.s (.int .i64 a0.id),.s (.int .i64 a0.master),.s (.int .i64 a0.epoch),.s (.int .i64 a0.voted),.d false 4 (encClaim a0.claims),.d false 6 (encPair a0.db),.d false 4 (encMove a0.moves),.s (.int .i64 a0.last),.d false 3 (encSeen a0.seen),.s (.int .i64 a0.feed.rid.node),.s (.int .i64 a0.feed.rid.epoch),.s (.int .i64 a0.feed.off),.d false 7 (encEffect a0.feed.back),.s (.int .i64 a0.feed.prev.node),.s (.int .i64 a0.feed.prev.epoch),.s (.int .i64 a0.feed.upto),.d false 1 (encI a0.watch.heard),.d false 1 (encLI a0.watch.says),.s (.int .i64 a0.asked),.d false 1 (encI a0.votes),.s (.int .i64 a0.wait)]⟩,some ⟨69,22,false,none,[.s (.int .i64 0),.s (.int .i64 0),.s (.int .i64 0),.s (.int .i64 0),.s (.int .i64 0),.s (.slice none 0 0),.s (.slice none 0 0),.s (.slice none 0 0),.s (.int .i64 0),.s (.slice none 0 0),.s (.int .i64 0),.s (.int .i64 0),.s (.int .i64 0),.s (.slice none 0 0),.s (.int .i64 0),.s (.int .i64 0),.s (.int .i64 0),.s (.slice none 0 0),.s (.slice none 0 0),.s (.int .i64 0),.s (.slice none 0 0),.s (.int .i64 0)]⟩],[some ⟨69,22,false,none,[.s (.int .i64 a0.count),.s (.int .i64 a0.id),.s (.int .i64 a0.master),.s (.int .i64 a0.epoch),.s (.int .i64 a0.voted),.d false 4 (encClaim a0.claims),.d false 6 (encPair a0.db),.d false 4 (encMove a0.moves),.s (.int .i64 a0.last),.d false 3 (encSeen a0.seen),.s (.int .i64 a0.feed.rid.node),.s (.int .i64 a0.feed.rid.epoch),.s (.int .i64 a0.feed.off),.d false 7 (encEffect a0.feed.back),.s (.int .i64 a0.feed.prev.node),.s (.int .i64 a0.feed.prev.epoch),.s (.int .i64 a0.feed.upto),.d false 1 (encI a0.watch.heard),.d false 1 (encLI a0.watch.says),.s (.int .i64 a0.asked),.d false 1 (encI a0.votes),.s (.int .i64 a0.wait)]⟩,some ⟨69,22,false,none,[.s (.int .i64 0),.s (.int .i64 0),.s (.int .i64 0),.s (.int .i64 0),.s (.int .i64 0),.s (.slice none 0 0),.s (.slice none 0 0),.s (.slice none 0 0),.s (.int .i64 0),.s (.slice none 0 0),.s (.int .i64 0),.s (.int .i64 0),.s (.int .i64 0),.s (.slice none 0 0),.s (.int .i64 0),.s (.int .i64 0),.s (.int .i64 0),.s (.slice none 0 0),.s (.slice none 0 0),.s (.int .i64 0),.s (.slice none 0 0),.s (.int .i64 0)]⟩,some ⟨41,4,true,none,lvs (encClaim a0.claims)⟩],[some ⟨69,22,false,none,[.s (.int .i64 a0.count),.s (.int .i64 a0.id),.s (.int .i64 a0.master),.s (.int .i64 a0.epoch),.s (.int .i64 a0.voted),.d false 4 (encClaim a0.claims),.d false 6 (encPair a0.db),.d false 4 (encMove a0.moves),.s (.int .i64 a0.last),.d false 3 (encSeen a0.seen),.s (.int .i64 a0.feed.rid.node),.s (.int .i64 a0.feed.rid.epoch),.s (.int .i64 a0.feed.off),.d false 7 (encEffect a0.feed.back),.s (.int .i64 a0.feed.prev.node),.s (.int .i64 a0.feed.prev.epoch),.s (.int .i64 a0.feed.upto),.d false 1 (encI a0.watch.heard),.d false 1 (encLI a0.watch.says),.s (.int .i64 a0.asked),.d false 1 (encI a0.votes),.s (.int .i64 a0.wait)]⟩,some ⟨69,22,false,none,[.s (.int .i64 0),.s (.int .i64 0),.s (.int .i64 0),.s (.int .i64 0),.s (.int .i64 0),.s (.slice none 0 0),.s (.slice none 0 0),.s (.slice none 0 0),.s (.int .i64 0),.s (.slice none 0 0),.s (.int .i64 0),.s (.int .i64 0),.s (.int .i64 0),.s (.slice none 0 0),.s (.int .i64 0),.s (.int .i64 0),.s (.int .i64 0),.s (.slice none 0 0),.s (.slice none 0 0),.s (.int .i64 0),.s (.slice none 0 0),.s (.int .i64 0)]⟩,some ⟨41,4,true,none,lvs (encClaim a0.claims)⟩,some ⟨72,4,true,none,lvs (encMove a0.moves)⟩],[some ⟨69,22,false,none,[.s (.int .i64 a0.count),.s (.int .i64 a0.id),.s (.int .i64 a0.master),.s (.int .i64 a0.epoch),.s (.int .i64 a0.voted),.d false 4 (encClaim a0.claims),.d false 6 (encPair a0.db),.d false 4 (encMove a0.moves),.s (.int .i64 a0.last),.d false 3 (encSeen a0.seen),.s (.int .i64 a0.feed.rid.node),.s (.int .i64 a0.feed.rid.epoch),.s (.int .i64 a0.feed.off),.d false 7 (encEffect a0.feed.back),.s (.int .i64 a0.feed.prev.node),.s (.int .i64 a0.feed.prev.epoch),.s (.int .i64 a0.feed.upto),.d false 1 (encI a0.watch.heard),.d false 1 (encLI a0.watch.says),.s (.int .i64 a0.asked),.d false 1 (encI a0.votes),.s (.int .i64 a0.wait)]⟩,some ⟨69,22,false,none,[.s (.int .i64 0),.s (.int .i64 0),.s (.int .i64 0),.s (.int .i64 0),.s (.int .i64 0),.s (.slice none 0 0),.s (.slice none 0 0),.s (.slice none 0 0),.s (.int .i64 0),.s (.slice none 0 0),.s (.int .i64 0),.s (.int .i64 0),.s (.int .i64 0),.s (.slice none 0 0),.s (.int .i64 0),.s (.int .i64 0),.s (.int .i64 0),.s (.slice none 0 0),.s (.slice none 0 0),.s (.int .i64 0),.s (.slice none 0 0),.s (.int .i64 0)]⟩,some ⟨41,4,true,none,lvs (encClaim a0.claims)⟩,some ⟨72,4,true,none,lvs (encMove a0.moves)⟩,some ⟨131,3,true,none,lvs (encSeen a0.seen)⟩],[some ⟨69,22,false,none,[.s (.int .i64 a0.count),.s (.int .i64 a0.id),.s (.int .i64 a0.master),.s (.int .i64 a0.epoch),.s (.int .i64 a0.voted),.d false 4 (encClaim a0.claims),.d false 6 (encPair a0.db),.d false 4 (encMove a0.moves),.s (.int .i64 a0.last),.d false 3 (encSeen a0.seen),.s (.int .i64 a0.feed.rid.node),.s (.int .i64 a0.feed.rid.epoch),.s (.int .i64 a0.feed.off),.d false 7 (encEffect a0.feed.back),.s (.int .i64 a0.feed.prev.node),.s (.int .i64 a0.feed.prev.epoch),.s (.int .i64 a0.feed.upto),.d false 1 (encI a0.watch.heard),.d false 1 (encLI a0.watch.says),.s (.int .i64 a0.asked),.d false 1 (encI a0.votes),.s (.int .i64 a0.wait)]⟩,some ⟨69,22,false,none,[.s (.int .i64 0),.s (.int .i64 0),.s (.int .i64 0),.s (.int .i64 0),.s (.int .i64 0),.s (.slice none 0 0),.s (.slice none 0 0),.s (.slice none 0 0),.s (.int .i64 0),.s (.slice none 0 0),.s (.int .i64 0),.s (.int .i64 0),.s (.int .i64 0),.s (.slice none 0 0),.s (.int .i64 0),.s (.int .i64 0),.s (.int .i64 0),.s (.slice none 0 0),.s (.slice none 0 0),.s (.int .i64 0),.s (.slice none 0 0),.s (.int .i64 0)]⟩,some ⟨41,4,true,none,lvs (encClaim a0.claims)⟩,some ⟨72,4,true,none,lvs (encMove a0.moves)⟩,some ⟨131,3,true,none,lvs (encSeen a0.seen)⟩,some ⟨3,1,true,none,lvs (encI a0.votes)⟩]]) mixed [⟨[0],[],[(1,none)],false⟩,⟨[0],[0],[(7,some 0)],false⟩,⟨[0],[0,1],[(8,some 1)],true⟩,⟨[0,1],[],[(1,none)],false⟩,⟨[0,1],[3],[(10,some 3)],false⟩,⟨[1],[0,1,2,3,4],[(11,some 4)],true⟩,⟨[0,1,2],[],[(1,none)],false⟩,⟨[0,1,2],[6],[(13,some 6)],false⟩,⟨[2],[0,1,2,3,4,5,6,7],[(14,some 7)],true⟩,⟨[0,1,2,3],[],[(1,none)],false⟩,⟨[0,1,2,3],[9],[(16,some 9)],false⟩,⟨[3],[0,1,2,3,4,5,6,7,8,9,10],[(17,some 10)],true⟩,⟨[1,2,3,4],[0,1,2,3,4,6,7,9,10],[(1,none)],false⟩,⟨[],[0,1,2,3,4,5,6,7,8,9,10,11,12],[],false⟩,⟨[],[0,1,2,3,4,5,6,7,8,9,10,11,12,13],[],false⟩,⟨[],[0,1,2,3,4,5,6,7,8,9,10,11,12,13,14],[],false⟩,⟨[],[0,1,2,3,4,5,6,7,8,9,10,11,12,13,14,15],[],false⟩,⟨[],[0,1,2,3,4,5,6,7,8,9,10,11,12,13,14,15,16],[],false⟩,⟨[],[0,1,2,3,4,5,6,7,8,9,10,11,12,13,14,15,16,17],[],false⟩,⟨[],[0,1,2,3,4,5,6,7,8,9,10,11,12,13,14,15,16,17,18],[],false⟩] 13 4 (by kernel_rfl) (by kernel_rfl)
 ·rfl
 ·refine⟨?_,?_,?_,⟨?_,?_⟩,⟨?_,?_⟩,?_,⟨?_,?_,?_⟩,⟨?_,?_,?_⟩,?_,⟨?_,?_,?_,?_⟩,⟨?_,?_,?_,?_⟩,?_,⟨?_,?_,?_,?_⟩,trivial⟩
  iterate 2 (· intro tm hr;simp[AllL,rdV] at hr;simp[hr,outR];intros;first|exact KD.mk|exact KD.mkN)
  ·intro tm hr
   simp[AllL,rdV] at hr
   simp[hr,outR]
   intros
   refine Aw Fl (FT a0.claims (AP e1)) rfl (by simp) ⟨.d _ _ _,trivial⟩ ?_
   try simp[outR]
   intros;first|exact KD.mk|exact KD.mkN
  iterate 4 (· intro tm hr;simp[AllL,rdV] at hr;simp[hr,outR];intros;first|exact KD.mk|exact KD.mkN)
  ·intro tm hr
   simp[AllL,rdV] at hr
   simp[hr,outR]
   intros
   refine Aw FV (GK a0.moves (AP e2)) rfl (by simp) ⟨.d _ _ _,trivial⟩ ?_
   try simp[outR]
   intros;first|exact KD.mk|exact KD.mkN
  iterate 6 (· intro tm hr;simp[AllL,rdV] at hr;simp[hr,outR];intros;first|exact KD.mk|exact KD.mkN)
  ·intro tm hr
   simp[AllL,rdV] at hr
   simp[hr,outR]
   intros
   refine Aw FX (GM a0.seen (AP e3)) rfl (by simp) ⟨.d _ _ _,trivial⟩ ?_
   try simp[outR]
   intros;first|exact KD.mk|exact KD.mkN
  iterate 8 (· intro tm hr;simp[AllL,rdV] at hr;simp[hr,outR];intros;first|exact KD.mk|exact KD.mkN)
  ·intro tm hr
   simp[AllL,rdV] at hr
   simp[hr,outR]
   intros
   refine Aw DE (E1 a0.votes (AP e4)) rfl (by simp) ⟨.d _ _ _,trivial⟩ ?_
   try simp[outR]
   intros;first|exact KD.mk|exact KD.mkN
  iterate 4 (· intro tm hr;simp[AllL,rdV] at hr;simp[hr,outR];intros;first|exact KD.mk|exact KD.mkN)
 ·rfl
 ·simp[tmD,putD,outR];rfl
 ·simp[outR]
  intros;rfl
 replace h:=chkE h;obtain⟨e5,h⟩:=h
 replace h:=chkE h;obtain⟨e6,h⟩:=h
 apply AW.drawnE (V:=[_,_,_,_,_,_,_,_]) (M:=[[some ⟨69,22,false,none,[.s (.int .i64 a0.count),.s (.int .i64 a0.id),.s (.int .i64 a0.master),.s (.int .i64 a0.epoch),.s (.int .i64 a0.voted),.r 2 4 0 a0.claims.length,.d false 6 (encPair a0.db),.r 3 4 0 a0.moves.length,.s (.int .i64 a0.last),.r 4 3 0 a0.seen.length,.s (.int .i64 a0.feed.rid.node),.s (.int .i64 a0.feed.rid.epoch),.s (.int .i64 a0.feed.off),.d false 7 (encEffect a0.feed.back),.s (.int .i64 a0.feed.prev.node),.s (.int .i64 a0.feed.prev.epoch),.s (.int .i64 a0.feed.upto),.d false 1 (encI a0.watch.heard),.d false 1 (encLI a0.watch.says),.s (.int .i64 a0.asked),.r 5 1 0 a0.votes.length,.s (.int .i64 a0.wait)]⟩,some ⟨69,22,false,none,[.s (.int .i64 0),.s (.int .i64 0),.s (.int .i64 0),.s (.int .i64 0),.s (.int .i64 0),.s (.slice none 0 0),.s (.slice none 0 0),.s (.slice none 0 0),.s (.int .i64 0),.s (.slice none 0 0),.s (.int .i64 0),.s (.int .i64 0),.s (.int .i64 0),.s (.slice none 0 0),.s (.int .i64 0),.s (.int .i64 0),.s (.int .i64 0),.s (.slice none 0 0),.s (.slice none 0 0),.s (.int .i64 0),.s (.slice none 0 0),.s (.int .i64 0)]⟩,some ⟨41,4,true,none,lvs (encClaim a0.claims)⟩,some ⟨72,4,true,none,lvs (encMove a0.moves)⟩,some ⟨131,3,true,none,lvs (encSeen a0.seen)⟩,some ⟨3,1,true,none,lvs (encI a0.votes)⟩],[some ⟨69,22,false,none,[.s (.int .i64 a0.count),.s (.int .i64 a0.id),.s (.int .i64 a0.master),.s (.int .i64 a0.epoch),.s (.int .i64 a0.voted),.r 2 4 0 a0.claims.length,.d false 6 (encPair a0.db),.r 3 4 0 a0.moves.length,.s (.int .i64 a0.last),.r 4 3 0 a0.seen.length,.s (.int .i64 a0.feed.rid.node),.s (.int .i64 a0.feed.rid.epoch),.s (.int .i64 a0.feed.off),.d false 7 (encEffect a0.feed.back),.s (.int .i64 a0.feed.prev.node),.s (.int .i64 a0.feed.prev.epoch),.s (.int .i64 a0.feed.upto),.d false 1 (encI a0.watch.heard),.d false 1 (encLI a0.watch.says),.s (.int .i64 a0.asked),.r 5 1 0 a0.votes.length,.s (.int .i64 a0.wait)]⟩,some ⟨69,22,false,none,[.s (.int .i64 0),.s (.int .i64 0),.s (.int .i64 0),.s (.int .i64 0),.s (.int .i64 0),.s (.slice none 0 0),.s (.slice none 0 0),.s (.slice none 0 0),.s (.int .i64 0),.s (.slice none 0 0),.s (.int .i64 0),.s (.int .i64 0),.s (.int .i64 0),.s (.slice none 0 0),.s (.int .i64 0),.s (.int .i64 0),.s (.int .i64 0),.s (.slice none 0 0),.s (.slice none 0 0),.s (.int .i64 0),.s (.slice none 0 0),.s (.int .i64 0)]⟩,some ⟨41,4,true,none,lvs (encClaim a0.claims)⟩,some ⟨72,4,true,none,lvs (encMove a0.moves)⟩,some ⟨131,3,true,none,lvs (encSeen a0.seen)⟩,some ⟨3,1,true,none,lvs (encI a0.votes)⟩,some ⟨138,6,true,none,lvs (encPair a0.db)⟩],[some ⟨69,22,false,none,[.s (.int .i64 a0.count),.s (.int .i64 a0.id),.s (.int .i64 a0.master),.s (.int .i64 a0.epoch),.s (.int .i64 a0.voted),.r 2 4 0 a0.claims.length,.d false 6 (encPair a0.db),.r 3 4 0 a0.moves.length,.s (.int .i64 a0.last),.r 4 3 0 a0.seen.length,.s (.int .i64 a0.feed.rid.node),.s (.int .i64 a0.feed.rid.epoch),.s (.int .i64 a0.feed.off),.d false 7 (encEffect a0.feed.back),.s (.int .i64 a0.feed.prev.node),.s (.int .i64 a0.feed.prev.epoch),.s (.int .i64 a0.feed.upto),.d false 1 (encI a0.watch.heard),.d false 1 (encLI a0.watch.says),.s (.int .i64 a0.asked),.r 5 1 0 a0.votes.length,.s (.int .i64 a0.wait)]⟩,some ⟨69,22,false,none,[.s (.int .i64 0),.s (.int .i64 0),.s (.int .i64 0),.s (.int .i64 0),.s (.int .i64 0),.s (.slice none 0 0),.s (.slice none 0 0),.s (.slice none 0 0),.s (.int .i64 0),.s (.slice none 0 0),.s (.int .i64 0),.s (.int .i64 0),.s (.int .i64 0),.s (.slice none 0 0),.s (.int .i64 0),.s (.int .i64 0),.s (.int .i64 0),.s (.slice none 0 0),.s (.slice none 0 0),.s (.int .i64 0),.s (.slice none 0 0),.s (.int .i64 0)]⟩,some ⟨41,4,true,none,lvs (encClaim a0.claims)⟩,some ⟨72,4,true,none,lvs (encMove a0.moves)⟩,some ⟨131,3,true,none,lvs (encSeen a0.seen)⟩,some ⟨3,1,true,none,lvs (encI a0.votes)⟩,some ⟨138,6,true,none,lvs (encPair a0.db)⟩,some ⟨141,7,true,none,lvs (encEffect a0.feed.back)⟩]]) mixed [⟨[0],[],[(1,none)],false⟩,⟨[0],[0],[(23,some 0)],false⟩,⟨[0],[0,1],[(24,some 1)],true⟩,⟨[0,1],[],[(1,none)],false⟩,⟨[0,1],[3],[(26,some 3)],false⟩,⟨[0,1],[3,4],[(27,some 4)],false⟩,⟨[1],[0,1,2,3,4,5],[(28,some 5)],true⟩,⟨[1,2],[0,1,2,3,4,5],[(1,none)],false⟩,⟨[],[0,1,2,3,4,5,6,7],[],false⟩,⟨[],[0,1,2,3,4,5,6,7,8],[],false⟩,⟨[],[0,1,2,3,4,5,6,7,8,9],[],false⟩,⟨[],[0,1,2,3,4,5,6,7,8,9,10],[],false⟩] 8 2 (by kernel_rfl) (by kernel_rfl)
 ·rfl
 ·refine⟨?_,?_,?_,⟨?_,?_⟩,⟨?_,?_⟩,⟨?_,?_⟩,?_,⟨?_,?_⟩,trivial⟩
  iterate 2 (· intro tm hr;simp[AllL,rdV] at hr;simp[hr,outR];intros;first|exact KD.mk|exact KD.mkN)
  ·intro tm hr
   simp[AllL,rdV] at hr
   simp[hr,outR]
   intros
   refine Aw FW (GL a0.db (AP e5)) rfl (by simp) ⟨.same rfl,trivial⟩ ?_
   try simp[outR]
   intros;first|exact KD.mk|exact KD.mkN
  iterate 6 (· intro tm hr;simp[AllL,rdV] at hr;simp[hr,outR];intros;first|exact KD.mk|exact KD.mkN)
  ·intro tm hr
   simp[AllL,rdV] at hr
   simp[hr,outR]
   intros
   refine Aw E0 (Fm a0.feed.back (AP e6)) rfl (by simp) ⟨.same rfl,trivial⟩ ?_
   try simp[outR]
   intros;first|exact KD.mk|exact KD.mkN
  iterate 2 (· intro tm hr;simp[AllL,rdV] at hr;simp[hr,outR];intros;first|exact KD.mk|exact KD.mkN)
 ·rfl
 ·simp[tmD,putD,outR];rfl
 ·simp[outR]
  intros;rfl
 refine AW.seq ?_
 replace h:=ltE h;obtain⟨v7,e7,h⟩:=h
 apply AW.step
 ·simp[Aj e7]
  intros;rfl
 refine AW.block ?_
 replace h:=bnE h;obtain⟨y9,g9,h⟩:=h
 refine AW.iterP g9 (mk:=fun gh ls q=>(⟨[(1,.l (.p 0 0)),(2,.l (.p 1 0)),(35,.l (.s (.int .i64 v7))),(36,.l (.s (.int .i64 q.1)))],[some ⟨69,22,false,none,[.s (.int .i64 a0.count),.s (.int .i64 a0.id),.s (.int .i64 a0.master),.s (.int .i64 a0.epoch),.s (.int .i64 a0.voted),.r 2 4 0 a0.claims.length,.r 3 6 0 q.2.length,.r 4 4 0 a0.moves.length,.s (.int .i64 a0.last),.r 5 3 0 a0.seen.length,.s (.int .i64 a0.feed.rid.node),.s (.int .i64 a0.feed.rid.epoch),.s (.int .i64 a0.feed.off),.r 6 7 0 a0.feed.back.length,.s (.int .i64 a0.feed.prev.node),.s (.int .i64 a0.feed.prev.epoch),.s (.int .i64 a0.feed.upto),.d false 1 (encI a0.watch.heard),.d false 1 (encLI a0.watch.says),.s (.int .i64 a0.asked),.r 7 1 0 a0.votes.length,.s (.int .i64 a0.wait)]⟩,some ⟨69,22,false,none,[.s (.int .i64 0),.s (.int .i64 0),.s (.int .i64 0),.s (.int .i64 0),.s (.int .i64 0),.s (.slice none 0 0),.s (.slice none 0 0),.s (.slice none 0 0),.s (.int .i64 0),.s (.slice none 0 0),.s (.int .i64 0),.s (.int .i64 0),.s (.int .i64 0),.s (.slice none 0 0),.s (.int .i64 0),.s (.int .i64 0),.s (.int .i64 0),.s (.slice none 0 0),.s (.slice none 0 0),.s (.int .i64 0),.s (.slice none 0 0),.s (.int .i64 0)]⟩,some ⟨41,4,true,none,lvs (encClaim a0.claims)⟩,some ⟨138,6,true,none,lvs (encPair q.2)⟩,some ⟨72,4,true,none,lvs (encMove a0.moves)⟩,some ⟨131,3,true,none,lvs (encSeen a0.seen)⟩,some ⟨141,7,true,none,lvs (encEffect a0.feed.back)⟩,some ⟨3,1,true,none,lvs (encI a0.votes)⟩],104,gh,ls⟩:St)) (N:=fun gh ls=>(xP 0 (cx:=cx) (fun q=>(⟨[(1,.l (.p 0 0)),(2,.l (.p 1 0))],[some ⟨69,22,false,none,[.s (.int .i64 a0.count),.s (.int .i64 a0.id),.s (.int .i64 a0.master),.s (.int .i64 a0.epoch),.s (.int .i64 a0.voted),.r 2 4 0 a0.claims.length,.r 3 6 0 q.length,.r 4 4 0 a0.moves.length,.s (.int .i64 a0.last),.r 5 3 0 a0.seen.length,.s (.int .i64 a0.feed.rid.node),.s (.int .i64 a0.feed.rid.epoch),.s (.int .i64 a0.feed.off),.r 6 7 0 a0.feed.back.length,.s (.int .i64 a0.feed.prev.node),.s (.int .i64 a0.feed.prev.epoch),.s (.int .i64 a0.feed.upto),.d false 1 (encI a0.watch.heard),.d false 1 (encLI a0.watch.says),.s (.int .i64 a0.asked),.r 7 1 0 a0.votes.length,.s (.int .i64 a0.wait)]⟩,some ⟨69,22,false,none,[.s (.int .i64 0),.s (.int .i64 0),.s (.int .i64 0),.s (.int .i64 0),.s (.int .i64 0),.s (.slice none 0 0),.s (.slice none 0 0),.s (.slice none 0 0),.s (.int .i64 0),.s (.slice none 0 0),.s (.int .i64 0),.s (.int .i64 0),.s (.int .i64 0),.s (.slice none 0 0),.s (.int .i64 0),.s (.int .i64 0),.s (.int .i64 0),.s (.slice none 0 0),.s (.slice none 0 0),.s (.int .i64 0),.s (.slice none 0 0),.s (.int .i64 0)]⟩,some ⟨41,4,true,none,lvs (encClaim a0.claims)⟩,some ⟨138,6,true,none,lvs (encPair q)⟩,some ⟨72,4,true,none,lvs (encMove a0.moves)⟩,some ⟨131,3,true,none,lvs (encSeen a0.seen)⟩,some ⟨141,7,true,none,lvs (encEffect a0.feed.back)⟩,some ⟨3,1,true,none,lvs (encI a0.votes)⟩],104,gh,ls⟩:St)))) ?_ noX ?_ ?_
 ·refine Weak.mixN [some 0,some 1,some 2,some 6,some 3,some 4,some 7,some 5] hn0 (by decide) ?_ ?_ rfl
  all_goals first|(simp[Ac,Ae,pickOb];done)|rfl
 ·clear h;intro y8 y10 h
  replace h:=ltE h;obtain⟨v11,e11,h⟩:=h
  apply AW.step
  ·simp[← e11]
   intros;rfl
  refine AW.seq ?_
  cases v11 with
  |true =>
   replace h:=iteT rfl h
   refine AW.cond_true (by simp) ?_
   refine AW.skip ?_
   try simp only[nm]
   refine AW.seq ?_
   refine AW.block ?_
   apply AW.step
   ·simp
    intros;rfl
   replace h:=bnE h;obtain⟨v12,e12,h⟩:=h
   have f13:=Ai e12
   try simp[Aa e12] at f13
   replace h:=bnE h;obtain⟨v14,e14,h⟩:=h
   have f15:=Ai e12
   try simp[Aa e12,f13,A4 (Aa e12).2 (j:=1) (k:=5) (by decide),AT (Aa e12).2 (j:=1) (m:=5) (by decide),lvs1] at f15
   replace h:=ltE h;obtain⟨v16,e16,h⟩:=h
   have f17:=Fj (Aa e12).2 e16 (j:=1) (cs:=[.s (.int .i64 v14.kind),.s (.string v14.s),.d false 2 (encField v14.f),.d false 1 (encS v14.l),.s (.int .i64 v14.exp)]) (by simp) rfl
   try simp at f17
   have f18:=f13
   try simp only[Af e16] at f18
   have f19:=f15
   try simp only[Af e16] at f19
   apply AW.drawnR (V:=[_,_,_,_,_,_,_,_,_,_]) mixed DZ2t1 10 (by kernel_rfl) (by kernel_rfl)
   ·refine⟨?_,?_,?_,?_,?_,?_,?_,?_,?_,?_,trivial⟩
    iterate 9 (· intro tm hr;simp[AllL,rdV] at hr;simp[hr,Aa e12,f13,A4 (Aa e12).2 (j:=1) (k:=5) (by decide),AT (Aa e12).2 (j:=1) (m:=5) (by decide),lvs1,f15,f17,f18,f19];intros;first|exact KD.mk|exact KD.mkN)
    ·intro tm hr
     simp[AllL,rdV] at hr
     simp[hr,Aa e12,f13,A4 (Aa e12).2 (j:=1) (k:=5) (by decide),AT (Aa e12).2 (j:=1) (m:=5) (by decide),lvs1,f15,f17,f18,f19]
     intros
     refine Ag CC (CZ e14) rfl ⟨.same rfl,trivial⟩ ?_
     try simp[Aa e12,f13,A4 (Aa e12).2 (j:=1) (k:=5) (by decide),AT (Aa e12).2 (j:=1) (m:=5) (by decide),lvs1,f15,f17,f18,f19]
     intros;first|exact KD.mk|exact KD.mkN
   ·rfl
   ·simp[tmD,putD,Aa e12,f13,A4 (Aa e12).2 (j:=1) (k:=5) (by decide),AT (Aa e12).2 (j:=1) (m:=5) (by decide),lvs1,f15,f17,f18,f19];rfl
   ·simp[Aa e12,f13,A4 (Aa e12).2 (j:=1) (k:=5) (by decide),AT (Aa e12).2 (j:=1) (m:=5) (by decide),lvs1,f15,f17,f18,f19]
    intros;rfl
   try simp only[nm]
   replace h:=ltE h;obtain⟨v20,e20,h⟩:=h
   apply AW.last
   ·simp[← e20]
    intros;rfl
   obtain rfl:=oi h
   refine nP_i ?_
   refine Weak.mixN [some 0,some 1,some 2,some 3,some 4,some 5,some 6,some 7] hn0 (by decide) ?_ ?_ rfl
   all_goals first|(simp[Ac,Ae,pickOb,Af e16];done)|rfl
  |false =>
   replace h:=iteF rfl h
   refine AW.cond_false (by simp) ?_
   refine AW.exit ?_
   try simp only[nm]
   obtain rfl:=oi h
   refine xP_i ?_
   refine Weak.mixN [some 0,some 1,some 2,some 3,some 4,some 5,some 6,some 7] hn0 (by decide) ?_ ?_ rfl
   all_goals first|(simp[Ac,Ae,pickOb];done)|rfl
 ·rintro e s hp
  obtain⟨rfl,hw⟩:=hp
  refine⟨_,hw,?_⟩
  try simp only[nm]
  refine AW.seq ?_
  replace h:=ltE h;obtain⟨v21,e21,h⟩:=h
  apply AW.step
  ·simp[Aj e21]
   intros;rfl
  refine AW.block ?_
  replace h:=bnE h;obtain⟨y23,g23,h⟩:=h
  refine AW.iterP g23 (mk:=fun gh ls q=>(⟨[(1,.l (.p 0 0)),(2,.l (.p 1 0)),(55,.l (.s (.int .i64 v21))),(56,.l (.s (.int .i64 q.1)))],[some ⟨69,22,false,none,[.s (.int .i64 a0.count),.s (.int .i64 a0.id),.s (.int .i64 a0.master),.s (.int .i64 a0.epoch),.s (.int .i64 a0.voted),.r 2 4 0 a0.claims.length,.r 3 6 0 y9.length,.r 4 4 0 a0.moves.length,.s (.int .i64 a0.last),.r 5 3 0 a0.seen.length,.s (.int .i64 a0.feed.rid.node),.s (.int .i64 a0.feed.rid.epoch),.s (.int .i64 a0.feed.off),.r 6 7 0 q.2.length,.s (.int .i64 a0.feed.prev.node),.s (.int .i64 a0.feed.prev.epoch),.s (.int .i64 a0.feed.upto),.d false 1 (encI a0.watch.heard),.d false 1 (encLI a0.watch.says),.s (.int .i64 a0.asked),.r 7 1 0 a0.votes.length,.s (.int .i64 a0.wait)]⟩,some ⟨69,22,false,none,[.s (.int .i64 0),.s (.int .i64 0),.s (.int .i64 0),.s (.int .i64 0),.s (.int .i64 0),.s (.slice none 0 0),.s (.slice none 0 0),.s (.slice none 0 0),.s (.int .i64 0),.s (.slice none 0 0),.s (.int .i64 0),.s (.int .i64 0),.s (.int .i64 0),.s (.slice none 0 0),.s (.int .i64 0),.s (.int .i64 0),.s (.int .i64 0),.s (.slice none 0 0),.s (.slice none 0 0),.s (.int .i64 0),.s (.slice none 0 0),.s (.int .i64 0)]⟩,some ⟨41,4,true,none,lvs (encClaim a0.claims)⟩,some ⟨138,6,true,none,lvs (encPair y9)⟩,some ⟨72,4,true,none,lvs (encMove a0.moves)⟩,some ⟨131,3,true,none,lvs (encSeen a0.seen)⟩,some ⟨141,7,true,none,lvs (encEffect q.2)⟩,some ⟨3,1,true,none,lvs (encI a0.votes)⟩],104,gh,ls⟩:St)) (N:=fun gh ls=>(xP 2 (cx:=cx) (fun q=>(⟨[(1,.l (.p 0 0)),(2,.l (.p 1 0))],[some ⟨69,22,false,none,[.s (.int .i64 a0.count),.s (.int .i64 a0.id),.s (.int .i64 a0.master),.s (.int .i64 a0.epoch),.s (.int .i64 a0.voted),.r 2 4 0 a0.claims.length,.r 3 6 0 y9.length,.r 4 4 0 a0.moves.length,.s (.int .i64 a0.last),.r 5 3 0 a0.seen.length,.s (.int .i64 a0.feed.rid.node),.s (.int .i64 a0.feed.rid.epoch),.s (.int .i64 a0.feed.off),.r 6 7 0 q.length,.s (.int .i64 a0.feed.prev.node),.s (.int .i64 a0.feed.prev.epoch),.s (.int .i64 a0.feed.upto),.d false 1 (encI a0.watch.heard),.d false 1 (encLI a0.watch.says),.s (.int .i64 a0.asked),.r 7 1 0 a0.votes.length,.s (.int .i64 a0.wait)]⟩,some ⟨69,22,false,none,[.s (.int .i64 0),.s (.int .i64 0),.s (.int .i64 0),.s (.int .i64 0),.s (.int .i64 0),.s (.slice none 0 0),.s (.slice none 0 0),.s (.slice none 0 0),.s (.int .i64 0),.s (.slice none 0 0),.s (.int .i64 0),.s (.int .i64 0),.s (.int .i64 0),.s (.slice none 0 0),.s (.int .i64 0),.s (.int .i64 0),.s (.int .i64 0),.s (.slice none 0 0),.s (.slice none 0 0),.s (.int .i64 0),.s (.slice none 0 0),.s (.int .i64 0)]⟩,some ⟨41,4,true,none,lvs (encClaim a0.claims)⟩,some ⟨138,6,true,none,lvs (encPair y9)⟩,some ⟨72,4,true,none,lvs (encMove a0.moves)⟩,some ⟨131,3,true,none,lvs (encSeen a0.seen)⟩,some ⟨141,7,true,none,lvs (encEffect q)⟩,some ⟨3,1,true,none,lvs (encI a0.votes)⟩],104,gh,ls⟩:St)))) ?_ noX ?_ ?_
  ·refine Weak.mixN [some 0,some 1,some 2,some 3,some 4,some 5,some 6,some 7] hn0 (by decide) ?_ ?_ rfl
   all_goals first|(simp[Ac,Ae,pickOb];done)|rfl
  ·clear h;intro y22 y24 h
   replace h:=ltE h;obtain⟨v25,e25,h⟩:=h
   apply AW.step
   ·simp[← e25]
    intros;rfl
   refine AW.seq ?_
   cases v25 with
   |true =>
    replace h:=iteT rfl h
    refine AW.cond_true (by simp) ?_
    refine AW.skip ?_
    try simp only[nm]
    refine AW.seq ?_
    refine AW.block ?_
    apply AW.step
    ·simp
     intros;rfl
    replace h:=bnE h;obtain⟨v26,e26,h⟩:=h
    have f27:=Ai e26
    try simp[Aa e26] at f27
    replace h:=bnE h;obtain⟨v28,e28,h⟩:=h
    have f29:=Ai e26
    try simp[Aa e26,f27,AN (Aa e26).2 (j:=2) (k:=5) (by decide),AK (Aa e26).2 (j:=2) (m:=5) (by decide),lvs1] at f29
    replace h:=ltE h;obtain⟨v30,e30,h⟩:=h
    have f31:=EG (Aa e26).2 e30 (j:=2) (cs:=[.s (.int .i64 v28.kind),.s (.string v28.s),.d false 2 (encField v28.f),.d false 1 (encS v28.l),.s (.int .i64 v28.exp)]) (by simp) rfl
    try simp at f31
    have f32:=f27
    try simp only[Af e30] at f32
    have f33:=f29
    try simp only[Af e30] at f33
    apply AW.drawnR (V:=[_,_,_,_,_,_,_,_,_,_,_,_]) mixed DZ2t2 12 (by kernel_rfl) (by kernel_rfl)
    ·refine⟨?_,?_,?_,?_,?_,?_,?_,?_,?_,?_,?_,?_,trivial⟩
     iterate 11 (· intro tm hr;simp[AllL,rdV] at hr;simp[hr,Aa e26,f27,AN (Aa e26).2 (j:=2) (k:=5) (by decide),AK (Aa e26).2 (j:=2) (m:=5) (by decide),lvs1,f29,f31,f32,f33];intros;first|exact KD.mk|exact KD.mkN)
     ·intro tm hr
      simp[AllL,rdV] at hr
      simp[hr,Aa e26,f27,AN (Aa e26).2 (j:=2) (k:=5) (by decide),AK (Aa e26).2 (j:=2) (m:=5) (by decide),lvs1,f29,f31,f32,f33]
      intros
      refine Ag CC (CZ e28) rfl ⟨.same rfl,trivial⟩ ?_
      try simp[Aa e26,f27,AN (Aa e26).2 (j:=2) (k:=5) (by decide),AK (Aa e26).2 (j:=2) (m:=5) (by decide),lvs1,f29,f31,f32,f33]
      intros;first|exact KD.mk|exact KD.mkN
    ·rfl
    ·simp[tmD,putD,Aa e26,f27,AN (Aa e26).2 (j:=2) (k:=5) (by decide),AK (Aa e26).2 (j:=2) (m:=5) (by decide),lvs1,f29,f31,f32,f33];rfl
    ·simp[Aa e26,f27,AN (Aa e26).2 (j:=2) (k:=5) (by decide),AK (Aa e26).2 (j:=2) (m:=5) (by decide),lvs1,f29,f31,f32,f33]
     intros;rfl
    try simp only[nm]
    replace h:=ltE h;obtain⟨v34,e34,h⟩:=h
    apply AW.last
    ·simp[← e34]
     intros;rfl
    obtain rfl:=oi h
    refine nP_i ?_
    refine Weak.mixN [some 0,some 1,some 2,some 3,some 4,some 5,some 6,some 7] hn0 (by decide) ?_ ?_ rfl
    all_goals first|(simp[Ac,Ae,pickOb,Af e30];done)|rfl
   |false =>
    replace h:=iteF rfl h
    refine AW.cond_false (by simp) ?_
    refine AW.exit ?_
    try simp only[nm]
    obtain rfl:=oi h
    refine xP_i ?_
    refine Weak.mixN [some 0,some 1,some 2,some 3,some 4,some 5,some 6,some 7] hn0 (by decide) ?_ ?_ rfl
    all_goals first|(simp[Ac,Ae,pickOb];done)|rfl
  ·rintro e s hp
   obtain⟨rfl,hw⟩:=hp
   refine⟨_,hw,?_⟩
   try simp only[nm]
   replace h:=chkE h;obtain⟨e35,h⟩:=h
   replace h:=chkE h;obtain⟨e36,h⟩:=h
   apply AW.drawnE (V:=[_,_,_,_,_,_,_,_,_,_]) (M:=[[some ⟨69,22,false,none,[.s (.int .i64 a0.count),.s (.int .i64 a0.id),.s (.int .i64 a0.master),.s (.int .i64 a0.epoch),.s (.int .i64 a0.voted),.r 2 4 0 a0.claims.length,.r 3 6 0 y9.length,.r 4 4 0 a0.moves.length,.s (.int .i64 a0.last),.r 5 3 0 a0.seen.length,.s (.int .i64 a0.feed.rid.node),.s (.int .i64 a0.feed.rid.epoch),.s (.int .i64 a0.feed.off),.r 6 7 0 y23.length,.s (.int .i64 a0.feed.prev.node),.s (.int .i64 a0.feed.prev.epoch),.s (.int .i64 a0.feed.upto),.d false 1 (encI a0.watch.heard),.d false 1 (encLI a0.watch.says),.s (.int .i64 a0.asked),.r 7 1 0 a0.votes.length,.s (.int .i64 a0.wait)]⟩,some ⟨69,22,false,none,[.s (.int .i64 0),.s (.int .i64 0),.s (.int .i64 0),.s (.int .i64 0),.s (.int .i64 0),.s (.slice none 0 0),.s (.slice none 0 0),.s (.slice none 0 0),.s (.int .i64 0),.s (.slice none 0 0),.s (.int .i64 0),.s (.int .i64 0),.s (.int .i64 0),.s (.slice none 0 0),.s (.int .i64 0),.s (.int .i64 0),.s (.int .i64 0),.s (.slice none 0 0),.s (.slice none 0 0),.s (.int .i64 0),.s (.slice none 0 0),.s (.int .i64 0)]⟩,some ⟨41,4,true,none,lvs (encClaim a0.claims)⟩,some ⟨138,6,true,none,lvs (encPair y9)⟩,some ⟨72,4,true,none,lvs (encMove a0.moves)⟩,some ⟨131,3,true,none,lvs (encSeen a0.seen)⟩,some ⟨141,7,true,none,lvs (encEffect y23)⟩,some ⟨3,1,true,none,lvs (encI a0.votes)⟩],[some ⟨69,22,false,none,[.s (.int .i64 a0.count),.s (.int .i64 a0.id),.s (.int .i64 a0.master),.s (.int .i64 a0.epoch),.s (.int .i64 a0.voted),.r 2 4 0 a0.claims.length,.r 3 6 0 y9.length,.r 4 4 0 a0.moves.length,.s (.int .i64 a0.last),.r 5 3 0 a0.seen.length,.s (.int .i64 a0.feed.rid.node),.s (.int .i64 a0.feed.rid.epoch),.s (.int .i64 a0.feed.off),.r 6 7 0 y23.length,.s (.int .i64 a0.feed.prev.node),.s (.int .i64 a0.feed.prev.epoch),.s (.int .i64 a0.feed.upto),.d false 1 (encI a0.watch.heard),.d false 1 (encLI a0.watch.says),.s (.int .i64 a0.asked),.r 7 1 0 a0.votes.length,.s (.int .i64 a0.wait)]⟩,some ⟨69,22,false,none,[.s (.int .i64 0),.s (.int .i64 0),.s (.int .i64 0),.s (.int .i64 0),.s (.int .i64 0),.s (.slice none 0 0),.s (.slice none 0 0),.s (.slice none 0 0),.s (.int .i64 0),.s (.slice none 0 0),.s (.int .i64 0),.s (.int .i64 0),.s (.int .i64 0),.s (.slice none 0 0),.s (.int .i64 0),.s (.int .i64 0),.s (.int .i64 0),.s (.slice none 0 0),.s (.slice none 0 0),.s (.int .i64 0),.s (.slice none 0 0),.s (.int .i64 0)]⟩,some ⟨41,4,true,none,lvs (encClaim a0.claims)⟩,some ⟨138,6,true,none,lvs (encPair y9)⟩,some ⟨72,4,true,none,lvs (encMove a0.moves)⟩,some ⟨131,3,true,none,lvs (encSeen a0.seen)⟩,some ⟨141,7,true,none,lvs (encEffect y23)⟩,some ⟨3,1,true,none,lvs (encI a0.votes)⟩,some ⟨3,1,true,none,lvs (encI a0.watch.heard)⟩],[some ⟨69,22,false,none,[.s (.int .i64 a0.count),.s (.int .i64 a0.id),.s (.int .i64 a0.master),.s (.int .i64 a0.epoch),.s (.int .i64 a0.voted),.r 2 4 0 a0.claims.length,.r 3 6 0 y9.length,.r 4 4 0 a0.moves.length,.s (.int .i64 a0.last),.r 5 3 0 a0.seen.length,.s (.int .i64 a0.feed.rid.node),.s (.int .i64 a0.feed.rid.epoch),.s (.int .i64 a0.feed.off),.r 6 7 0 y23.length,.s (.int .i64 a0.feed.prev.node),.s (.int .i64 a0.feed.prev.epoch),.s (.int .i64 a0.feed.upto),.d false 1 (encI a0.watch.heard),.d false 1 (encLI a0.watch.says),.s (.int .i64 a0.asked),.r 7 1 0 a0.votes.length,.s (.int .i64 a0.wait)]⟩,some ⟨69,22,false,none,[.s (.int .i64 0),.s (.int .i64 0),.s (.int .i64 0),.s (.int .i64 0),.s (.int .i64 0),.s (.slice none 0 0),.s (.slice none 0 0),.s (.slice none 0 0),.s (.int .i64 0),.s (.slice none 0 0),.s (.int .i64 0),.s (.int .i64 0),.s (.int .i64 0),.s (.slice none 0 0),.s (.int .i64 0),.s (.int .i64 0),.s (.int .i64 0),.s (.slice none 0 0),.s (.slice none 0 0),.s (.int .i64 0),.s (.slice none 0 0),.s (.int .i64 0)]⟩,some ⟨41,4,true,none,lvs (encClaim a0.claims)⟩,some ⟨138,6,true,none,lvs (encPair y9)⟩,some ⟨72,4,true,none,lvs (encMove a0.moves)⟩,some ⟨131,3,true,none,lvs (encSeen a0.seen)⟩,some ⟨141,7,true,none,lvs (encEffect y23)⟩,some ⟨3,1,true,none,lvs (encI a0.votes)⟩,some ⟨3,1,true,none,lvs (encI a0.watch.heard)⟩,some ⟨44,1,true,none,lvs (encLI a0.watch.says)⟩]]) mixed [⟨[0],[],[(1,none)],false⟩,⟨[0],[0],[(74,some 0)],false⟩,⟨[0],[0,1],[(75,some 1)],false⟩,⟨[0],[0,1,2],[(76,some 2)],true⟩,⟨[0,1],[],[(1,none)],false⟩,⟨[0,1],[4],[(78,some 4)],false⟩,⟨[0,1],[4,5],[(79,some 5)],false⟩,⟨[1],[0,1,2,3,4,5,6],[(80,some 6)],true⟩,⟨[1,2],[0,1,2,3,4,5,6],[(1,none)],false⟩,⟨[1,2],[0,1,2,3,4,5,6,8],[(82,some 8)],false⟩,⟨[],[0,1,2,3,4,5,6,7,8,9],[],false⟩,⟨[],[0,1,2,3,4,5,6,7,8,9,10],[],false⟩,⟨[],[0,1,2,3,4,5,6,7,8,9,10,11],[],false⟩,⟨[],[0,1,2,3,4,5,6,7,8,9,10,11,12],[],false⟩] 10 2 (by kernel_rfl) (by kernel_rfl)
   ·rfl
   ·refine⟨?_,?_,?_,?_,⟨?_,?_⟩,⟨?_,?_⟩,⟨?_,?_⟩,?_,⟨?_,?_⟩,⟨?_,?_⟩,trivial⟩
    iterate 3 (· intro tm hr;simp[AllL,rdV] at hr;simp[hr,outR];intros;first|exact KD.mk|exact KD.mkN)
    ·intro tm hr
     simp[AllL,rdV] at hr
     simp[hr,outR]
     intros
     refine Aw DE (E1 a0.watch.heard (AP e35)) rfl (by simp) ⟨.d _ _ _,trivial⟩ ?_
     try simp[outR]
     intros;first|exact KD.mk|exact KD.mkN
    iterate 6 (· intro tm hr;simp[AllL,rdV] at hr;simp[hr,outR];intros;first|exact KD.mk|exact KD.mkN)
    ·intro tm hr
     simp[AllL,rdV] at hr
     simp[hr,outR]
     intros
     refine Aw HD (IC a0.watch.says (AP e36)) rfl (by simp) ⟨.same rfl,trivial⟩ ?_
     try simp[outR]
     intros;first|exact KD.mk|exact KD.mkN
    iterate 4 (· intro tm hr;simp[AllL,rdV] at hr;simp[hr,outR];intros;first|exact KD.mk|exact KD.mkN)
   ·rfl
   ·simp[tmD,putD,outR];rfl
   ·simp[outR]
    intros;rfl
   refine AW.seq ?_
   replace h:=ltE h;obtain⟨v37,e37,h⟩:=h
   apply AW.step
   ·simp[Aj e37]
    intros;rfl
   refine AW.block ?_
   replace h:=bnE h;obtain⟨y39,g39,h⟩:=h
   refine AW.iterP g39 (mk:=fun gh ls q=>(⟨[(1,.l (.p 0 0)),(2,.l (.p 1 0)),(88,.l (.r 2 1 0 q.2.length)),(89,.l (.s (.int .i64 v37))),(90,.l (.s (.int .i64 q.1)))],[some ⟨69,22,false,none,[.s (.int .i64 a0.count),.s (.int .i64 a0.id),.s (.int .i64 a0.master),.s (.int .i64 a0.epoch),.s (.int .i64 a0.voted),.r 3 4 0 a0.claims.length,.r 4 6 0 y9.length,.r 5 4 0 a0.moves.length,.s (.int .i64 a0.last),.r 6 3 0 a0.seen.length,.s (.int .i64 a0.feed.rid.node),.s (.int .i64 a0.feed.rid.epoch),.s (.int .i64 a0.feed.off),.r 7 7 0 y23.length,.s (.int .i64 a0.feed.prev.node),.s (.int .i64 a0.feed.prev.epoch),.s (.int .i64 a0.feed.upto),.r 8 1 0 a0.watch.heard.length,.r 2 1 0 q.2.length,.s (.int .i64 a0.asked),.r 9 1 0 a0.votes.length,.s (.int .i64 a0.wait)]⟩,some ⟨69,22,false,none,[.s (.int .i64 0),.s (.int .i64 0),.s (.int .i64 0),.s (.int .i64 0),.s (.int .i64 0),.s (.slice none 0 0),.s (.slice none 0 0),.s (.slice none 0 0),.s (.int .i64 0),.s (.slice none 0 0),.s (.int .i64 0),.s (.int .i64 0),.s (.int .i64 0),.s (.slice none 0 0),.s (.int .i64 0),.s (.int .i64 0),.s (.int .i64 0),.s (.slice none 0 0),.s (.slice none 0 0),.s (.int .i64 0),.s (.slice none 0 0),.s (.int .i64 0)]⟩,some ⟨44,1,true,none,lvs (encLI q.2)⟩,some ⟨41,4,true,none,lvs (encClaim a0.claims)⟩,some ⟨138,6,true,none,lvs (encPair y9)⟩,some ⟨72,4,true,none,lvs (encMove a0.moves)⟩,some ⟨131,3,true,none,lvs (encSeen a0.seen)⟩,some ⟨141,7,true,none,lvs (encEffect y23)⟩,some ⟨3,1,true,none,lvs (encI a0.watch.heard)⟩,some ⟨3,1,true,none,lvs (encI a0.votes)⟩],104,gh,ls⟩:St)) (N:=fun gh ls=>(xP 4 (cx:=cx) (fun q=>(⟨[(1,.l (.p 0 0)),(2,.l (.p 1 0))],[some ⟨69,22,false,none,[.s (.int .i64 a0.count),.s (.int .i64 a0.id),.s (.int .i64 a0.master),.s (.int .i64 a0.epoch),.s (.int .i64 a0.voted),.r 2 4 0 a0.claims.length,.r 3 6 0 y9.length,.r 4 4 0 a0.moves.length,.s (.int .i64 a0.last),.r 5 3 0 a0.seen.length,.s (.int .i64 a0.feed.rid.node),.s (.int .i64 a0.feed.rid.epoch),.s (.int .i64 a0.feed.off),.r 6 7 0 y23.length,.s (.int .i64 a0.feed.prev.node),.s (.int .i64 a0.feed.prev.epoch),.s (.int .i64 a0.feed.upto),.r 7 1 0 a0.watch.heard.length,.r 8 1 0 q.length,.s (.int .i64 a0.asked),.r 9 1 0 a0.votes.length,.s (.int .i64 a0.wait)]⟩,some ⟨69,22,false,none,[.s (.int .i64 0),.s (.int .i64 0),.s (.int .i64 0),.s (.int .i64 0),.s (.int .i64 0),.s (.slice none 0 0),.s (.slice none 0 0),.s (.slice none 0 0),.s (.int .i64 0),.s (.slice none 0 0),.s (.int .i64 0),.s (.int .i64 0),.s (.int .i64 0),.s (.slice none 0 0),.s (.int .i64 0),.s (.int .i64 0),.s (.int .i64 0),.s (.slice none 0 0),.s (.slice none 0 0),.s (.int .i64 0),.s (.slice none 0 0),.s (.int .i64 0)]⟩,some ⟨41,4,true,none,lvs (encClaim a0.claims)⟩,some ⟨138,6,true,none,lvs (encPair y9)⟩,some ⟨72,4,true,none,lvs (encMove a0.moves)⟩,some ⟨131,3,true,none,lvs (encSeen a0.seen)⟩,some ⟨141,7,true,none,lvs (encEffect y23)⟩,some ⟨3,1,true,none,lvs (encI a0.watch.heard)⟩,some ⟨44,1,true,none,lvs (encLI q)⟩,some ⟨3,1,true,none,lvs (encI a0.votes)⟩],104,gh,ls⟩:St)))) ?_ noX ?_ ?_
   ·refine Weak.mixN [some 0,some 1,some 9,some 2,some 3,some 4,some 5,some 6,some 8,some 7] hn0 (by decide) ?_ ?_ rfl
    all_goals first|(simp[Ac,Ae,pickOb];done)|rfl
   ·clear h;intro y38 y40 h
    replace h:=ltE h;obtain⟨v41,e41,h⟩:=h
    apply AW.step
    ·simp[← e41]
     intros;rfl
    refine AW.seq ?_
    cases v41 with
    |true =>
     replace h:=iteT rfl h
     refine AW.cond_true (by simp) ?_
     refine AW.skip ?_
     try simp only[nm]
     refine AW.seq ?_
     refine AW.block ?_
     replace h:=bnE h;obtain⟨v42,e42,h⟩:=h
     have f43:=Ai e42
     try simp[Aa e42] at f43
     apply AW.step
     ·simp[Aa e42,f43,Fk (Aa e42).2,lvs1]
      intros;rfl
     replace h:=chkE h;obtain⟨e44,h⟩:=h
     have f45:=Ai e42
     try simp[Aa e42] at f45
     replace h:=ltE h;obtain⟨v46,e46,h⟩:=h
     have f47:=FS (Aa e42).2 e46 (cs:=[.d false 1 (encI v42)]) (by simp) rfl
     try simp at f47
     have f48:=f45
     try simp only[Af e46] at f48
     apply AW.drawnR (V:=[_,_,_,_,_,_]) mixed DZ2t3 6 (by kernel_rfl) (by kernel_rfl)
     ·refine⟨?_,?_,?_,?_,?_,?_,trivial⟩
      iterate 5 (· intro tm hr;simp[AllL,rdV] at hr;simp[hr,Aa e42,f45,Bp (Aa e42).2 (show 1≤1 by decide),f47,f48];intros;first|exact KD.mk|exact KD.mkN)
      ·intro tm hr
       simp[AllL,rdV] at hr
       simp[hr,Aa e42,f45,Bp (Aa e42).2 (show 1≤1 by decide),f47,f48]
       intros
       refine Ag DE (Jv v42 (AP e44)) rfl ⟨.d _ _ _,trivial⟩ ?_
       try simp[Aa e42,f45,Bp (Aa e42).2 (show 1≤1 by decide),f47,f48]
       intros;first|exact KD.mk|exact KD.mkN
     ·rfl
     ·simp[tmD,putD,Aa e42,f45,Bp (Aa e42).2 (show 1≤1 by decide),f47,f48];rfl
     ·simp[Aa e42,f45,Bp (Aa e42).2 (show 1≤1 by decide),f47,f48]
      intros;rfl
     try simp only[nm]
     replace h:=ltE h;obtain⟨v49,e49,h⟩:=h
     apply AW.last
     ·simp[← e49]
      intros;rfl
     obtain rfl:=oi h
     refine nP_i ?_
     refine Weak.mixN [some 0,some 1,some 2,some 3,some 4,some 5,some 6,some 7,some 8,some 9] hn0 (by decide) ?_ ?_ rfl
     all_goals first|(simp[Ac,Ae,pickOb,Af e46];done)|rfl
    |false =>
     replace h:=iteF rfl h
     refine AW.cond_false (by simp) ?_
     refine AW.exit ?_
     try simp only[nm]
     obtain rfl:=oi h
     refine xP_i ?_
     refine Weak.mixN [some 0,some 1,some 3,some 4,some 5,some 6,some 7,some 8,some 2,some 9] hn0 (by decide) ?_ ?_ rfl
     all_goals first|(simp[Ac,Ae,pickOb];done)|rfl
   ·rintro e s hp
    obtain⟨rfl,hw⟩:=hp
    refine⟨_,hw,?_⟩
    try simp only[nm]
    apply AW.step
    ·simp
     intros;rfl
    replace h:=chkE h;obtain⟨e50,h⟩:=h
    refine AW.frzRow 2 (ty:=41) (cap:=none) (sz:=4) (es:=encClaim a0.claims) (by simp) (by omega) (Bf _) (by first|exact (Ah e50).2|simpa using (Ah e50).2|simp) (by simp[Tm.frz,AV.frz,LV.frz];rfl) (by simp[Ob.frz,LV.frz];rfl) rfl ?_
    replace h:=chkE h;obtain⟨e51,h⟩:=h
    refine AW.frzRow 3 (ty:=138) (cap:=none) (sz:=6) (es:=encPair y9) (by simp) (by omega) (BU _) (by first|exact (Ah e51).2|simpa using (Ah e51).2|simp) (by simp[Tm.frz,AV.frz,LV.frz];rfl) (by simp[Ob.frz,LV.frz];rfl) rfl ?_
    replace h:=chkE h;obtain⟨e52,h⟩:=h
    refine AW.frzRow 4 (ty:=72) (cap:=none) (sz:=4) (es:=encMove a0.moves) (by simp) (by omega) (At _) (by first|exact (Ah e52).2|simpa using (Ah e52).2|simp) (by simp[Tm.frz,AV.frz,LV.frz];rfl) (by simp[Ob.frz,LV.frz];rfl) rfl ?_
    replace h:=chkE h;obtain⟨e53,h⟩:=h
    refine AW.frzRow 5 (ty:=131) (cap:=none) (sz:=3) (es:=encSeen a0.seen) (by simp) (by omega) (FR _) (by first|exact (Ah e53).2|simpa using (Ah e53).2|simp) (by simp[Tm.frz,AV.frz,LV.frz];rfl) (by simp[Ob.frz,LV.frz];rfl) rfl ?_
    replace h:=chkE h;obtain⟨e54,h⟩:=h
    refine AW.frzRow 6 (ty:=141) (cap:=none) (sz:=7) (es:=encEffect y23) (by simp) (by omega) (Ce _) (by first|exact (Ah e54).2|simpa using (Ah e54).2|simp) (by simp[Tm.frz,AV.frz,LV.frz];rfl) (by simp[Ob.frz,LV.frz];rfl) rfl ?_
    replace h:=chkE h;obtain⟨e55,h⟩:=h
    refine AW.frzRow 7 (ty:=3) (cap:=none) (sz:=1) (es:=encI a0.watch.heard) (by simp) (by omega) (DD _) (by first|exact (Ah e55).2|simpa using (Ah e55).2|simp) (by simp[Tm.frz,AV.frz,LV.frz];rfl) (by simp[Ob.frz,LV.frz];rfl) rfl ?_
    replace h:=chkE h;obtain⟨e56,h⟩:=h
    refine AW.frzRow 8 (ty:=44) (cap:=none) (sz:=1) (es:=encLI y39) (by simp) (by omega) (HC _) (by first|exact (Ah e56).2|simpa using (Ah e56).2|simp) (by simp[Tm.frz,AV.frz,LV.frz];rfl) (by simp[Ob.frz,LV.frz];rfl) rfl ?_
    replace h:=chkE h;obtain⟨e57,h⟩:=h
    refine AW.frzRow 9 (ty:=3) (cap:=none) (sz:=1) (es:=encI a0.votes) (by simp) (by omega) (DD _) (by first|exact (Ah e57).2|simpa using (Ah e57).2|simp) (by simp[Tm.frz,AV.frz,LV.frz];rfl) (by simp[Ob.frz,LV.frz];rfl) rfl ?_
    obtain rfl:=oi h
    refine AW.ret ?_
    refine Left.plain hnb (by simp[Try.f59,resV,resC,comp];rfl) rfl rfl ?_
    simp
theorem G6:Enters Try.prog 59:=enters Try.func59 (by kernel_rfl) rfl
def Bn (n:Nat) (a0:List Move):Option (List Move) :=
some a0
theorem DX {n:Nat} {a0:List Move} {r:List Move} (h:Bn n a0=some r):Sound Try.prog 114 [.l (.d false 4 (encMove a0))] [] (.l (.f 132 [0])) [some ⟨58,1,false,none,[.d false 4 (encMove r)]⟩]:=by
 unfold Bn at h
 refine Sound.of_aw (fn:=Try.f114) (c:=_) Try.func114 rfl (by simp[Try.f114]) fun cx hG hnb=>?_
 rw[show Try.f114.ntmps=4 from rfl]
 have hn0:cx.nb=0:=hnb
 simp only[Al,initTm,List.map_cons,List.map_nil]
 apply AW.step
 ·simp
  intros;rfl
 apply AW.step
 ·simp
  intros;rfl
 obtain rfl:=oi h
 refine AW.ret ?_
 refine Left.of (av:=_) (by simp[Try.f114,resV,resC,comp];rfl) ?_
 exact LeftV.mix 0 [some 0] hn0 rfl (by decide) rfl (by simp[pickOb,Ac,Ae]) (by simp[Ac,Ae])
theorem DB:Enters Try.prog 114:=enters Try.func114 (by kernel_rfl) rfl
def Dt (n:Nat) (a0:List Move):Option (List Move) :=
bn (Bn n a0) fun v1 =>
some v1
theorem HN {n:Nat} {a0:List Move} {r:List Move} (h:Dt n a0=some r):Sound Try.prog 86 [.l (.d false 4 (encMove a0))] [] (.l (.f 132 [0])) [some ⟨58,1,false,none,[.d false 4 (encMove r)]⟩]:=by
 unfold Dt at h
 refine Sound.of_aw (fn:=Try.f86) (c:=_) Try.func86 rfl (by simp[Try.f86]) fun cx hG hnb=>?_
 rw[show Try.f86.ntmps=5 from rfl]
 have hn0:cx.nb=0:=hnb
 simp only[Al,initTm,List.map_cons,List.map_nil]
 apply AW.step
 ·simp
  intros;rfl
 replace h:=bnE h;obtain⟨v1,e1,h⟩:=h
 apply AW.step
 ·simp
  intros
  refine Aw DB (DX e1) rfl (by simp) ⟨.same rfl,trivial⟩ ?_
  try simp
  intros;rfl
 obtain rfl:=oi h
 refine AW.ret ?_
 refine Left.of (av:=_) (by simp[Try.f86,resV,resC,comp];rfl) ?_
 exact LeftV.mix 0 [some 0] hn0 rfl (by decide) rfl (by simp[pickOb,Ac,Ae]) (by simp[Ac,Ae])
theorem G7:Enters Try.prog 86:=enters Try.func86 (by kernel_rfl) rfl
def CL (n:Nat) (a0:Node) (a1:Move):Option Node :=
lt (addI .i64 a0.epoch 1) fun v1 =>
chk (room 1 1) <|
bn (B7 n a0.claims [(⟨a1.slot,a1.slot⟩:Span)] a1.to v1) fun v3 =>
some (⟨a0.count,a0.id,a0.master,v1,a0.voted,v3,a0.db,a0.moves,a0.last,a0.seen,a0.feed,a0.watch,a0.asked,a0.votes,a0.wait⟩:Node)
theorem F9 {n:Nat} {a0:Node} {a1:Move} {r:Node} (h:CL n a0 a1=some r):Sound Try.prog 88 [.g [.s (.int .i64 a0.count),.s (.int .i64 a0.id),.s (.int .i64 a0.master),.s (.int .i64 a0.epoch),.s (.int .i64 a0.voted),.d false 4 (encClaim a0.claims),.d false 6 (encPair a0.db),.d false 4 (encMove a0.moves),.s (.int .i64 a0.last),.d false 3 (encSeen a0.seen),.s (.int .i64 a0.feed.rid.node),.s (.int .i64 a0.feed.rid.epoch),.s (.int .i64 a0.feed.off),.d false 7 (encEffect a0.feed.back),.s (.int .i64 a0.feed.prev.node),.s (.int .i64 a0.feed.prev.epoch),.s (.int .i64 a0.feed.upto),.d false 1 (encI a0.watch.heard),.d false 1 (encLI a0.watch.says),.s (.int .i64 a0.asked),.d false 1 (encI a0.votes),.s (.int .i64 a0.wait)],.g [.s (.int .i64 a1.slot),.s (.int .i64 a1.to),.s (.int .i64 a1.num),.s (.string a1.key)]] [] (.g [.s (.int .i64 r.count),.s (.int .i64 r.id),.s (.int .i64 r.master),.s (.int .i64 r.epoch),.s (.int .i64 r.voted),.d false 4 (encClaim r.claims),.d false 6 (encPair r.db),.d false 4 (encMove r.moves),.s (.int .i64 r.last),.d false 3 (encSeen r.seen),.s (.int .i64 r.feed.rid.node),.s (.int .i64 r.feed.rid.epoch),.s (.int .i64 r.feed.off),.d false 7 (encEffect r.feed.back),.s (.int .i64 r.feed.prev.node),.s (.int .i64 r.feed.prev.epoch),.s (.int .i64 r.feed.upto),.d false 1 (encI r.watch.heard),.d false 1 (encLI r.watch.says),.s (.int .i64 r.asked),.d false 1 (encI r.votes),.s (.int .i64 r.wait)]) []:=by
 unfold CL at h
 refine Sound.of_aw (fn:=Try.f88) (c:=_) Try.func88 rfl (by simp[Try.f88]) fun cx hG hnb=>?_
 rw[show Try.f88.ntmps=24 from rfl]
 have hn0:cx.nb=0:=hnb
 simp only[Al,initTm,List.map_cons,List.map_nil]
 apply AW.step
 ·simp
  intros;rfl
 replace h:=ltE h;obtain⟨v1,e1,h⟩:=h
 apply AW.step
 ·simp[← e1]
  intros;rfl
 replace h:=chkE h;obtain⟨e2,h⟩:=h
 replace h:=bnE h;obtain⟨v3,e3,h⟩:=h
 apply AW.step
 ·simp
  intros
  refine Ar ?_
  try simp
  intros
  refine Ag EL (E2 e3) rfl ⟨.same rfl,.rowd (by simp[DP]) rfl (by omega) (CT _) (by simp) (by first|exact (Ah e2).2|simpa using (Ah e2).2|simp),.same rfl,.same rfl,trivial⟩ ?_
  try simp
  intros;rfl
 apply AW.step
 ·simp
  intros;rfl
 obtain rfl:=oi h
 refine AW.ret ?_
 refine Left.plain hnb (by simp[Try.f88,resV,resC,comp];rfl) rfl rfl ?_
 simp
theorem FB:Enters Try.prog 88:=enters Try.func88 (by kernel_rfl) rfl
def El (n:Nat) (a0:Node) (a1:Move):Option Msg :=
bn (DW n a0.db a1.key) fun v1 =>
chk (room 1 1) <|
some (⟨2,a0.id,a1.to,0,[],[],0,a1.slot,a1.num,(⟨0,0⟩:Rid),(⟨0,0⟩:Rid),0,[(⟨a1.key,false,v1.1⟩:Effect)]⟩:Msg)
theorem I8 {n:Nat} {a0:Node} {a1:Move} {r:Msg} (h:El n a0 a1=some r):Sound Try.prog 89 [.g [.s (.int .i64 a0.count),.s (.int .i64 a0.id),.s (.int .i64 a0.master),.s (.int .i64 a0.epoch),.s (.int .i64 a0.voted),.d false 4 (encClaim a0.claims),.d false 6 (encPair a0.db),.d false 4 (encMove a0.moves),.s (.int .i64 a0.last),.d false 3 (encSeen a0.seen),.s (.int .i64 a0.feed.rid.node),.s (.int .i64 a0.feed.rid.epoch),.s (.int .i64 a0.feed.off),.d false 7 (encEffect a0.feed.back),.s (.int .i64 a0.feed.prev.node),.s (.int .i64 a0.feed.prev.epoch),.s (.int .i64 a0.feed.upto),.d false 1 (encI a0.watch.heard),.d false 1 (encLI a0.watch.says),.s (.int .i64 a0.asked),.d false 1 (encI a0.votes),.s (.int .i64 a0.wait)],.g [.s (.int .i64 a1.slot),.s (.int .i64 a1.to),.s (.int .i64 a1.num),.s (.string a1.key)]] [] (.g [.s (.int .i64 r.kind),.s (.int .i64 r.frm),.s (.int .i64 r.to),.s (.int .i64 r.epoch),.d false 4 (encClaim r.claims),.d false 1 (encI r.nodes),.s (.int .i64 r.node),.s (.int .i64 r.slot),.s (.int .i64 r.num),.s (.int .i64 r.rid.node),.s (.int .i64 r.rid.epoch),.s (.int .i64 r.prev.node),.s (.int .i64 r.prev.epoch),.s (.int .i64 r.off),.d false 7 (encEffect r.effects)]) []:=by
 unfold El at h
 refine Sound.of_aw (fn:=Try.f89) (c:=_) Try.func89 rfl (by simp[Try.f89]) fun cx hG hnb=>?_
 rw[show Try.f89.ntmps=29 from rfl]
 have hn0:cx.nb=0:=hnb
 simp only[Al,initTm,List.map_cons,List.map_nil]
 apply AW.step
 ·simp
  intros;rfl
 replace h:=bnE h;obtain⟨v1,e1,h⟩:=h
 apply AW.step
 ·simp
  intros
  refine Ag HL (Ia e1) rfl ⟨.same rfl,.same rfl,trivial⟩ ?_
  try simp
  intros;rfl
 apply AW.step
 ·simp
  intros
  refine Ar ?_
  try simp
  intros;rfl
 refine AW.nilCellD 2 4 4 rfl rfl rfl rfl ?_
 refine AW.nilCellD 2 5 1 rfl rfl rfl rfl ?_
 replace h:=chkE h;obtain⟨e2,h⟩:=h
 refine AW.frzRow 4 (ty:=141) (cap:=none) (sz:=7) (es:=encEffect [(⟨a1.key,false,v1.1⟩:Effect)]) (by simp[Ep]) (by omega) (Ce _) (by first|exact (Ah e2).2|simpa using (Ah e2).2|simp) (by simp[Tm.frz,AV.frz,LV.frz,(show List.take 1 (encEffect [(⟨a1.key,false,v1.1⟩:Effect)])=encEffect [(⟨a1.key,false,v1.1⟩:Effect)] from rfl)];rfl) (by simp[Ob.frz,LV.frz,(show List.take 1 (encEffect [(⟨a1.key,false,v1.1⟩:Effect)])=encEffect [(⟨a1.key,false,v1.1⟩:Effect)] from rfl)];rfl) rfl ?_
 obtain rfl:=oi h
 refine AW.ret ?_
 refine Left.plain hnb (by simp[Try.f89,resV,resC,comp];rfl) rfl rfl ?_
 simp
theorem Ib:Enters Try.prog 89:=enters Try.func89 (by kernel_rfl) rfl
def DY (n:Nat) (a0:Node):Option (Node×List Msg) :=
bn (Dr n (⟨a0.count,a0.id,a0.master,a0.epoch,a0.voted,a0.claims,a0.db,a0.moves,a0.last,a0.seen,a0.feed,a0.watch,a0.asked,a0.votes,a0.wait⟩:Node)) fun v1 =>
lt (neI v1.master (-1)) fun v2 =>
ite' v2 (some (v1,[])) (bn (bn (Dt n v1.moves) fun v4 =>
lt (lenI v4) fun v5 =>
bn (iter n (fun (y6:Int×Node×List Move×List Msg) =>
lt (ltI y6.1 v5) fun v9 =>
ite' v9 (bn (nth v4 y6.1) fun v10 =>
bn (bn (lt (eqI v10.num 0) fun v13 =>
ite' v13 (bn (Ek n y6.2.1.db v10.slot) fun v14 =>
lt (lenI v14) fun v15 =>
lt (eqI v15 0) fun v16 =>
ite' v16 (bn (CL n y6.2.1 v10) fun v17 =>
some (.inr v17)) (lt (addI .i64 y6.2.1.last 1) fun v18 =>
bn (nth v14 0) fun v19 =>
some (.inl ((⟨y6.2.1.count,y6.2.1.id,y6.2.1.master,y6.2.1.epoch,y6.2.1.voted,y6.2.1.claims,y6.2.1.db,y6.2.1.moves,v18,y6.2.1.seen,y6.2.1.feed,y6.2.1.watch,y6.2.1.asked,y6.2.1.votes,y6.2.1.wait⟩:Node),(⟨v10.slot,v10.to,v18,v19⟩:Move))))) (some (.inl (y6.2.1,v10)))) fun (y12:(Node×Move) ⊕ Node) =>
sm y12 (fun y20=>chk (room (y6.2.2.1.length+1) 40) <|
lt (y6.2.2.1++[y20.2]) fun v23 =>
bn (El n y20.1 y20.2) fun v24 =>
chk (room (y6.2.2.2.length+1) 168) <|
lt (y6.2.2.2++[v24]) fun v26 =>
some ((y20.1,v23,v26))) (fun y21=>some ((y21,y6.2.2.1,y6.2.2.2)))) fun (y11:Node×List Move×List Msg) =>
lt (addI .i64 y6.1 1) fun v27 =>
some (.inl (v27,y11.1,y11.2.1,y11.2.2))) (some (.inr (y6.2.1,y6.2.2.1,y6.2.2.2)))) (0,v1,[],[])) fun (y7:Node×List Move×List Msg) =>
some ((y7.1,y7.2.1,y7.2.2))) fun (y3:Node×List Move×List Msg) =>
chk (room y3.2.1.length 1) <|
chk (room y3.2.2.length 1) <|
some ((⟨y3.1.count,y3.1.id,y3.1.master,y3.1.epoch,y3.1.voted,y3.1.claims,y3.1.db,y3.2.1,y3.1.last,y3.1.seen,y3.1.feed,y3.1.watch,y3.1.asked,y3.1.votes,y3.1.wait⟩:Node),y3.2.2))
theorem Ic {n:Nat} {a0:Node} {r:Node×List Msg} (h:DY n a0=some r):Sound Try.prog 62 [.g [.s (.int .i64 a0.count),.s (.int .i64 a0.id),.s (.int .i64 a0.master),.s (.int .i64 a0.epoch),.s (.int .i64 a0.voted),.d false 4 (encClaim a0.claims),.d false 6 (encPair a0.db),.d false 4 (encMove a0.moves),.s (.int .i64 a0.last),.d false 3 (encSeen a0.seen),.s (.int .i64 a0.feed.rid.node),.s (.int .i64 a0.feed.rid.epoch),.s (.int .i64 a0.feed.off),.d false 7 (encEffect a0.feed.back),.s (.int .i64 a0.feed.prev.node),.s (.int .i64 a0.feed.prev.epoch),.s (.int .i64 a0.feed.upto),.d false 1 (encI a0.watch.heard),.d false 1 (encLI a0.watch.says),.s (.int .i64 a0.asked),.d false 1 (encI a0.votes),.s (.int .i64 a0.wait)]] [] (.t [(true,[.s (.int .i64 r.1.count),.s (.int .i64 r.1.id),.s (.int .i64 r.1.master),.s (.int .i64 r.1.epoch),.s (.int .i64 r.1.voted),.d false 4 (encClaim r.1.claims),.d false 6 (encPair r.1.db),.d false 4 (encMove r.1.moves),.s (.int .i64 r.1.last),.d false 3 (encSeen r.1.seen),.s (.int .i64 r.1.feed.rid.node),.s (.int .i64 r.1.feed.rid.epoch),.s (.int .i64 r.1.feed.off),.d false 7 (encEffect r.1.feed.back),.s (.int .i64 r.1.feed.prev.node),.s (.int .i64 r.1.feed.prev.epoch),.s (.int .i64 r.1.feed.upto),.d false 1 (encI r.1.watch.heard),.d false 1 (encLI r.1.watch.says),.s (.int .i64 r.1.asked),.d false 1 (encI r.1.votes),.s (.int .i64 r.1.wait)]),(false,[.d false 15 (encMsg r.2)])]) []:=by
 unfold DY at h
 refine Sound.of_aw (fn:=Try.f62) (c:=_) Try.func62 rfl (by simp[Try.f62]) fun cx hG hnb=>?_
 rw[show Try.f62.ntmps=57 from rfl]
 have hn0:cx.nb=0:=hnb
 simp only[Al,initTm,List.map_cons,List.map_nil]
 apply AW.step
 ·simp
  intros;rfl
 refine AW.scope ?_ ?_
 ·first|exact fun l s h=>h|(intro l s h;simpa [nP,sp,xP,rP] using h)
 replace h:=bnE h;obtain⟨v1,e1,h⟩:=h
 apply AW.step
 ·simp
  intros
  refine Ag G6 (HM e1) rfl ⟨.same rfl,trivial⟩ ?_
  try simp
  intros;rfl
 refine AW.seq ?_
 replace h:=ltE h;obtain⟨v2,e2,h⟩:=h
 apply AW.step
 ·simp[← e2]
  intros;rfl
 cases v2 with
 |true =>
  replace h:=iteT rfl h
  refine AW.cond_true (by simp) ?_
  apply AW.step
  ·simp
   intros;rfl
  refine AW.nilD 3 15 (by simp) ?_
  obtain rfl:=oi h
  refine AW.ret ?_
  refine Left.plain hnb (by simp[Try.f62,resV,resC,comp];rfl) rfl rfl ?_
  simp
 |false =>
  replace h:=iteF rfl h
  refine AW.cond_false (by simp) ?_
  refine AW.skip ?_
  try simp only[nm]
  apply AW.step
  ·simp
   intros;rfl
  apply AW.step
  ·simp
   intros;rfl
  refine AW.seq ?_
  refine AW.label ?_
  try simp only[nm]
  replace h:=bnE h;obtain⟨y3,g3,h⟩:=h
  refine AW.flow (p:=fun gh ls=>(nP (cx:=cx) (fun q=>(⟨[(1,.l (.p 0 0)),(2,.l (.p 1 0)),(4,.l (.p 2 0)),(5,.l (.p 3 0))],[some ⟨69,22,false,none,[.s (.int .i64 q.1.count),.s (.int .i64 q.1.id),.s (.int .i64 q.1.master),.s (.int .i64 q.1.epoch),.s (.int .i64 q.1.voted),.d false 4 (encClaim q.1.claims),.d false 6 (encPair q.1.db),.d false 4 (encMove q.1.moves),.s (.int .i64 q.1.last),.d false 3 (encSeen q.1.seen),.s (.int .i64 q.1.feed.rid.node),.s (.int .i64 q.1.feed.rid.epoch),.s (.int .i64 q.1.feed.off),.d false 7 (encEffect q.1.feed.back),.s (.int .i64 q.1.feed.prev.node),.s (.int .i64 q.1.feed.prev.epoch),.s (.int .i64 q.1.feed.upto),.d false 1 (encI q.1.watch.heard),.d false 1 (encLI q.1.watch.says),.s (.int .i64 q.1.asked),.d false 1 (encI q.1.votes),.s (.int .i64 q.1.wait)]⟩,some ⟨69,22,false,none,[.s (.int .i64 0),.s (.int .i64 0),.s (.int .i64 0),.s (.int .i64 0),.s (.int .i64 0),.s (.slice none 0 0),.s (.slice none 0 0),.s (.slice none 0 0),.s (.int .i64 0),.s (.slice none 0 0),.s (.int .i64 0),.s (.int .i64 0),.s (.int .i64 0),.s (.slice none 0 0),.s (.int .i64 0),.s (.int .i64 0),.s (.int .i64 0),.s (.slice none 0 0),.s (.slice none 0 0),.s (.int .i64 0),.s (.slice none 0 0),.s (.int .i64 0)]⟩,some ⟨58,1,false,none,[.r 4 4 0 q.2.1.length]⟩,some ⟨109,1,false,none,[.r 5 15 0 q.2.2.length]⟩,some ⟨72,4,true,none,lvs (encMove q.2.1)⟩,some ⟨155,15,true,none,lvs (encMsg q.2.2)⟩],57,gh,ls⟩:St))) y3) ?_ ?_
  ·replace h:=g3;clear g3
   replace h:=bnE h;obtain⟨v4,e4,h⟩:=h
   apply AW.step
   ·simp
    intros
    refine Aw G7 (HN e4) rfl (by simp) ⟨.same rfl,trivial⟩ ?_
    try simp
    intros;rfl
   refine AW.block ?_
   refine AW.weak (Weak.keep [(1,.l (.p 0 0)),(2,.l (.p 1 0)),(4,.l (.p 2 0)),(5,.l (.p 3 0)),(16,.l (.f 132 [4]))] (by simp)) ?_
   refine AW.rangeG rfl Try.func132 (by kernel_rfl) rfl (by decide) rfl rfl fun cxI1 yl1 hnI1 hY1=>?_
   have hnJ1:cxI1.nb=0:=hnI1.trans hn0
   simp only[initTm,List.map_cons,List.map_nil]
   replace h:=ltE h;obtain⟨v5,e5,h⟩:=h
   apply AW.step
   ·simp[Aj e5]
    intros;rfl
   refine AW.block ?_
   replace h:=bnE h;obtain⟨y7,g7,h⟩:=h
   refine AW.iterP g7 (mk:=fun gh ls q=>(⟨[(0,.l (.s (.func (.yield yl1) #[] #[]))),(5,.l (.d false 4 (encMove v4))),(6,.l (.s (.int .i64 v5))),(7,.l (.s (.int .i64 q.1)))],[some ⟨69,22,false,none,[.s (.int .i64 q.2.1.count),.s (.int .i64 q.2.1.id),.s (.int .i64 q.2.1.master),.s (.int .i64 q.2.1.epoch),.s (.int .i64 q.2.1.voted),.d false 4 (encClaim q.2.1.claims),.d false 6 (encPair q.2.1.db),.d false 4 (encMove q.2.1.moves),.s (.int .i64 q.2.1.last),.d false 3 (encSeen q.2.1.seen),.s (.int .i64 q.2.1.feed.rid.node),.s (.int .i64 q.2.1.feed.rid.epoch),.s (.int .i64 q.2.1.feed.off),.d false 7 (encEffect q.2.1.feed.back),.s (.int .i64 q.2.1.feed.prev.node),.s (.int .i64 q.2.1.feed.prev.epoch),.s (.int .i64 q.2.1.feed.upto),.d false 1 (encI q.2.1.watch.heard),.d false 1 (encLI q.2.1.watch.says),.s (.int .i64 q.2.1.asked),.d false 1 (encI q.2.1.votes),.s (.int .i64 q.2.1.wait)]⟩,some ⟨69,22,false,none,[.s (.int .i64 0),.s (.int .i64 0),.s (.int .i64 0),.s (.int .i64 0),.s (.int .i64 0),.s (.slice none 0 0),.s (.slice none 0 0),.s (.slice none 0 0),.s (.int .i64 0),.s (.slice none 0 0),.s (.int .i64 0),.s (.int .i64 0),.s (.int .i64 0),.s (.slice none 0 0),.s (.int .i64 0),.s (.int .i64 0),.s (.int .i64 0),.s (.slice none 0 0),.s (.slice none 0 0),.s (.int .i64 0),.s (.slice none 0 0),.s (.int .i64 0)]⟩,some ⟨58,1,false,none,[.r 5 4 0 q.2.2.1.length]⟩,some ⟨109,1,false,none,[.r 6 15 0 q.2.2.2.length]⟩,some ⟨58,1,false,none,[.d false 4 (encMove v4)]⟩,some ⟨72,4,true,none,lvs (encMove q.2.2.1)⟩,some ⟨155,15,true,none,lvs (encMsg q.2.2.2)⟩],16,gh,ls⟩:St)) (N:=fun gh ls=>(xP 0 (cx:=cxI1) (fun q=>(⟨[],[some ⟨69,22,false,none,[.s (.int .i64 q.1.count),.s (.int .i64 q.1.id),.s (.int .i64 q.1.master),.s (.int .i64 q.1.epoch),.s (.int .i64 q.1.voted),.d false 4 (encClaim q.1.claims),.d false 6 (encPair q.1.db),.d false 4 (encMove q.1.moves),.s (.int .i64 q.1.last),.d false 3 (encSeen q.1.seen),.s (.int .i64 q.1.feed.rid.node),.s (.int .i64 q.1.feed.rid.epoch),.s (.int .i64 q.1.feed.off),.d false 7 (encEffect q.1.feed.back),.s (.int .i64 q.1.feed.prev.node),.s (.int .i64 q.1.feed.prev.epoch),.s (.int .i64 q.1.feed.upto),.d false 1 (encI q.1.watch.heard),.d false 1 (encLI q.1.watch.says),.s (.int .i64 q.1.asked),.d false 1 (encI q.1.votes),.s (.int .i64 q.1.wait)]⟩,some ⟨69,22,false,none,[.s (.int .i64 0),.s (.int .i64 0),.s (.int .i64 0),.s (.int .i64 0),.s (.int .i64 0),.s (.slice none 0 0),.s (.slice none 0 0),.s (.slice none 0 0),.s (.int .i64 0),.s (.slice none 0 0),.s (.int .i64 0),.s (.int .i64 0),.s (.int .i64 0),.s (.slice none 0 0),.s (.int .i64 0),.s (.int .i64 0),.s (.int .i64 0),.s (.slice none 0 0),.s (.slice none 0 0),.s (.int .i64 0),.s (.slice none 0 0),.s (.int .i64 0)]⟩,some ⟨58,1,false,none,[.r 5 4 0 q.2.1.length]⟩,some ⟨109,1,false,none,[.r 6 15 0 q.2.2.length]⟩,some ⟨58,1,false,none,[.d false 4 (encMove v4)]⟩,some ⟨72,4,true,none,lvs (encMove q.2.1)⟩,some ⟨155,15,true,none,lvs (encMsg q.2.2)⟩],16,gh,ls⟩:St)))) ?_ noX ?_ ?_
   ·refine W.nilCell 2 0 72 4 5 rfl rfl rfl rfl rfl ?_
    refine W.nilCell 3 0 155 15 6 rfl rfl rfl rfl rfl ?_
    refine Weak.mixB 0 [some 0,some 1,some 2,some 3,some 4,some 5,some 6] hnJ1 (by decide) (by decide) ?_ ?_ ?_
    all_goals first|(simp[Ac,Ae,pickOb];done)|rfl
   ·clear h;intro y6 y8 h
    replace h:=ltE h;obtain⟨v9,e9,h⟩:=h
    apply AW.step
    ·simp[← e9]
     intros;rfl
    refine AW.seq ?_
    cases v9 with
    |true =>
     replace h:=iteT rfl h
     refine AW.cond_true (by simp) ?_
     refine AW.skip ?_
     try simp only[nm]
     refine AW.seq ?_
     refine AW.block ?_
     replace h:=bnE h;obtain⟨v10,e10,h⟩:=h
     apply AW.step
     ·simp[Aa e10]
      intros;rfl
     refine AW.stepYK ?_
     apply xopsY.yield hY1 0 2 rfl rfl rfl (by decide)
     ·simp
      intros;rfl
     ·rfl
     ·first|trivial|simp
     ·rfl
     ·rfl
     ·simp[puts];rfl
     intro cxR1 hnR1
     have hnS1:cxR1.nb=0:=hnR1.trans hnJ1
     apply AW.last
     ·simp
      intros;rfl
     refine⟨rfl,?_⟩
     replace h:=bnE h;obtain⟨y11,g11,h⟩:=h
     refine AW.flowR (p:=fun gh ls=>(nP (cx:=cxR1) (fun q=>(⟨[],[some ⟨69,22,false,none,[.s (.int .i64 q.1.count),.s (.int .i64 q.1.id),.s (.int .i64 q.1.master),.s (.int .i64 q.1.epoch),.s (.int .i64 q.1.voted),.d false 4 (encClaim q.1.claims),.d false 6 (encPair q.1.db),.d false 4 (encMove q.1.moves),.s (.int .i64 q.1.last),.d false 3 (encSeen q.1.seen),.s (.int .i64 q.1.feed.rid.node),.s (.int .i64 q.1.feed.rid.epoch),.s (.int .i64 q.1.feed.off),.d false 7 (encEffect q.1.feed.back),.s (.int .i64 q.1.feed.prev.node),.s (.int .i64 q.1.feed.prev.epoch),.s (.int .i64 q.1.feed.upto),.d false 1 (encI q.1.watch.heard),.d false 1 (encLI q.1.watch.says),.s (.int .i64 q.1.asked),.d false 1 (encI q.1.votes),.s (.int .i64 q.1.wait)]⟩,some ⟨69,22,false,none,[.s (.int .i64 0),.s (.int .i64 0),.s (.int .i64 0),.s (.int .i64 0),.s (.int .i64 0),.s (.slice none 0 0),.s (.slice none 0 0),.s (.slice none 0 0),.s (.int .i64 0),.s (.slice none 0 0),.s (.int .i64 0),.s (.int .i64 0),.s (.int .i64 0),.s (.slice none 0 0),.s (.int .i64 0),.s (.int .i64 0),.s (.int .i64 0),.s (.slice none 0 0),.s (.slice none 0 0),.s (.int .i64 0),.s (.slice none 0 0),.s (.int .i64 0)]⟩,some ⟨58,1,false,none,[.r 8 4 0 q.2.1.length]⟩,some ⟨109,1,false,none,[.r 9 15 0 q.2.2.length]⟩,some ⟨58,1,false,none,[.d false 4 (encMove v4)]⟩,none,none,some ⟨72,4,false,none,[.s (.int .i64 v10.slot),.s (.int .i64 v10.to),.s (.int .i64 v10.num),.s (.string v10.key)]⟩,some ⟨72,4,true,none,lvs (encMove q.2.1)⟩,some ⟨155,15,true,none,lvs (encMsg q.2.2)⟩],57,gh,ls⟩:St))) y11) ?_ ?_
     ·replace h:=g11;clear g11
      refine AW.block ?_
      replace h:=bnE h;obtain⟨y12,g12,h⟩:=h
      refine AW.flow (p:=fun gh ls=>(sp (nP (cx:=cxR1) (fun q=>(⟨[(1,.l (.p 0 0)),(4,.l (.p 2 0)),(5,.l (.p 3 0)),(6,.l (.p 8 0))],[some ⟨69,22,false,none,[.s (.int .i64 q.1.count),.s (.int .i64 q.1.id),.s (.int .i64 q.1.master),.s (.int .i64 q.1.epoch),.s (.int .i64 q.1.voted),.d false 4 (encClaim q.1.claims),.d false 6 (encPair q.1.db),.d false 4 (encMove q.1.moves),.s (.int .i64 q.1.last),.d false 3 (encSeen q.1.seen),.s (.int .i64 q.1.feed.rid.node),.s (.int .i64 q.1.feed.rid.epoch),.s (.int .i64 q.1.feed.off),.d false 7 (encEffect q.1.feed.back),.s (.int .i64 q.1.feed.prev.node),.s (.int .i64 q.1.feed.prev.epoch),.s (.int .i64 q.1.feed.upto),.d false 1 (encI q.1.watch.heard),.d false 1 (encLI q.1.watch.says),.s (.int .i64 q.1.asked),.d false 1 (encI q.1.votes),.s (.int .i64 q.1.wait)]⟩,some ⟨69,22,false,none,[.s (.int .i64 0),.s (.int .i64 0),.s (.int .i64 0),.s (.int .i64 0),.s (.int .i64 0),.s (.slice none 0 0),.s (.slice none 0 0),.s (.slice none 0 0),.s (.int .i64 0),.s (.slice none 0 0),.s (.int .i64 0),.s (.int .i64 0),.s (.int .i64 0),.s (.slice none 0 0),.s (.int .i64 0),.s (.int .i64 0),.s (.int .i64 0),.s (.slice none 0 0),.s (.slice none 0 0),.s (.int .i64 0),.s (.slice none 0 0),.s (.int .i64 0)]⟩,some ⟨58,1,false,none,[.r 5 4 0 y6.2.2.1.length]⟩,some ⟨109,1,false,none,[.r 6 15 0 y6.2.2.2.length]⟩,some ⟨58,1,false,none,[.d false 4 (encMove v4)]⟩,some ⟨72,4,true,none,lvs (encMove y6.2.2.1)⟩,some ⟨155,15,true,none,lvs (encMsg y6.2.2.2)⟩,some ⟨72,4,false,none,[.s (.int .i64 v10.slot),.s (.int .i64 v10.to),.s (.int .i64 v10.num),.s (.string v10.key)]⟩,some ⟨72,4,false,none,[.s (.int .i64 q.2.slot),.s (.int .i64 q.2.to),.s (.int .i64 q.2.num),.s (.string q.2.key)]⟩],57,gh,ls⟩:St))) (xP 1 (cx:=cxR1) (fun q=>(⟨[],[some ⟨69,22,false,none,[.s (.int .i64 q.count),.s (.int .i64 q.id),.s (.int .i64 q.master),.s (.int .i64 q.epoch),.s (.int .i64 q.voted),.d false 4 (encClaim q.claims),.d false 6 (encPair q.db),.d false 4 (encMove q.moves),.s (.int .i64 q.last),.d false 3 (encSeen q.seen),.s (.int .i64 q.feed.rid.node),.s (.int .i64 q.feed.rid.epoch),.s (.int .i64 q.feed.off),.d false 7 (encEffect q.feed.back),.s (.int .i64 q.feed.prev.node),.s (.int .i64 q.feed.prev.epoch),.s (.int .i64 q.feed.upto),.d false 1 (encI q.watch.heard),.d false 1 (encLI q.watch.says),.s (.int .i64 q.asked),.d false 1 (encI q.votes),.s (.int .i64 q.wait)]⟩,some ⟨69,22,false,none,[.s (.int .i64 0),.s (.int .i64 0),.s (.int .i64 0),.s (.int .i64 0),.s (.int .i64 0),.s (.slice none 0 0),.s (.slice none 0 0),.s (.slice none 0 0),.s (.int .i64 0),.s (.slice none 0 0),.s (.int .i64 0),.s (.int .i64 0),.s (.int .i64 0),.s (.slice none 0 0),.s (.int .i64 0),.s (.int .i64 0),.s (.int .i64 0),.s (.slice none 0 0),.s (.slice none 0 0),.s (.int .i64 0),.s (.slice none 0 0),.s (.int .i64 0)]⟩,some ⟨58,1,false,none,[.r 5 4 0 y6.2.2.1.length]⟩,some ⟨109,1,false,none,[.r 6 15 0 y6.2.2.2.length]⟩,some ⟨58,1,false,none,[.d false 4 (encMove v4)]⟩,some ⟨72,4,true,none,lvs (encMove y6.2.2.1)⟩,some ⟨155,15,true,none,lvs (encMsg y6.2.2.2)⟩,some ⟨72,4,false,none,[.s (.int .i64 v10.slot),.s (.int .i64 v10.to),.s (.int .i64 v10.num),.s (.string v10.key)]⟩],57,gh,ls⟩:St)))) y12) ?_ ?_
      ·replace h:=g12;clear g12
       replace h:=ltE h;obtain⟨v13,e13,h⟩:=h
       apply AW.step
       ·simp[← e13]
        intros;rfl
       cases v13 with
       |true =>
        replace h:=iteT rfl h
        refine AW.cond_true (by simp) ?_
        replace h:=bnE h;obtain⟨v14,e14,h⟩:=h
        apply AW.step
        ·simp
         intros
         refine Ag H8 (I7 e14) rfl ⟨.same rfl,.same rfl,trivial⟩ ?_
         try simp
         intros;rfl
        refine AW.seq ?_
        replace h:=ltE h;obtain⟨v15,e15,h⟩:=h
        replace h:=ltE h;obtain⟨v16,e16,h⟩:=h
        apply AW.step
        ·simp[Aj e15,← e16]
         intros;rfl
        cases v16 with
        |true =>
         replace h:=iteT rfl h
         refine AW.cond_true (by simp) ?_
         replace h:=bnE h;obtain⟨v17,e17,h⟩:=h
         apply AW.step
         ·simp
          intros
          refine Ag FB (F9 e17) rfl ⟨.same rfl,.same rfl,trivial⟩ ?_
          try simp
          intros;rfl
         refine AW.exit ?_
         try simp only[nm]
         obtain rfl:=oi h
         try simp only[sp_l,sp_r]
         refine xP_i ?_
         refine Weak.mixB 0 [some 0,some 1,some 2,some 3,some 4,some 5,some 6,some 7] hnS1 (by decide) (by decide) ?_ ?_ ?_
         all_goals first|(simp[Ac,Ae,pickOb];done)|rfl
        |false =>
         replace h:=iteF rfl h
         refine AW.cond_false (by simp) ?_
         refine AW.skip ?_
         try simp only[nm]
         replace h:=ltE h;obtain⟨v18,e18,h⟩:=h
         apply AW.step
         ·simp[← e18]
          intros;rfl
         replace h:=bnE h;obtain⟨v19,e19,h⟩:=h
         apply AW.drawnF (V:=[_,_,_,_,_,_,_]) (M:=[[some ⟨69,22,false,none,[.s (.int .i64 y6.2.1.count),.s (.int .i64 y6.2.1.id),.s (.int .i64 y6.2.1.master),.s (.int .i64 y6.2.1.epoch),.s (.int .i64 y6.2.1.voted),.d false 4 (encClaim y6.2.1.claims),.d false 6 (encPair y6.2.1.db),.d false 4 (encMove y6.2.1.moves),.s (.int .i64 v18),.d false 3 (encSeen y6.2.1.seen),.s (.int .i64 y6.2.1.feed.rid.node),.s (.int .i64 y6.2.1.feed.rid.epoch),.s (.int .i64 y6.2.1.feed.off),.d false 7 (encEffect y6.2.1.feed.back),.s (.int .i64 y6.2.1.feed.prev.node),.s (.int .i64 y6.2.1.feed.prev.epoch),.s (.int .i64 y6.2.1.feed.upto),.d false 1 (encI y6.2.1.watch.heard),.d false 1 (encLI y6.2.1.watch.says),.s (.int .i64 y6.2.1.asked),.d false 1 (encI y6.2.1.votes),.s (.int .i64 y6.2.1.wait)]⟩,some ⟨69,22,false,none,[.s (.int .i64 0),.s (.int .i64 0),.s (.int .i64 0),.s (.int .i64 0),.s (.int .i64 0),.s (.slice none 0 0),.s (.slice none 0 0),.s (.slice none 0 0),.s (.int .i64 0),.s (.slice none 0 0),.s (.int .i64 0),.s (.int .i64 0),.s (.int .i64 0),.s (.slice none 0 0),.s (.int .i64 0),.s (.int .i64 0),.s (.int .i64 0),.s (.slice none 0 0),.s (.slice none 0 0),.s (.int .i64 0),.s (.slice none 0 0),.s (.int .i64 0)]⟩,some ⟨58,1,false,none,[.r 5 4 0 y6.2.2.1.length]⟩,some ⟨109,1,false,none,[.r 6 15 0 y6.2.2.2.length]⟩,some ⟨58,1,false,none,[.d false 4 (encMove v4)]⟩,some ⟨72,4,true,none,lvs (encMove y6.2.2.1)⟩,some ⟨155,15,true,none,lvs (encMsg y6.2.2.2)⟩,some ⟨72,4,false,none,[.s (.int .i64 v10.slot),.s (.int .i64 v10.to),.s (.int .i64 v10.num),.s (.string v10.key)]⟩,some ⟨72,4,false,none,[.s (.int .i64 v10.slot),.s (.int .i64 v10.to),.s (.int .i64 v10.num),.s (.string v10.key)]⟩],[some ⟨69,22,false,none,[.s (.int .i64 y6.2.1.count),.s (.int .i64 y6.2.1.id),.s (.int .i64 y6.2.1.master),.s (.int .i64 y6.2.1.epoch),.s (.int .i64 y6.2.1.voted),.d false 4 (encClaim y6.2.1.claims),.d false 6 (encPair y6.2.1.db),.d false 4 (encMove y6.2.1.moves),.s (.int .i64 v18),.d false 3 (encSeen y6.2.1.seen),.s (.int .i64 y6.2.1.feed.rid.node),.s (.int .i64 y6.2.1.feed.rid.epoch),.s (.int .i64 y6.2.1.feed.off),.d false 7 (encEffect y6.2.1.feed.back),.s (.int .i64 y6.2.1.feed.prev.node),.s (.int .i64 y6.2.1.feed.prev.epoch),.s (.int .i64 y6.2.1.feed.upto),.d false 1 (encI y6.2.1.watch.heard),.d false 1 (encLI y6.2.1.watch.says),.s (.int .i64 y6.2.1.asked),.d false 1 (encI y6.2.1.votes),.s (.int .i64 y6.2.1.wait)]⟩,some ⟨69,22,false,none,[.s (.int .i64 0),.s (.int .i64 0),.s (.int .i64 0),.s (.int .i64 0),.s (.int .i64 0),.s (.slice none 0 0),.s (.slice none 0 0),.s (.slice none 0 0),.s (.int .i64 0),.s (.slice none 0 0),.s (.int .i64 0),.s (.int .i64 0),.s (.int .i64 0),.s (.slice none 0 0),.s (.int .i64 0),.s (.int .i64 0),.s (.int .i64 0),.s (.slice none 0 0),.s (.slice none 0 0),.s (.int .i64 0),.s (.slice none 0 0),.s (.int .i64 0)]⟩,some ⟨58,1,false,none,[.r 5 4 0 y6.2.2.1.length]⟩,some ⟨109,1,false,none,[.r 6 15 0 y6.2.2.2.length]⟩,some ⟨58,1,false,none,[.d false 4 (encMove v4)]⟩,some ⟨72,4,true,none,lvs (encMove y6.2.2.1)⟩,some ⟨155,15,true,none,lvs (encMsg y6.2.2.2)⟩,some ⟨72,4,false,none,[.s (.int .i64 v10.slot),.s (.int .i64 v10.to),.s (.int .i64 v10.num),.s (.string v10.key)]⟩,some ⟨72,4,false,none,[.s (.int .i64 v10.slot),.s (.int .i64 v10.to),.s (.int .i64 v18),.s (.string v10.key)]⟩]]) mixed [⟨[0],[],[(1,none)],false⟩,⟨[0],[0],[(36,some 0)],false⟩,⟨[0,1],[],[(7,none)],false⟩,⟨[0,1],[2],[(38,some 2)],false⟩,⟨[0,1],[2,3],[(39,some 3)],false⟩,⟨[0],[0,1],[(6,none)],false⟩,⟨[0],[0,1,5],[(37,some 1),(41,some 5)],true⟩,⟨[],[0,1,2,3,4,5,6],[],false⟩,⟨[],[0,1,2,3,4,5,6,7],[],false⟩] 7 1 (by kernel_rfl) (by kernel_rfl)
         ·rfl
         ·refine⟨?_,?_,⟨?_,?_⟩,⟨?_,?_⟩,⟨?_,?_⟩,?_,?_,trivial⟩
          iterate 10 (· intro tm hr;simp[AllL,rdV] at hr;simp[hr,(show v14[0]?=some v19 from (Aa e19).2)];intros;first|exact KD.mk|exact KD.mkN)
         ·rfl
         ·simp[tmD,putD,(show v14[0]?=some v19 from (Aa e19).2)];rfl
         ·simp[(show v14[0]?=some v19 from (Aa e19).2)]
          intros;rfl
         obtain rfl:=oi h
         try simp only[sp_l,sp_r]
         refine nP_i ?_
         refine Weak.mixB 0 [some 0,some 1,some 2,some 3,some 4,some 5,some 6,some 7,some 8] hnS1 (by decide) (by decide) ?_ ?_ ?_
         all_goals first|(simp[Ac,Ae,pickOb];done)|rfl
       |false =>
        replace h:=iteF rfl h
        refine AW.cond_false (by simp) ?_
        refine AW.skip ?_
        try simp only[nm]
        obtain rfl:=oi h
        try simp only[sp_l,sp_r]
        refine nP_i ?_
        refine Weak.mixB 0 [some 0,some 1,some 2,some 3,some 4,some 5,some 6,some 7,some 8] hnS1 (by decide) (by decide) ?_ ?_ ?_
        all_goals first|(simp[Ac,Ae,pickOb];done)|rfl
      ·rintro e s hp
       rcases y12 with y20|y21
       ·replace h:=smL h
        obtain⟨rfl,hw⟩:=hp
        refine⟨_,hw,?_⟩
        try simp only[nm]
        replace h:=chkE h;obtain⟨e22,h⟩:=h
        replace h:=ltE h;obtain⟨v23,e23,h⟩:=h
        apply AW.step
        ·simp[← Cn,← e23,Ak e23]
         intros
         refine Ar ?_
         try simp[← Cn,← e23,Ak e23]
         intros
         refine AD (acc:=encMove y6.2.2.1) (ys:=encMove [y20.2]) (cap:=none) (k:=1) B0 Cl (by simp) (by simp[encMove,lvs]) (At _) (by simp) (by simp) (by first|(simp;done)|simpa using (Ah e22).1) ?_
         try simp[← Cn,← e23,Ak e23]
         intros;rfl
        replace h:=bnE h;obtain⟨v24,e24,h⟩:=h
        replace h:=chkE h;obtain⟨e25,h⟩:=h
        replace h:=ltE h;obtain⟨v26,e26,h⟩:=h
        apply AW.drawnF (V:=[_,_,_,_,_]) (M:=[[some ⟨69,22,false,none,[.s (.int .i64 y20.1.count),.s (.int .i64 y20.1.id),.s (.int .i64 y20.1.master),.s (.int .i64 y20.1.epoch),.s (.int .i64 y20.1.voted),.d false 4 (encClaim y20.1.claims),.d false 6 (encPair y20.1.db),.d false 4 (encMove y20.1.moves),.s (.int .i64 y20.1.last),.d false 3 (encSeen y20.1.seen),.s (.int .i64 y20.1.feed.rid.node),.s (.int .i64 y20.1.feed.rid.epoch),.s (.int .i64 y20.1.feed.off),.d false 7 (encEffect y20.1.feed.back),.s (.int .i64 y20.1.feed.prev.node),.s (.int .i64 y20.1.feed.prev.epoch),.s (.int .i64 y20.1.feed.upto),.d false 1 (encI y20.1.watch.heard),.d false 1 (encLI y20.1.watch.says),.s (.int .i64 y20.1.asked),.d false 1 (encI y20.1.votes),.s (.int .i64 y20.1.wait)]⟩,some ⟨69,22,false,none,[.s (.int .i64 0),.s (.int .i64 0),.s (.int .i64 0),.s (.int .i64 0),.s (.int .i64 0),.s (.slice none 0 0),.s (.slice none 0 0),.s (.slice none 0 0),.s (.int .i64 0),.s (.slice none 0 0),.s (.int .i64 0),.s (.int .i64 0),.s (.int .i64 0),.s (.slice none 0 0),.s (.int .i64 0),.s (.int .i64 0),.s (.int .i64 0),.s (.slice none 0 0),.s (.slice none 0 0),.s (.int .i64 0),.s (.slice none 0 0),.s (.int .i64 0)]⟩,some ⟨58,1,false,none,[.r 10 4 0 v23.length]⟩,some ⟨109,1,false,none,[.r 6 15 0 y6.2.2.2.length]⟩,some ⟨58,1,false,none,[.d false 4 (encMove v4)]⟩,none,some ⟨155,15,true,none,lvs (encMsg y6.2.2.2)⟩,some ⟨72,4,false,none,[.s (.int .i64 v10.slot),.s (.int .i64 v10.to),.s (.int .i64 v10.num),.s (.string v10.key)]⟩,some ⟨72,4,false,none,[.s (.int .i64 y20.2.slot),.s (.int .i64 y20.2.to),.s (.int .i64 y20.2.num),.s (.string y20.2.key)]⟩,some ⟨72,4,true,none,[.s (.int .i64 y20.2.slot),.s (.int .i64 y20.2.to),.s (.int .i64 y20.2.num),.s (.string y20.2.key)]⟩,some ⟨72,4,true,none,lvs (encMove v23)⟩],[some ⟨69,22,false,none,[.s (.int .i64 y20.1.count),.s (.int .i64 y20.1.id),.s (.int .i64 y20.1.master),.s (.int .i64 y20.1.epoch),.s (.int .i64 y20.1.voted),.d false 4 (encClaim y20.1.claims),.d false 6 (encPair y20.1.db),.d false 4 (encMove y20.1.moves),.s (.int .i64 y20.1.last),.d false 3 (encSeen y20.1.seen),.s (.int .i64 y20.1.feed.rid.node),.s (.int .i64 y20.1.feed.rid.epoch),.s (.int .i64 y20.1.feed.off),.d false 7 (encEffect y20.1.feed.back),.s (.int .i64 y20.1.feed.prev.node),.s (.int .i64 y20.1.feed.prev.epoch),.s (.int .i64 y20.1.feed.upto),.d false 1 (encI y20.1.watch.heard),.d false 1 (encLI y20.1.watch.says),.s (.int .i64 y20.1.asked),.d false 1 (encI y20.1.votes),.s (.int .i64 y20.1.wait)]⟩,some ⟨69,22,false,none,[.s (.int .i64 0),.s (.int .i64 0),.s (.int .i64 0),.s (.int .i64 0),.s (.int .i64 0),.s (.slice none 0 0),.s (.slice none 0 0),.s (.slice none 0 0),.s (.int .i64 0),.s (.slice none 0 0),.s (.int .i64 0),.s (.int .i64 0),.s (.int .i64 0),.s (.slice none 0 0),.s (.int .i64 0),.s (.int .i64 0),.s (.int .i64 0),.s (.slice none 0 0),.s (.slice none 0 0),.s (.int .i64 0),.s (.slice none 0 0),.s (.int .i64 0)]⟩,some ⟨58,1,false,none,[.r 10 4 0 v23.length]⟩,some ⟨109,1,false,none,[.r 6 15 0 y6.2.2.2.length]⟩,some ⟨58,1,false,none,[.d false 4 (encMove v4)]⟩,none,some ⟨155,15,true,none,lvs (encMsg y6.2.2.2)⟩,some ⟨72,4,false,none,[.s (.int .i64 v10.slot),.s (.int .i64 v10.to),.s (.int .i64 v10.num),.s (.string v10.key)]⟩,some ⟨72,4,false,none,[.s (.int .i64 y20.2.slot),.s (.int .i64 y20.2.to),.s (.int .i64 y20.2.num),.s (.string y20.2.key)]⟩,some ⟨72,4,true,none,[.s (.int .i64 y20.2.slot),.s (.int .i64 y20.2.to),.s (.int .i64 y20.2.num),.s (.string y20.2.key)]⟩,some ⟨72,4,true,none,lvs (encMove v23)⟩,some ⟨155,15,true,none,[.s (.int .i64 v24.kind),.s (.int .i64 v24.frm),.s (.int .i64 v24.to),.s (.int .i64 v24.epoch),.d false 4 (encClaim v24.claims),.d false 1 (encI v24.nodes),.s (.int .i64 v24.node),.s (.int .i64 v24.slot),.s (.int .i64 v24.num),.s (.int .i64 v24.rid.node),.s (.int .i64 v24.rid.epoch),.s (.int .i64 v24.prev.node),.s (.int .i64 v24.prev.epoch),.s (.int .i64 v24.off),.d false 7 (encEffect v24.effects)]⟩]]) mixed [⟨[0,1],[],[(5,none)],false⟩,⟨[0],[],[(1,none)],false⟩,⟨[0],[],[(6,none)],false⟩,⟨[0],[1,2],[(48,some 1),(49,some 2)],false⟩,⟨[0],[1,2,3],[(50,some 3)],true⟩,⟨[],[0,1,2,3,4],[],false⟩,⟨[],[0,1,2,3,4,5],[],false⟩] 5 1 (by kernel_rfl) (by kernel_rfl)
        ·rfl
        ·refine⟨⟨?_,?_⟩,?_,?_,?_,?_,trivial⟩
         iterate 4 (· intro tm hr;simp[AllL,rdV] at hr;simp[hr,← Bh,← e26,Ak e26];intros;first|exact KD.mk|exact KD.mkN)
         ·intro tm hr
          simp[AllL,rdV] at hr
          simp[hr,← Bh,← e26,Ak e26]
          intros
          refine Ag Ib (I8 e24) rfl ⟨.same rfl,.same rfl,trivial⟩ ?_
          try simp[← Bh,← e26,Ak e26]
          intros;first|exact KD.mk|exact KD.mkN
         ·intro tm hr
          simp[AllL,rdV] at hr
          simp[hr,← Bh,← e26,Ak e26]
          intros
          refine Ar ?_
          try simp[← Bh,← e26,Ak e26]
          intros;first|exact KD.mk|exact KD.mkN
        ·rfl
        ·simp[tmD,putD,← Bh,← e26,Ak e26];rfl
        ·simp[← Bh,← e26,Ak e26]
         intros
         refine AD (acc:=encMsg y6.2.2.2) (ys:=encMsg [v24]) (cap:=none) (k:=1) JN JM (by simp) (by simp[encMsg,lvs]) (GJ _) (by simp) (by simp) (by first|(simp;done)|simpa using (Ah e25).1) ?_
         try simp[← Bh,← e26,Ak e26]
         intros;rfl
        obtain rfl:=oi h
        refine nP_i ?_
        refine Weak.mixB 0 [some 0,some 1,some 2,some 3,some 4,some 5,some 6,some 7,some 10,some 12] hnS1 (by decide) (by decide) ?_ ?_ ?_
        all_goals first|(simp[Ac,Ae,pickOb,DR,HY];done)|rfl
       ·replace h:=smR h
        obtain⟨rfl,hw⟩:=hp
        refine⟨_,hw,?_⟩
        try simp only[nm]
        obtain rfl:=oi h
        refine nP_i ?_
        refine Weak.mixB 0 [some 0,some 1,some 2,some 3,some 4,none,none,some 7,some 5,some 6] hnS1 (by decide) (by decide) ?_ ?_ ?_
        all_goals first|(simp[Ac,Ae,pickOb];done)|rfl
     ·rintro e s hp
      obtain⟨rfl,hw⟩:=hp
      refine⟨_,hw,?_⟩
      try simp only[nm]
      refine⟨_,_,rfl,?_⟩
      refine DK _ _ _ rfl ?_
      simp[puts]
      try intros
      unfold KK
      refine AW.cond_false (by simp) ?_
      refine AW.skip ?_
      try simp only[nm]
      replace h:=ltE h;obtain⟨v27,e27,h⟩:=h
      apply AW.last
      ·simp[← e27]
       intros;rfl
      obtain rfl:=oi h
      refine nP_i ?_
      refine Weak.mixB 0 [some 0,some 1,some 2,some 3,some 4,some 8,some 9] hnJ1 (by decide) (by decide) ?_ ?_ ?_
      all_goals first|(simp[Ac,Ae,pickOb];done)|rfl
    |false =>
     replace h:=iteF rfl h
     refine AW.cond_false (by simp) ?_
     refine AW.exit ?_
     try simp only[nm]
     obtain rfl:=oi h
     refine xP_i ?_
     refine Weak.mixB 0 [some 0,some 1,some 2,some 3,some 4,some 5,some 6] hnJ1 (by decide) (by decide) ?_ ?_ ?_
     all_goals first|(simp[Ac,Ae,pickOb];done)|rfl
   ·rintro e s hp
    obtain⟨rfl,hw⟩:=hp
    refine⟨_,hw,?_⟩
    try simp only[nm]
    refine⟨_,_,rfl,?_⟩
    try simp only[]
    try simp only[nm]
    obtain rfl:=oi h
    refine nP_i ?_
    refine Weak.mixN [some 0,some 1,some 2,some 3,some 5,some 6] hn0 (by decide) ?_ ?_ rfl
    all_goals first|(simp[Ac,Ae,pickOb];done)|rfl
  ·rintro e s hp
   obtain⟨rfl,hw⟩:=hp
   refine⟨_,hw,?_⟩
   try simp only[nm]
   apply AW.step
   ·simp
    intros;rfl
   apply AW.drawnE (V:=[_,_,_]) (M:=[[some ⟨69,22,false,none,[.s (.int .i64 y3.1.count),.s (.int .i64 y3.1.id),.s (.int .i64 y3.1.master),.s (.int .i64 y3.1.epoch),.s (.int .i64 y3.1.voted),.d false 4 (encClaim y3.1.claims),.d false 6 (encPair y3.1.db),.r 4 4 0 y3.2.1.length,.s (.int .i64 y3.1.last),.d false 3 (encSeen y3.1.seen),.s (.int .i64 y3.1.feed.rid.node),.s (.int .i64 y3.1.feed.rid.epoch),.s (.int .i64 y3.1.feed.off),.d false 7 (encEffect y3.1.feed.back),.s (.int .i64 y3.1.feed.prev.node),.s (.int .i64 y3.1.feed.prev.epoch),.s (.int .i64 y3.1.feed.upto),.d false 1 (encI y3.1.watch.heard),.d false 1 (encLI y3.1.watch.says),.s (.int .i64 y3.1.asked),.d false 1 (encI y3.1.votes),.s (.int .i64 y3.1.wait)]⟩,some ⟨69,22,false,none,[.s (.int .i64 0),.s (.int .i64 0),.s (.int .i64 0),.s (.int .i64 0),.s (.int .i64 0),.s (.slice none 0 0),.s (.slice none 0 0),.s (.slice none 0 0),.s (.int .i64 0),.s (.slice none 0 0),.s (.int .i64 0),.s (.int .i64 0),.s (.int .i64 0),.s (.slice none 0 0),.s (.int .i64 0),.s (.int .i64 0),.s (.int .i64 0),.s (.slice none 0 0),.s (.slice none 0 0),.s (.int .i64 0),.s (.slice none 0 0),.s (.int .i64 0)]⟩,some ⟨58,1,false,none,[.r 4 4 0 y3.2.1.length]⟩,some ⟨109,1,false,none,[.r 5 15 0 y3.2.2.length]⟩,some ⟨72,4,true,none,lvs (encMove y3.2.1)⟩,some ⟨155,15,true,none,lvs (encMsg y3.2.2)⟩],[some ⟨69,22,false,none,[.s (.int .i64 y3.1.count),.s (.int .i64 y3.1.id),.s (.int .i64 y3.1.master),.s (.int .i64 y3.1.epoch),.s (.int .i64 y3.1.voted),.d false 4 (encClaim y3.1.claims),.d false 6 (encPair y3.1.db),.r 4 4 0 y3.2.1.length,.s (.int .i64 y3.1.last),.d false 3 (encSeen y3.1.seen),.s (.int .i64 y3.1.feed.rid.node),.s (.int .i64 y3.1.feed.rid.epoch),.s (.int .i64 y3.1.feed.off),.d false 7 (encEffect y3.1.feed.back),.s (.int .i64 y3.1.feed.prev.node),.s (.int .i64 y3.1.feed.prev.epoch),.s (.int .i64 y3.1.feed.upto),.d false 1 (encI y3.1.watch.heard),.d false 1 (encLI y3.1.watch.says),.s (.int .i64 y3.1.asked),.d false 1 (encI y3.1.votes),.s (.int .i64 y3.1.wait)]⟩,some ⟨69,22,false,none,[.s (.int .i64 y3.1.count),.s (.int .i64 y3.1.id),.s (.int .i64 y3.1.master),.s (.int .i64 y3.1.epoch),.s (.int .i64 y3.1.voted),.d false 4 (encClaim y3.1.claims),.d false 6 (encPair y3.1.db),.r 4 4 0 y3.2.1.length,.s (.int .i64 y3.1.last),.d false 3 (encSeen y3.1.seen),.s (.int .i64 y3.1.feed.rid.node),.s (.int .i64 y3.1.feed.rid.epoch),.s (.int .i64 y3.1.feed.off),.d false 7 (encEffect y3.1.feed.back),.s (.int .i64 y3.1.feed.prev.node),.s (.int .i64 y3.1.feed.prev.epoch),.s (.int .i64 y3.1.feed.upto),.d false 1 (encI y3.1.watch.heard),.d false 1 (encLI y3.1.watch.says),.s (.int .i64 y3.1.asked),.d false 1 (encI y3.1.votes),.s (.int .i64 y3.1.wait)]⟩,some ⟨58,1,false,none,[.r 4 4 0 y3.2.1.length]⟩,some ⟨109,1,false,none,[.r 5 15 0 y3.2.2.length]⟩,some ⟨72,4,true,none,lvs (encMove y3.2.1)⟩,some ⟨155,15,true,none,lvs (encMsg y3.2.2)⟩]]) mixed [⟨[0],[],[(1,none)],false⟩,⟨[0,1],[],[(5,none)],false⟩,⟨[0],[0],[(2,none),(55,some 0)],true⟩,⟨[],[0,1,2],[],false⟩] 3 1 (by kernel_rfl) (by kernel_rfl)
   ·rfl
   ·refine⟨?_,⟨?_,?_⟩,?_,trivial⟩
    iterate 4 (· intro tm hr;simp[AllL,rdV] at hr;simp[hr];intros;first|exact KD.mk|exact KD.mkN)
   ·rfl
   ·simp[tmD,putD];rfl
   ·simp
    intros;rfl
   replace h:=chkE h;obtain⟨e28,h⟩:=h
   refine AW.frzRow 4 (ty:=72) (cap:=none) (sz:=4) (es:=encMove y3.2.1) (by simp) (by omega) (At _) (by first|exact (Ah e28).2|simpa using (Ah e28).2|simp) (by simp[Tm.frz,AV.frz,LV.frz];rfl) (by simp[Ob.frz,LV.frz];rfl) rfl ?_
   replace h:=chkE h;obtain⟨e29,h⟩:=h
   refine AW.frzRow 5 (ty:=155) (cap:=none) (sz:=15) (es:=encMsg y3.2.2) (by simp) (by omega) (GJ _) (by first|exact (Ah e29).2|simpa using (Ah e29).2|simp) (by simp[Tm.frz,AV.frz,LV.frz];rfl) (by simp[Ob.frz,LV.frz];rfl) rfl ?_
   obtain rfl:=oi h
   refine AW.ret ?_
   refine Left.plain hnb (by simp[Try.f62,resV,resC,comp];rfl) rfl rfl ?_
   simp
theorem HO:Enters Try.prog 62:=enters Try.func62 (by kernel_rfl) rfl
def BK (n:Nat) (a0:Node):Option Node :=
chk (small 32 a0.claims) <|
chk (small 40 a0.moves) <|
chk (small 24 a0.seen) <|
chk (small 8 a0.votes) <|
chk (small 96 a0.db) <|
chk (small 104 a0.feed.back) <|
lt (lenI a0.db) fun v7 =>
bn (iter n (fun (y8:Int×List Pair) =>
lt (ltI y8.1 v7) fun v11 =>
ite' v11 (bn (nth y8.2 y8.1) fun v12 =>
bn (BE n v12.item) fun v14 =>
lt (y8.2.set y8.1.toNat (⟨v12.key,v14⟩:Pair)) fun v16 =>
lt (addI .i64 y8.1 1) fun v20 =>
some (.inl (v20,v16))) (some (.inr y8.2))) (0,a0.db)) fun (y9:List Pair) =>
lt (lenI a0.feed.back) fun v21 =>
bn (iter n (fun (y22:Int×List Effect) =>
lt (ltI y22.1 v21) fun v25 =>
ite' v25 (bn (nth y22.2 y22.1) fun v26 =>
bn (BE n v26.item) fun v28 =>
lt (y22.2.set y22.1.toNat (⟨v26.key,v26.gone,v28⟩:Effect)) fun v30 =>
lt (addI .i64 y22.1 1) fun v34 =>
some (.inl (v34,v30))) (some (.inr y22.2))) (0,a0.feed.back)) fun (y23:List Effect) =>
chk (small 8 a0.watch.heard) <|
chk (small 24 a0.watch.says) <|
lt (lenI a0.watch.says) fun v37 =>
bn (iter n (fun (y38:Int×List (List Int)) =>
lt (ltI y38.1 v37) fun v41 =>
ite' v41 (bn (nth y38.2 y38.1) fun v42 =>
chk (small 8 v42) <|
lt (y38.2.set y38.1.toNat v42) fun v46 =>
lt (addI .i64 y38.1 1) fun v49 =>
some (.inl (v49,v46))) (some (.inr y38.2))) (0,a0.watch.says)) fun (y39:List (List Int)) =>
chk (room a0.claims.length 1) <|
chk (room y9.length 1) <|
chk (room a0.seen.length 1) <|
chk (room y23.length 1) <|
chk (room a0.watch.heard.length 1) <|
chk (room y39.length 1) <|
chk (room a0.votes.length 1) <|
some (⟨a0.count,a0.id,a0.master,a0.epoch,a0.voted,a0.claims,y9,a0.moves,a0.last,a0.seen,(⟨a0.feed.rid,a0.feed.off,y23,a0.feed.prev,a0.feed.upto⟩:Feed),(⟨a0.watch.heard,y39⟩:Watch),a0.asked,a0.votes,a0.wait⟩:Node)
theorem FC {n:Nat} {a0:Node} {r:Node} (h:BK n a0=some r):Sound Try.prog 59 [.g [.s (.int .i64 a0.count),.s (.int .i64 a0.id),.s (.int .i64 a0.master),.s (.int .i64 a0.epoch),.s (.int .i64 a0.voted),.d false 4 (encClaim a0.claims),.d false 6 (encPair a0.db),.d false 4 (encMove a0.moves),.s (.int .i64 a0.last),.d false 3 (encSeen a0.seen),.s (.int .i64 a0.feed.rid.node),.s (.int .i64 a0.feed.rid.epoch),.s (.int .i64 a0.feed.off),.d false 7 (encEffect a0.feed.back),.s (.int .i64 a0.feed.prev.node),.s (.int .i64 a0.feed.prev.epoch),.s (.int .i64 a0.feed.upto),.d false 1 (encI a0.watch.heard),.d false 1 (encLI a0.watch.says),.s (.int .i64 a0.asked),.d false 1 (encI a0.votes),.s (.int .i64 a0.wait)]] [] (.g [.s (.int .i64 r.count),.s (.int .i64 r.id),.s (.int .i64 r.master),.s (.int .i64 r.epoch),.s (.int .i64 r.voted),.d false 4 (encClaim r.claims),.d false 6 (encPair r.db),.r 0 4 0 r.moves.length,.s (.int .i64 r.last),.d false 3 (encSeen r.seen),.s (.int .i64 r.feed.rid.node),.s (.int .i64 r.feed.rid.epoch),.s (.int .i64 r.feed.off),.d false 7 (encEffect r.feed.back),.s (.int .i64 r.feed.prev.node),.s (.int .i64 r.feed.prev.epoch),.s (.int .i64 r.feed.upto),.d false 1 (encI r.watch.heard),.d false 1 (encLI r.watch.says),.s (.int .i64 r.asked),.d false 1 (encI r.votes),.s (.int .i64 r.wait)]) [some ⟨72,4,true,none,lvs (encMove r.moves)⟩]:=by
 unfold BK at h
 refine Sound.of_aw (fn:=Try.f59) (c:=_) Try.func59 rfl (by simp[Try.f59]) fun cx hG hnb=>?_
 rw[show Try.f59.ntmps=104 from rfl]
 have hn0:cx.nb=0:=hnb
 simp only[Al,initTm,List.map_cons,List.map_nil]
 apply AW.step
 ·simp
  intros;rfl
 replace h:=chkE h;obtain⟨e1,h⟩:=h
 replace h:=chkE h;obtain⟨e2,h⟩:=h
 replace h:=chkE h;obtain⟨e3,h⟩:=h
 replace h:=chkE h;obtain⟨e4,h⟩:=h
 apply AW.drawnE (V:=[_,_,_,_,_,_,_,_,_,_,_,_,_]) (M:=[[some ⟨69,22,false,none,[.s (.int .i64 a0.count),.s (.int .i64 a0.id),.s (.int .i64 a0.master),.s (.int .i64 a0.epoch),.s (.int .i64 a0.voted),.d false 4 (encClaim a0.claims),.d false 6 (encPair a0.db),.d false 4 (encMove a0.moves),.s (.int .i64 a0.last),.d false 3 (encSeen a0.seen),.s (.int .i64 a0.feed.rid.node),.s (.int .i64 a0.feed.rid.epoch),.s (.int .i64 a0.feed.off),.d false 7 (encEffect a0.feed.back),.s (.int .i64 a0.feed.prev.node),.s (.int .i64 a0.feed.prev.epoch),.s (.int .i64 a0.feed.upto),.d false 1 (encI a0.watch.heard),.d false 1 (encLI a0.watch.says),.s (.int .i64 a0.asked),.d false 1 (encI a0.votes),.s (.int .i64 a0.wait)]⟩,some ⟨69,22,false,none,[.s (.int .i64 0),.s (.int .i64 0),.s (.int .i64 0),.s (.int .i64 0),.s (.int .i64 0),.s (.slice none 0 0),.s (.slice none 0 0),.s (.slice none 0 0),.s (.int .i64 0),.s (.slice none 0 0),.s (.int .i64 0),.s (.int .i64 0),.s (.int .i64 0),.s (.slice none 0 0),.s (.int .i64 0),.s (.int .i64 0),.s (.int .i64 0),.s (.slice none 0 0),.s (.slice none 0 0),.s (.int .i64 0),.s (.slice none 0 0),.s (.int .i64 0)]⟩],[some ⟨69,22,false,none,[.s (.int .i64 a0.count),.s (.int .i64 a0.id),.s (.int .i64 a0.master),.s (.int .i64 a0.epoch),.s (.int .i64 a0.voted),.d false 4 (encClaim a0.claims),.d false 6 (encPair a0.db),.d false 4 (encMove a0.moves),.s (.int .i64 a0.last),.d false 3 (encSeen a0.seen),.s (.int .i64 a0.feed.rid.node),.s (.int .i64 a0.feed.rid.epoch),.s (.int .i64 a0.feed.off),.d false 7 (encEffect a0.feed.back),.s (.int .i64 a0.feed.prev.node),.s (.int .i64 a0.feed.prev.epoch),.s (.int .i64 a0.feed.upto),.d false 1 (encI a0.watch.heard),.d false 1 (encLI a0.watch.says),.s (.int .i64 a0.asked),.d false 1 (encI a0.votes),.s (.int .i64 a0.wait)]⟩,some ⟨69,22,false,none,[.s (.int .i64 0),.s (.int .i64 0),.s (.int .i64 0),.s (.int .i64 0),.s (.int .i64 0),.s (.slice none 0 0),.s (.slice none 0 0),.s (.slice none 0 0),.s (.int .i64 0),.s (.slice none 0 0),.s (.int .i64 0),.s (.int .i64 0),.s (.int .i64 0),.s (.slice none 0 0),.s (.int .i64 0),.s (.int .i64 0),.s (.int .i64 0),.s (.slice none 0 0),.s (.slice none 0 0),.s (.int .i64 0),.s (.slice none 0 0),.s (.int .i64 0)]⟩,some ⟨41,4,true,none,lvs (encClaim a0.claims)⟩],[some ⟨69,22,false,none,[.s (.int .i64 a0.count),.s (.int .i64 a0.id),.s (.int .i64 a0.master),.s (.int .i64 a0.epoch),.s (.int .i64 a0.voted),.d false 4 (encClaim a0.claims),.d false 6 (encPair a0.db),.d false 4 (encMove a0.moves),.s (.int .i64 a0.last),.d false 3 (encSeen a0.seen),.s (.int .i64 a0.feed.rid.node),.s (.int .i64 a0.feed.rid.epoch),.s (.int .i64 a0.feed.off),.d false 7 (encEffect a0.feed.back),.s (.int .i64 a0.feed.prev.node),.s (.int .i64 a0.feed.prev.epoch),.s (.int .i64 a0.feed.upto),.d false 1 (encI a0.watch.heard),.d false 1 (encLI a0.watch.says),.s (.int .i64 a0.asked),.d false 1 (encI a0.votes),.s (.int .i64 a0.wait)]⟩,some ⟨69,22,false,none,[.s (.int .i64 0),.s (.int .i64 0),.s (.int .i64 0),.s (.int .i64 0),.s (.int .i64 0),.s (.slice none 0 0),.s (.slice none 0 0),.s (.slice none 0 0),.s (.int .i64 0),.s (.slice none 0 0),.s (.int .i64 0),.s (.int .i64 0),.s (.int .i64 0),.s (.slice none 0 0),.s (.int .i64 0),.s (.int .i64 0),.s (.int .i64 0),.s (.slice none 0 0),.s (.slice none 0 0),.s (.int .i64 0),.s (.slice none 0 0),.s (.int .i64 0)]⟩,some ⟨41,4,true,none,lvs (encClaim a0.claims)⟩,some ⟨72,4,true,none,lvs (encMove a0.moves)⟩],[some ⟨69,22,false,none,[.s (.int .i64 a0.count),.s (.int .i64 a0.id),.s (.int .i64 a0.master),.s (.int .i64 a0.epoch),.s (.int .i64 a0.voted),.d false 4 (encClaim a0.claims),.d false 6 (encPair a0.db),.d false 4 (encMove a0.moves),.s (.int .i64 a0.last),.d false 3 (encSeen a0.seen),.s (.int .i64 a0.feed.rid.node),.s (.int .i64 a0.feed.rid.epoch),.s (.int .i64 a0.feed.off),.d false 7 (encEffect a0.feed.back),.s (.int .i64 a0.feed.prev.node),.s (.int .i64 a0.feed.prev.epoch),.s (.int .i64 a0.feed.upto),.d false 1 (encI a0.watch.heard),.d false 1 (encLI a0.watch.says),.s (.int .i64 a0.asked),.d false 1 (encI a0.votes),.s (.int .i64 a0.wait)]⟩,some ⟨69,22,false,none,[.s (.int .i64 0),.s (.int .i64 0),.s (.int .i64 0),.s (.int .i64 0),.s (.int .i64 0),.s (.slice none 0 0),.s (.slice none 0 0),.s (.slice none 0 0),.s (.int .i64 0),.s (.slice none 0 0),.s (.int .i64 0),.s (.int .i64 0),.s (.int .i64 0),.s (.slice none 0 0),.s (.int .i64 0),.s (.int .i64 0),.s (.int .i64 0),.s (.slice none 0 0),.s (.slice none 0 0),.s (.int .i64 0),.s (.slice none 0 0),.s (.int .i64 0)]⟩,some ⟨41,4,true,none,lvs (encClaim a0.claims)⟩,some ⟨72,4,true,none,lvs (encMove a0.moves)⟩,some ⟨131,3,true,none,lvs (encSeen a0.seen)⟩],[some ⟨69,22,false,none,[.s (.int .i64 a0.count),.s (.int .i64 a0.id),.s (.int .i64 a0.master),.s (.int .i64 a0.epoch),.s (.int .i64 a0.voted),.d false 4 (encClaim a0.claims),.d false 6 (encPair a0.db),.d false 4 (encMove a0.moves),.s (.int .i64 a0.last),.d false 3 (encSeen a0.seen),.s (.int .i64 a0.feed.rid.node),.s (.int .i64 a0.feed.rid.epoch),.s (.int .i64 a0.feed.off),.d false 7 (encEffect a0.feed.back),.s (.int .i64 a0.feed.prev.node),.s (.int .i64 a0.feed.prev.epoch),.s (.int .i64 a0.feed.upto),.d false 1 (encI a0.watch.heard),.d false 1 (encLI a0.watch.says),.s (.int .i64 a0.asked),.d false 1 (encI a0.votes),.s (.int .i64 a0.wait)]⟩,some ⟨69,22,false,none,[.s (.int .i64 0),.s (.int .i64 0),.s (.int .i64 0),.s (.int .i64 0),.s (.int .i64 0),.s (.slice none 0 0),.s (.slice none 0 0),.s (.slice none 0 0),.s (.int .i64 0),.s (.slice none 0 0),.s (.int .i64 0),.s (.int .i64 0),.s (.int .i64 0),.s (.slice none 0 0),.s (.int .i64 0),.s (.int .i64 0),.s (.int .i64 0),.s (.slice none 0 0),.s (.slice none 0 0),.s (.int .i64 0),.s (.slice none 0 0),.s (.int .i64 0)]⟩,some ⟨41,4,true,none,lvs (encClaim a0.claims)⟩,some ⟨72,4,true,none,lvs (encMove a0.moves)⟩,some ⟨131,3,true,none,lvs (encSeen a0.seen)⟩,some ⟨3,1,true,none,lvs (encI a0.votes)⟩]]) mixed [⟨[0],[],[(1,none)],false⟩,⟨[0],[0],[(7,some 0)],false⟩,⟨[0],[0,1],[(8,some 1)],true⟩,⟨[0,1],[],[(1,none)],false⟩,⟨[0,1],[3],[(10,some 3)],false⟩,⟨[1],[0,1,2,3,4],[(11,some 4)],true⟩,⟨[0,1,2],[],[(1,none)],false⟩,⟨[0,1,2],[6],[(13,some 6)],false⟩,⟨[2],[0,1,2,3,4,5,6,7],[(14,some 7)],true⟩,⟨[0,1,2,3],[],[(1,none)],false⟩,⟨[0,1,2,3],[9],[(16,some 9)],false⟩,⟨[3],[0,1,2,3,4,5,6,7,8,9,10],[(17,some 10)],true⟩,⟨[1,2,3,4],[0,1,2,3,4,6,7,9,10],[(1,none)],false⟩,⟨[],[0,1,2,3,4,5,6,7,8,9,10,11,12],[],false⟩,⟨[],[0,1,2,3,4,5,6,7,8,9,10,11,12,13],[],false⟩,⟨[],[0,1,2,3,4,5,6,7,8,9,10,11,12,13,14],[],false⟩,⟨[],[0,1,2,3,4,5,6,7,8,9,10,11,12,13,14,15],[],false⟩,⟨[],[0,1,2,3,4,5,6,7,8,9,10,11,12,13,14,15,16],[],false⟩,⟨[],[0,1,2,3,4,5,6,7,8,9,10,11,12,13,14,15,16,17],[],false⟩,⟨[],[0,1,2,3,4,5,6,7,8,9,10,11,12,13,14,15,16,17,18],[],false⟩] 13 4 (by kernel_rfl) (by kernel_rfl)
 ·rfl
 ·refine⟨?_,?_,?_,⟨?_,?_⟩,⟨?_,?_⟩,?_,⟨?_,?_,?_⟩,⟨?_,?_,?_⟩,?_,⟨?_,?_,?_,?_⟩,⟨?_,?_,?_,?_⟩,?_,⟨?_,?_,?_,?_⟩,trivial⟩
  iterate 2 (· intro tm hr;simp[AllL,rdV] at hr;simp[hr,outR];intros;first|exact KD.mk|exact KD.mkN)
  ·intro tm hr
   simp[AllL,rdV] at hr
   simp[hr,outR]
   intros
   refine Aw Fl (FT a0.claims (AP e1)) rfl (by simp) ⟨.d _ _ _,trivial⟩ ?_
   try simp[outR]
   intros;first|exact KD.mk|exact KD.mkN
  iterate 4 (· intro tm hr;simp[AllL,rdV] at hr;simp[hr,outR];intros;first|exact KD.mk|exact KD.mkN)
  ·intro tm hr
   simp[AllL,rdV] at hr
   simp[hr,outR]
   intros
   refine Aw FV (GK a0.moves (AP e2)) rfl (by simp) ⟨.d _ _ _,trivial⟩ ?_
   try simp[outR]
   intros;first|exact KD.mk|exact KD.mkN
  iterate 6 (· intro tm hr;simp[AllL,rdV] at hr;simp[hr,outR];intros;first|exact KD.mk|exact KD.mkN)
  ·intro tm hr
   simp[AllL,rdV] at hr
   simp[hr,outR]
   intros
   refine Aw FX (GM a0.seen (AP e3)) rfl (by simp) ⟨.d _ _ _,trivial⟩ ?_
   try simp[outR]
   intros;first|exact KD.mk|exact KD.mkN
  iterate 8 (· intro tm hr;simp[AllL,rdV] at hr;simp[hr,outR];intros;first|exact KD.mk|exact KD.mkN)
  ·intro tm hr
   simp[AllL,rdV] at hr
   simp[hr,outR]
   intros
   refine Aw DE (E1 a0.votes (AP e4)) rfl (by simp) ⟨.d _ _ _,trivial⟩ ?_
   try simp[outR]
   intros;first|exact KD.mk|exact KD.mkN
  iterate 4 (· intro tm hr;simp[AllL,rdV] at hr;simp[hr,outR];intros;first|exact KD.mk|exact KD.mkN)
 ·rfl
 ·simp[tmD,putD,outR];rfl
 ·simp[outR]
  intros;rfl
 replace h:=chkE h;obtain⟨e5,h⟩:=h
 replace h:=chkE h;obtain⟨e6,h⟩:=h
 apply AW.drawnE (V:=[_,_,_,_,_,_,_,_]) (M:=[[some ⟨69,22,false,none,[.s (.int .i64 a0.count),.s (.int .i64 a0.id),.s (.int .i64 a0.master),.s (.int .i64 a0.epoch),.s (.int .i64 a0.voted),.r 2 4 0 a0.claims.length,.d false 6 (encPair a0.db),.r 3 4 0 a0.moves.length,.s (.int .i64 a0.last),.r 4 3 0 a0.seen.length,.s (.int .i64 a0.feed.rid.node),.s (.int .i64 a0.feed.rid.epoch),.s (.int .i64 a0.feed.off),.d false 7 (encEffect a0.feed.back),.s (.int .i64 a0.feed.prev.node),.s (.int .i64 a0.feed.prev.epoch),.s (.int .i64 a0.feed.upto),.d false 1 (encI a0.watch.heard),.d false 1 (encLI a0.watch.says),.s (.int .i64 a0.asked),.r 5 1 0 a0.votes.length,.s (.int .i64 a0.wait)]⟩,some ⟨69,22,false,none,[.s (.int .i64 0),.s (.int .i64 0),.s (.int .i64 0),.s (.int .i64 0),.s (.int .i64 0),.s (.slice none 0 0),.s (.slice none 0 0),.s (.slice none 0 0),.s (.int .i64 0),.s (.slice none 0 0),.s (.int .i64 0),.s (.int .i64 0),.s (.int .i64 0),.s (.slice none 0 0),.s (.int .i64 0),.s (.int .i64 0),.s (.int .i64 0),.s (.slice none 0 0),.s (.slice none 0 0),.s (.int .i64 0),.s (.slice none 0 0),.s (.int .i64 0)]⟩,some ⟨41,4,true,none,lvs (encClaim a0.claims)⟩,some ⟨72,4,true,none,lvs (encMove a0.moves)⟩,some ⟨131,3,true,none,lvs (encSeen a0.seen)⟩,some ⟨3,1,true,none,lvs (encI a0.votes)⟩],[some ⟨69,22,false,none,[.s (.int .i64 a0.count),.s (.int .i64 a0.id),.s (.int .i64 a0.master),.s (.int .i64 a0.epoch),.s (.int .i64 a0.voted),.r 2 4 0 a0.claims.length,.d false 6 (encPair a0.db),.r 3 4 0 a0.moves.length,.s (.int .i64 a0.last),.r 4 3 0 a0.seen.length,.s (.int .i64 a0.feed.rid.node),.s (.int .i64 a0.feed.rid.epoch),.s (.int .i64 a0.feed.off),.d false 7 (encEffect a0.feed.back),.s (.int .i64 a0.feed.prev.node),.s (.int .i64 a0.feed.prev.epoch),.s (.int .i64 a0.feed.upto),.d false 1 (encI a0.watch.heard),.d false 1 (encLI a0.watch.says),.s (.int .i64 a0.asked),.r 5 1 0 a0.votes.length,.s (.int .i64 a0.wait)]⟩,some ⟨69,22,false,none,[.s (.int .i64 0),.s (.int .i64 0),.s (.int .i64 0),.s (.int .i64 0),.s (.int .i64 0),.s (.slice none 0 0),.s (.slice none 0 0),.s (.slice none 0 0),.s (.int .i64 0),.s (.slice none 0 0),.s (.int .i64 0),.s (.int .i64 0),.s (.int .i64 0),.s (.slice none 0 0),.s (.int .i64 0),.s (.int .i64 0),.s (.int .i64 0),.s (.slice none 0 0),.s (.slice none 0 0),.s (.int .i64 0),.s (.slice none 0 0),.s (.int .i64 0)]⟩,some ⟨41,4,true,none,lvs (encClaim a0.claims)⟩,some ⟨72,4,true,none,lvs (encMove a0.moves)⟩,some ⟨131,3,true,none,lvs (encSeen a0.seen)⟩,some ⟨3,1,true,none,lvs (encI a0.votes)⟩,some ⟨138,6,true,none,lvs (encPair a0.db)⟩],[some ⟨69,22,false,none,[.s (.int .i64 a0.count),.s (.int .i64 a0.id),.s (.int .i64 a0.master),.s (.int .i64 a0.epoch),.s (.int .i64 a0.voted),.r 2 4 0 a0.claims.length,.d false 6 (encPair a0.db),.r 3 4 0 a0.moves.length,.s (.int .i64 a0.last),.r 4 3 0 a0.seen.length,.s (.int .i64 a0.feed.rid.node),.s (.int .i64 a0.feed.rid.epoch),.s (.int .i64 a0.feed.off),.d false 7 (encEffect a0.feed.back),.s (.int .i64 a0.feed.prev.node),.s (.int .i64 a0.feed.prev.epoch),.s (.int .i64 a0.feed.upto),.d false 1 (encI a0.watch.heard),.d false 1 (encLI a0.watch.says),.s (.int .i64 a0.asked),.r 5 1 0 a0.votes.length,.s (.int .i64 a0.wait)]⟩,some ⟨69,22,false,none,[.s (.int .i64 0),.s (.int .i64 0),.s (.int .i64 0),.s (.int .i64 0),.s (.int .i64 0),.s (.slice none 0 0),.s (.slice none 0 0),.s (.slice none 0 0),.s (.int .i64 0),.s (.slice none 0 0),.s (.int .i64 0),.s (.int .i64 0),.s (.int .i64 0),.s (.slice none 0 0),.s (.int .i64 0),.s (.int .i64 0),.s (.int .i64 0),.s (.slice none 0 0),.s (.slice none 0 0),.s (.int .i64 0),.s (.slice none 0 0),.s (.int .i64 0)]⟩,some ⟨41,4,true,none,lvs (encClaim a0.claims)⟩,some ⟨72,4,true,none,lvs (encMove a0.moves)⟩,some ⟨131,3,true,none,lvs (encSeen a0.seen)⟩,some ⟨3,1,true,none,lvs (encI a0.votes)⟩,some ⟨138,6,true,none,lvs (encPair a0.db)⟩,some ⟨141,7,true,none,lvs (encEffect a0.feed.back)⟩]]) mixed [⟨[0],[],[(1,none)],false⟩,⟨[0],[0],[(23,some 0)],false⟩,⟨[0],[0,1],[(24,some 1)],true⟩,⟨[0,1],[],[(1,none)],false⟩,⟨[0,1],[3],[(26,some 3)],false⟩,⟨[0,1],[3,4],[(27,some 4)],false⟩,⟨[1],[0,1,2,3,4,5],[(28,some 5)],true⟩,⟨[1,2],[0,1,2,3,4,5],[(1,none)],false⟩,⟨[],[0,1,2,3,4,5,6,7],[],false⟩,⟨[],[0,1,2,3,4,5,6,7,8],[],false⟩,⟨[],[0,1,2,3,4,5,6,7,8,9],[],false⟩,⟨[],[0,1,2,3,4,5,6,7,8,9,10],[],false⟩] 8 2 (by kernel_rfl) (by kernel_rfl)
 ·rfl
 ·refine⟨?_,?_,?_,⟨?_,?_⟩,⟨?_,?_⟩,⟨?_,?_⟩,?_,⟨?_,?_⟩,trivial⟩
  iterate 2 (· intro tm hr;simp[AllL,rdV] at hr;simp[hr,outR];intros;first|exact KD.mk|exact KD.mkN)
  ·intro tm hr
   simp[AllL,rdV] at hr
   simp[hr,outR]
   intros
   refine Aw FW (GL a0.db (AP e5)) rfl (by simp) ⟨.same rfl,trivial⟩ ?_
   try simp[outR]
   intros;first|exact KD.mk|exact KD.mkN
  iterate 6 (· intro tm hr;simp[AllL,rdV] at hr;simp[hr,outR];intros;first|exact KD.mk|exact KD.mkN)
  ·intro tm hr
   simp[AllL,rdV] at hr
   simp[hr,outR]
   intros
   refine Aw E0 (Fm a0.feed.back (AP e6)) rfl (by simp) ⟨.same rfl,trivial⟩ ?_
   try simp[outR]
   intros;first|exact KD.mk|exact KD.mkN
  iterate 2 (· intro tm hr;simp[AllL,rdV] at hr;simp[hr,outR];intros;first|exact KD.mk|exact KD.mkN)
 ·rfl
 ·simp[tmD,putD,outR];rfl
 ·simp[outR]
  intros;rfl
 refine AW.seq ?_
 replace h:=ltE h;obtain⟨v7,e7,h⟩:=h
 apply AW.step
 ·simp[Aj e7]
  intros;rfl
 refine AW.block ?_
 replace h:=bnE h;obtain⟨y9,g9,h⟩:=h
 refine AW.iterP g9 (mk:=fun gh ls q=>(⟨[(1,.l (.p 0 0)),(2,.l (.p 1 0)),(35,.l (.s (.int .i64 v7))),(36,.l (.s (.int .i64 q.1)))],[some ⟨69,22,false,none,[.s (.int .i64 a0.count),.s (.int .i64 a0.id),.s (.int .i64 a0.master),.s (.int .i64 a0.epoch),.s (.int .i64 a0.voted),.r 2 4 0 a0.claims.length,.r 3 6 0 q.2.length,.r 4 4 0 a0.moves.length,.s (.int .i64 a0.last),.r 5 3 0 a0.seen.length,.s (.int .i64 a0.feed.rid.node),.s (.int .i64 a0.feed.rid.epoch),.s (.int .i64 a0.feed.off),.r 6 7 0 a0.feed.back.length,.s (.int .i64 a0.feed.prev.node),.s (.int .i64 a0.feed.prev.epoch),.s (.int .i64 a0.feed.upto),.d false 1 (encI a0.watch.heard),.d false 1 (encLI a0.watch.says),.s (.int .i64 a0.asked),.r 7 1 0 a0.votes.length,.s (.int .i64 a0.wait)]⟩,some ⟨69,22,false,none,[.s (.int .i64 0),.s (.int .i64 0),.s (.int .i64 0),.s (.int .i64 0),.s (.int .i64 0),.s (.slice none 0 0),.s (.slice none 0 0),.s (.slice none 0 0),.s (.int .i64 0),.s (.slice none 0 0),.s (.int .i64 0),.s (.int .i64 0),.s (.int .i64 0),.s (.slice none 0 0),.s (.int .i64 0),.s (.int .i64 0),.s (.int .i64 0),.s (.slice none 0 0),.s (.slice none 0 0),.s (.int .i64 0),.s (.slice none 0 0),.s (.int .i64 0)]⟩,some ⟨41,4,true,none,lvs (encClaim a0.claims)⟩,some ⟨138,6,true,none,lvs (encPair q.2)⟩,some ⟨72,4,true,none,lvs (encMove a0.moves)⟩,some ⟨131,3,true,none,lvs (encSeen a0.seen)⟩,some ⟨141,7,true,none,lvs (encEffect a0.feed.back)⟩,some ⟨3,1,true,none,lvs (encI a0.votes)⟩],104,gh,ls⟩:St)) (N:=fun gh ls=>(xP 0 (cx:=cx) (fun q=>(⟨[(1,.l (.p 0 0)),(2,.l (.p 1 0))],[some ⟨69,22,false,none,[.s (.int .i64 a0.count),.s (.int .i64 a0.id),.s (.int .i64 a0.master),.s (.int .i64 a0.epoch),.s (.int .i64 a0.voted),.r 2 4 0 a0.claims.length,.r 3 6 0 q.length,.r 4 4 0 a0.moves.length,.s (.int .i64 a0.last),.r 5 3 0 a0.seen.length,.s (.int .i64 a0.feed.rid.node),.s (.int .i64 a0.feed.rid.epoch),.s (.int .i64 a0.feed.off),.r 6 7 0 a0.feed.back.length,.s (.int .i64 a0.feed.prev.node),.s (.int .i64 a0.feed.prev.epoch),.s (.int .i64 a0.feed.upto),.d false 1 (encI a0.watch.heard),.d false 1 (encLI a0.watch.says),.s (.int .i64 a0.asked),.r 7 1 0 a0.votes.length,.s (.int .i64 a0.wait)]⟩,some ⟨69,22,false,none,[.s (.int .i64 0),.s (.int .i64 0),.s (.int .i64 0),.s (.int .i64 0),.s (.int .i64 0),.s (.slice none 0 0),.s (.slice none 0 0),.s (.slice none 0 0),.s (.int .i64 0),.s (.slice none 0 0),.s (.int .i64 0),.s (.int .i64 0),.s (.int .i64 0),.s (.slice none 0 0),.s (.int .i64 0),.s (.int .i64 0),.s (.int .i64 0),.s (.slice none 0 0),.s (.slice none 0 0),.s (.int .i64 0),.s (.slice none 0 0),.s (.int .i64 0)]⟩,some ⟨41,4,true,none,lvs (encClaim a0.claims)⟩,some ⟨138,6,true,none,lvs (encPair q)⟩,some ⟨72,4,true,none,lvs (encMove a0.moves)⟩,some ⟨131,3,true,none,lvs (encSeen a0.seen)⟩,some ⟨141,7,true,none,lvs (encEffect a0.feed.back)⟩,some ⟨3,1,true,none,lvs (encI a0.votes)⟩],104,gh,ls⟩:St)))) ?_ noX ?_ ?_
 ·refine Weak.mixN [some 0,some 1,some 2,some 6,some 3,some 4,some 7,some 5] hn0 (by decide) ?_ ?_ rfl
  all_goals first|(simp[Ac,Ae,pickOb];done)|rfl
 ·clear h;intro y8 y10 h
  replace h:=ltE h;obtain⟨v11,e11,h⟩:=h
  apply AW.step
  ·simp[← e11]
   intros;rfl
  refine AW.seq ?_
  cases v11 with
  |true =>
   replace h:=iteT rfl h
   refine AW.cond_true (by simp) ?_
   refine AW.skip ?_
   try simp only[nm]
   refine AW.seq ?_
   refine AW.block ?_
   apply AW.step
   ·simp
    intros;rfl
   replace h:=bnE h;obtain⟨v12,e12,h⟩:=h
   have f13:=Ai e12
   try simp[Aa e12] at f13
   replace h:=bnE h;obtain⟨v14,e14,h⟩:=h
   have f15:=Ai e12
   try simp[Aa e12,f13,A4 (Aa e12).2 (j:=1) (k:=5) (by decide),AT (Aa e12).2 (j:=1) (m:=5) (by decide),lvs1] at f15
   replace h:=ltE h;obtain⟨v16,e16,h⟩:=h
   have f17:=Fj (Aa e12).2 e16 (j:=1) (cs:=[.s (.int .i64 v14.kind),.s (.string v14.s),.d false 2 (encField v14.f),.d false 1 (encS v14.l),.s (.int .i64 v14.exp)]) (by simp) rfl
   try simp at f17
   have f18:=f13
   try simp only[Af e16] at f18
   have f19:=f15
   try simp only[Af e16] at f19
   apply AW.drawnR (V:=[_,_,_,_,_,_,_,_,_,_]) mixed DZ2t1 10 (by kernel_rfl) (by kernel_rfl)
   ·refine⟨?_,?_,?_,?_,?_,?_,?_,?_,?_,?_,trivial⟩
    iterate 9 (· intro tm hr;simp[AllL,rdV] at hr;simp[hr,Aa e12,f13,A4 (Aa e12).2 (j:=1) (k:=5) (by decide),AT (Aa e12).2 (j:=1) (m:=5) (by decide),lvs1,f15,f17,f18,f19];intros;first|exact KD.mk|exact KD.mkN)
    ·intro tm hr
     simp[AllL,rdV] at hr
     simp[hr,Aa e12,f13,A4 (Aa e12).2 (j:=1) (k:=5) (by decide),AT (Aa e12).2 (j:=1) (m:=5) (by decide),lvs1,f15,f17,f18,f19]
     intros
     refine Ag CC (CZ e14) rfl ⟨.same rfl,trivial⟩ ?_
     try simp[Aa e12,f13,A4 (Aa e12).2 (j:=1) (k:=5) (by decide),AT (Aa e12).2 (j:=1) (m:=5) (by decide),lvs1,f15,f17,f18,f19]
     intros;first|exact KD.mk|exact KD.mkN
   ·rfl
   ·simp[tmD,putD,Aa e12,f13,A4 (Aa e12).2 (j:=1) (k:=5) (by decide),AT (Aa e12).2 (j:=1) (m:=5) (by decide),lvs1,f15,f17,f18,f19];rfl
   ·simp[Aa e12,f13,A4 (Aa e12).2 (j:=1) (k:=5) (by decide),AT (Aa e12).2 (j:=1) (m:=5) (by decide),lvs1,f15,f17,f18,f19]
    intros;rfl
   try simp only[nm]
   replace h:=ltE h;obtain⟨v20,e20,h⟩:=h
   apply AW.last
   ·simp[← e20]
    intros;rfl
   obtain rfl:=oi h
   refine nP_i ?_
   refine Weak.mixN [some 0,some 1,some 2,some 3,some 4,some 5,some 6,some 7] hn0 (by decide) ?_ ?_ rfl
   all_goals first|(simp[Ac,Ae,pickOb,Af e16];done)|rfl
  |false =>
   replace h:=iteF rfl h
   refine AW.cond_false (by simp) ?_
   refine AW.exit ?_
   try simp only[nm]
   obtain rfl:=oi h
   refine xP_i ?_
   refine Weak.mixN [some 0,some 1,some 2,some 3,some 4,some 5,some 6,some 7] hn0 (by decide) ?_ ?_ rfl
   all_goals first|(simp[Ac,Ae,pickOb];done)|rfl
 ·rintro e s hp
  obtain⟨rfl,hw⟩:=hp
  refine⟨_,hw,?_⟩
  try simp only[nm]
  refine AW.seq ?_
  replace h:=ltE h;obtain⟨v21,e21,h⟩:=h
  apply AW.step
  ·simp[Aj e21]
   intros;rfl
  refine AW.block ?_
  replace h:=bnE h;obtain⟨y23,g23,h⟩:=h
  refine AW.iterP g23 (mk:=fun gh ls q=>(⟨[(1,.l (.p 0 0)),(2,.l (.p 1 0)),(55,.l (.s (.int .i64 v21))),(56,.l (.s (.int .i64 q.1)))],[some ⟨69,22,false,none,[.s (.int .i64 a0.count),.s (.int .i64 a0.id),.s (.int .i64 a0.master),.s (.int .i64 a0.epoch),.s (.int .i64 a0.voted),.r 2 4 0 a0.claims.length,.r 3 6 0 y9.length,.r 4 4 0 a0.moves.length,.s (.int .i64 a0.last),.r 5 3 0 a0.seen.length,.s (.int .i64 a0.feed.rid.node),.s (.int .i64 a0.feed.rid.epoch),.s (.int .i64 a0.feed.off),.r 6 7 0 q.2.length,.s (.int .i64 a0.feed.prev.node),.s (.int .i64 a0.feed.prev.epoch),.s (.int .i64 a0.feed.upto),.d false 1 (encI a0.watch.heard),.d false 1 (encLI a0.watch.says),.s (.int .i64 a0.asked),.r 7 1 0 a0.votes.length,.s (.int .i64 a0.wait)]⟩,some ⟨69,22,false,none,[.s (.int .i64 0),.s (.int .i64 0),.s (.int .i64 0),.s (.int .i64 0),.s (.int .i64 0),.s (.slice none 0 0),.s (.slice none 0 0),.s (.slice none 0 0),.s (.int .i64 0),.s (.slice none 0 0),.s (.int .i64 0),.s (.int .i64 0),.s (.int .i64 0),.s (.slice none 0 0),.s (.int .i64 0),.s (.int .i64 0),.s (.int .i64 0),.s (.slice none 0 0),.s (.slice none 0 0),.s (.int .i64 0),.s (.slice none 0 0),.s (.int .i64 0)]⟩,some ⟨41,4,true,none,lvs (encClaim a0.claims)⟩,some ⟨138,6,true,none,lvs (encPair y9)⟩,some ⟨72,4,true,none,lvs (encMove a0.moves)⟩,some ⟨131,3,true,none,lvs (encSeen a0.seen)⟩,some ⟨141,7,true,none,lvs (encEffect q.2)⟩,some ⟨3,1,true,none,lvs (encI a0.votes)⟩],104,gh,ls⟩:St)) (N:=fun gh ls=>(xP 2 (cx:=cx) (fun q=>(⟨[(1,.l (.p 0 0)),(2,.l (.p 1 0))],[some ⟨69,22,false,none,[.s (.int .i64 a0.count),.s (.int .i64 a0.id),.s (.int .i64 a0.master),.s (.int .i64 a0.epoch),.s (.int .i64 a0.voted),.r 2 4 0 a0.claims.length,.r 3 6 0 y9.length,.r 4 4 0 a0.moves.length,.s (.int .i64 a0.last),.r 5 3 0 a0.seen.length,.s (.int .i64 a0.feed.rid.node),.s (.int .i64 a0.feed.rid.epoch),.s (.int .i64 a0.feed.off),.r 6 7 0 q.length,.s (.int .i64 a0.feed.prev.node),.s (.int .i64 a0.feed.prev.epoch),.s (.int .i64 a0.feed.upto),.d false 1 (encI a0.watch.heard),.d false 1 (encLI a0.watch.says),.s (.int .i64 a0.asked),.r 7 1 0 a0.votes.length,.s (.int .i64 a0.wait)]⟩,some ⟨69,22,false,none,[.s (.int .i64 0),.s (.int .i64 0),.s (.int .i64 0),.s (.int .i64 0),.s (.int .i64 0),.s (.slice none 0 0),.s (.slice none 0 0),.s (.slice none 0 0),.s (.int .i64 0),.s (.slice none 0 0),.s (.int .i64 0),.s (.int .i64 0),.s (.int .i64 0),.s (.slice none 0 0),.s (.int .i64 0),.s (.int .i64 0),.s (.int .i64 0),.s (.slice none 0 0),.s (.slice none 0 0),.s (.int .i64 0),.s (.slice none 0 0),.s (.int .i64 0)]⟩,some ⟨41,4,true,none,lvs (encClaim a0.claims)⟩,some ⟨138,6,true,none,lvs (encPair y9)⟩,some ⟨72,4,true,none,lvs (encMove a0.moves)⟩,some ⟨131,3,true,none,lvs (encSeen a0.seen)⟩,some ⟨141,7,true,none,lvs (encEffect q)⟩,some ⟨3,1,true,none,lvs (encI a0.votes)⟩],104,gh,ls⟩:St)))) ?_ noX ?_ ?_
  ·refine Weak.mixN [some 0,some 1,some 2,some 3,some 4,some 5,some 6,some 7] hn0 (by decide) ?_ ?_ rfl
   all_goals first|(simp[Ac,Ae,pickOb];done)|rfl
  ·clear h;intro y22 y24 h
   replace h:=ltE h;obtain⟨v25,e25,h⟩:=h
   apply AW.step
   ·simp[← e25]
    intros;rfl
   refine AW.seq ?_
   cases v25 with
   |true =>
    replace h:=iteT rfl h
    refine AW.cond_true (by simp) ?_
    refine AW.skip ?_
    try simp only[nm]
    refine AW.seq ?_
    refine AW.block ?_
    apply AW.step
    ·simp
     intros;rfl
    replace h:=bnE h;obtain⟨v26,e26,h⟩:=h
    have f27:=Ai e26
    try simp[Aa e26] at f27
    replace h:=bnE h;obtain⟨v28,e28,h⟩:=h
    have f29:=Ai e26
    try simp[Aa e26,f27,AN (Aa e26).2 (j:=2) (k:=5) (by decide),AK (Aa e26).2 (j:=2) (m:=5) (by decide),lvs1] at f29
    replace h:=ltE h;obtain⟨v30,e30,h⟩:=h
    have f31:=EG (Aa e26).2 e30 (j:=2) (cs:=[.s (.int .i64 v28.kind),.s (.string v28.s),.d false 2 (encField v28.f),.d false 1 (encS v28.l),.s (.int .i64 v28.exp)]) (by simp) rfl
    try simp at f31
    have f32:=f27
    try simp only[Af e30] at f32
    have f33:=f29
    try simp only[Af e30] at f33
    apply AW.drawnR (V:=[_,_,_,_,_,_,_,_,_,_,_,_]) mixed DZ2t2 12 (by kernel_rfl) (by kernel_rfl)
    ·refine⟨?_,?_,?_,?_,?_,?_,?_,?_,?_,?_,?_,?_,trivial⟩
     iterate 11 (· intro tm hr;simp[AllL,rdV] at hr;simp[hr,Aa e26,f27,AN (Aa e26).2 (j:=2) (k:=5) (by decide),AK (Aa e26).2 (j:=2) (m:=5) (by decide),lvs1,f29,f31,f32,f33];intros;first|exact KD.mk|exact KD.mkN)
     ·intro tm hr
      simp[AllL,rdV] at hr
      simp[hr,Aa e26,f27,AN (Aa e26).2 (j:=2) (k:=5) (by decide),AK (Aa e26).2 (j:=2) (m:=5) (by decide),lvs1,f29,f31,f32,f33]
      intros
      refine Ag CC (CZ e28) rfl ⟨.same rfl,trivial⟩ ?_
      try simp[Aa e26,f27,AN (Aa e26).2 (j:=2) (k:=5) (by decide),AK (Aa e26).2 (j:=2) (m:=5) (by decide),lvs1,f29,f31,f32,f33]
      intros;first|exact KD.mk|exact KD.mkN
    ·rfl
    ·simp[tmD,putD,Aa e26,f27,AN (Aa e26).2 (j:=2) (k:=5) (by decide),AK (Aa e26).2 (j:=2) (m:=5) (by decide),lvs1,f29,f31,f32,f33];rfl
    ·simp[Aa e26,f27,AN (Aa e26).2 (j:=2) (k:=5) (by decide),AK (Aa e26).2 (j:=2) (m:=5) (by decide),lvs1,f29,f31,f32,f33]
     intros;rfl
    try simp only[nm]
    replace h:=ltE h;obtain⟨v34,e34,h⟩:=h
    apply AW.last
    ·simp[← e34]
     intros;rfl
    obtain rfl:=oi h
    refine nP_i ?_
    refine Weak.mixN [some 0,some 1,some 2,some 3,some 4,some 5,some 6,some 7] hn0 (by decide) ?_ ?_ rfl
    all_goals first|(simp[Ac,Ae,pickOb,Af e30];done)|rfl
   |false =>
    replace h:=iteF rfl h
    refine AW.cond_false (by simp) ?_
    refine AW.exit ?_
    try simp only[nm]
    obtain rfl:=oi h
    refine xP_i ?_
    refine Weak.mixN [some 0,some 1,some 2,some 3,some 4,some 5,some 6,some 7] hn0 (by decide) ?_ ?_ rfl
    all_goals first|(simp[Ac,Ae,pickOb];done)|rfl
  ·rintro e s hp
   obtain⟨rfl,hw⟩:=hp
   refine⟨_,hw,?_⟩
   try simp only[nm]
   replace h:=chkE h;obtain⟨e35,h⟩:=h
   replace h:=chkE h;obtain⟨e36,h⟩:=h
   apply AW.drawnE (V:=[_,_,_,_,_,_,_,_,_,_]) (M:=[[some ⟨69,22,false,none,[.s (.int .i64 a0.count),.s (.int .i64 a0.id),.s (.int .i64 a0.master),.s (.int .i64 a0.epoch),.s (.int .i64 a0.voted),.r 2 4 0 a0.claims.length,.r 3 6 0 y9.length,.r 4 4 0 a0.moves.length,.s (.int .i64 a0.last),.r 5 3 0 a0.seen.length,.s (.int .i64 a0.feed.rid.node),.s (.int .i64 a0.feed.rid.epoch),.s (.int .i64 a0.feed.off),.r 6 7 0 y23.length,.s (.int .i64 a0.feed.prev.node),.s (.int .i64 a0.feed.prev.epoch),.s (.int .i64 a0.feed.upto),.d false 1 (encI a0.watch.heard),.d false 1 (encLI a0.watch.says),.s (.int .i64 a0.asked),.r 7 1 0 a0.votes.length,.s (.int .i64 a0.wait)]⟩,some ⟨69,22,false,none,[.s (.int .i64 0),.s (.int .i64 0),.s (.int .i64 0),.s (.int .i64 0),.s (.int .i64 0),.s (.slice none 0 0),.s (.slice none 0 0),.s (.slice none 0 0),.s (.int .i64 0),.s (.slice none 0 0),.s (.int .i64 0),.s (.int .i64 0),.s (.int .i64 0),.s (.slice none 0 0),.s (.int .i64 0),.s (.int .i64 0),.s (.int .i64 0),.s (.slice none 0 0),.s (.slice none 0 0),.s (.int .i64 0),.s (.slice none 0 0),.s (.int .i64 0)]⟩,some ⟨41,4,true,none,lvs (encClaim a0.claims)⟩,some ⟨138,6,true,none,lvs (encPair y9)⟩,some ⟨72,4,true,none,lvs (encMove a0.moves)⟩,some ⟨131,3,true,none,lvs (encSeen a0.seen)⟩,some ⟨141,7,true,none,lvs (encEffect y23)⟩,some ⟨3,1,true,none,lvs (encI a0.votes)⟩],[some ⟨69,22,false,none,[.s (.int .i64 a0.count),.s (.int .i64 a0.id),.s (.int .i64 a0.master),.s (.int .i64 a0.epoch),.s (.int .i64 a0.voted),.r 2 4 0 a0.claims.length,.r 3 6 0 y9.length,.r 4 4 0 a0.moves.length,.s (.int .i64 a0.last),.r 5 3 0 a0.seen.length,.s (.int .i64 a0.feed.rid.node),.s (.int .i64 a0.feed.rid.epoch),.s (.int .i64 a0.feed.off),.r 6 7 0 y23.length,.s (.int .i64 a0.feed.prev.node),.s (.int .i64 a0.feed.prev.epoch),.s (.int .i64 a0.feed.upto),.d false 1 (encI a0.watch.heard),.d false 1 (encLI a0.watch.says),.s (.int .i64 a0.asked),.r 7 1 0 a0.votes.length,.s (.int .i64 a0.wait)]⟩,some ⟨69,22,false,none,[.s (.int .i64 0),.s (.int .i64 0),.s (.int .i64 0),.s (.int .i64 0),.s (.int .i64 0),.s (.slice none 0 0),.s (.slice none 0 0),.s (.slice none 0 0),.s (.int .i64 0),.s (.slice none 0 0),.s (.int .i64 0),.s (.int .i64 0),.s (.int .i64 0),.s (.slice none 0 0),.s (.int .i64 0),.s (.int .i64 0),.s (.int .i64 0),.s (.slice none 0 0),.s (.slice none 0 0),.s (.int .i64 0),.s (.slice none 0 0),.s (.int .i64 0)]⟩,some ⟨41,4,true,none,lvs (encClaim a0.claims)⟩,some ⟨138,6,true,none,lvs (encPair y9)⟩,some ⟨72,4,true,none,lvs (encMove a0.moves)⟩,some ⟨131,3,true,none,lvs (encSeen a0.seen)⟩,some ⟨141,7,true,none,lvs (encEffect y23)⟩,some ⟨3,1,true,none,lvs (encI a0.votes)⟩,some ⟨3,1,true,none,lvs (encI a0.watch.heard)⟩],[some ⟨69,22,false,none,[.s (.int .i64 a0.count),.s (.int .i64 a0.id),.s (.int .i64 a0.master),.s (.int .i64 a0.epoch),.s (.int .i64 a0.voted),.r 2 4 0 a0.claims.length,.r 3 6 0 y9.length,.r 4 4 0 a0.moves.length,.s (.int .i64 a0.last),.r 5 3 0 a0.seen.length,.s (.int .i64 a0.feed.rid.node),.s (.int .i64 a0.feed.rid.epoch),.s (.int .i64 a0.feed.off),.r 6 7 0 y23.length,.s (.int .i64 a0.feed.prev.node),.s (.int .i64 a0.feed.prev.epoch),.s (.int .i64 a0.feed.upto),.d false 1 (encI a0.watch.heard),.d false 1 (encLI a0.watch.says),.s (.int .i64 a0.asked),.r 7 1 0 a0.votes.length,.s (.int .i64 a0.wait)]⟩,some ⟨69,22,false,none,[.s (.int .i64 0),.s (.int .i64 0),.s (.int .i64 0),.s (.int .i64 0),.s (.int .i64 0),.s (.slice none 0 0),.s (.slice none 0 0),.s (.slice none 0 0),.s (.int .i64 0),.s (.slice none 0 0),.s (.int .i64 0),.s (.int .i64 0),.s (.int .i64 0),.s (.slice none 0 0),.s (.int .i64 0),.s (.int .i64 0),.s (.int .i64 0),.s (.slice none 0 0),.s (.slice none 0 0),.s (.int .i64 0),.s (.slice none 0 0),.s (.int .i64 0)]⟩,some ⟨41,4,true,none,lvs (encClaim a0.claims)⟩,some ⟨138,6,true,none,lvs (encPair y9)⟩,some ⟨72,4,true,none,lvs (encMove a0.moves)⟩,some ⟨131,3,true,none,lvs (encSeen a0.seen)⟩,some ⟨141,7,true,none,lvs (encEffect y23)⟩,some ⟨3,1,true,none,lvs (encI a0.votes)⟩,some ⟨3,1,true,none,lvs (encI a0.watch.heard)⟩,some ⟨44,1,true,none,lvs (encLI a0.watch.says)⟩]]) mixed [⟨[0],[],[(1,none)],false⟩,⟨[0],[0],[(74,some 0)],false⟩,⟨[0],[0,1],[(75,some 1)],false⟩,⟨[0],[0,1,2],[(76,some 2)],true⟩,⟨[0,1],[],[(1,none)],false⟩,⟨[0,1],[4],[(78,some 4)],false⟩,⟨[0,1],[4,5],[(79,some 5)],false⟩,⟨[1],[0,1,2,3,4,5,6],[(80,some 6)],true⟩,⟨[1,2],[0,1,2,3,4,5,6],[(1,none)],false⟩,⟨[1,2],[0,1,2,3,4,5,6,8],[(82,some 8)],false⟩,⟨[],[0,1,2,3,4,5,6,7,8,9],[],false⟩,⟨[],[0,1,2,3,4,5,6,7,8,9,10],[],false⟩,⟨[],[0,1,2,3,4,5,6,7,8,9,10,11],[],false⟩,⟨[],[0,1,2,3,4,5,6,7,8,9,10,11,12],[],false⟩] 10 2 (by kernel_rfl) (by kernel_rfl)
   ·rfl
   ·refine⟨?_,?_,?_,?_,⟨?_,?_⟩,⟨?_,?_⟩,⟨?_,?_⟩,?_,⟨?_,?_⟩,⟨?_,?_⟩,trivial⟩
    iterate 3 (· intro tm hr;simp[AllL,rdV] at hr;simp[hr,outR];intros;first|exact KD.mk|exact KD.mkN)
    ·intro tm hr
     simp[AllL,rdV] at hr
     simp[hr,outR]
     intros
     refine Aw DE (E1 a0.watch.heard (AP e35)) rfl (by simp) ⟨.d _ _ _,trivial⟩ ?_
     try simp[outR]
     intros;first|exact KD.mk|exact KD.mkN
    iterate 6 (· intro tm hr;simp[AllL,rdV] at hr;simp[hr,outR];intros;first|exact KD.mk|exact KD.mkN)
    ·intro tm hr
     simp[AllL,rdV] at hr
     simp[hr,outR]
     intros
     refine Aw HD (IC a0.watch.says (AP e36)) rfl (by simp) ⟨.same rfl,trivial⟩ ?_
     try simp[outR]
     intros;first|exact KD.mk|exact KD.mkN
    iterate 4 (· intro tm hr;simp[AllL,rdV] at hr;simp[hr,outR];intros;first|exact KD.mk|exact KD.mkN)
   ·rfl
   ·simp[tmD,putD,outR];rfl
   ·simp[outR]
    intros;rfl
   refine AW.seq ?_
   replace h:=ltE h;obtain⟨v37,e37,h⟩:=h
   apply AW.step
   ·simp[Aj e37]
    intros;rfl
   refine AW.block ?_
   replace h:=bnE h;obtain⟨y39,g39,h⟩:=h
   refine AW.iterP g39 (mk:=fun gh ls q=>(⟨[(1,.l (.p 0 0)),(2,.l (.p 1 0)),(88,.l (.r 2 1 0 q.2.length)),(89,.l (.s (.int .i64 v37))),(90,.l (.s (.int .i64 q.1)))],[some ⟨69,22,false,none,[.s (.int .i64 a0.count),.s (.int .i64 a0.id),.s (.int .i64 a0.master),.s (.int .i64 a0.epoch),.s (.int .i64 a0.voted),.r 3 4 0 a0.claims.length,.r 4 6 0 y9.length,.r 5 4 0 a0.moves.length,.s (.int .i64 a0.last),.r 6 3 0 a0.seen.length,.s (.int .i64 a0.feed.rid.node),.s (.int .i64 a0.feed.rid.epoch),.s (.int .i64 a0.feed.off),.r 7 7 0 y23.length,.s (.int .i64 a0.feed.prev.node),.s (.int .i64 a0.feed.prev.epoch),.s (.int .i64 a0.feed.upto),.r 8 1 0 a0.watch.heard.length,.r 2 1 0 q.2.length,.s (.int .i64 a0.asked),.r 9 1 0 a0.votes.length,.s (.int .i64 a0.wait)]⟩,some ⟨69,22,false,none,[.s (.int .i64 0),.s (.int .i64 0),.s (.int .i64 0),.s (.int .i64 0),.s (.int .i64 0),.s (.slice none 0 0),.s (.slice none 0 0),.s (.slice none 0 0),.s (.int .i64 0),.s (.slice none 0 0),.s (.int .i64 0),.s (.int .i64 0),.s (.int .i64 0),.s (.slice none 0 0),.s (.int .i64 0),.s (.int .i64 0),.s (.int .i64 0),.s (.slice none 0 0),.s (.slice none 0 0),.s (.int .i64 0),.s (.slice none 0 0),.s (.int .i64 0)]⟩,some ⟨44,1,true,none,lvs (encLI q.2)⟩,some ⟨41,4,true,none,lvs (encClaim a0.claims)⟩,some ⟨138,6,true,none,lvs (encPair y9)⟩,some ⟨72,4,true,none,lvs (encMove a0.moves)⟩,some ⟨131,3,true,none,lvs (encSeen a0.seen)⟩,some ⟨141,7,true,none,lvs (encEffect y23)⟩,some ⟨3,1,true,none,lvs (encI a0.watch.heard)⟩,some ⟨3,1,true,none,lvs (encI a0.votes)⟩],104,gh,ls⟩:St)) (N:=fun gh ls=>(xP 4 (cx:=cx) (fun q=>(⟨[(1,.l (.p 0 0)),(2,.l (.p 1 0))],[some ⟨69,22,false,none,[.s (.int .i64 a0.count),.s (.int .i64 a0.id),.s (.int .i64 a0.master),.s (.int .i64 a0.epoch),.s (.int .i64 a0.voted),.r 2 4 0 a0.claims.length,.r 3 6 0 y9.length,.r 4 4 0 a0.moves.length,.s (.int .i64 a0.last),.r 5 3 0 a0.seen.length,.s (.int .i64 a0.feed.rid.node),.s (.int .i64 a0.feed.rid.epoch),.s (.int .i64 a0.feed.off),.r 6 7 0 y23.length,.s (.int .i64 a0.feed.prev.node),.s (.int .i64 a0.feed.prev.epoch),.s (.int .i64 a0.feed.upto),.r 7 1 0 a0.watch.heard.length,.r 8 1 0 q.length,.s (.int .i64 a0.asked),.r 9 1 0 a0.votes.length,.s (.int .i64 a0.wait)]⟩,some ⟨69,22,false,none,[.s (.int .i64 0),.s (.int .i64 0),.s (.int .i64 0),.s (.int .i64 0),.s (.int .i64 0),.s (.slice none 0 0),.s (.slice none 0 0),.s (.slice none 0 0),.s (.int .i64 0),.s (.slice none 0 0),.s (.int .i64 0),.s (.int .i64 0),.s (.int .i64 0),.s (.slice none 0 0),.s (.int .i64 0),.s (.int .i64 0),.s (.int .i64 0),.s (.slice none 0 0),.s (.slice none 0 0),.s (.int .i64 0),.s (.slice none 0 0),.s (.int .i64 0)]⟩,some ⟨41,4,true,none,lvs (encClaim a0.claims)⟩,some ⟨138,6,true,none,lvs (encPair y9)⟩,some ⟨72,4,true,none,lvs (encMove a0.moves)⟩,some ⟨131,3,true,none,lvs (encSeen a0.seen)⟩,some ⟨141,7,true,none,lvs (encEffect y23)⟩,some ⟨3,1,true,none,lvs (encI a0.watch.heard)⟩,some ⟨44,1,true,none,lvs (encLI q)⟩,some ⟨3,1,true,none,lvs (encI a0.votes)⟩],104,gh,ls⟩:St)))) ?_ noX ?_ ?_
   ·refine Weak.mixN [some 0,some 1,some 9,some 2,some 3,some 4,some 5,some 6,some 8,some 7] hn0 (by decide) ?_ ?_ rfl
    all_goals first|(simp[Ac,Ae,pickOb];done)|rfl
   ·clear h;intro y38 y40 h
    replace h:=ltE h;obtain⟨v41,e41,h⟩:=h
    apply AW.step
    ·simp[← e41]
     intros;rfl
    refine AW.seq ?_
    cases v41 with
    |true =>
     replace h:=iteT rfl h
     refine AW.cond_true (by simp) ?_
     refine AW.skip ?_
     try simp only[nm]
     refine AW.seq ?_
     refine AW.block ?_
     replace h:=bnE h;obtain⟨v42,e42,h⟩:=h
     have f43:=Ai e42
     try simp[Aa e42] at f43
     apply AW.step
     ·simp[Aa e42,f43,Fk (Aa e42).2,lvs1]
      intros;rfl
     replace h:=chkE h;obtain⟨e44,h⟩:=h
     have f45:=Ai e42
     try simp[Aa e42] at f45
     replace h:=ltE h;obtain⟨v46,e46,h⟩:=h
     have f47:=FS (Aa e42).2 e46 (cs:=[.d false 1 (encI v42)]) (by simp) rfl
     try simp at f47
     have f48:=f45
     try simp only[Af e46] at f48
     apply AW.drawnR (V:=[_,_,_,_,_,_]) mixed DZ2t3 6 (by kernel_rfl) (by kernel_rfl)
     ·refine⟨?_,?_,?_,?_,?_,?_,trivial⟩
      iterate 5 (· intro tm hr;simp[AllL,rdV] at hr;simp[hr,Aa e42,f45,Bp (Aa e42).2 (show 1≤1 by decide),f47,f48];intros;first|exact KD.mk|exact KD.mkN)
      ·intro tm hr
       simp[AllL,rdV] at hr
       simp[hr,Aa e42,f45,Bp (Aa e42).2 (show 1≤1 by decide),f47,f48]
       intros
       refine Ag DE (Jv v42 (AP e44)) rfl ⟨.d _ _ _,trivial⟩ ?_
       try simp[Aa e42,f45,Bp (Aa e42).2 (show 1≤1 by decide),f47,f48]
       intros;first|exact KD.mk|exact KD.mkN
     ·rfl
     ·simp[tmD,putD,Aa e42,f45,Bp (Aa e42).2 (show 1≤1 by decide),f47,f48];rfl
     ·simp[Aa e42,f45,Bp (Aa e42).2 (show 1≤1 by decide),f47,f48]
      intros;rfl
     try simp only[nm]
     replace h:=ltE h;obtain⟨v49,e49,h⟩:=h
     apply AW.last
     ·simp[← e49]
      intros;rfl
     obtain rfl:=oi h
     refine nP_i ?_
     refine Weak.mixN [some 0,some 1,some 2,some 3,some 4,some 5,some 6,some 7,some 8,some 9] hn0 (by decide) ?_ ?_ rfl
     all_goals first|(simp[Ac,Ae,pickOb,Af e46];done)|rfl
    |false =>
     replace h:=iteF rfl h
     refine AW.cond_false (by simp) ?_
     refine AW.exit ?_
     try simp only[nm]
     obtain rfl:=oi h
     refine xP_i ?_
     refine Weak.mixN [some 0,some 1,some 3,some 4,some 5,some 6,some 7,some 8,some 2,some 9] hn0 (by decide) ?_ ?_ rfl
     all_goals first|(simp[Ac,Ae,pickOb];done)|rfl
   ·rintro e s hp
    obtain⟨rfl,hw⟩:=hp
    refine⟨_,hw,?_⟩
    try simp only[nm]
    apply AW.step
    ·simp
     intros;rfl
    replace h:=chkE h;obtain⟨e50,h⟩:=h
    refine AW.frzRow 2 (ty:=41) (cap:=none) (sz:=4) (es:=encClaim a0.claims) (by simp) (by omega) (Bf _) (by first|exact (Ah e50).2|simpa using (Ah e50).2|simp) (by simp[Tm.frz,AV.frz,LV.frz];rfl) (by simp[Ob.frz,LV.frz];rfl) rfl ?_
    replace h:=chkE h;obtain⟨e51,h⟩:=h
    refine AW.frzRow 3 (ty:=138) (cap:=none) (sz:=6) (es:=encPair y9) (by simp) (by omega) (BU _) (by first|exact (Ah e51).2|simpa using (Ah e51).2|simp) (by simp[Tm.frz,AV.frz,LV.frz];rfl) (by simp[Ob.frz,LV.frz];rfl) rfl ?_
    replace h:=chkE h;obtain⟨e52,h⟩:=h
    refine AW.frzRow 5 (ty:=131) (cap:=none) (sz:=3) (es:=encSeen a0.seen) (by simp) (by omega) (FR _) (by first|exact (Ah e52).2|simpa using (Ah e52).2|simp) (by simp[Tm.frz,AV.frz,LV.frz];rfl) (by simp[Ob.frz,LV.frz];rfl) rfl ?_
    replace h:=chkE h;obtain⟨e53,h⟩:=h
    refine AW.frzRow 6 (ty:=141) (cap:=none) (sz:=7) (es:=encEffect y23) (by simp) (by omega) (Ce _) (by first|exact (Ah e53).2|simpa using (Ah e53).2|simp) (by simp[Tm.frz,AV.frz,LV.frz];rfl) (by simp[Ob.frz,LV.frz];rfl) rfl ?_
    replace h:=chkE h;obtain⟨e54,h⟩:=h
    refine AW.frzRow 7 (ty:=3) (cap:=none) (sz:=1) (es:=encI a0.watch.heard) (by simp) (by omega) (DD _) (by first|exact (Ah e54).2|simpa using (Ah e54).2|simp) (by simp[Tm.frz,AV.frz,LV.frz];rfl) (by simp[Ob.frz,LV.frz];rfl) rfl ?_
    replace h:=chkE h;obtain⟨e55,h⟩:=h
    refine AW.frzRow 8 (ty:=44) (cap:=none) (sz:=1) (es:=encLI y39) (by simp) (by omega) (HC _) (by first|exact (Ah e55).2|simpa using (Ah e55).2|simp) (by simp[Tm.frz,AV.frz,LV.frz];rfl) (by simp[Ob.frz,LV.frz];rfl) rfl ?_
    replace h:=chkE h;obtain⟨e56,h⟩:=h
    refine AW.frzRow 9 (ty:=3) (cap:=none) (sz:=1) (es:=encI a0.votes) (by simp) (by omega) (DD _) (by first|exact (Ah e56).2|simpa using (Ah e56).2|simp) (by simp[Tm.frz,AV.frz,LV.frz];rfl) (by simp[Ob.frz,LV.frz];rfl) rfl ?_
    obtain rfl:=oi h
    refine AW.ret ?_
    refine Left.of (av:=_) (by simp[Try.f59,resV,resC,comp];rfl) ?_
    exact LeftV.mix 0 [some 4] hn0 rfl (by decide) rfl (by simp[pickOb,Ac,Ae]) (by simp[Ac,Ae])
theorem Fd:Enters Try.prog 59:=enters Try.func59 (by kernel_rfl) rfl
def Bt (n:Nat) (a0:Move) (a1:Int):Option Int :=
bn (Bc n a0.slot a1) fun v1 =>
some v1
theorem EJ {n:Nat} {a0:Move} {a1:Int} {r:Int} (h:Bt n a0 a1=some r):Sound Try.prog 82 [.g [.s (.int .i64 a0.slot),.s (.int .i64 a0.to),.s (.int .i64 a0.num),.s (.string a0.key)],.l (.s (.int .i64 a1))] [] (.l (.s (.int .i64 r))) []:=by
 unfold Bt at h
 refine Sound.of_aw (fn:=Try.f82) (c:=_) Try.func82 rfl (by simp[Try.f82]) fun cx hG hnb=>?_
 rw[show Try.f82.ntmps=9 from rfl]
 have hn0:cx.nb=0:=hnb
 simp only[Al,initTm,List.map_cons,List.map_nil]
 apply AW.step
 ·simp
  intros;rfl
 replace h:=bnE h;obtain⟨v1,e1,h⟩:=h
 apply AW.step
 ·simp
  intros
  refine Ag De (Dv e1) rfl ⟨.same rfl,.same rfl,trivial⟩ ?_
  try simp
  intros;rfl
 obtain rfl:=oi h
 refine AW.ret ?_
 refine Left.plain hnb (by simp[Try.f82,resV,resC,comp];rfl) rfl rfl ?_
 simp
theorem Et:Enters Try.prog 82:=enters Try.func82 (by kernel_rfl) rfl
def A1 (n:Nat) (a0:List Move) (a1:Int):Option (Int×Bool) :=
lt (lenI a0) fun v1 =>
bn (iter n (fun (y2:Int×Int) =>
lt (ltI y2.1 y2.2) fun v5 =>
ite' v5 (lt (addI .i64 y2.1 y2.2) fun v6 =>
lt (cvI .u64 v6) fun v7 =>
bn (shrI .u64 v7 1) fun v8 =>
lt (cvI .i64 v8) fun v9 =>
bn (nth a0 v9) fun v10 =>
bn (Bt n v10 a1) fun v11 =>
lt (ltI v11 0) fun v12 =>
ite' v12 (lt (addI .i64 v9 1) fun v13 =>
some (.inl (v13,y2.2))) (some (.inl (y2.1,v9)))) (some (.inr y2.1))) (0,v1)) fun (y3:Int) =>
bn (lt (ltI y3 v1) fun v15 =>
ite' v15 (bn (nth a0 y3) fun v16 =>
bn (Bt n v16 a1) fun v17 =>
lt (eqI v17 0) fun v18 =>
some (v18)) (some (false))) fun (y14:Bool) =>
some (y3,y14)
theorem C1 {n:Nat} {a0:List Move} {a1:Int} {r:Int×Bool} (h:A1 n a0 a1=some r):Sound Try.prog 81 [.l (.d true 4 (encMove a0)),.l (.s (.int .i64 a1)),.l (.s (.func (.func 82) #[] #[]))] [] (.t [(false,[.s (.int .i64 r.1)]),(false,[.s (.bool r.2)])]) []:=by
 unfold A1 at h
 refine Sound.of_aw (fn:=Try.f81) (c:=_) Try.func81 rfl (by simp[Try.f81]) fun cx hG hnb=>?_
 rw[show Try.f81.ntmps=49 from rfl]
 have hn0:cx.nb=0:=hnb
 simp only[Al,initTm,List.map_cons,List.map_nil]
 apply AW.step
 ·simp
  intros;rfl
 replace h:=ltE h;obtain⟨v1,e1,h⟩:=h
 apply AW.step
 ·simp[Aj e1]
  intros;rfl
 apply AW.step
 ·simp
  intros;rfl
 refine AW.seq ?_
 refine AW.block ?_
 replace h:=bnE h;obtain⟨y3,g3,h⟩:=h
 refine AW.iterP g3 (mk:=fun gh ls q=>(⟨[(0,.l (.d true 4 (encMove a0))),(1,.l (.s (.int .i64 a1))),(2,.l (.s (.func (.func 82) #[] #[]))),(8,.l (.s (.int .i64 v1))),(9,.l (.s (.int .i64 q.1))),(10,.l (.s (.int .i64 q.2)))],[],49,gh,ls⟩:St)) (N:=fun gh ls=>(xP 0 (cx:=cx) (fun q=>(⟨[(0,.l (.d true 4 (encMove a0))),(1,.l (.s (.int .i64 a1))),(2,.l (.s (.func (.func 82) #[] #[]))),(8,.l (.s (.int .i64 v1))),(9,.l (.s (.int .i64 q)))],[],49,gh,ls⟩:St)))) ?_ noX ?_ ?_
 ·refine Weak.mixN [] hn0 (by decide) ?_ ?_ rfl
  all_goals first|(simp[Ac,Ae,pickOb];done)|rfl
 ·clear h;intro y2 y4 h
  refine AW.seq ?_
  replace h:=ltE h;obtain⟨v5,e5,h⟩:=h
  apply AW.step
  ·simp[← e5]
   intros;rfl
  cases v5 with
  |true =>
   replace h:=iteT rfl h
   refine AW.cond_true (by simp) ?_
   refine AW.skip ?_
   try simp only[nm]
   refine AW.block ?_
   replace h:=ltE h;obtain⟨v6,e6,h⟩:=h
   replace h:=ltE h;obtain⟨v7,e7,h⟩:=h
   replace h:=bnE h;obtain⟨v8,e8,h⟩:=h
   replace h:=ltE h;obtain⟨v9,e9,h⟩:=h
   apply AW.step
   ·simp[← e6,← e7,e8,← e9]
    intros;rfl
   replace h:=bnE h;obtain⟨v10,e10,h⟩:=h
   replace h:=bnE h;obtain⟨v11,e11,h⟩:=h
   replace h:=ltE h;obtain⟨v12,e12,h⟩:=h
   apply AW.step
   ·simp[Aa e10,← e12]
    intros
    refine Ag Et (EJ e11) rfl ⟨.same rfl,.same rfl,trivial⟩ ?_
    try simp[Aa e10,← e12]
    intros;rfl
   cases v12 with
   |true =>
    replace h:=iteT rfl h
    refine AW.cond_true (by simp) ?_
    replace h:=ltE h;obtain⟨v13,e13,h⟩:=h
    apply AW.last
    ·simp[← e13]
     intros;rfl
    obtain rfl:=oi h
    refine nP_i ?_
    refine Weak.mixN [] hn0 (by decide) ?_ ?_ rfl
    all_goals first|(simp[Ac,Ae,pickOb];done)|rfl
   |false =>
    replace h:=iteF rfl h
    refine AW.cond_false (by simp) ?_
    apply AW.last
    ·simp
     intros;rfl
    obtain rfl:=oi h
    refine nP_i ?_
    refine Weak.mixN [] hn0 (by decide) ?_ ?_ rfl
    all_goals first|(simp[Ac,Ae,pickOb];done)|rfl
  |false =>
   replace h:=iteF rfl h
   refine AW.cond_false (by simp) ?_
   refine AW.exit ?_
   try simp only[nm]
   obtain rfl:=oi h
   refine xP_i ?_
   refine Weak.mixN [] hn0 (by decide) ?_ ?_ rfl
   all_goals first|(simp[Ac,Ae,pickOb];done)|rfl
 ·rintro e s hp
  obtain⟨rfl,hw⟩:=hp
  refine⟨_,hw,?_⟩
  try simp only[nm]
  replace h:=bnE h;obtain⟨y14,g14,h⟩:=h
  refine AW.flow (p:=fun gh ls=>(nP (cx:=cx) (fun q=>(⟨[(6,.l (.s (.int .i64 y3))),(7,.l (.s (.bool q)))],[],49,gh,ls⟩:St))) y14) ?_ ?_
  ·replace h:=g14;clear g14
   replace h:=ltE h;obtain⟨v15,e15,h⟩:=h
   cases v15 with
   |true =>
    replace h:=iteT rfl h
    replace h:=bnE h;obtain⟨v16,e16,h⟩:=h
    replace h:=bnE h;obtain⟨v17,e17,h⟩:=h
    replace h:=ltE h;obtain⟨v18,e18,h⟩:=h
    apply AW.last
    ·simp[← e15,Aa e16,← e18]
     intros
     refine Ag Et (EJ e17) rfl ⟨.same rfl,.same rfl,trivial⟩ ?_
     try simp[← e15,Aa e16,← e18]
     intros;rfl
    obtain rfl:=oi h
    refine nP_i ?_
    refine Weak.mixN [] hn0 (by decide) ?_ ?_ rfl
    all_goals first|(simp[Ac,Ae,pickOb];done)|rfl
   |false =>
    replace h:=iteF rfl h
    apply AW.last
    ·simp[← e15]
     intros;rfl
    obtain rfl:=oi h
    refine nP_i ?_
    refine Weak.mixN [] hn0 (by decide) ?_ ?_ rfl
    all_goals first|(simp[Ac,Ae,pickOb];done)|rfl
  ·rintro e s hp
   obtain⟨rfl,hw⟩:=hp
   refine⟨_,hw,?_⟩
   try simp only[nm]
   obtain rfl:=oi h
   refine AW.ret ?_
   refine Left.plain hnb (by simp[Try.f81,resV,resC,comp];rfl) rfl rfl ?_
   simp
theorem C0:Enters Try.prog 81:=enters Try.func81 (by kernel_rfl) rfl
def Bz (n:Nat) (a0:List Move) (a1:Int):Option (Int×Bool) :=
bn (A1 n a0 a1) fun v1 =>
some (v1.1,v1.2)
theorem Id {n:Nat} {a0:List Move} {a1:Int} {r:Int×Bool} (h:Bz n a0 a1=some r):Sound Try.prog 60 [.l (.d true 4 (encMove a0)),.l (.s (.int .i64 a1))] [] (.t [(false,[.s (.int .i64 r.1)]),(false,[.s (.bool r.2)])]) []:=by
 unfold Bz at h
 refine Sound.of_aw (fn:=Try.f60) (c:=_) Try.func60 rfl (by simp[Try.f60]) fun cx hG hnb=>?_
 rw[show Try.f60.ntmps=11 from rfl]
 have hn0:cx.nb=0:=hnb
 simp only[Al,initTm,List.map_cons,List.map_nil]
 apply AW.step
 ·simp
  intros;rfl
 replace h:=bnE h;obtain⟨v1,e1,h⟩:=h
 apply AW.step
 ·simp
  intros
  refine Ag C0 (C1 e1) rfl ⟨.d _ _ _,.same rfl,.same rfl,trivial⟩ ?_
  try simp
  intros;rfl
 obtain rfl:=oi h
 refine AW.ret ?_
 refine Left.plain hnb (by simp[Try.f60,resV,resC,comp];rfl) rfl rfl ?_
 simp
theorem HP:Enters Try.prog 60:=enters Try.func60 (by kernel_rfl) rfl
def AL (n:Nat) (a0:Node) (a1:Int) (a2:Int):Option (Node×Int) :=
bn (BK n a0) fun v1 =>
bn (lt (ltI a1 0) fun v3 =>
ite' v3 (some (true)) (lt (geI a1 16384) fun v4 =>
ite' v4 (some (true)) (lt (ltI a2 0) fun v5 =>
ite' v5 (some (true)) (lt (geI a2 v1.count) fun v6 =>
ite' v6 (some (true)) (lt (eqI a2 v1.id) fun v7 =>
some (v7)))))) fun (y2:Bool) =>
lt (y2) fun v8 =>
ite' v8 (chk (room v1.moves.length 1) <|
some (v1,1)) (bn (BM n v1.claims a1) fun v10 =>
bn (lt (neI v1.master (-1)) fun v12 =>
ite' v12 (some (true)) (lt (notB v10.2.2) fun v13 =>
ite' v13 (some (true)) (lt (neI v10.1 v1.id) fun v14 =>
some (v14)))) fun (y11:Bool) =>
lt (y11) fun v15 =>
ite' v15 (chk (room v1.moves.length 1) <|
some (v1,9)) (chk (room v1.moves.length 1) <|
bn (Bz n v1.moves a1) fun v18 =>
lt (v18.2) fun v19 =>
ite' v19 (chk (room v1.moves.length 1) <|
some (v1,3)) (chk (insB v1.moves v18.1) <|
lt (insL v1.moves v18.1.toNat (⟨a1,a2,0,⟨#[]⟩⟩:Move)) fun v22 =>
chk (room v22.length 1) <|
some ((⟨v1.count,v1.id,v1.master,v1.epoch,v1.voted,v1.claims,v1.db,v22,v1.last,v1.seen,v1.feed,v1.watch,v1.asked,v1.votes,v1.wait⟩:Node),0))))
theorem E4 {n:Nat} {a0:Node} {a1:Int} {a2:Int} {r:Node×Int} (h:AL n a0 a1 a2=some r):Sound Try.prog 38 [.g [.s (.int .i64 a0.count),.s (.int .i64 a0.id),.s (.int .i64 a0.master),.s (.int .i64 a0.epoch),.s (.int .i64 a0.voted),.d false 4 (encClaim a0.claims),.d false 6 (encPair a0.db),.d false 4 (encMove a0.moves),.s (.int .i64 a0.last),.d false 3 (encSeen a0.seen),.s (.int .i64 a0.feed.rid.node),.s (.int .i64 a0.feed.rid.epoch),.s (.int .i64 a0.feed.off),.d false 7 (encEffect a0.feed.back),.s (.int .i64 a0.feed.prev.node),.s (.int .i64 a0.feed.prev.epoch),.s (.int .i64 a0.feed.upto),.d false 1 (encI a0.watch.heard),.d false 1 (encLI a0.watch.says),.s (.int .i64 a0.asked),.d false 1 (encI a0.votes),.s (.int .i64 a0.wait)],.l (.s (.int .i64 a1)),.l (.s (.int .i64 a2))] [] (.t [(true,[.s (.int .i64 r.1.count),.s (.int .i64 r.1.id),.s (.int .i64 r.1.master),.s (.int .i64 r.1.epoch),.s (.int .i64 r.1.voted),.d false 4 (encClaim r.1.claims),.d false 6 (encPair r.1.db),.d false 4 (encMove r.1.moves),.s (.int .i64 r.1.last),.d false 3 (encSeen r.1.seen),.s (.int .i64 r.1.feed.rid.node),.s (.int .i64 r.1.feed.rid.epoch),.s (.int .i64 r.1.feed.off),.d false 7 (encEffect r.1.feed.back),.s (.int .i64 r.1.feed.prev.node),.s (.int .i64 r.1.feed.prev.epoch),.s (.int .i64 r.1.feed.upto),.d false 1 (encI r.1.watch.heard),.d false 1 (encLI r.1.watch.says),.s (.int .i64 r.1.asked),.d false 1 (encI r.1.votes),.s (.int .i64 r.1.wait)]),(false,[.s (.int .i64 r.2)])]) []:=by
 unfold AL at h
 refine Sound.of_aw (fn:=Try.f38) (c:=_) Try.func38 rfl (by simp[Try.f38]) fun cx hG hnb=>?_
 rw[show Try.f38.ntmps=79 from rfl]
 have hn0:cx.nb=0:=hnb
 simp only[Al,initTm,List.map_cons,List.map_nil]
 apply AW.step
 ·simp
  intros;rfl
 replace h:=bnE h;obtain⟨v1,e1,h⟩:=h
 apply AW.step
 ·simp[outR]
  intros
  refine Aw Fd (FC e1) rfl (by simp) ⟨.same rfl,trivial⟩ ?_
  try simp[outR]
  intros;rfl
 refine AW.seq ?_
 replace h:=bnE h;obtain⟨y2,g2,h⟩:=h
 refine AW.flow (p:=fun gh ls=>(nP (cx:=cx) (fun q=>(⟨[(1,.l (.s (.int .i64 a1))),(2,.l (.s (.int .i64 a2))),(3,.l (.p 0 0)),(6,.l (.p 1 0)),(36,.l (.s (.bool q)))],[some ⟨69,22,false,none,[.s (.int .i64 v1.count),.s (.int .i64 v1.id),.s (.int .i64 v1.master),.s (.int .i64 v1.epoch),.s (.int .i64 v1.voted),.d false 4 (encClaim v1.claims),.d false 6 (encPair v1.db),.r 2 4 0 v1.moves.length,.s (.int .i64 v1.last),.d false 3 (encSeen v1.seen),.s (.int .i64 v1.feed.rid.node),.s (.int .i64 v1.feed.rid.epoch),.s (.int .i64 v1.feed.off),.d false 7 (encEffect v1.feed.back),.s (.int .i64 v1.feed.prev.node),.s (.int .i64 v1.feed.prev.epoch),.s (.int .i64 v1.feed.upto),.d false 1 (encI v1.watch.heard),.d false 1 (encLI v1.watch.says),.s (.int .i64 v1.asked),.d false 1 (encI v1.votes),.s (.int .i64 v1.wait)]⟩,some ⟨69,22,false,none,[.s (.int .i64 0),.s (.int .i64 0),.s (.int .i64 0),.s (.int .i64 0),.s (.int .i64 0),.s (.slice none 0 0),.s (.slice none 0 0),.s (.slice none 0 0),.s (.int .i64 0),.s (.slice none 0 0),.s (.int .i64 0),.s (.int .i64 0),.s (.int .i64 0),.s (.slice none 0 0),.s (.int .i64 0),.s (.int .i64 0),.s (.int .i64 0),.s (.slice none 0 0),.s (.slice none 0 0),.s (.int .i64 0),.s (.slice none 0 0),.s (.int .i64 0)]⟩,some ⟨72,4,true,none,lvs (encMove v1.moves)⟩],79,gh,ls⟩:St))) y2) ?_ ?_
 ·replace h:=g2;clear g2
  replace h:=ltE h;obtain⟨v3,e3,h⟩:=h
  cases v3 with
  |true =>
   replace h:=iteT rfl h
   apply AW.last
   ·simp[← e3]
    intros;rfl
   obtain rfl:=oi h
   refine nP_i ?_
   refine Weak.mixN [some 0,some 1,some 2] hn0 (by decide) ?_ ?_ rfl
   all_goals first|(simp[Ac,Ae,pickOb];done)|rfl
  |false =>
   replace h:=iteF rfl h
   replace h:=ltE h;obtain⟨v4,e4,h⟩:=h
   cases v4 with
   |true =>
    replace h:=iteT rfl h
    apply AW.last
    ·simp[← e3,← e4]
     intros;rfl
    obtain rfl:=oi h
    refine nP_i ?_
    refine Weak.mixN [some 0,some 1,some 2] hn0 (by decide) ?_ ?_ rfl
    all_goals first|(simp[Ac,Ae,pickOb];done)|rfl
   |false =>
    replace h:=iteF rfl h
    replace h:=ltE h;obtain⟨v5,e5,h⟩:=h
    cases v5 with
    |true =>
     replace h:=iteT rfl h
     apply AW.last
     ·simp[← e3,← e4,← e5]
      intros;rfl
     obtain rfl:=oi h
     refine nP_i ?_
     refine Weak.mixN [some 0,some 1,some 2] hn0 (by decide) ?_ ?_ rfl
     all_goals first|(simp[Ac,Ae,pickOb];done)|rfl
    |false =>
     replace h:=iteF rfl h
     replace h:=ltE h;obtain⟨v6,e6,h⟩:=h
     cases v6 with
     |true =>
      replace h:=iteT rfl h
      apply AW.last
      ·simp[← e3,← e4,← e5,← e6]
       intros;rfl
      obtain rfl:=oi h
      refine nP_i ?_
      refine Weak.mixN [some 0,some 1,some 2] hn0 (by decide) ?_ ?_ rfl
      all_goals first|(simp[Ac,Ae,pickOb];done)|rfl
     |false =>
      replace h:=iteF rfl h
      replace h:=ltE h;obtain⟨v7,e7,h⟩:=h
      apply AW.last
      ·simp[← e3,← e4,← e5,← e6,← e7]
       intros;rfl
      obtain rfl:=oi h
      refine nP_i ?_
      refine Weak.mixN [some 0,some 1,some 2] hn0 (by decide) ?_ ?_ rfl
      all_goals first|(simp[Ac,Ae,pickOb];done)|rfl
 ·rintro e s hp
  obtain⟨rfl,hw⟩:=hp
  refine⟨_,hw,?_⟩
  try simp only[nm]
  replace h:=ltE h;obtain⟨v8,e8,h⟩:=h
  rw[← e8]
  cases v8 with
  |true =>
   replace h:=iteT rfl h
   refine AW.cond_true (by simp) ?_
   apply AW.step
   ·simp
    intros;rfl
   replace h:=chkE h;obtain⟨e9,h⟩:=h
   refine AW.frzRow 2 (ty:=72) (cap:=none) (sz:=4) (es:=encMove v1.moves) (by simp) (by omega) (At _) (by first|exact (Ah e9).2|simpa using (Ah e9).2|simp) (by simp[Tm.frz,AV.frz,LV.frz];rfl) (by simp[Ob.frz,LV.frz];rfl) rfl ?_
   obtain rfl:=oi h
   refine AW.ret ?_
   refine Left.plain hnb (by simp[Try.f38,resV,resC,comp];rfl) rfl rfl ?_
   simp
  |false =>
   replace h:=iteF rfl h
   refine AW.cond_false (by simp) ?_
   refine AW.skip ?_
   try simp only[nm]
   replace h:=bnE h;obtain⟨v10,e10,h⟩:=h
   apply AW.step
   ·simp
    intros
    refine Ag HF (H2 e10) rfl ⟨.same rfl,.same rfl,trivial⟩ ?_
    try simp
    intros;rfl
   refine AW.seq ?_
   replace h:=bnE h;obtain⟨y11,g11,h⟩:=h
   refine AW.flow (p:=fun gh ls=>(nP (cx:=cx) (fun q=>(⟨[(1,.l (.s (.int .i64 a1))),(2,.l (.s (.int .i64 a2))),(3,.l (.p 0 0)),(6,.l (.p 1 0)),(58,.l (.s (.bool q)))],[some ⟨69,22,false,none,[.s (.int .i64 v1.count),.s (.int .i64 v1.id),.s (.int .i64 v1.master),.s (.int .i64 v1.epoch),.s (.int .i64 v1.voted),.d false 4 (encClaim v1.claims),.d false 6 (encPair v1.db),.r 2 4 0 v1.moves.length,.s (.int .i64 v1.last),.d false 3 (encSeen v1.seen),.s (.int .i64 v1.feed.rid.node),.s (.int .i64 v1.feed.rid.epoch),.s (.int .i64 v1.feed.off),.d false 7 (encEffect v1.feed.back),.s (.int .i64 v1.feed.prev.node),.s (.int .i64 v1.feed.prev.epoch),.s (.int .i64 v1.feed.upto),.d false 1 (encI v1.watch.heard),.d false 1 (encLI v1.watch.says),.s (.int .i64 v1.asked),.d false 1 (encI v1.votes),.s (.int .i64 v1.wait)]⟩,some ⟨69,22,false,none,[.s (.int .i64 0),.s (.int .i64 0),.s (.int .i64 0),.s (.int .i64 0),.s (.int .i64 0),.s (.slice none 0 0),.s (.slice none 0 0),.s (.slice none 0 0),.s (.int .i64 0),.s (.slice none 0 0),.s (.int .i64 0),.s (.int .i64 0),.s (.int .i64 0),.s (.slice none 0 0),.s (.int .i64 0),.s (.int .i64 0),.s (.int .i64 0),.s (.slice none 0 0),.s (.slice none 0 0),.s (.int .i64 0),.s (.slice none 0 0),.s (.int .i64 0)]⟩,some ⟨72,4,true,none,lvs (encMove v1.moves)⟩],79,gh,ls⟩:St))) y11) ?_ ?_
   ·replace h:=g11;clear g11
    replace h:=ltE h;obtain⟨v12,e12,h⟩:=h
    cases v12 with
    |true =>
     replace h:=iteT rfl h
     apply AW.last
     ·simp[← e12]
      intros;rfl
     obtain rfl:=oi h
     refine nP_i ?_
     refine Weak.mixN [some 0,some 1,some 2] hn0 (by decide) ?_ ?_ rfl
     all_goals first|(simp[Ac,Ae,pickOb];done)|rfl
    |false =>
     replace h:=iteF rfl h
     replace h:=ltE h;obtain⟨v13,e13,h⟩:=h
     cases v13 with
     |true =>
      replace h:=iteT rfl h
      apply AW.last
      ·simp[← e12,← e13]
       intros;rfl
      obtain rfl:=oi h
      refine nP_i ?_
      refine Weak.mixN [some 0,some 1,some 2] hn0 (by decide) ?_ ?_ rfl
      all_goals first|(simp[Ac,Ae,pickOb];done)|rfl
     |false =>
      replace h:=iteF rfl h
      replace h:=ltE h;obtain⟨v14,e14,h⟩:=h
      apply AW.last
      ·simp[← e12,← e13,← e14]
       intros;rfl
      obtain rfl:=oi h
      refine nP_i ?_
      refine Weak.mixN [some 0,some 1,some 2] hn0 (by decide) ?_ ?_ rfl
      all_goals first|(simp[Ac,Ae,pickOb];done)|rfl
   ·rintro e s hp
    obtain⟨rfl,hw⟩:=hp
    refine⟨_,hw,?_⟩
    try simp only[nm]
    replace h:=ltE h;obtain⟨v15,e15,h⟩:=h
    rw[← e15]
    cases v15 with
    |true =>
     replace h:=iteT rfl h
     refine AW.cond_true (by simp) ?_
     apply AW.step
     ·simp
      intros;rfl
     replace h:=chkE h;obtain⟨e16,h⟩:=h
     refine AW.frzRow 2 (ty:=72) (cap:=none) (sz:=4) (es:=encMove v1.moves) (by simp) (by omega) (At _) (by first|exact (Ah e16).2|simpa using (Ah e16).2|simp) (by simp[Tm.frz,AV.frz,LV.frz];rfl) (by simp[Ob.frz,LV.frz];rfl) rfl ?_
     obtain rfl:=oi h
     refine AW.ret ?_
     refine Left.plain hnb (by simp[Try.f38,resV,resC,comp];rfl) rfl rfl ?_
     simp
    |false =>
     replace h:=iteF rfl h
     refine AW.cond_false (by simp) ?_
     refine AW.skip ?_
     try simp only[nm]
     replace h:=chkE h;obtain⟨e17,h⟩:=h
     replace h:=bnE h;obtain⟨v18,e18,h⟩:=h
     apply AW.step
     ·simp
      intros
      refine Ag HP (Id e18) rfl ⟨.rowd (by simp) rfl (by omega) (At _) (by simp) (by first|exact (Ah e17).2|simpa using (Ah e17).2|simp),.same rfl,trivial⟩ ?_
      try simp
      intros;rfl
     refine AW.seq ?_
     apply AW.step
     ·simp
      intros;rfl
     replace h:=ltE h;obtain⟨v19,e19,h⟩:=h
     rw[← e19]
     cases v19 with
     |true =>
      replace h:=iteT rfl h
      refine AW.cond_true (by simp) ?_
      apply AW.step
      ·simp
       intros;rfl
      replace h:=chkE h;obtain⟨e20,h⟩:=h
      refine AW.frzRow 2 (ty:=72) (cap:=none) (sz:=4) (es:=encMove v1.moves) (by simp) (by omega) (At _) (by first|exact (Ah e20).2|simpa using (Ah e20).2|simp) (by simp[Tm.frz,AV.frz,LV.frz];rfl) (by simp[Ob.frz,LV.frz];rfl) rfl ?_
      obtain rfl:=oi h
      refine AW.ret ?_
      refine Left.plain hnb (by simp[Try.f38,resV,resC,comp];rfl) rfl rfl ?_
      simp
     |false =>
      replace h:=iteF rfl h
      refine AW.cond_false (by simp) ?_
      refine AW.skip ?_
      try simp only[nm]
      replace h:=chkE h;obtain⟨e21,h⟩:=h
      replace h:=ltE h;obtain⟨v22,e22,h⟩:=h
      apply AW.step
      ·simp[obAfter,outR,keptR,Ac,Ae,← e22,Fx e21 e22]
       intros
       refine Ar ?_
       try simp[obAfter,outR,keptR,Ac,Ae,← e22,Fx e21 e22]
       intros
       refine HZ [2,3] [4,5] ⟨_,rfl,rfl,_,rfl,rfl,rfl,rfl⟩ IY (Kr v1.moves v18.1 (⟨a1,a2,0,⟨#[]⟩⟩:Move) e21) (by decide) rfl rfl (by simp[pickOb,DR]) rfl rfl rfl (by simp) (by simp) ⟨.l (.own (by simp[Ac,Ae])),.l (.s _),.l (.own (by simp[Ac,Ae])),trivial⟩ ?_
       try simp[obAfter,outR,keptR,Ac,Ae,← e22,Fx e21 e22]
       intros;rfl
      apply AW.step
      ·simp
       intros;rfl
      replace h:=chkE h;obtain⟨e23,h⟩:=h
      refine AW.frzRow 4 (ty:=72) (cap:=none) (sz:=4) (es:=encMove v22) (by simp) (by omega) (At _) (by first|exact (Ah e23).2|simpa using (Ah e23).2|simp) (by simp[Tm.frz,AV.frz,LV.frz];rfl) (by simp[Ob.frz,LV.frz];rfl) rfl ?_
      obtain rfl:=oi h
      refine AW.ret ?_
      refine Left.plain hnb (by simp[Try.f38,resV,resC,comp];rfl) rfl rfl ?_
      simp
theorem EK:Enters Try.prog 38:=enters Try.func38 (by kernel_rfl) rfl
def CO (n:Nat) (a0:Int):Option Int :=
some a0
theorem DZ {n:Nat} {a0:Int} {r:Int} (h:CO n a0=some r):Sound Try.prog 39 [.l (.s (.int .i64 a0))] [] (.l (.s (.int .i64 r))) []:=by
 unfold CO at h
 refine Sound.of_aw (fn:=Try.f39) (c:=_) Try.func39 rfl (by simp[Try.f39]) fun cx hG hnb=>?_
 rw[show Try.f39.ntmps=4 from rfl]
 have hn0:cx.nb=0:=hnb
 simp only[Al,initTm,List.map_cons,List.map_nil]
 apply AW.step
 ·simp
  intros;rfl
 apply AW.step
 ·simp
  intros;rfl
 obtain rfl:=oi h
 refine AW.ret ?_
 refine Left.plain hnb (by simp[Try.f39,resV,resC,comp];rfl) rfl rfl ?_
 simp
theorem Dg:Enters Try.prog 39:=enters Try.func39 (by kernel_rfl) rfl
def BQ (n:Nat) :Option Bool :=
bn (Eg n 0 []) fun v1 =>
bn (DY n v1) fun v2 =>
bn (AL n v2.1 5 1) fun v3 =>
bn (lt (lenI v2.2) fun v5 =>
lt (eqI v5 0) fun v6 =>
ite' v6 (bn (CO n v3.2) fun v7 =>
lt (eqI v7 0) fun v8 =>
ite' v8 (lt (lenI v3.1.moves) fun v9 =>
lt (eqI v9 1) fun v10 =>
some (v10)) (some (false))) (some (false))) fun (y4:Bool) =>
some y4
theorem Ie {n:Nat}  {r:Bool} (h:BQ n =some r):Sound Try.prog 40 [] [] (.l (.s (.bool r))) []:=by
 unfold BQ at h
 refine Sound.of_aw (fn:=Try.f40) (c:=_) Try.func40 rfl (by simp[Try.f40]) fun cx hG hnb=>?_
 rw[show Try.f40.ntmps=29 from rfl]
 have hn0:cx.nb=0:=hnb
 simp only[Al,initTm,List.map_cons,List.map_nil]
 apply AW.step
 ·simp
  intros;rfl
 replace h:=bnE h;obtain⟨v1,e1,h⟩:=h
 replace h:=bnE h;obtain⟨v2,e2,h⟩:=h
 apply AW.step
 ·simp
  intros
  refine Ag H5 (I4 e1) rfl ⟨.same rfl,.nil _ _,trivial⟩ ?_
  try simp
  intros
  refine Ag HO (Ic e2) rfl ⟨.same rfl,trivial⟩ ?_
  try simp
  intros;rfl
 replace h:=bnE h;obtain⟨v3,e3,h⟩:=h
 apply AW.step
 ·simp
  intros
  refine Ag EK (E4 e3) rfl ⟨.same rfl,.same rfl,.same rfl,trivial⟩ ?_
  try simp
  intros;rfl
 replace h:=bnE h;obtain⟨y4,g4,h⟩:=h
 refine AW.flow (p:=fun gh ls=>(nP (cx:=cx) (fun q=>(⟨[(0,.l (.s (.bool q)))],[],29,gh,ls⟩:St))) y4) ?_ ?_
 ·replace h:=g4;clear g4
  replace h:=ltE h;obtain⟨v5,e5,h⟩:=h
  replace h:=ltE h;obtain⟨v6,e6,h⟩:=h
  cases v6 with
  |true =>
   replace h:=iteT rfl h
   replace h:=bnE h;obtain⟨v7,e7,h⟩:=h
   replace h:=ltE h;obtain⟨v8,e8,h⟩:=h
   cases v8 with
   |true =>
    replace h:=iteT rfl h
    replace h:=ltE h;obtain⟨v9,e9,h⟩:=h
    replace h:=ltE h;obtain⟨v10,e10,h⟩:=h
    apply AW.last
    ·simp[Aj e5,← e6,← e8,Aj e9,← e10]
     intros
     refine Ag Dg (DZ e7) rfl ⟨.same rfl,trivial⟩ ?_
     try simp[Aj e5,← e6,← e8,Aj e9,← e10]
     intros;rfl
    obtain rfl:=oi h
    refine nP_i ?_
    refine Weak.mixN [] hn0 (by decide) ?_ ?_ rfl
    all_goals first|(simp[Ac,Ae,pickOb];done)|rfl
   |false =>
    replace h:=iteF rfl h
    apply AW.last
    ·simp[Aj e5,← e6,← e8]
     intros
     refine Ag Dg (DZ e7) rfl ⟨.same rfl,trivial⟩ ?_
     try simp[Aj e5,← e6,← e8]
     intros;rfl
    obtain rfl:=oi h
    refine nP_i ?_
    refine Weak.mixN [] hn0 (by decide) ?_ ?_ rfl
    all_goals first|(simp[Ac,Ae,pickOb];done)|rfl
  |false =>
   replace h:=iteF rfl h
   apply AW.last
   ·simp[Aj e5,← e6]
    intros;rfl
   obtain rfl:=oi h
   refine nP_i ?_
   refine Weak.mixN [] hn0 (by decide) ?_ ?_ rfl
   all_goals first|(simp[Ac,Ae,pickOb];done)|rfl
 ·rintro e s hp
  obtain⟨rfl,hw⟩:=hp
  refine⟨_,hw,?_⟩
  try simp only[nm]
  obtain rfl:=oi h
  refine AW.ret ?_
  refine Left.plain hnb (by simp[Try.f40,resV,resC,comp];rfl) rfl rfl ?_
  simp
theorem HQ:Enters Try.prog 40:=enters Try.func40 (by kernel_rfl) rfl
end Go.Proofs.Ythjenkmbbnjcnaa
namespace Go.Proofs.Ythjenkmbbnjcnaa
open Go Go.RowKit
def B9 (n:Nat) (a0:Int) (a1:List Int):Option Node :=
lt (cvI .i64 a0) fun v1 =>
bn (remI .i64 v1 4) fun v2 =>
bn (Dz n 4 v2 4) fun v3 =>
bn (Db n a1) fun v4 =>
some (⟨v3.count,v3.id,v3.master,v3.epoch,v3.voted,[(⟨0,16383,v3.id,1⟩:Claim)],v4,v3.moves,v3.last,v3.seen,v3.feed,v3.watch,v3.asked,v3.votes,v3.wait⟩:Node)
theorem Gr {n:Nat} {a0:Int} {a1:List Int} {r:Node} (h:B9 n a0 a1=some r):Sound Try.prog 37 [.l (.s (.int .u8 a0)),.l (.d false 1 (encU a1))] [] (.g [.s (.int .i64 r.count),.s (.int .i64 r.id),.s (.int .i64 r.master),.s (.int .i64 r.epoch),.s (.int .i64 r.voted),.r 0 4 0 r.claims.length,.d false 6 (encPair r.db),.d false 4 (encMove r.moves),.s (.int .i64 r.last),.d false 3 (encSeen r.seen),.s (.int .i64 r.feed.rid.node),.s (.int .i64 r.feed.rid.epoch),.s (.int .i64 r.feed.off),.d false 7 (encEffect r.feed.back),.s (.int .i64 r.feed.prev.node),.s (.int .i64 r.feed.prev.epoch),.s (.int .i64 r.feed.upto),.d false 1 (encI r.watch.heard),.d false 1 (encLI r.watch.says),.s (.int .i64 r.asked),.d false 1 (encI r.votes),.s (.int .i64 r.wait)]) [some ⟨41,4,true,none,lvs (encClaim r.claims)⟩]:=by
 unfold B9 at h
 refine Sound.of_aw (fn:=Try.f37) (c:=_) Try.func37 rfl (by simp[Try.f37]) fun cx hG hnb=>?_
 rw[show Try.f37.ntmps=19 from rfl]
 have hn0:cx.nb=0:=hnb
 simp only[Al,initTm,List.map_cons,List.map_nil]
 apply AW.step
 ·simp
  intros;rfl
 replace h:=ltE h;obtain⟨v1,e1,h⟩:=h
 replace h:=bnE h;obtain⟨v2,e2,h⟩:=h
 replace h:=bnE h;obtain⟨v3,e3,h⟩:=h
 apply AW.step
 ·simp[← e1,e2]
  intros
  refine Ag F5 (GN e3) rfl ⟨.same rfl,.same rfl,.same rfl,trivial⟩ ?_
  try simp[← e1,e2]
  intros;rfl
 apply AW.step
 ·simp
  intros
  refine Ar ?_
  try simp
  intros;rfl
 replace h:=bnE h;obtain⟨v4,e4,h⟩:=h
 apply AW.step
 ·simp
  intros
  refine Ag Fq (F7 e4) rfl ⟨.same rfl,trivial⟩ ?_
  try simp
  intros;rfl
 apply AW.step
 ·simp
  intros;rfl
 refine AW.recell 2 (x':=⟨41,4,true,none,lvs (encClaim [(⟨0,16383,v3.id,1⟩:Claim)])⟩) (by simp;rfl) rfl rfl ?_
 obtain rfl:=oi h
 refine AW.ret ?_
 refine Left.of (av:=_) (by simp[Try.f37,resV,resC,comp];rfl) ?_
 exact LeftV.mix 0 [some 2] hn0 rfl (by decide) rfl (by simp[pickOb,Ac,Ae]) (by simp[Ac,Ae])
theorem Ga:Enters Try.prog 37:=enters Try.func37 (by kernel_rfl) rfl
def BI (n:Nat) (a0:Int) (a1:Int) (a2:Int):Option Bool :=
bn (B9 n 1 []) fun v1 =>
bn (bn (lt (ltI a0 0) fun v4 =>
ite' v4 (some (true)) (lt (geI a0 16384) fun v5 =>
ite' v5 (some (true)) (lt (ltI a1 0) fun v6 =>
ite' v6 (some (true)) (lt (gtI a1 3) fun v7 =>
ite' v7 (some (true)) (lt (eqI a1 1) fun v8 =>
some (v8)))))) fun (y3:Bool) =>
lt (y3) fun v9 =>
ite' v9 (some (1)) (some (0))) fun (y2:Int) =>
bn (bn (remI .u8 a2 4) fun v11 =>
lt (eqI v11 1) fun v12 =>
ite' v12 (bn (nth v1.claims 0) fun v13 =>
lt (v1.claims.set 0 (⟨v13.frm,v13.to,2,v13.epoch⟩:Claim)) fun v15 =>
some ((v1.master,v1.moves,v15))) (lt (eqI v11 2) fun v18 =>
ite' v18 (bn (nth v1.claims 0) fun v19 =>
lt (v1.claims.set 0 (⟨v19.frm,v19.to,2,v19.epoch⟩:Claim)) fun v21 =>
some ((2,v1.moves,v21))) (bn (lt (eqI v11 3) fun v25 =>
ite' v25 (lt (eqI y2 0) fun v26 =>
some (v26)) (some (false))) fun (y24:Bool) =>
lt (y24) fun v27 =>
ite' v27 (chk (room 1 1) <|
some ((v1.master,[(⟨a0,a1,0,⟨#[]⟩⟩:Move)],v1.claims))) (some ((v1.master,v1.moves,v1.claims)))))) fun (y10:Int×List Move×List Claim) =>
bn (lt (eqI y2 0) fun v30 =>
ite' v30 (bn (remI .u8 a2 4) fun v31 =>
bn (nth [0,9,9,3] v31) fun v32 =>
some (v32)) (some (y2))) fun (y29:Int) =>
chk (room y10.2.2.length 1) <|
bn (AL n (⟨v1.count,v1.id,y10.1,v1.epoch,v1.voted,y10.2.2,v1.db,y10.2.1,v1.last,v1.seen,v1.feed,v1.watch,v1.asked,v1.votes,v1.wait⟩:Node) a0 a1) fun v35 =>
bn (bn (CO n v35.2) fun v37 =>
lt (eqI v37 y29) fun v38 =>
ite' v38 (lt (eqI y29 0) fun v39 =>
lt (lenI v35.1.moves) fun v40 =>
lt (lenI y10.2.1) fun v41 =>
lt (addI .i64 v41 1) fun v42 =>
lt (eqI v40 v42) fun v43 =>
lt (eqB v39 v43) fun v44 =>
ite' v44 (bn (BQ n) fun v45 =>
some (v45)) (some (false))) (some (false))) fun (y36:Bool) =>
some y36
theorem Fe {n:Nat} {a0:Int} {a1:Int} {a2:Int} {r:Bool} (h:BI n a0 a1 a2=some r):Sound Try.prog 9 [.l (.s (.int .i64 a0)),.l (.s (.int .i64 a1)),.l (.s (.int .u8 a2))] [] (.l (.s (.bool r))) []:=by
 unfold BI at h
 refine Sound.of_aw (fn:=Try.f9) (c:=_) Try.func9 rfl (by simp[Try.f9]) fun cx hG hnb=>?_
 rw[show Try.f9.ntmps=94 from rfl]
 have hn0:cx.nb=0:=hnb
 simp only[Al,initTm,List.map_cons,List.map_nil]
 apply AW.step
 ·simp
  intros;rfl
 replace h:=bnE h;obtain⟨v1,e1,h⟩:=h
 apply AW.step
 ·simp[outR]
  intros
  refine Aw Ga (Gr e1) rfl (by simp) ⟨.same rfl,.nil _ _,trivial⟩ ?_
  try simp[outR]
  intros;rfl
 apply AW.step
 ·simp
  intros;rfl
 replace h:=bnE h;obtain⟨y2,g2,h⟩:=h
 refine AW.flow (p:=fun gh ls=>(nP (cx:=cx) (fun q=>(⟨[(0,.l (.s (.int .i64 a0))),(1,.l (.s (.int .i64 a1))),(2,.l (.s (.int .u8 a2))),(7,.l (.p 0 0)),(8,.l (.s (.int .i64 q)))],[some ⟨69,22,false,none,[.s (.int .i64 v1.count),.s (.int .i64 v1.id),.s (.int .i64 v1.master),.s (.int .i64 v1.epoch),.s (.int .i64 v1.voted),.r 1 4 0 v1.claims.length,.d false 6 (encPair v1.db),.d false 4 (encMove v1.moves),.s (.int .i64 v1.last),.d false 3 (encSeen v1.seen),.s (.int .i64 v1.feed.rid.node),.s (.int .i64 v1.feed.rid.epoch),.s (.int .i64 v1.feed.off),.d false 7 (encEffect v1.feed.back),.s (.int .i64 v1.feed.prev.node),.s (.int .i64 v1.feed.prev.epoch),.s (.int .i64 v1.feed.upto),.d false 1 (encI v1.watch.heard),.d false 1 (encLI v1.watch.says),.s (.int .i64 v1.asked),.d false 1 (encI v1.votes),.s (.int .i64 v1.wait)]⟩,some ⟨41,4,true,none,lvs (encClaim v1.claims)⟩],94,gh,ls⟩:St))) y2) ?_ ?_
 ·replace h:=g2;clear g2
  replace h:=bnE h;obtain⟨y3,g3,h⟩:=h
  refine AW.flow (p:=fun gh ls=>(nP (cx:=cx) (fun q=>(⟨[(0,.l (.s (.int .i64 a0))),(1,.l (.s (.int .i64 a1))),(2,.l (.s (.int .u8 a2))),(7,.l (.p 0 0)),(8,.l (.s (.int .i64 0))),(29,.l (.s (.bool q)))],[some ⟨69,22,false,none,[.s (.int .i64 v1.count),.s (.int .i64 v1.id),.s (.int .i64 v1.master),.s (.int .i64 v1.epoch),.s (.int .i64 v1.voted),.r 1 4 0 v1.claims.length,.d false 6 (encPair v1.db),.d false 4 (encMove v1.moves),.s (.int .i64 v1.last),.d false 3 (encSeen v1.seen),.s (.int .i64 v1.feed.rid.node),.s (.int .i64 v1.feed.rid.epoch),.s (.int .i64 v1.feed.off),.d false 7 (encEffect v1.feed.back),.s (.int .i64 v1.feed.prev.node),.s (.int .i64 v1.feed.prev.epoch),.s (.int .i64 v1.feed.upto),.d false 1 (encI v1.watch.heard),.d false 1 (encLI v1.watch.says),.s (.int .i64 v1.asked),.d false 1 (encI v1.votes),.s (.int .i64 v1.wait)]⟩,some ⟨41,4,true,none,lvs (encClaim v1.claims)⟩],94,gh,ls⟩:St))) y3) ?_ ?_
  ·replace h:=g3;clear g3
   replace h:=ltE h;obtain⟨v4,e4,h⟩:=h
   cases v4 with
   |true =>
    replace h:=iteT rfl h
    apply AW.last
    ·simp[← e4]
     intros;rfl
    obtain rfl:=oi h
    refine nP_i ?_
    refine Weak.mixN [some 1,some 0] hn0 (by decide) ?_ ?_ rfl
    all_goals first|(simp[Ac,Ae,pickOb];done)|rfl
   |false =>
    replace h:=iteF rfl h
    replace h:=ltE h;obtain⟨v5,e5,h⟩:=h
    cases v5 with
    |true =>
     replace h:=iteT rfl h
     apply AW.last
     ·simp[← e4,← e5]
      intros;rfl
     obtain rfl:=oi h
     refine nP_i ?_
     refine Weak.mixN [some 1,some 0] hn0 (by decide) ?_ ?_ rfl
     all_goals first|(simp[Ac,Ae,pickOb];done)|rfl
    |false =>
     replace h:=iteF rfl h
     replace h:=ltE h;obtain⟨v6,e6,h⟩:=h
     cases v6 with
     |true =>
      replace h:=iteT rfl h
      apply AW.last
      ·simp[← e4,← e5,← e6]
       intros;rfl
      obtain rfl:=oi h
      refine nP_i ?_
      refine Weak.mixN [some 1,some 0] hn0 (by decide) ?_ ?_ rfl
      all_goals first|(simp[Ac,Ae,pickOb];done)|rfl
     |false =>
      replace h:=iteF rfl h
      replace h:=ltE h;obtain⟨v7,e7,h⟩:=h
      cases v7 with
      |true =>
       replace h:=iteT rfl h
       apply AW.last
       ·simp[← e4,← e5,← e6,← e7]
        intros;rfl
       obtain rfl:=oi h
       refine nP_i ?_
       refine Weak.mixN [some 1,some 0] hn0 (by decide) ?_ ?_ rfl
       all_goals first|(simp[Ac,Ae,pickOb];done)|rfl
      |false =>
       replace h:=iteF rfl h
       replace h:=ltE h;obtain⟨v8,e8,h⟩:=h
       apply AW.last
       ·simp[← e4,← e5,← e6,← e7,← e8]
        intros;rfl
       obtain rfl:=oi h
       refine nP_i ?_
       refine Weak.mixN [some 1,some 0] hn0 (by decide) ?_ ?_ rfl
       all_goals first|(simp[Ac,Ae,pickOb];done)|rfl
  ·rintro e s hp
   obtain⟨rfl,hw⟩:=hp
   refine⟨_,hw,?_⟩
   try simp only[nm]
   replace h:=ltE h;obtain⟨v9,e9,h⟩:=h
   rw[← e9]
   cases v9 with
   |true =>
    replace h:=iteT rfl h
    refine AW.cond_true (by simp) ?_
    apply AW.last
    ·simp
     intros;rfl
    obtain rfl:=oi h
    refine nP_i ?_
    refine Weak.mixN [some 0,some 1] hn0 (by decide) ?_ ?_ rfl
    all_goals first|(simp[Ac,Ae,pickOb];done)|rfl
   |false =>
    replace h:=iteF rfl h
    refine AW.cond_false (by simp) ?_
    refine AW.skip ?_
    try simp only[nm]
    obtain rfl:=oi h
    refine nP_i ?_
    refine Weak.mixN [some 0,some 1] hn0 (by decide) ?_ ?_ rfl
    all_goals first|(simp[Ac,Ae,pickOb];done)|rfl
 ·rintro e s hp
  obtain⟨rfl,hw⟩:=hp
  refine⟨_,hw,?_⟩
  try simp only[nm]
  replace h:=bnE h;obtain⟨y10,g10,h⟩:=h
  refine AW.flow (p:=fun gh ls=>(nP (cx:=cx) (fun q=>(⟨[(0,.l (.s (.int .i64 a0))),(1,.l (.s (.int .i64 a1))),(2,.l (.s (.int .u8 a2))),(7,.l (.p 0 0)),(8,.l (.s (.int .i64 y2)))],[some ⟨69,22,false,none,[.s (.int .i64 v1.count),.s (.int .i64 v1.id),.s (.int .i64 q.1),.s (.int .i64 v1.epoch),.s (.int .i64 v1.voted),.r 1 4 0 q.2.2.length,.d false 6 (encPair v1.db),.d false 4 (encMove q.2.1),.s (.int .i64 v1.last),.d false 3 (encSeen v1.seen),.s (.int .i64 v1.feed.rid.node),.s (.int .i64 v1.feed.rid.epoch),.s (.int .i64 v1.feed.off),.d false 7 (encEffect v1.feed.back),.s (.int .i64 v1.feed.prev.node),.s (.int .i64 v1.feed.prev.epoch),.s (.int .i64 v1.feed.upto),.d false 1 (encI v1.watch.heard),.d false 1 (encLI v1.watch.says),.s (.int .i64 v1.asked),.d false 1 (encI v1.votes),.s (.int .i64 v1.wait)]⟩,some ⟨41,4,true,none,lvs (encClaim q.2.2)⟩],94,gh,ls⟩:St))) y10) ?_ ?_
  ·replace h:=g10;clear g10
   refine AW.block ?_
   replace h:=bnE h;obtain⟨v11,e11,h⟩:=h
   replace h:=ltE h;obtain⟨v12,e12,h⟩:=h
   apply AW.step
   ·simp[e11,← e12]
    intros;rfl
   cases v12 with
   |true =>
    replace h:=iteT rfl h
    refine AW.cond_true (by simp) ?_
    replace h:=bnE h;obtain⟨v13,e13,h⟩:=h
    have f14:=Ai e13
    try simp[(show v1.claims[0]?=some v13 from (Aa e13).2)] at f14
    replace h:=ltE h;obtain⟨v15,e15,h⟩:=h
    have f16:=DO (Aa e13).2 e15 (j:=2) (cs:=[.s (.int .i64 2)]) (by simp) rfl
    try simp at f16
    have f17:=f14
    try simp only[Af e15] at f17
    apply AW.last
    ·simp[(show v1.claims[0]?=some v13 from (Aa e13).2),f14,(show 3≤(lvs (encClaim v1.claims)).length from Dj (Aa e13).2 (j:=2) (m:=1) (by decide)),f16,f17]
     intros;rfl
    obtain rfl:=oi h
    refine nP_i ?_
    refine Weak.mixN [some 0,some 1] hn0 (by decide) ?_ ?_ rfl
    all_goals first|(simp[Ac,Ae,pickOb,Af e15];done)|rfl
   |false =>
    replace h:=iteF rfl h
    refine AW.cond_false (by simp) ?_
    replace h:=ltE h;obtain⟨v18,e18,h⟩:=h
    apply AW.step
    ·simp[e11,← e18]
     intros;rfl
    cases v18 with
    |true =>
     replace h:=iteT rfl h
     refine AW.cond_true (by simp) ?_
     apply AW.step
     ·simp
      intros;rfl
     replace h:=bnE h;obtain⟨v19,e19,h⟩:=h
     have f20:=Ai e19
     try simp[(show v1.claims[0]?=some v19 from (Aa e19).2)] at f20
     replace h:=ltE h;obtain⟨v21,e21,h⟩:=h
     have f22:=DO (Aa e19).2 e21 (j:=2) (cs:=[.s (.int .i64 2)]) (by simp) rfl
     try simp at f22
     have f23:=f20
     try simp only[Af e21] at f23
     apply AW.last
     ·simp[(show v1.claims[0]?=some v19 from (Aa e19).2),f20,(show 3≤(lvs (encClaim v1.claims)).length from Dj (Aa e19).2 (j:=2) (m:=1) (by decide)),f22,f23]
      intros;rfl
     obtain rfl:=oi h
     refine nP_i ?_
     refine Weak.mixN [some 0,some 1] hn0 (by decide) ?_ ?_ rfl
     all_goals first|(simp[Ac,Ae,pickOb,Af e21];done)|rfl
    |false =>
     replace h:=iteF rfl h
     refine AW.cond_false (by simp) ?_
     replace h:=bnE h;obtain⟨y24,g24,h⟩:=h
     refine AW.flow (p:=fun gh ls=>(nP (cx:=cx) (fun q=>(⟨[(0,.l (.s (.int .i64 a0))),(1,.l (.s (.int .i64 a1))),(2,.l (.s (.int .u8 a2))),(7,.l (.p 0 0)),(8,.l (.s (.int .i64 y2))),(47,.l (.s (.bool q)))],[some ⟨69,22,false,none,[.s (.int .i64 v1.count),.s (.int .i64 v1.id),.s (.int .i64 v1.master),.s (.int .i64 v1.epoch),.s (.int .i64 v1.voted),.r 1 4 0 v1.claims.length,.d false 6 (encPair v1.db),.d false 4 (encMove v1.moves),.s (.int .i64 v1.last),.d false 3 (encSeen v1.seen),.s (.int .i64 v1.feed.rid.node),.s (.int .i64 v1.feed.rid.epoch),.s (.int .i64 v1.feed.off),.d false 7 (encEffect v1.feed.back),.s (.int .i64 v1.feed.prev.node),.s (.int .i64 v1.feed.prev.epoch),.s (.int .i64 v1.feed.upto),.d false 1 (encI v1.watch.heard),.d false 1 (encLI v1.watch.says),.s (.int .i64 v1.asked),.d false 1 (encI v1.votes),.s (.int .i64 v1.wait)]⟩,some ⟨41,4,true,none,lvs (encClaim v1.claims)⟩],94,gh,ls⟩:St))) y24) ?_ ?_
     ·replace h:=g24;clear g24
      replace h:=ltE h;obtain⟨v25,e25,h⟩:=h
      cases v25 with
      |true =>
       replace h:=iteT rfl h
       replace h:=ltE h;obtain⟨v26,e26,h⟩:=h
       apply AW.last
       ·simp[e11,← e25,← e26]
        intros;rfl
       obtain rfl:=oi h
       refine nP_i ?_
       refine Weak.mixN [some 0,some 1] hn0 (by decide) ?_ ?_ rfl
       all_goals first|(simp[Ac,Ae,pickOb];done)|rfl
      |false =>
       replace h:=iteF rfl h
       apply AW.last
       ·simp[e11,← e25]
        intros;rfl
       obtain rfl:=oi h
       refine nP_i ?_
       refine Weak.mixN [some 0,some 1] hn0 (by decide) ?_ ?_ rfl
       all_goals first|(simp[Ac,Ae,pickOb];done)|rfl
     ·rintro e s hp
      obtain⟨rfl,hw⟩:=hp
      refine⟨_,hw,?_⟩
      try simp only[nm]
      replace h:=ltE h;obtain⟨v27,e27,h⟩:=h
      rw[← e27]
      cases v27 with
      |true =>
       replace h:=iteT rfl h
       refine AW.cond_true (by simp) ?_
       apply AW.last
       ·simp
        intros
        refine Ar ?_
        try simp
        intros;rfl
       replace h:=chkE h;obtain⟨e28,h⟩:=h
       obtain rfl:=oi h
       refine nP_i ?_
       refine W.frzRow 2 (ty:=72) (cap:=none) (sz:=4) (es:=encMove [(⟨a0,a1,0,⟨#[]⟩⟩:Move)]) (by simp[DR]) (by omega) (At _) (by first|exact (Ah e28).2|simpa using (Ah e28).2|simp) (by simp[Tm.frz,AV.frz,LV.frz,(show List.take 1 (encMove [(⟨a0,a1,0,⟨#[]⟩⟩:Move)])=encMove [(⟨a0,a1,0,⟨#[]⟩⟩:Move)] from rfl)];rfl) (by simp[Ob.frz,LV.frz,(show List.take 1 (encMove [(⟨a0,a1,0,⟨#[]⟩⟩:Move)])=encMove [(⟨a0,a1,0,⟨#[]⟩⟩:Move)] from rfl)];rfl) rfl ?_
       refine Weak.mixN [some 0,some 1] hn0 (by decide) ?_ ?_ rfl
       all_goals first|(simp[Ac,Ae,pickOb];done)|rfl
      |false =>
       replace h:=iteF rfl h
       refine AW.cond_false (by simp) ?_
       refine AW.skip ?_
       try simp only[nm]
       obtain rfl:=oi h
       refine nP_i ?_
       refine Weak.mixN [some 0,some 1] hn0 (by decide) ?_ ?_ rfl
       all_goals first|(simp[Ac,Ae,pickOb];done)|rfl
  ·rintro e s hp
   obtain⟨rfl,hw⟩:=hp
   refine⟨_,hw,?_⟩
   try simp only[nm]
   replace h:=bnE h;obtain⟨y29,g29,h⟩:=h
   refine AW.flow (p:=fun gh ls=>(nP (cx:=cx) (fun q=>(⟨[(0,.l (.s (.int .i64 a0))),(1,.l (.s (.int .i64 a1))),(7,.l (.p 0 0)),(8,.l (.s (.int .i64 q)))],[some ⟨69,22,false,none,[.s (.int .i64 v1.count),.s (.int .i64 v1.id),.s (.int .i64 y10.1),.s (.int .i64 v1.epoch),.s (.int .i64 v1.voted),.r 1 4 0 y10.2.2.length,.d false 6 (encPair v1.db),.d false 4 (encMove y10.2.1),.s (.int .i64 v1.last),.d false 3 (encSeen v1.seen),.s (.int .i64 v1.feed.rid.node),.s (.int .i64 v1.feed.rid.epoch),.s (.int .i64 v1.feed.off),.d false 7 (encEffect v1.feed.back),.s (.int .i64 v1.feed.prev.node),.s (.int .i64 v1.feed.prev.epoch),.s (.int .i64 v1.feed.upto),.d false 1 (encI v1.watch.heard),.d false 1 (encLI v1.watch.says),.s (.int .i64 v1.asked),.d false 1 (encI v1.votes),.s (.int .i64 v1.wait)]⟩,some ⟨41,4,true,none,lvs (encClaim y10.2.2)⟩],94,gh,ls⟩:St))) y29) ?_ ?_
   ·replace h:=g29;clear g29
    replace h:=ltE h;obtain⟨v30,e30,h⟩:=h
    apply AW.step
    ·simp[← e30]
     intros;rfl
    cases v30 with
    |true =>
     replace h:=iteT rfl h
     refine AW.cond_true (by simp) ?_
     replace h:=bnE h;obtain⟨v31,e31,h⟩:=h
     replace h:=bnE h;obtain⟨v32,e32,h⟩:=h
     have f33:=Ai e32
     try simp[e31,Aa e32] at f33
     apply AW.last
     ·simp[e31,Aa e32,f33,(show ([.s (.int .i64 0),.s (.int .i64 9),.s (.int .i64 9),.s (.int .i64 3)]:List LV)=lvs (encI [0,9,9,3]) from rfl),FQ (Aa e32).2,lvs1]
      intros
      refine Ar ?_
      try simp[e31,Aa e32,f33,(show ([.s (.int .i64 0),.s (.int .i64 9),.s (.int .i64 9),.s (.int .i64 3)]:List LV)=lvs (encI [0,9,9,3]) from rfl),FQ (Aa e32).2,lvs1]
      intros;rfl
     obtain rfl:=oi h
     refine nP_i ?_
     refine Weak.mixN [some 0,some 1] hn0 (by decide) ?_ ?_ rfl
     all_goals first|(simp[Ac,Ae,pickOb,Jl];done)|rfl
    |false =>
     replace h:=iteF rfl h
     refine AW.cond_false (by simp) ?_
     refine AW.skip ?_
     try simp only[nm]
     obtain rfl:=oi h
     refine nP_i ?_
     refine Weak.mixN [some 0,some 1] hn0 (by decide) ?_ ?_ rfl
     all_goals first|(simp[Ac,Ae,pickOb];done)|rfl
   ·rintro e s hp
    obtain⟨rfl,hw⟩:=hp
    refine⟨_,hw,?_⟩
    try simp only[nm]
    replace h:=chkE h;obtain⟨e34,h⟩:=h
    refine AW.frzRow 1 (ty:=41) (cap:=none) (sz:=4) (es:=encClaim y10.2.2) (by simp) (by omega) (Bf _) (by first|exact (Ah e34).2|simpa using (Ah e34).2|simp) (by simp[Tm.frz,AV.frz,LV.frz];rfl) (by simp[Ob.frz,LV.frz];rfl) rfl ?_
    replace h:=bnE h;obtain⟨v35,e35,h⟩:=h
    apply AW.step
    ·simp
     intros
     refine Ag EK (E4 e35) rfl ⟨.same rfl,.same rfl,.same rfl,trivial⟩ ?_
     try simp
     intros;rfl
    replace h:=bnE h;obtain⟨y36,g36,h⟩:=h
    refine AW.flow (p:=fun gh ls=>(nP (cx:=cx) (fun q=>(⟨[(6,.l (.s (.bool q)))],[],94,gh,ls⟩:St))) y36) ?_ ?_
    ·replace h:=g36;clear g36
     replace h:=bnE h;obtain⟨v37,e37,h⟩:=h
     replace h:=ltE h;obtain⟨v38,e38,h⟩:=h
     cases v38 with
     |true =>
      replace h:=iteT rfl h
      replace h:=ltE h;obtain⟨v39,e39,h⟩:=h
      replace h:=ltE h;obtain⟨v40,e40,h⟩:=h
      replace h:=ltE h;obtain⟨v41,e41,h⟩:=h
      replace h:=ltE h;obtain⟨v42,e42,h⟩:=h
      replace h:=ltE h;obtain⟨v43,e43,h⟩:=h
      replace h:=ltE h;obtain⟨v44,e44,h⟩:=h
      cases v44 with
      |true =>
       replace h:=iteT rfl h
       replace h:=bnE h;obtain⟨v45,e45,h⟩:=h
       apply AW.last
       ·simp[← e38,← e39,Aj e40,Aj e41,← e42,← e43,← e44]
        intros
        refine Ag Dg (DZ e37) rfl ⟨.same rfl,trivial⟩ ?_
        try simp[← e38,← e39,Aj e40,Aj e41,← e42,← e43,← e44]
        intros
        refine Ag HQ (Ie e45) rfl trivial ?_
        try simp[← e38,← e39,Aj e40,Aj e41,← e42,← e43,← e44]
        intros;rfl
       obtain rfl:=oi h
       refine nP_i ?_
       refine Weak.mixN [] hn0 (by decide) ?_ ?_ rfl
       all_goals first|(simp[Ac,Ae,pickOb];done)|rfl
      |false =>
       replace h:=iteF rfl h
       apply AW.last
       ·simp[← e38,← e39,Aj e40,Aj e41,← e42,← e43,← e44]
        intros
        refine Ag Dg (DZ e37) rfl ⟨.same rfl,trivial⟩ ?_
        try simp[← e38,← e39,Aj e40,Aj e41,← e42,← e43,← e44]
        intros;rfl
       obtain rfl:=oi h
       refine nP_i ?_
       refine Weak.mixN [] hn0 (by decide) ?_ ?_ rfl
       all_goals first|(simp[Ac,Ae,pickOb];done)|rfl
     |false =>
      replace h:=iteF rfl h
      apply AW.last
      ·simp[← e38]
       intros
       refine Ag Dg (DZ e37) rfl ⟨.same rfl,trivial⟩ ?_
       try simp[← e38]
       intros;rfl
      obtain rfl:=oi h
      refine nP_i ?_
      refine Weak.mixN [] hn0 (by decide) ?_ ?_ rfl
      all_goals first|(simp[Ac,Ae,pickOb];done)|rfl
    ·rintro e s hp
     obtain⟨rfl,hw⟩:=hp
     refine⟨_,hw,?_⟩
     try simp only[nm]
     obtain rfl:=oi h
     refine AW.ret ?_
     refine Left.plain hnb (by simp[Try.f9,resV,resC,comp];rfl) rfl rfl ?_
     simp
end Go.Proofs.Ythjenkmbbnjcnaa
namespace Go.Proofs.Ythjenkmbbnjcnaa
open Go Go.RowKit
def big:Nat:=281474976710656
section
variable {α β γ:Type}
theorem IE {f:α→Option (α ⊕ β)} (Q:β→Prop) (I:Nat→α→Prop) (N:Nat)
  (h:∀ k a,k≤N→I k a→(∃ a',k<N∧f a=some (.inl a')∧I (k+1) a')∨∃ b,f a=some (.inr b)∧Q b) :
  ∀ (d k:Nat) (a:α),k+d=N→I k a→∀ n,d<n→∃ b,iter n f a=some b∧Q b
 |d,k,a,hd,hI,0,hn=>by omega
 |d,k,a,hd,hI,n+1,hn=>by
  rcases h k a (by omega) hI with ⟨a',hk,h1,h2⟩|⟨b,h1,h2⟩
  ·rw[JR h1]
   match d with
   |0=>omega
   |d+1=>exact IE Q I N h d (k+1) a' (by omega) h2 n (by omega)
  ·exact⟨b,JS h1,h2⟩
theorem JT {f:α→Option (α ⊕ β)} {a:α} (Q:β→Prop) (I:Nat→α→Prop) (N:Nat) (hN:N<big)
  (h0:I 0 a) (h:∀ k a,k≤N→I k a→(∃ a',k<N∧f a=some (.inl a')∧I (k+1) a')∨∃ b,f a=some (.inr b)∧Q b):∃ b,iter big f a=some b∧Q b :=
 IE Q I N h N 0 a (by omega) h0 big hN
def Rn (m:Option α) (Q:α→Prop):Prop:=∃ v,m=some v∧Q v
theorem Rn.some {v:α} {Q:α→Prop} (h:Q v):Rn (some v) Q:=⟨v,rfl,h⟩
theorem Rn.mono {m:Option α} {Q R:α→Prop} (h:Rn m Q) (hk:∀ v,Q v→R v):Rn m R:=⟨h.choose,h.choose_spec.1,hk _ h.choose_spec.2⟩
theorem Rn.lt {a:α} {k:α→Option β} {Q:β→Prop} (h:Rn (k a) Q):Rn (lt a k) Q:=h
theorem Rn.bn {m:Option α} {k:α→Option β} {P:α→Prop} {Q:β→Prop} (h:Rn m P) (hk:∀ v,P v→Rn (k v) Q):Rn (bn m k) Q:=by
 obtain⟨v,rfl,hv⟩:=h
 exact hk v hv
theorem Rn.bnE {m:Option α} {k:α→Option β} {v:α} {Q:β→Prop} (h:m=Option.some v) (hk:Rn (k v) Q):Rn (Go.Proofs.Ythjenkmbbnjcnaa.bn m k) Q:=by
 subst h
 exact hk
theorem Rn.chk {b:Bool} {k:Option β} {Q:β→Prop} (h:b=true) (hk:Rn k Q):Rn (chk b k) Q:=by
 subst h
 exact hk
theorem Rn.room {m c:Nat} {k:Option β} {Q:β→Prop} (h:m*c≤140737488355328) (h2:m≤140737488355328) (hk:Rn k Q):Rn (Go.Proofs.Ythjenkmbbnjcnaa.chk (Go.Proofs.Ythjenkmbbnjcnaa.room m c) k) Q:=Rn.chk (by simp[Go.Proofs.Ythjenkmbbnjcnaa.room,h,h2]) hk
theorem Rn.ite {b:Bool} {x y:Option β} {Q:β→Prop} (h:b=true→Rn x Q) (h2:b=false→Rn y Q):Rn (ite' b x y) Q:=by
 cases b
 ·exact h2 rfl
 ·exact h rfl
theorem Rn.sm {s:α ⊕ β} {f:α→Option γ} {g:β→Option γ} {Q:γ→Prop} (h:∀ a,s=.inl a→Rn (f a) Q) (h2:∀ b,s=.inr b→Rn (g b) Q):Rn (sm s f g) Q:=by
 cases s with
 |inl a=>exact h a rfl
 |inr b=>exact h2 b rfl
theorem Rn.iter {f:α→Option (α ⊕ β)} {a:α} (Q:β→Prop) (I:Nat→α→Prop) (N:Nat) (hN:N<big) (h0:I 0 a)
  (h:∀ k a,k≤N→I k a→Rn (f a) fun x=>match x with|.inl a'=>k<N∧I (k+1) a'|.inr b=>Q b):Rn (iter big f a) Q:=by
 refine JT Q I N hN h0 fun k a hk hI=>?_
 obtain⟨x,h1,h2⟩:=h k a hk hI
 cases x with
 |inl a'=>exact .inl ⟨a',h2.1,h1,h2.2⟩
 |inr b=>exact .inr ⟨b,h1,h2⟩
theorem IF (l:List α):lenI l=(l.length:Int):=rfl
theorem JU {l:List α} {i:Nat} (h:i<l.length):nth l (i:Int)=some l[i]:=by rw[Ki,List.getElem?_eq_getElem h]
end
theorem wrap64 {a:Int} (h:-9223372036854775808≤a) (h2:a≤9223372036854775807):IntKind.i64.wrap a=a:=by
 simp[IntKind.wrap,IntKind.bits,IntKind.signed]
 omega
theorem IG {a b:Int} (h:-9223372036854775808≤a+b) (h2:a+b≤9223372036854775807):addI .i64 a b=a+b:=wrap64 h h2
end Go.Proofs.Ythjenkmbbnjcnaa
namespace Go.Proofs.Ythjenkmbbnjcnaa
open Go Go.RowKit
section
variable {β:Type}
def fnP:List (Int×Int×β)→Int→Option β
 |[],_=>none
 |p::l,s=>if p.1≤s∧s≤p.2.1 then some p.2.2 else fnP l s
def canP:List (Int×Int×β)→Prop
 |[]=>True
 |[p]=>p.1≤p.2.1
 |p::q::l=>p.1≤p.2.1∧p.2.1<q.1∧¬ (p.2.1+1=q.1∧p.2.2=q.2.2)∧canP (q::l)
theorem canP.head {p:Int×Int×β} {l:List (Int×Int×β)} (h:canP (p::l)):p.1≤p.2.1:=by
 cases l with
 |nil=>exact h
 |cons q l=>exact h.1
theorem canP.tail {p:Int×Int×β} {l:List (Int×Int×β)} (h:canP (p::l)):canP l:=by
 cases l with
 |nil=>trivial
 |cons q l=>exact h.2.2.2
theorem canP.lt {p:Int×Int×β}:∀ {l:List (Int×Int×β)},canP (p::l)→∀ q∈l,p.2.1<q.1
 |[],_,q,hq=>by simp at hq
 |r::l,h,q,hq=>by
  rcases List.mem_cons.1 hq with rfl|hq
  ·exact h.2.1
  ·have h1:=canP.lt h.2.2.2 q hq
   have h2:=canP.head h.2.2.2
   have h3:=h.2.1
   omega
theorem Cj {l:List (Int×Int×β)} {s:Int} (h:∀ p∈l,¬ (p.1≤s∧s≤p.2.1)):fnP l s=none:=by
 induction l with
 |nil=>rfl
 |cons p l ih =>
  simp only[fnP]
  rw[if_neg (h p (by simp)),ih fun q hq=>h q (by simp[hq])]
theorem Dh {p:Int×Int×β} {l:List (Int×Int×β)} (h:canP (p::l)) {s:Int} (hs:s≤p.2.1):fnP l s=none :=
 Cj fun q hq hc=>by have:=h.lt q hq;omega
theorem Bj {p:Int×Int×β} {l:List (Int×Int×β)} {s:Int} (h1:p.1≤s) (h2:s≤p.2.1):fnP (p::l) s=some p.2.2:=by
 simp only[fnP]
 rw[if_pos ⟨h1,h2⟩]
theorem BR {p:Int×Int×β} {l:List (Int×Int×β)} {s:Int} (h:¬ (p.1≤s∧s≤p.2.1)):fnP (p::l) s=fnP l s:=by
 simp only[fnP]
 rw[if_neg h]
theorem EE:∀ {l m:List (Int×Int×β)},canP l→canP m→(∀ s,fnP l s=fnP m s)→l=m
 |[],[],_,_,_=>rfl
 |[],q::m,_,hm,h=>by
  have:=h q.1
  rw[Bj (Int.le_refl _) hm.head] at this
  simp[fnP] at this
 |p::l,[],hl,_,h=>by
  have:=h p.1
  rw[Bj (Int.le_refl _) hl.head] at this
  simp[fnP] at this
 |p::l,q::m,hl,hm,h=>by
  have hp:=hl.head
  have hq:=hm.head
  have e1:p.1=q.1:=by
   rcases Int.lt_trichotomy p.1 q.1 with hlt|he|hgt
   ·exfalso
    have:=h p.1
    rw[Bj (Int.le_refl _) hp,BR (by omega),Dh hm (by omega)] at this
    simp at this
   ·exact he
   ·exfalso
    have:=h q.1
    rw[Bj (p:=q) (Int.le_refl _) hq,BR (by omega),Dh hl (by omega)] at this
    simp at this
  have e2:p.2.2=q.2.2:=by
   have:=h p.1
   rw[Bj (Int.le_refl _) hp,Bj (by omega) (by omega)] at this
   exact Option.some.inj this
  have key:∀ {p q:Int×Int×β} {l m:List (Int×Int×β)},canP (p::l)→canP (q::m)→(∀ s,fnP (p::l) s=fnP (q::m) s)→p.1=q.1→p.2.2=q.2.2→¬ p.2.1<q.2.1:=by
   intro p q l m hl hm h e1 e2 hlt
   have hp:=hl.head
   have:=h (p.2.1+1)
   rw[BR (by omega),Bj (p:=q) (by omega) (by omega)] at this
   cases l with
   |nil=>simp[fnP] at this
   |cons r l =>
    have hr:=hl.2.1
    have hr2:=canP.head hl.2.2.2
    rcases Decidable.em (p.2.1+1=r.1) with e|e
    ·rw[Bj (by omega) (by omega)] at this
     have:=Option.some.inj this
     exact hl.2.2.1 ⟨e,by rw[e2,this]⟩
    ·rw[BR (by omega),Dh hl.2.2.2 (by omega)] at this
     simp at this
  have e3:p.2.1=q.2.1:=by
   have a:=key hl hm h e1 e2
   have b:=key hm hl (fun s=>(h s).symm) e1.symm e2.symm
   omega
  have e4:p=q:=Prod.ext e1 (Prod.ext e3 e2)
  subst e4
  rw[EE hl.tail hm.tail fun s=>?_]
  rcases Decidable.em (s≤p.2.1) with hs|hs
  ·rw[Dh hl hs,Dh hm hs]
  ·have:=h s
   rwa [BR (by omega),BR (by omega)] at this
theorem EF (l m:List (Int×Int×β)) (s:Int):fnP (l++m) s=match fnP l s with|some v=>some v|none=>fnP m s:=by
 induction l with
 |nil=>rfl
 |cons p l ih =>
  simp only[List.cons_append,fnP]
  split
  ·rfl
  ·exact ih
theorem E5:∀ {l:List (Int×Int×β)} {p:Int×Int×β},canP l→p.1≤p.2.1→(∀ q,l.getLast?=some q→q.2.1<p.1∧¬ (q.2.1+1=p.1∧q.2.2=p.2.2))→canP (l++[p])
 |[],p,_,hp,_=>hp
 |[q],p,hq,hp,h=>by
  obtain⟨h1,h2⟩:=h q rfl
  exact⟨hq,h1,h2,hp⟩
 |q::r::l,p,hl,hp,h=>by
  refine⟨hl.1,hl.2.1,hl.2.2.1,?_⟩
  exact E5 (l:=r::l) hl.2.2.2 hp fun x hx=>h x (by rw[List.getLast?_cons_cons];exact hx)
theorem GQ:∀ {l:List (Int×Int×β)} {p:Int×Int×β},canP (l++[p])→canP l∧p.1≤p.2.1∧(∀ q,l.getLast?=some q→q.2.1<p.1∧¬ (q.2.1+1=p.1∧q.2.2=p.2.2))
 |[],p,h=>⟨trivial,h,fun q hq=>by simp at hq⟩
 |[q],p,h=>by
  refine⟨h.1,h.2.2.2,fun x hx=>?_⟩
  simp at hx
  subst hx
  exact⟨h.2.1,h.2.2.1⟩
 |q::r::l,p,h=>by
  have h':canP ((r::l)++[p]):=h.2.2.2
  obtain⟨a,b,c⟩:=GQ h'
  exact⟨⟨h.1,h.2.1,h.2.2.1,a⟩,b,fun x hx=>c x (by rw[List.getLast?_cons_cons] at hx;exact hx)⟩
structure BdP (at_:Int) (out:List (Int×Int×β)) (f:Int→Option β):Prop where
 can:canP out
 pos:∀ p∈out,p.2.1<at_
 fn:∀ s,s<at_→fnP out s=f s
def putP [DecidableEq β] (l:List (Int×Int×β)) (p:Int×Int×β):List (Int×Int×β) :=
 match l.getLast? with
 |some q=>if q.2.1+1=p.1∧q.2.2=p.2.2 then l.dropLast++[(q.1,p.2.1,q.2.2)] else l++[p]
 |none=>[p]
theorem BdP.skip {a b:Int} {out:List (Int×Int×β)} {f:Int→Option β} (h:BdP a out f) (hab:a≤b) (hf:∀ s,a≤s→s<b→f s=none):BdP b out f:=by
 refine⟨h.can,fun p hp=>by have:=h.pos p hp;omega,fun s hs=>?_⟩
 rcases Decidable.em (s<a) with h1|h1
 ·exact h.fn s h1
 ·rw[hf s (by omega) hs]
  exact Cj fun p hp hc=>by have:=h.pos p hp;omega
theorem BdP.put [DecidableEq β] {a b:Int} {v:β} {out:List (Int×Int×β)} {f:Int→Option β} (h:BdP a out f) (hab:a≤b) (hf:∀ s,a≤s→s≤b→f s=some v):BdP (b+1) (putP out (a,b,v)) f:=by
 have hcan:=h.can
 unfold putP
 split
 ·rename_i q hq
  obtain⟨l,hl⟩:=List.getLast?_eq_some_iff.1 hq
  subst hl
  have hqp:=h.pos q (by simp)
  obtain⟨c1,c2,c3⟩:=GQ hcan
  split
  ·rename_i hc
   obtain⟨g1,g2⟩:=hc
   rw[List.dropLast_concat]
   refine⟨E5 c1 (by simp only at g1 ⊢;omega) (fun x hx=>?_),?_,?_⟩
   ·exact c3 x hx
   ·intro p hp
    rcases List.mem_append.1 hp with hp|hp
    ·have:=h.pos p (by simp[hp])
     omega
    ·simp at hp
     subst hp
     simp only
     omega
   ·intro s hs
    rw[EF]
    rcases Decidable.em (s<a) with h1|h1
    ·have:=h.fn s h1
     rw[← this,EF]
     cases fnP l s with
     |some w=>rfl
     |none =>
      simp only[fnP]
      simp only at g1
      rcases Decidable.em (q.1≤s∧s≤q.2.1) with h2|h2
      ·rw[if_pos h2,if_pos ⟨h2.1,by omega⟩]
      ·rw[if_neg h2,if_neg (by omega)]
    ·rw[hf s (by omega) (by omega)]
     have:fnP l s=none:=Cj fun p hp hc=>by have:=h.pos p (by simp[hp]);omega
     rw[this]
     simp only[fnP]
     simp only at g1 g2
     rw[if_pos ⟨by omega,by omega⟩,g2]
  ·rename_i hc
   refine⟨E5 hcan hab fun x hx=>?_,?_,?_⟩
   ·rw[hq] at hx
    have:=Option.some.inj hx
    subst this
    exact⟨hqp,hc⟩
   ·intro p hp
    rcases List.mem_append.1 hp with hp|hp
    ·have:=h.pos p hp
     omega
    ·simp at hp
     subst hp
     simp only
     omega
   ·intro s hs
    rw[EF]
    rcases Decidable.em (s<a) with h1|h1
    ·rw[h.fn s h1]
     cases f s with
     |some w=>rfl
     |none =>
      simp only[fnP]
      rw[if_neg (by omega)]
    ·rw[hf s (by omega) (by omega)]
     have:fnP (l++[q]) s=none:=Cj fun p hp hc=>by have:=h.pos p hp;omega
     rw[this]
     simp only[fnP]
     rw[if_pos ⟨by omega,by omega⟩]
 ·rename_i hn
  have:out=[]:=List.getLast?_eq_none_iff.1 hn
  subst this
  refine⟨hab,?_,?_⟩
  ·intro p hp
   simp at hp
   subst hp
   simp only
   omega
  ·intro s hs
   simp only[fnP]
   rcases Decidable.em (s<a) with h1|h1
   ·have:=h.fn s h1
    rw[if_neg (by omega),← this]
    rfl
   ·rw[if_pos ⟨by omega,by omega⟩,hf s (by omega) (by omega)]
theorem BdP.nil {a:Int} {f:Int→Option β} (hf:∀ s,s<a→f s=none):BdP a [] f:=⟨trivial,fun p hp=>by simp at hp,fun s hs=>by rw[hf s hs];rfl⟩
theorem BdP.ext {a b:Int} {l m:List (Int×Int×β)} {f:Int→Option β} (hl:BdP a l f) (hm:BdP b m f) (hf:∀ s,a≤s∨b≤s→f s=none):l=m:=by
 refine EE hl.can hm.can fun s=>?_
 have h1:fnP l s=f s:=by
  rcases Decidable.em (s<a) with h|h
  ·exact hl.fn s h
  ·rw[hf s (.inl (by omega))]
   exact Cj fun p hp hc=>by have:=hl.pos p hp;omega
 have h2:fnP m s=f s:=by
  rcases Decidable.em (s<b) with h|h
  ·exact hm.fn s h
  ·rw[hf s (.inr (by omega))]
   exact Cj fun p hp hc=>by have:=hm.pos p hp;omega
 rw[h1,h2]
theorem FD {s:Int}:∀ {l:List (Int×Int×β)},(∀ p∈l,s+1≠p.1∧s+1≠p.2.1+1)→fnP l (s+1)=fnP l s
 |[],_=>rfl
 |p::l,h=>by
  have h1:=h p (by simp)
  have ih:=FD (l:=l) fun q hq=>h q (by simp[hq])
  simp only[fnP]
  rcases Decidable.em (p.1≤s∧s≤p.2.1) with h2|h2
  ·rw[if_pos h2,if_pos (by omega)]
  ·rw[if_neg h2,ih]
   rcases Decidable.em (p.1≤s+1∧s+1≤p.2.1) with h3|h3
   ·omega
   ·rw[if_neg h3]
end
end Go.Proofs.Ythjenkmbbnjcnaa
namespace Go.Proofs.Ythjenkmbbnjcnaa
open Go Go.RowKit
theorem Rn.eqv {α:Type} {m:Option α} {v:α} (h:Rn m (·=v)):m=Option.some v:=by
 obtain⟨w,h1,rfl⟩:=h
 exact h1
theorem le_t {a b:Int} (h:a≤b):leI a b=true:=decide_eq_true h
theorem le_f {a b:Int} (h:b<a):leI a b=false:=decide_eq_false (by omega)
theorem eq_t {a b:Int} (h:a=b):eqI a b=true:=decide_eq_true h
theorem eq_f {a b:Int} (h:a≠b):eqI a b=false:=decide_eq_false h
def SM (m:List Int):Prop:=m.Pairwise (·<·)∧∀ x∈m,0≤x∧x≤16384
theorem SM.nil:SM []:=⟨List.Pairwise.nil,fun x hx=>by simp at hx⟩
def cP (c:Claim):Int×Int×(Int×Int):=(c.frm,c.to,(c.node,c.epoch))
def fC (l:List Claim) (s:Int):Option (Int×Int):=fnP (l.map cP) s
def inB (x:Int):Prop:=-1000000≤x∧x≤1000000
end Go.Proofs.Ythjenkmbbnjcnaa
namespace Go.Proofs.Ythjenkmbbnjcnaa
open Go Go.RowKit
section
variable {β:Type}
def FinP (out:List (Int×Int×β)) (f:Int→Option β):Prop:=canP out∧∀ s,fnP out s=f s
theorem FinP.ext {l m:List (Int×Int×β)} {f g:Int→Option β} (hl:FinP l f) (hm:FinP m g) (h:∀ s,f s=g s):l=m:=EE hl.1 hm.1 fun s=>by rw[hl.2,hm.2,h]
def Stp (m:List Int) (f:Int→Option β):Prop:=(∀ s,s+1 ∉ m→f (s+1)=f s)∧∀ s,s<0∨16384≤s→f s=none
theorem Stp.const {m:List Int} {f:Int→Option β} (h:Stp m f) {a s:Int} (h1:a≤s) (h2:∀ x∈m,¬ (a<x∧x≤s)):f s=f a:=by
 obtain⟨n,hn⟩:=Int.eq_ofNat_of_zero_le (show 0≤s - a by omega)
 have key:∀ k:Nat,k≤n→f (a+k)=f a:=by
  intro k
  induction k with
  |zero=>intro _;simp
  |succ k ih =>
   intro hk
   have e:a+((k+1:Nat):Int)=(a+k)+1:=by omega
   rw[e,h.1 (a+k) (fun hmem=>h2 _ hmem (by omega)),ih (by omega)]
 have:=key n (Nat.le_refl _)
 rwa [← hn,show a+(s - a)=s by omega] at this
theorem Stp.first {m:List Int} {f:Int→Option β} (h:Stp m f) (hm:SM m) (hl:0<m.length):BdP m[0] [] f:=by
 refine BdP.nil fun s hs=>?_
 rcases Decidable.em (s<0) with h0|h0
 ·exact h.2 s (.inl h0)
 ·rw[h.const (a:=-1) (by omega) fun x hx hc=>?_]
  ·exact h.2 _ (.inl (by omega))
  ·obtain⟨i,hi,rfl⟩:=List.mem_iff_getElem.1 hx
   rcases Nat.eq_zero_or_pos i with rfl|hp
   ·omega
   ·have:=List.pairwise_iff_getElem.1 hm.1 0 i hl hi hp
    omega
theorem Stp.next [DecidableEq β] {m:List Int} {f:Int→Option β} (h:Stp m f) (hm:SM m) {j:Nat} (hj:j+1<m.length) {out:List (Int×Int×β)} (hb:BdP m[j] out f) :
  (f m[j]=none→BdP m[j+1] out f)∧∀ v,f m[j]=some v→BdP m[j+1] (putP out (m[j],m[j+1] - 1,v)) f:=by
 have hlt:=List.pairwise_iff_getElem.1 hm.1 j (j+1) (by omega) hj (by omega)
 have hc:∀ s,m[j]≤s→s<m[j+1]→f s=f m[j]:=by
  intro s h1 h2
  refine h.const h1 fun x hx hc=>?_
  obtain⟨i,hi,rfl⟩:=List.mem_iff_getElem.1 hx
  rcases Nat.lt_trichotomy i j with h3|rfl|h3
  ·have:=List.pairwise_iff_getElem.1 hm.1 i j hi (by omega) h3
   omega
  ·omega
  ·rcases Nat.eq_or_lt_of_le h3 with h4|h4
   ·subst h4
    have h5:m[j.succ]=m[j+1]:=rfl
    omega
   ·have:=List.pairwise_iff_getElem.1 hm.1 (j+1) i hj hi h4
    omega
 refine⟨fun hn=>hb.skip (by omega) fun s h1 h2=>by rw[hc s h1 h2,hn],fun v hv=>?_⟩
 have:=hb.put (b:=m[j+1] - 1) (v:=v) (by omega) fun s h1 h2=>by rw[hc s h1 (by omega),hv]
 rwa [show m[j+1] - 1+1=m[j+1] by omega] at this
theorem Stp.last {m:List Int} {f:Int→Option β} (h:Stp m f) (hm:SM m) {j:Nat} (hj:j<m.length) (hl:m.length≤j+1) {out:List (Int×Int×β)} (hb:BdP m[j] out f):FinP out f:=by
 refine⟨hb.can,fun s=>?_⟩
 rcases Decidable.em (s<m[j]) with h1|h1
 ·exact hb.fn s h1
 ·have e:f s=none:=by
   rcases Decidable.em (16384≤s) with h2|h2
   ·exact h.2 s (.inr h2)
   ·have:=h.const (a:=s) (s:=16384) (by omega) fun x hx hc=>by
     obtain⟨i,hi,rfl⟩:=List.mem_iff_getElem.1 hx
     rcases Nat.eq_or_lt_of_le (show i≤j by omega) with h3|h3
     ·subst h3
      omega
     ·have:=List.pairwise_iff_getElem.1 hm.1 i j hi hj h3
      omega
    rw[← this]
    exact h.2 _ (.inr (Int.le_refl _))
  rw[e]
  exact Cj fun p hp hc=>by have:=hb.pos p hp;omega
theorem Stp.none {f:Int→Option β} (h:Stp [] f):FinP ([]:List (Int×Int×β)) f:=by
 refine⟨trivial,fun s=>?_⟩
 rcases Decidable.em (s<0) with h0|h0
 ·rw[h.2 s (.inl h0)];rfl
 ·rw[h.const (a:=-1) (by omega) (fun x hx=>by simp at hx),h.2 _ (.inl (by omega))];rfl
end
def sP (x:Span):Int×Int×Unit:=(x.frm,x.to,())
def inS (l:List Span) (s:Int):Prop:=(0≤s∧s<16384)∧∃ x∈l,x.frm≤s∧s≤x.to
instance (l:List Span) (s:Int):Decidable (inS l s):=by unfold inS;infer_instance
def fS (p:Int→Prop) [DecidablePred p] (s:Int):Option Unit:=if p s then some () else none
theorem Stp.inS {m:List Int} {l:List Span} (h0:(0:Int)∈m) (h1:(16384:Int)∈m) (h:∀ x∈l,x.frm≤x.to→(0≤x.frm∧x.frm≤16384→x.frm∈m)∧(x.to<16384→0≤x.to+1→x.to+1∈m)):∀ s,s+1 ∉ m→(Go.Proofs.Ythjenkmbbnjcnaa.inS l (s+1)↔Go.Proofs.Ythjenkmbbnjcnaa.inS l s):=by
 intro s hs
 have n0:s+1≠0:=fun e=>hs (e ▸ h0)
 have n1:s+1≠16384:=fun e=>hs (e ▸ h1)
 unfold Go.Proofs.Ythjenkmbbnjcnaa.inS
 constructor
 ·rintro⟨a,x,hx,b,c⟩
  refine⟨by omega,x,hx,?_,by omega⟩
  rcases Decidable.em (x.frm≤s) with h2|h2
  ·exact h2
  ·exfalso
   have e:x.frm=s+1:=by omega
   have:=(h x hx (by omega)).1 (by omega)
   rw[e] at this
   exact hs this
 ·rintro⟨a,x,hx,b,c⟩
  refine⟨by omega,x,hx,by omega,?_⟩
  rcases Decidable.em (s+1≤x.to) with h2|h2
  ·exact h2
  ·exfalso
   have e:x.to=s:=by omega
   have:=(h x hx (by omega)).2 (by omega) (by omega)
   rw[e] at this
   exact hs this
end Go.Proofs.Ythjenkmbbnjcnaa
namespace Go.Proofs.Ythjenkmbbnjcnaa
open Go Go.RowKit
theorem Ks {p:Int→Prop} [DecidablePred p] {s:Int} (h:¬ p s):fS p s=none:=if_neg h
theorem Kt {p:Int→Prop} [DecidablePred p] {s:Int} (h:p s):fS p s=some ():=if_pos h
end Go.Proofs.Ythjenkmbbnjcnaa
namespace Go.Proofs.Ythjenkmbbnjcnaa
open Go Go.RowKit
section
variable {β:Type}
theorem D0:∀ {l:List (Int×Int×β)} {p:Int×Int×β},canP l→p∈l→(p.1≤p.2.1∧∀ s,p.1≤s→s≤p.2.1→fnP l s=some p.2.2)
 |[],p,_,hp=>by simp at hp
 |q::l,p,h,hp=>by
  rcases List.mem_cons.1 hp with rfl|hp
  ·exact⟨h.head,fun s h1 h2=>Bj h1 h2⟩
  ·obtain⟨h1,h2⟩:=D0 h.tail hp
   have h3:=h.lt p hp
   exact⟨h1,fun s g1 g2=>by rw[BR (by omega),h2 s g1 g2]⟩
theorem FE:∀ {l:List (Int×Int×β)} {a b:Int},canP l→(∀ p∈l,a≤p.1∧p.2.1≤b)→a≤b+1→(l.length:Int)≤b+1 - a
 |[],a,b,_,_,h=>by simp;omega
 |p::l,a,b,hc,hp,h=>by
  have h1:=hp p (by simp)
  have h2:=hc.head
  have:=FE (a:=p.2.1+1) (b:=b) hc.tail (fun q hq=>⟨by have:=hc.lt q hq;omega,(hp q (by simp[hq])).2⟩) (by omega)
  simp
  omega
end
def RngC (l:List Claim):Prop:=∀ c∈l,0≤c.frm∧c.frm≤c.to∧c.to≤16383∧0≤c.node∧1≤c.epoch
def GoodC (l:List Claim):Prop:=canP (l.map cP)∧RngC l
def Tells (f:Int→Option (Int×Int)):Prop:=∀ s v,f s=some v→(0≤s∧s≤16383)∧0≤v.1∧1≤v.2
theorem K1:∀ {a b:Claim},cP a=cP b→a=b:=by
 intro a b h
 obtain⟨a1,a2,a3,a4⟩:=a
 obtain⟨b1,b2,b3,b4⟩:=b
 simp[cP] at h
 obtain⟨h1,h2,h3,h4⟩:=h
 subst h1 h2 h3 h4
 rfl
theorem IH {α γ:Type} {f:α→γ} (hf:∀ {a b},f a=f b→a=b):∀ {l m:List α},l.map f=m.map f→l=m
 |[],[],_=>rfl
 |[],b::m,h=>by simp at h
 |a::l,[],h=>by simp at h
 |a::l,b::m,h=>by
  rw[List.map_cons,List.map_cons,List.cons.injEq] at h
  have e1:a=b:=hf h.1
  have e2:l=m:=IH (f:=f) hf h.2
  rw[e1,e2]
theorem FinP.good {l:List Claim} {f:Int→Option (Int×Int)} (h:FinP (l.map cP) f) (ht:Tells f):GoodC l:=by
 refine⟨h.1,fun c hc=>?_⟩
 obtain⟨h1,h2⟩:=D0 h.1 (List.mem_map_of_mem hc)
 have a:=ht c.frm _ ((h.2 _).symm.trans (h2 c.frm (Int.le_refl _) h1))
 have b:=ht c.to _ ((h.2 _).symm.trans (h2 c.to h1 (Int.le_refl _)))
 have h1':c.frm≤c.to:=h1
 have e1:(cP c).2.2.1=c.node:=rfl
 have e2:(cP c).2.2.2=c.epoch:=rfl
 rw[e1,e2] at a
 exact⟨a.1.1,h1',b.1.2,a.2.1,a.2.2⟩
theorem GoodC.tells {l:List Claim} (h:GoodC l):Tells (fC l):=by
 intro s v hv
 have key:∀ l:List Claim,RngC l→fC l s=some v→(0≤s∧s≤16383)∧0≤v.1∧1≤v.2:=by
  intro l
  induction l with
  |nil=>intro _ h;simp[fC,fnP] at h
  |cons c l ih =>
   intro hr hf
   have hc:=hr c (by simp)
   rcases Decidable.em (c.frm≤s∧s≤c.to) with h1|h1
   ·have:fC (c::l) s=some (c.node,c.epoch):=Bj (p:=cP c) h1.1 h1.2
    rw[this] at hf
    have:=Option.some.inj hf
    subst this
    exact⟨by omega,hc.2.2.2.1,hc.2.2.2.2⟩
   ·have:fC (c::l) s=fC l s:=BR (p:=cP c) h1
    rw[this] at hf
    exact ih (fun x hx=>hr x (by simp[hx])) hf
 exact key l h.2 hv
theorem GoodC.len {l:List Claim} (h:GoodC l):l.length≤16384:=by
 have:=FE (a:=0) (b:=16383) h.1 (fun p hp=>by
  obtain⟨c,hc,rfl⟩:=List.mem_map.1 hp
  have:=h.2 c hc
  exact⟨this.1,this.2.2.1⟩) (by omega)
 simp at this
 omega
theorem GoodC.fin {l:List Claim} (h:GoodC l):FinP (l.map cP) (fC l):=⟨h.1,fun _=>rfl⟩
theorem GoodC.step {l:List Claim} (h:GoodC l) {m:List Int} (hm:∀ c∈l,c.frm∈m∧c.to+1∈m):∀ s,s+1 ∉ m→fC l (s+1)=fC l s:=by
 intro s hs
 refine FD fun p hp=>?_
 obtain⟨c,hc,rfl⟩:=List.mem_map.1 hp
 obtain⟨h1,h2⟩:=hm c hc
 exact⟨fun e=>hs (by rw[e];exact h1),fun e=>hs (by rw[e];exact h2)⟩
def giveF (f:Int→Option (Int×Int)) (p:Int→Prop) [DecidablePred p] (v:Int×Int) (s:Int):Option (Int×Int):=if p s then some v else f s
theorem J4 {l:List Span} {s:Int}:fnP (l.map sP) s=fS (fun s=>∃ x∈l,x.frm≤s∧s≤x.to) s:=by
 induction l with
 |nil=>rw[Ks (by simp)];rfl
 |cons x l ih =>
  rcases Decidable.em (x.frm≤s∧s≤x.to) with h|h
  ·rw[Kt ⟨x,by simp,h⟩]
   exact Bj (p:=sP x) h.1 h.2
  ·have:fnP ((x::l).map sP) s=fnP (l.map sP) s:=BR (p:=sP x) h
   rw[this,ih]
   unfold fS
   have:(∃ y∈x::l,y.frm≤s∧s≤y.to)↔(∃ y∈l,y.frm≤s∧s≤y.to):=by
    constructor
    ·rintro⟨y,hy,h2⟩
     rcases List.mem_cons.1 hy with rfl|hy
     ·exact absurd h2 h
     ·exact⟨y,hy,h2⟩
    ·rintro⟨y,hy,h2⟩
     exact⟨y,by simp[hy],h2⟩
   simp only[this]
def SaysS (l:List Span) (p:Int→Prop) [DecidablePred p]:Prop:=FinP (l.map sP) (fS p)
theorem SaysS.iff {l:List Span} {p:Int→Prop} [DecidablePred p] (h:SaysS l p) (s:Int):(∃ x∈l,x.frm≤s∧s≤x.to)↔p s:=by
 have:=h.2 s
 rw[J4] at this
 unfold fS at this
 constructor
 ·intro h1
  rw[if_pos h1] at this
  rcases Decidable.em (p s) with h2|h2
  ·exact h2
  ·rw[if_neg h2] at this
   simp at this
 ·intro h1
  rw[if_pos h1] at this
  rcases Decidable.em (∃ x∈l,x.frm≤s∧s≤x.to) with h2|h2
  ·exact h2
  ·rw[if_neg h2] at this
   simp at this
theorem SaysS.rng {l:List Span} {p:Int→Prop} [DecidablePred p] (h:SaysS l p) (hp:∀ s,p s→0≤s∧s≤16383):∀ x∈l,0≤x.frm∧x.frm≤x.to∧x.to≤16383:=by
 intro x hx
 obtain⟨h1,-⟩:=D0 h.1 (List.mem_map_of_mem hx)
 have h1':x.frm≤x.to:=h1
 have a:=hp x.frm ((h.iff _).1 ⟨x,hx,Int.le_refl _,h1'⟩)
 have b:=hp x.to ((h.iff _).1 ⟨x,hx,h1',Int.le_refl _⟩)
 omega
theorem SaysS.len {l:List Span} {p:Int→Prop} [DecidablePred p] (h:SaysS l p) (hp:∀ s,p s→0≤s∧s≤16383):l.length≤16384:=by
 have:=FE (a:=0) (b:=16383) h.1 (fun q hq=>by
  obtain⟨c,hc,rfl⟩:=List.mem_map.1 hq
  have:=h.rng hp c hc
  exact⟨this.1,this.2.2⟩) (by omega)
 simp at this
 omega
theorem SaysS.inS {l:List Span} {p:Int→Prop} [DecidablePred p] (h:SaysS l p) (hp:∀ s,p s→0≤s∧s≤16383) (s:Int):Go.Proofs.Ythjenkmbbnjcnaa.inS l s↔p s:=by
 unfold Go.Proofs.Ythjenkmbbnjcnaa.inS
 rw[h.iff]
 constructor
 ·exact fun h=>h.2
 ·intro h1
  have:=hp s h1
  exact⟨by omega,h1⟩
theorem SaysS.step {l:List Span} {p:Int→Prop} [DecidablePred p] (h:SaysS l p) {m:List Int} (hm:∀ x∈l,x.frm∈m∧x.to+1∈m):∀ s,s+1 ∉ m→(p (s+1)↔p s):=by
 intro s hs
 have:fnP (l.map sP) (s+1)=fnP (l.map sP) s:=FD fun q hq=>by
  obtain⟨c,hc,rfl⟩:=List.mem_map.1 hq
  obtain⟨h1,h2⟩:=hm c hc
  exact⟨fun e=>hs (by rw[e];exact h1),fun e=>hs (by rw[e];exact h2)⟩
 rw[h.2,h.2] at this
 unfold fS at this
 constructor
 ·intro h1
  rw[if_pos h1] at this
  rcases Decidable.em (p s) with h2|h2
  ·exact h2
  ·rw[if_neg h2] at this
   simp at this
 ·intro h1
  rw[if_pos h1] at this
  rcases Decidable.em (p (s+1)) with h2|h2
  ·exact h2
  ·rw[if_neg h2] at this
   simp at this
end Go.Proofs.Ythjenkmbbnjcnaa
namespace Go.Proofs.Ythjenkmbbnjcnaa
open Go Go.RowKit
theorem BdP.fin {β:Type} {a:Int} {out:List (Int×Int×β)} {f:Int→Option β} (h:BdP a out f) (hf:∀ s,a≤s→f s=none):FinP out f:=by
 refine⟨h.can,fun s=>?_⟩
 rcases Decidable.em (s<a) with h1|h1
 ·exact h.fn s h1
 ·rw[hf s (by omega)]
  exact Cj fun p hp hc=>by have:=h.pos p hp;omega
theorem BdP.rng {a:Int} {out:List Claim} {f:Int→Option (Int×Int)} (h:BdP a (out.map cP) f) (hf:∀ s,s<0→f s=none):∀ x∈out,0≤x.frm∧x.frm≤x.to∧x.to<a:=by
 intro x hx
 have a1:x.to<a:=h.pos _ (List.mem_map_of_mem hx)
 obtain⟨a2,a3⟩:=D0 h.can (List.mem_map_of_mem hx)
 have a5:x.frm≤x.to:=a2
 have a6:=h.fn x.frm (by omega)
 rw[a3 x.frm (Int.le_refl _) a5] at a6
 refine⟨?_,a5,a1⟩
 rcases Decidable.em (x.frm<0) with h1|h1
 ·rw[hf x.frm h1] at a6
  simp at a6
 ·omega
def valC (c:Claim):Option (Int×Int):=if c.epoch=0 then none else some (c.node,c.epoch)
theorem GoodC.tail {c:Claim} {l:List Claim} (h:GoodC (c::l)):GoodC l:=⟨canP.tail (p:=cP c) h.1,fun x hx=>h.2 x (by simp[hx])⟩
structure NextC (l:List Claim) (at_:Int) (c:Claim) (r:List Claim):Prop where
 frm:c.frm=at_
 le:at_≤c.to
 last:c.to≤16383
 val:∀ s,at_≤s→s≤c.to→fC l s=valC c
 good:GoodC r
 rest:∀ s,at_≤s→fC r s=fC l s
 num:0≤c.node∧0≤c.epoch∧(c.epoch=0→c.node=0)
def epo:Option (Int×Int)→Int
 |some v=>v.2
 |none=>0
def nod:Option (Int×Int)→Int
 |some v=>v.1
 |none=>0
def joinV (x y:Option (Int×Int)):Option (Int×Int):=if epo y<epo x∨(epo x=epo y∧nod y<nod x) then x else y
def joinF (f g:Int→Option (Int×Int)) (s:Int):Option (Int×Int):=joinV (f s) (g s)
theorem Tells.none {f:Int→Option (Int×Int)} (h:Tells f) {s:Int} (hs:s<0∨16384≤s):f s=Option.none:=by
 cases hf:f s with
 |none=>rfl
 |some v=>exact absurd (h s v hf).1 (by omega)
end Go.Proofs.Ythjenkmbbnjcnaa
namespace Go.Proofs.Ythjenkmbbnjcnaa
open Go Go.RowKit
theorem vrem {k:IntKind} {a b:Int} (h:0≤a) (hb:0<b):remI k a b=some (a % b):=by
 have:¬ b=0:=by omega
 simp only[remI,ne_eq,this,not_false_eq_true,if_true,Int.tmod_eq_emod_of_nonneg h]
def rngH (l:List Int):Prop:=∀ x∈l,0≤x∧x≤65535
def okV (x:Option (Int×Int)):Prop:=∀ v,x=some v→0≤v.1∧1≤v.2
theorem Tells.okV {f:Int→Option (Int×Int)} (h:Tells f) (s:Int):Go.Proofs.Ythjenkmbbnjcnaa.okV (f s):=fun v hv=>(h s v hv).2
def leV (x z:Option (Int×Int)):Prop:=epo x<epo z∨(epo x=epo z∧nod x≤nod z)
theorem leV.refl (x:Option (Int×Int)):leV x x:=.inr ⟨rfl,Int.le_refl _⟩
theorem leV.trans {x y z:Option (Int×Int)} (h1:leV x y) (h2:leV y z):leV x z:=by
 unfold leV at *
 omega
theorem GoodC.ext {a b:List Claim} (ha:GoodC a) (hb:GoodC b) (h:∀ s,fC a s=fC b s):a=b:=IH (f:=cP) K1 (EE ha.1 hb.1 h)
end Go.Proofs.Ythjenkmbbnjcnaa
namespace Go.Proofs.Ythjenkmbbnjcnaa
open Go Go.RowKit
def keyS (x:Span):Int:=x.frm
def ksS (d:List Span) (i:Nat):Int:=keyS (d.getD i (⟨0,0⟩:Span))
def cvS (x y:Span):Int:=if x.frm<y.frm then -1 else if y.frm<x.frm then 1 else 0
structure RP {α:Type} (a b:Nat) (l r:List α):Prop where
 perm:r.Perm l
 off:∀ p,(p<a∨b≤p)→r[p]?=l[p]?
section
variable {α:Type} {a b:Nat} {l r s:List α}
theorem RP.refl (a b:Nat) (l:List α):RP a b l l:=⟨List.Perm.refl _,fun _ _=>rfl⟩
theorem RP.trans (h1:RP a b l r) (h2:RP a b r s):RP a b l s:=⟨h2.perm.trans h1.perm,fun p hp=>(h2.off p hp).trans (h1.off p hp)⟩
theorem RP.mono {a' b':Nat} (h:RP a b l r) (h1:a'≤a) (h2:b≤b'):RP a' b' l r:=⟨h.perm,fun p hp=>h.off p (by omega)⟩
theorem RP.len (h:RP a b l r):r.length=l.length:=h.perm.length_eq
theorem RP.seg (h:RP a b l r) (hab:a≤b) (hb:b≤l.length) {i:Nat} (h1:a≤i) (h2:i<b):∃ j,a≤j∧j<b∧r[i]?=l[j]?:=by
 have hlen:=h.len
 have e1:r.take a=l.take a:=List.ext_getElem? fun i=>by
  rw[List.getElem?_take,List.getElem?_take]
  split
  ·exact h.off i (.inl (by assumption))
  ·rfl
 have e2:r.drop b=l.drop b:=List.ext_getElem? fun i=>by
  rw[List.getElem?_drop,List.getElem?_drop]
  exact h.off _ (.inr (by omega))
 have split3:∀ m:List α,m=m.take a++((m.drop a).take (b - a)++m.drop b):=fun m=>by
  have:m.drop b=(m.drop a).drop (b - a):=by rw[List.drop_drop];congr 1;omega
  rw[this,List.take_append_drop,List.take_append_drop]
 have hp:=h.perm
 rw[split3 r,split3 l,e1,e2] at hp
 have hp2:=(List.perm_append_right_iff _).1 ((List.perm_append_left_iff _).1 hp)
 have hi:i<r.length:=by omega
 have hm:r[i]∈(r.drop a).take (b - a):=by
  refine List.mem_take_iff_getElem.2 ⟨i - a,by simp;omega,?_⟩
  rw[List.getElem_drop]
  congr 1
  omega
 obtain⟨k,hk,he⟩:=List.mem_take_iff_getElem.1 (hp2.mem_iff.1 hm)
 rw[List.getElem_drop] at he
 simp at hk
 refine⟨a+k,by omega,by omega,?_⟩
 rw[List.getElem?_eq_getElem hi,← he,List.getElem?_eq_getElem]
end
def swS (d:List Span) (i j:Nat):List Span:=(d.set i (d.getD j (⟨0,0⟩:Span))).set j (d.getD i (⟨0,0⟩:Span))
theorem E6 {d e:List Span} {i j:Nat} (h:d[i]?=e[j]?):ksS d i=ksS e j:=by
 unfold ksS
 rw[List.getD_eq_getElem?_getD,List.getD_eq_getElem?_getD,h]
theorem Gb {d:List Span} {i j:Nat} (hi:i<d.length) (hj:j<d.length) (p:Nat):ksS (swS d i j) p=if p=j then ksS d i else if p=i then ksS d j else ksS d p:=by
 unfold ksS swS
 rw[List.getD_eq_getElem?_getD,List.getElem?_set]
 by_cases e:j=p
 ·subst e
  rw[if_pos rfl,if_pos (by simpa using hj),if_pos rfl]
  rfl
 ·rw[if_neg e,if_neg fun h=>e h.symm,List.getElem?_set]
  by_cases e2:i=p
  ·subst e2
   rw[if_pos rfl,if_pos hi,if_pos rfl]
   rfl
  ·rw[if_neg e2,if_neg fun h=>e2 h.symm,← List.getD_eq_getElem?_getD]
theorem RP.swS {d:List Span} {a b i j:Nat} (hi:i<d.length) (hj:j<d.length) (h1:a≤i∧i<b) (h2:a≤j∧j<b):RP a b d (Go.Proofs.Ythjenkmbbnjcnaa.swS d i j):=by
 have e1:d.getD i (⟨0,0⟩:Span)=d[i]:=by rw[List.getD_eq_getElem?_getD,List.getElem?_eq_getElem hi];rfl
 have e2:d.getD j (⟨0,0⟩:Span)=d[j]:=by rw[List.getD_eq_getElem?_getD,List.getElem?_eq_getElem hj];rfl
 unfold Go.Proofs.Ythjenkmbbnjcnaa.swS
 rw[e1,e2]
 refine⟨List.set_set_perm hi hj,fun p hp=>?_⟩
 rw[List.getElem?_set_ne (by omega),List.getElem?_set_ne (by omega)]
def SortedS (d:List Span) (a b:Nat):Prop:=∀ p q,a≤p→p<q→q<b→ksS d p≤ksS d q
structure InsS (l d:List Span) (a i j:Nat):Prop where
 rp:RP a (i+1) l d
 aj:a≤j
 ji:j≤i
 srt:∀ p q,a≤p→p<q→q≤i→p≠j→q≠j→ksS d p≤ksS d q
 low:∀ q,j<q→q≤i→ksS d j≤ksS d q
theorem InsS.step {l d:List Span} {a i j:Nat} (h:InsS l d a i (j+1)) (hi:i<l.length) (haj:a≤j) (hlt:ksS d (j+1)<ksS d j):InsS l (swS d (j+1) j) a i j:=by
 have hji:=h.ji
 have hl:=h.rp.len
 have hk:=Gb (d:=d) (i:=j+1) (j:=j) (by omega) (by omega)
 refine⟨h.rp.trans (RP.swS (by omega) (by omega) (by omega) (by omega)),haj,by omega,fun p q g1 g2 g3 g4 g5=>?_,fun q g1 g2=>?_⟩
 ·rw[hk,hk,if_neg g4,if_neg g5]
  rcases Decidable.em (p=j+1) with e|e
  ·subst e
   rw[if_pos rfl,if_neg (by omega)]
   exact h.srt j q haj (by omega) g3 (by omega) (by omega)
  ·rw[if_neg e]
   rcases Decidable.em (q=j+1) with e'|e'
   ·subst e'
    rw[if_pos rfl]
    exact h.srt p j g1 (by omega) (by omega) (by omega) (by omega)
   ·rw[if_neg e']
    exact h.srt p q g1 g2 g3 e e'
 ·rw[hk,hk,if_pos rfl,if_neg (by omega)]
  rcases Decidable.em (q=j+1) with e|e
  ·rw[if_pos e]
   omega
  ·rw[if_neg e]
   exact h.low q (by omega) g2
theorem InsS.done {l d:List Span} {a i j:Nat} (h:InsS l d a i j) (hc:a<j→ksS d (j - 1)≤ksS d j):RP a (i+1) l d∧SortedS d a (i+1):=by
 refine⟨h.rp,fun p q h1 h2 h3=>?_⟩
 rcases Decidable.em (p=j) with e|e
 ·subst e
  exact h.low q h2 (by omega)
 ·rcases Decidable.em (q=j) with e'|e'
  ·subst e'
   have g3:=hc (by omega)
   rcases Decidable.em (p=q - 1) with e2|e2
   ·subst e2
    exact g3
   ·have:=h.srt p (q - 1) h1 (by omega) (by have:=h.ji;omega) e (by omega)
    omega
  ·exact h.srt p q h1 h2 (by omega) e e'
def sortMost:Nat:=49
structure PES (l d:List Span) (a b:Nat) (K:Int) (i j:Nat):Prop where
 rp:RP a b l d
 pv:ksS d a=K
 lo:∀ p,a<p→p<i→ksS d p≤K
 hi:∀ p,j<p→p<b→K<ksS d p
 ai:a+1≤i
 ij:i≤j+1
 jb:j<b
structure PTS (l d:List Span) (a b:Nat) (K:Int) (i j:Nat):Prop where
 rp:RP a b l d
 pv:ksS d a=K
 lo:∀ p,a<p→p<i→ksS d p<K
 hi:∀ p,j<p→p<b→K≤ksS d p
 ai:a+1≤i
 ij:i≤j+1
 jb:j<b
structure PSS (d:List Span) (a b:Nat) (K:Int) (i' j':Nat):Prop where
 lo:∀ p,a<p→p<i'→ksS d p<K
 hi:∀ p,j'<p→p<b→K≤ksS d p
 ge:i'≤j'+1
 both:i'≤j'→K≤ksS d i'∧ksS d j'<K
theorem PTS.scan {l d:List Span} {a b i j i' j':Nat} {K:Int} (h:PTS l d a b K i j) (i1:i≤i') (i3:∀ p,i≤p→p<i'→decide (ksS d p<K)=true) (i4:i'<j+1→decide (ksS d i'<K)=false)
  (j1:i' - 1≤j') (j2:j'≤j) (j3:∀ p,j'<p→p≤j→decide (¬ ksS d p<K)=true) (j4:i' - 1<j'→decide (¬ ksS d j'<K)=false):PSS d a b K i' j':=by
 have hai:=h.ai
 refine⟨fun p g1 g2=>?_,fun p g1 g2=>?_,by omega,fun hle=>⟨?_,?_⟩⟩
 ·rcases Nat.lt_or_ge p i with g3|g3
  ·exact h.lo p g1 g3
  ·exact of_decide_eq_true (i3 p g3 g2)
 ·rcases Nat.lt_or_ge j p with g3|g3
  ·exact h.hi p g3 g2
  ·have:=of_decide_eq_true (j3 p g1 g3)
   omega
 ·have:=of_decide_eq_false (i4 (by omega))
  omega
 ·have:=of_decide_eq_false (j4 (by omega))
  omega
theorem PSS.last {l d:List Span} {a b i' j':Nat} {K:Int} (hr:RP a b l d) (pv:ksS d a=K) (h:PSS d a b K i' j') (hb:b≤l.length) (h1:a≤j') (h2:j'<b) (h3:j'<i') :
  RP a b l (swS d j' a)∧ksS (swS d j' a) j'=K∧(∀ p,a≤p→p<j'→ksS (swS d j' a) p<K)∧∀ p,j'<p→p<b→K≤ksS (swS d j' a) p:=by
 have hd:=hr.len
 have hge:=h.ge
 have hk:=Gb (d:=d) (i:=j') (j:=a) (by omega) (by omega)
 refine⟨hr.trans (RP.swS (by omega) (by omega) (by omega) (by omega)),?_,fun p g1 g2=>?_,fun p g1 g2=>?_⟩
 ·rw[hk]
  split
  ·rename_i e
   rw[e]
   exact pv
  ·rw[if_pos rfl]
   exact pv
 ·rw[hk]
  split
  ·exact h.lo j' (by omega) (by omega)
  ·rw[if_neg (by omega)]
   exact h.lo p (by omega) (by omega)
 ·rw[hk,if_neg (by omega),if_neg (by omega)]
  exact h.hi p g1 g2
theorem PSS.more {l d:List Span} {a b i' j':Nat} {K:Int} (hr:RP a b l d) (pv:ksS d a=K) (h:PSS d a b K i' j') (hb:b≤l.length) (h1:a+1≤i') (h2:j'<b) (h3:i'≤j') :
  i'≠j'∧PTS l (swS d i' j') a b K (i'+1) (j' - 1):=by
 have hd:=hr.len
 obtain⟨e1,e2⟩:=h.both h3
 have hne:i'≠j':=fun e=>by subst e;omega
 have hk:=Gb (d:=d) (i:=i') (j:=j') (by omega) (by omega)
 refine⟨hne,hr.trans (RP.swS (by omega) (by omega) (by omega) (by omega)),?_,fun p g1 g2=>?_,fun p g1 g2=>?_,by omega,by omega,by omega⟩
 ·rw[hk,if_neg (by omega),if_neg (by omega)]
  exact pv
 ·rw[hk,if_neg (by omega)]
  split
  ·exact e2
  ·exact h.lo p g1 (by omega)
 ·rw[hk]
  split
  ·exact e1
  ·rw[if_neg (by omega)]
   exact h.hi p (by omega) g2
def HeapS (d:List Span) (f lo hi:Nat):Prop:=∀ i c,lo≤i→(c=2*i+1∨c=2*i+2)→c<hi→ksS d (f+c)≤ksS d (f+i)
theorem HeapS.max {d:List Span} {f hi:Nat} (h:HeapS d f 0 hi):∀ i,i<hi→ksS d (f+i)≤ksS d f:=by
 intro i
 induction i using Nat.strongRecOn with
 |ind i ih =>
  intro hi'
  rcases Nat.eq_zero_or_pos i with rfl|hp
  ·exact Int.le_refl _
  ·have h1:=h ((i - 1) / 2) i (Nat.zero_le _) (by omega) hi'
   have h2:=ih ((i - 1) / 2) (by omega) (by omega)
   omega
structure SDS (l d:List Span) (f lo hi r:Nat):Prop where
 rp:RP f (f+hi) l d
 lr:lo≤r
 oth:∀ i c,lo≤i→i≠r→(c=2*i+1∨c=2*i+2)→c<hi→ksS d (f+c)≤ksS d (f+i)
 up:∀ p c,lo≤p→(r=2*p+1∨r=2*p+2)→(c=2*r+1∨c=2*r+2)→c<hi→ksS d (f+c)≤ksS d (f+p)
theorem SDS.step {l d:List Span} {f lo hi r c0:Nat} (h:SDS l d f lo hi r) (hb:f+hi≤l.length) (h1:c0=2*r+1∨c0=2*r+2) (h2:c0<hi) (h3:ksS d (f+r)<ksS d (f+c0))
  (h4:∀ c,(c=2*r+1∨c=2*r+2)→c<hi→ksS d (f+c)≤ksS d (f+c0)):SDS l (swS d (f+r) (f+c0)) f lo hi c0:=by
 have hd:=h.rp.len
 have hlr:=h.lr
 have hk:=Gb (d:=d) (i:=f+r) (j:=f+c0) (by omega) (by omega)
 refine⟨h.rp.trans (RP.swS (by omega) (by omega) (by omega) (by omega)),by omega,fun i c g1 g2 g3 g4=>?_,fun p c g1 g2 g3 g4=>?_⟩
 ·rw[hk,hk,if_neg (show ¬ f+i=f+c0 by omega)]
  rcases Decidable.em (i=r) with e|e
  ·subst e
   rw[if_pos (show f+i=f+i from rfl)]
   rcases Decidable.em (c=c0) with e2|e2
   ·rw[if_pos (by omega)]
    omega
   ·rw[if_neg (by omega),if_neg (by omega)]
    exact h4 c g3 g4
  ·rw[if_neg (show ¬ f+i=f+r by omega),if_neg (show ¬ f+c=f+c0 by omega)]
   rcases Decidable.em (c=r) with e2|e2
   ·subst e2
    rw[if_pos rfl]
    exact h.up i c0 g1 g3 h1 h2
   ·rw[if_neg (by omega)]
    exact h.oth i c g1 e g3 g4
 ·have hp:p=r:=by omega
  subst hp
  rw[hk,hk,if_neg (by omega),if_neg (by omega),if_neg (by omega),if_pos rfl]
  exact h.oth c0 c (by omega) (by omega) g3 g4
def PreS (d:List Span) (a b:Nat):Prop:=0<a→∀ i,a≤i→i<b→ksS d (a - 1)≤ksS d i
def SepS (d:List Span) (a b a' b':Nat):Prop:=∀ p q,a≤p→p<q→q<b→(p<a'∨b'≤q)→ksS d p≤ksS d q
theorem PreS.keep {d r:List Span} {a b:Nat} (h:PreS d a b) (hr:RP a b d r) (hab:a≤b) (hb:b≤d.length):PreS r a b:=by
 intro h0 i h1 h2
 obtain⟨j,x1,x2,x3⟩:=hr.seg hab hb h1 h2
 rw[E6 x3,E6 (hr.off (a - 1) (.inl (by omega)))]
 exact h h0 j x1 x2
theorem SepS.keep {d r:List Span} {a b a' b':Nat} (h:SepS d a b a' b') (hr:RP a' b' d r) (h1:a≤a') (h2:a'≤b') (h3:b'≤b) (hb:b≤d.length):SepS r a b a' b':=by
 intro p q g1 g2 g3 g4
 have key:∀ i,∃ j,ksS r i=ksS d j∧((i<a'∧j=i)∨(b'≤i∧j=i)∨(a'≤i∧i<b'∧a'≤j∧j<b')):=by
  intro i
  rcases Nat.lt_or_ge i a' with x|x
  ·exact⟨i,E6 (hr.off i (.inl x)),.inl ⟨x,rfl⟩⟩
  ·rcases Nat.lt_or_ge i b' with y|y
   ·obtain⟨j,x1,x2,x3⟩:=hr.seg h2 (by omega) x y
    exact⟨j,E6 x3,.inr (.inr ⟨x,y,x1,x2⟩)⟩
   ·exact⟨i,E6 (hr.off i (.inr y)),.inr (.inl ⟨y,rfl⟩)⟩
 obtain⟨p',e1,f1⟩:=key p
 obtain⟨q',e2,f2⟩:=key q
 rw[e1,e2]
 exact h p' q' (by omega) (by omega) (by omega) (by omega)
theorem SepS.done {r:List Span} {a b a' b':Nat} (h:SepS r a b a' b') (hs:SortedS r a' b'):SortedS r a b:=by
 intro p q g1 g2 g3
 rcases Decidable.em (p<a'∨b'≤q) with x|x
 ·exact h p q g1 g2 g3 x
 ·exact hs p q (by omega) g2 (by omega)
end Go.Proofs.Ythjenkmbbnjcnaa
namespace Go.Proofs.Ythjenkmbbnjcnaa
open Go Go.RowKit
def Rises (l:List Span):Prop:=l.Pairwise fun x y=>x.frm≤y.frm
theorem SortedS.rises {l:List Span} (h:SortedS l 0 l.length):Rises l:=by
 refine List.pairwise_iff_getElem.2 fun i j hi hj hij=>?_
 have:=h i j (Nat.zero_le _) hij hj
 unfold ksS keyS at this
 rw[List.getD_eq_getElem?_getD,List.getD_eq_getElem?_getD,List.getElem?_eq_getElem hi,List.getElem?_eq_getElem hj] at this
 exact this
def SortableS (l:List Span):Prop:=l.length≤200∧(l.length≤sortMost∨Rises l)
theorem SaysS.of {l:List Span} {p:Int→Prop} [DecidablePred p] (h:canP (l.map sP)) (hp:∀ t,(∃ x∈l,x.frm≤t∧t≤x.to)↔p t):SaysS l p:=by
 refine⟨h,fun s=>?_⟩
 rw[J4]
 unfold fS
 simp only[hp s]
end Go.Proofs.Ythjenkmbbnjcnaa
namespace Go.Proofs.Ythjenkmbbnjcnaa
open Go Go.RowKit
end Go.Proofs.Ythjenkmbbnjcnaa
namespace Go.Proofs.Ythjenkmbbnjcnaa
open Go Go.RowKit
def minP (a b:List Span) (t:Int):Prop:=inS a t∧¬ inS b t
instance (a b:List Span) (t:Int):Decidable (minP a b t):=by unfold minP;infer_instance
structure Made (a:List Claim) (n:Nat):Prop where
 good:GoodC a
 few:a.length≤n
 low:∀ s v,fC a s=some v→v.1≤3∧v.2≤6
theorem K2 (l:List Claim) (s:Int) (hl:l.length≤1000000):BM big l s=some (match fC l s with|some v=>(v.1,v.2,true)|none=>(0,0,false)):=by
 refine Rn.eqv ?_
 unfold BM
 refine Rn.lt (Rn.bn (P:=fun y=>y=match fC l s with|some v=>.inr (v.1,v.2,true)|none=>.inl ()) (Rn.iter _ (fun j a=>a=(j:Int)∧fC l s=fC (l.drop j) s) l.length (by unfold big;omega) ⟨rfl,by simp⟩ fun j a hj hI=>?_) fun y hy=>?_)
 ·obtain⟨rfl,hI⟩:=hI
  refine Rn.lt (Rn.ite (fun hd=>?_) fun hd=>?_)
  ·have hjl:j<l.length:=by
    have:=of_decide_eq_true (p:=((j:Int)<(l.length:Int))) hd
    omega
   have hnth:=JU hjl
   rw[List.drop_eq_getElem_cons hjl] at hI
   generalize l[j]=c at hI hnth
   refine Rn.bnE hnth ?_
   rcases Decidable.em (c.frm≤s∧s≤c.to) with hc|hc
   ·refine Rn.bnE (v:=true) ?_ (Rn.lt (Rn.ite (fun _=>Rn.some ?_) (fun h=>by simp at h)))
    ·simp only[C9]
     rw[le_t hc.1,IU,le_t hc.2]
    ·rw[hI,show fC (c::List.drop (j+1) l) s=some (c.node,c.epoch) from Bj (p:=cP c) hc.1 hc.2]
   ·refine Rn.bnE (v:=false) ?_ (Rn.lt (Rn.ite (fun h=>by simp at h) fun _=>Rn.lt (Rn.some ⟨hjl,?_,?_⟩)))
    ·simp only[C9]
     rcases Decidable.em (c.frm≤s) with h1|h1
     ·rw[le_t h1,IU,le_f (by omega)]
     ·rw[le_f (by omega),IV]
    ·rw[IG (by omega) (by omega)]
     rfl
    ·rw[hI]
     exact BR (p:=cP c) hc
  ·have hjl:j=l.length:=by
    have:=of_decide_eq_false (p:=((j:Int)<(l.length:Int))) hd
    omega
   subst hjl
   rw[List.drop_length] at hI
   refine Rn.some ?_
   rw[hI]
   rfl
 ·subst hy
  cases fC l s with
  |some v=>exact Rn.some rfl
  |none=>exact Rn.some rfl
def ownP (f:Int→Option (Int×Int)) (nd:Int) (s:Int):Prop:=(f s).map (·.1)=some nd
instance (f:Int→Option (Int×Int)) (nd s:Int):Decidable (ownP f nd s):=by unfold ownP;infer_instance
theorem GoodC.iff {l:List Claim} (h:GoodC l) (s:Int) (v:Int×Int):fC l s=some v↔∃ c∈l,(c.frm≤s∧s≤c.to)∧(c.node,c.epoch)=v:=by
 constructor
 ·intro hv
  have key:∀ l:List Claim,fC l s=some v→∃ c∈l,(c.frm≤s∧s≤c.to)∧(c.node,c.epoch)=v:=by
   intro l
   induction l with
   |nil=>intro h;simp[fC,fnP] at h
   |cons c l ih =>
    intro hf
    rcases Decidable.em (c.frm≤s∧s≤c.to) with h1|h1
    ·have:fC (c::l) s=some (c.node,c.epoch):=Bj (p:=cP c) h1.1 h1.2
     rw[this] at hf
     exact⟨c,by simp,h1,Option.some.inj hf⟩
    ·have:fC (c::l) s=fC l s:=BR (p:=cP c) h1
     rw[this] at hf
     obtain⟨x,hx,h2⟩:=ih hf
     exact⟨x,by simp[hx],h2⟩
  exact key l hv
 ·rintro⟨c,hc,h1,rfl⟩
  exact (D0 h.1 (List.mem_map_of_mem hc)).2 s h1.1 h1.2
theorem GoodC.rises {l:List Claim} (h:GoodC l):l.Pairwise fun x y=>x.frm≤y.frm:=by
 have:∀ l:List Claim,canP (l.map cP)→l.Pairwise fun x y=>x.frm≤y.frm:=by
  intro l
  induction l with
  |nil=>intro _;exact List.Pairwise.nil
  |cons c l ih =>
   intro hc
   rw[List.pairwise_cons]
   refine⟨fun y hy=>?_,ih (canP.tail (p:=cP c) hc)⟩
   have h1:c.to<y.frm:=canP.lt (p:=cP c) hc (cP y) (List.mem_map_of_mem hy)
   have h2:c.frm≤c.to:=canP.head (p:=cP c) hc
   omega
 exact this l h.1
theorem SaysS.empty {l:List Span} {p:Int→Prop} [DecidablePred p] (h:SaysS l p) (hp:∀ t,¬ p t):l=[]:=by
 cases l with
 |nil=>rfl
 |cons x l=>exact absurd ((h.iff x.frm).1 ⟨x,by simp,Int.le_refl _,h.1.head⟩) (hp _)
end Go.Proofs.Ythjenkmbbnjcnaa
namespace Go.Proofs.Ythjenkmbbnjcnaa
open Go Go.RowKit
def nd (m:Int) (cl:List Claim) (mv:List Move):Node:=⟨4,1,m,1,0,cl,[],mv,0,[],⟨⟨1,0⟩,0,[],⟨0,0⟩,0⟩,⟨[0,0,0,0],[[],[],[],[]]⟩,0,[],0⟩
theorem K3:B9 big 1 []=some (nd (-1) [⟨0,16383,1,1⟩] []):=by kernel_rfl
theorem I9:BQ big=some true:=by kernel_rfl
theorem HR (m:Int) (c:Claim) (mv:List Move) (h:mv.length≤1):BK big (nd m [c] mv)=some (nd m [c] mv):=by
 match mv,h with
 |[],_=>rfl
 |[x],_=>rfl
 |_::_::_,h=>simp at h
theorem orM (P Q:Prop) [Decidable P] [Decidable Q]:ite' (decide P) (some true) (some (decide Q))=some (decide (P∨Q)):=by
 by_cases h:P <;> simp[ite',h]
def badA (slot to_:Int):Prop:=slot<0∨16384≤slot∨to_<0∨4≤to_∨to_=1
instance (slot to_:Int):Decidable (badA slot to_):=by unfold badA;infer_instance
theorem JA (m:Int) (c:Claim) (mv:List Move) (h:mv.length≤1) (slot to_:Int) (hb:badA slot to_):AL big (nd m [c] mv) slot to_=some (nd m [c] mv,1):=by
 refine Rn.eqv ?_
 unfold AL
 refine Rn.bnE (HR m c mv h) (Rn.bnE (v:=true) ?_ (Rn.lt (Rn.ite (fun _=>?_) fun h=>by cases h)))
 ·rw[show (nd m [c] mv).count=4 from rfl,show (nd m [c] mv).id=1 from rfl]
  simp only[C9,ltI,geI,eqI,orM]
  exact congrArg some (decide_eq_true hb)
 ·exact Rn.chk (by show room mv.length 1=true;simp[room];omega) (Rn.some rfl)
theorem J5 (n e slot:Int) (h1:0≤slot) (h2:slot<16384):BM big [⟨0,16383,n,e⟩] slot=some (n,e,true):=by
 rw[K2 _ _ (by simp)]
 simp only[fC,fnP,List.map_cons,cP]
 rw[if_pos ⟨h1,by omega⟩]
theorem Gc (m n e:Int) (mv:List Move) (h:mv.length≤1) (slot to_:Int) (hb:¬ badA slot to_) (hr:m≠-1∨n≠1):AL big (nd m [⟨0,16383,n,e⟩] mv) slot to_=some (nd m [⟨0,16383,n,e⟩] mv,9):=by
 refine Rn.eqv ?_
 unfold AL
 have hb2:=hb
 unfold badA at hb2
 refine Rn.bnE (HR m _ mv h) (Rn.bnE (v:=false) ?_ (Rn.lt (Rn.ite (fun h=>by cases h) fun _=>?_)))
 ·rw[show ∀ m c,(nd m [c] mv).count=4 from fun _ _=>rfl,show ∀ m c,(nd m [c] mv).id=1 from fun _ _=>rfl]
  simp only[C9,ltI,geI,eqI,orM]
  exact congrArg some (decide_eq_false hb)
 ·refine Rn.bnE (J5 n e slot (by omega) (by omega)) (Rn.bnE (v:=true) ?_ (Rn.lt (Rn.ite (fun _=>?_) fun h=>by cases h)))
  ·simp only[C9,nd,notB]
   by_cases hm:m=-1
   ·subst hm
    have hn:n≠1:=by omega
    simp[neI,IV,hn]
   ·simp[neI,IU,hm]
  ·exact Rn.chk (by show room mv.length 1=true;simp[room];omega) (Rn.some rfl)
theorem JV (slot:Int):Bz big [] slot=some (0,false):=rfl
theorem JW (a:Int):Bc big a a=some 0:=by
 have hn:∀ x:Int,Bi big x=some false:=fun x=>by
  unfold Bi
  simp[neI,C9]
 unfold Bc
 simp only[hn,Iv,C9,IV]
 simp[ltI,gtI,ite',Iv,C9]
theorem JX (slot to_:Int):Bz big [⟨slot,to_,0,⟨#[]⟩⟩] slot=some (0,true):=by
 have hc:Bt big ⟨slot,to_,0,⟨#[]⟩⟩ slot=some 0:=by
  unfold Bt
  rw[JW]
  rfl
 refine Rn.eqv ?_
 unfold Bz
 refine Rn.bnE (v:=(0,true)) ?_ (Rn.some rfl)
 refine Rn.eqv ?_
 unfold A1
 refine Rn.lt (Rn.bn (P:=fun y=>y=0) (Rn.iter _ (fun j a=>(j=0∧a=((0:Int),(1:Int)))∨(j=1∧a=((0:Int),(0:Int)))) 1 (by unfold big;omega) (.inl ⟨rfl,rfl⟩) fun j a hj hI=>?_) fun y hy=>?_)
 ·rcases hI with ⟨rfl,rfl⟩|⟨rfl,rfl⟩
  ·refine Rn.lt (Rn.ite (fun _=>Rn.lt (Rn.lt (Rn.bnE (v:=(0:Int)) rfl (Rn.lt (Rn.bnE (v:=(⟨slot,to_,0,⟨#[]⟩⟩:Move)) rfl (Rn.bnE hc (Rn.lt (Rn.ite (fun h=>by simp[ltI] at h) fun _=>Rn.some ?_)))))))) fun h=>by simp[ltI] at h)
   exact⟨by omega,.inr ⟨rfl,rfl⟩⟩
  ·exact Rn.lt (Rn.ite (fun h=>by simp[ltI] at h) fun _=>Rn.some rfl)
 ·subst hy
  refine Rn.bnE (v:=true) ?_ (Rn.some rfl)
  refine Rn.eqv (Rn.lt (Rn.ite (fun _=>Rn.bnE (v:=(⟨slot,to_,0,⟨#[]⟩⟩:Move)) rfl (Rn.bnE hc (Rn.lt (Rn.some rfl)))) fun h=>by simp[ltI,lenI] at h))
theorem HS (mv:List Move) (h:mv.length≤1) (slot to_:Int) (hb:¬ badA slot to_) {Q:Node×Int→Prop}
  (k:Rn (bn (Bz big mv slot) fun v18=>lt (v18.2) fun v19=>ite' v19 (chk (room mv.length 1) <| some (nd (-1) [⟨0,16383,1,1⟩] mv,3)) (chk (insB mv v18.1) <| lt (insL mv v18.1.toNat (⟨slot,to_,0,⟨#[]⟩⟩:Move)) fun v22=>chk (room v22.length 1) <| some (nd (-1) [⟨0,16383,1,1⟩] v22,0))) Q) :
  Rn (AL big (nd (-1) [⟨0,16383,1,1⟩] mv) slot to_) Q:=by
 unfold AL
 have hb2:=hb
 unfold badA at hb2
 refine Rn.bnE (HR _ _ mv h) (Rn.bnE (v:=false) ?_ (Rn.lt (Rn.ite (fun h=>by cases h) fun _=>?_)))
 ·rw[show ∀ m c,(nd m [c] mv).count=4 from fun _ _=>rfl,show ∀ m c,(nd m [c] mv).id=1 from fun _ _=>rfl]
  simp only[C9,ltI,geI,eqI,orM]
  exact congrArg some (decide_eq_false hb)
 ·refine Rn.bnE (J5 1 1 slot (by omega) (by omega)) (Rn.bnE (v:=false) ?_ (Rn.lt (Rn.ite (fun h=>by cases h) fun _=>?_)))
  ·rfl
  ·exact Rn.chk (by show room mv.length 1=true;simp[room];omega) k
theorem Gs (slot to_ how:Int) (hh:0≤how∧how≤255):BI big slot to_ how=some true:=by
 refine Rn.eqv ?_
 unfold BI
 refine Rn.bnE K3 ?_
 obtain⟨w,hw⟩:∃ w:Int,w=if badA slot to_ then 1 else 0:=⟨_,rfl⟩
 refine Rn.bnE (v:=w) ?_ ?_
 ·refine Rn.eqv (Rn.bnE (v:=decide (badA slot to_)) ?_ (Rn.lt (Rn.ite (fun h=>Rn.some ?_) fun h=>Rn.some ?_)))
  ·simp only[C9,ltI,geI,gtI,eqI,orM]
   refine congrArg some (decide_eq_decide.2 ?_)
   unfold badA
   omega
  ·rw[hw,if_pos (of_decide_eq_true h)]
  ·rw[hw,if_neg (of_decide_eq_false h)]
 obtain⟨k,hk⟩:∃ k,k=how % 4:=⟨_,rfl⟩
 have hrem:remI .u8 how 4=some k:=by rw[hk];exact vrem hh.1 (by omega)
 have h4:k=0∨k=1∨k=2∨k=3:=by omega
 have fin:∀ (v:Node) (e x:Int) (mv:List Move),v.moves.length=mv.length+(if e=0 then 1 else 0)→mv.length≤1→e=x→Rn (bn (bn (CO big e) fun v37=>lt (eqI v37 x) fun v38=>ite' v38 (lt (eqI x 0) fun v39=>lt (lenI v.moves) fun v40=>lt (lenI mv) fun v41=>lt (addI .i64 v41 1) fun v42=>lt (eqI v40 v42) fun v43=>lt (eqB v39 v43) fun v44=>ite' v44 (bn (BQ big) fun v45=>some (v45)) (some (false))) (some (false))) fun (y36:Bool)=>some y36) (·=true):=by
  intro v e x mv h1 h2 h3
  subst h3
  refine Rn.bn (P:=fun y=>y=true) ?_ fun y hy=>Rn.some hy
  refine Rn.bnE (v:=e) rfl (Rn.lt ?_)
  rw[eq_t rfl]
  refine Rn.ite (fun _=>Rn.lt (Rn.lt (Rn.lt (Rn.lt (Rn.lt (Rn.lt ?_)))))) fun h=>by cases h
  rw[IF,IF,IG (by omega) (by omega)]
  rw[show eqB (eqI e 0) (eqI (v.moves.length:Int) ((mv.length:Int)+1))=true by
   by_cases h:e=0
   ·rw[if_pos h] at h1
    rw[eq_t h,eq_t (by omega)]
    rfl
   ·rw[if_neg h] at h1
    rw[eq_f h,eq_f (by omega)]
    rfl]
  exact Rn.ite (fun _=>Rn.bnE I9 (Rn.some rfl)) fun h=>by cases h
 by_cases hb:badA slot to_
 ·rw[if_pos hb] at hw
  subst hw
  have go:∀ (m:Int) (c:Claim),Rn (chk (room ([c]:List Claim).length 1) <| bn (AL big (nd m [c] []) slot to_) fun v35=>(bn (bn (CO big v35.2) fun v37=>lt (eqI v37 1) fun v38=>ite' v38 (lt (eqI 1 0) fun v39=>lt (lenI v35.1.moves) fun v40=>lt (lenI ([]:List Move)) fun v41=>lt (addI .i64 v41 1) fun v42=>lt (eqI v40 v42) fun v43=>lt (eqB v39 v43) fun v44=>ite' v44 (bn (BQ big) fun v45=>some (v45)) (some (false))) (some (false))) fun (y36:Bool)=>some y36)) (·=true):=fun m c =>
   Rn.chk rfl (Rn.bnE (JA m c [] (by simp) slot to_ hb) (fin (nd m [c] []) 1 1 [] rfl (by simp) rfl))
  rcases h4 with e|e|e|e <;> rw[e] at hrem
  ·exact Rn.bnE (v:=(-1,[],[⟨0,16383,1,1⟩])) (by rw[hrem];rfl) (Rn.bnE (v:=1) rfl (go _ _))
  ·exact Rn.bnE (v:=(-1,[],[⟨0,16383,2,1⟩])) (by rw[hrem];rfl) (Rn.bnE (v:=1) rfl (go _ _))
  ·exact Rn.bnE (v:=(2,[],[⟨0,16383,2,1⟩])) (by rw[hrem];rfl) (Rn.bnE (v:=1) rfl (go _ _))
  ·exact Rn.bnE (v:=(-1,[],[⟨0,16383,1,1⟩])) (by rw[hrem];rfl) (Rn.bnE (v:=1) rfl (go _ _))
 ·rw[if_neg hb] at hw
  subst hw
  rcases h4 with e|e|e|e <;> rw[e] at hrem
  ·refine Rn.bnE (v:=(-1,[],[⟨0,16383,1,1⟩])) (by rw[hrem];rfl) (Rn.bnE (v:=0) (by rw[hrem];rfl) (Rn.chk rfl ?_))
   have h1:Rn (AL big (nd (-1) [⟨0,16383,1,1⟩] []) slot to_) fun v=>v=(nd (-1) [⟨0,16383,1,1⟩] [⟨slot,to_,0,⟨#[]⟩⟩],0):=by
    refine HS [] (by simp) slot to_ hb (Rn.bnE (JV slot) (Rn.lt (Rn.ite (fun h=>by cases h) fun _=>Rn.chk rfl (Rn.lt (Rn.chk rfl (Rn.some ?_))))))
    rfl
   refine Rn.bn h1 fun v hv=>?_
   subst hv
   exact fin (nd (-1) [⟨0,16383,1,1⟩] [⟨slot,to_,0,⟨#[]⟩⟩]) 0 0 [] rfl (by simp) rfl
  ·refine Rn.bnE (v:=(-1,[],[⟨0,16383,2,1⟩])) (by rw[hrem];rfl) ?_
   refine Rn.bnE (v:=9) (by rw[hrem];rfl) ?_
   refine Rn.chk rfl ?_
   refine Rn.bnE (Gc (-1) 2 1 [] (by simp) slot to_ hb (.inr (by omega))) ?_
   exact fin (nd (-1) [⟨0,16383,2,1⟩] []) 9 9 [] rfl (by simp) rfl
  ·refine Rn.bnE (v:=(2,[],[⟨0,16383,2,1⟩])) (by rw[hrem];rfl) ?_
   refine Rn.bnE (v:=9) (by rw[hrem];rfl) ?_
   refine Rn.chk rfl ?_
   refine Rn.bnE (Gc (2) 2 1 [] (by simp) slot to_ hb (.inl (by omega))) ?_
   exact fin (nd (2) [⟨0,16383,2,1⟩] []) 9 9 [] rfl (by simp) rfl
  ·refine Rn.bnE (v:=(-1,[⟨slot,to_,0,⟨#[]⟩⟩],[⟨0,16383,1,1⟩])) (by rw[hrem];rfl) (Rn.bnE (v:=3) (by rw[hrem];rfl) (Rn.chk rfl ?_))
   have h1:Rn (AL big (nd (-1) [⟨0,16383,1,1⟩] [⟨slot,to_,0,⟨#[]⟩⟩]) slot to_) fun v=>v=(nd (-1) [⟨0,16383,1,1⟩] [⟨slot,to_,0,⟨#[]⟩⟩],3) :=
    HS _ (by simp) slot to_ hb (Rn.bnE (JX slot to_) (Rn.lt (Rn.ite (fun _=>Rn.chk rfl (Rn.some rfl)) fun h=>by cases h)))
   refine Rn.bn h1 fun v hv=>?_
   subst hv
   exact fin (nd (-1) [⟨0,16383,1,1⟩] [⟨slot,to_,0,⟨#[]⟩⟩]) 3 3 [_] rfl (by simp) rfl
end Go.Proofs.Ythjenkmbbnjcnaa
namespace Go.Proofs.Ythjenkmbbnjcnaa
open Go Go.RowKit
set_option maxRecDepth 100000
section
variable {P:Program} {n t:Nat} {ts:List T}
theorem WfT.bool (hu:P.underlying t=some .bool) (h:WfT P (n+1) t ts):∃ b,ts=[.v (.bool b)]:=by rw[WfT,hu] at h;exact h
theorem WfT.int {k:IntKind} (hu:P.underlying t=some (.int k)) (h:WfT P (n+1) t ts):∃ i,ts=[.v (.int k i)]∧(Lit.int k i).wf=true:=by rw[WfT,hu] at h;exact h
theorem WfT.slice {e:Nat} (hu:P.underlying t=some (.slice e)) (h:WfT P (n+1) t ts):∃ es,ts=[.sl (P.cellsOf e) es]∧es.length*P.bytesOf e≤reachBytes∧∀ x∈es,WfT P n e x:=by rw[WfT,hu] at h;exact h
theorem WfT.struct {fs:Array Go.Field} (hu:P.underlying t=some (.struct fs)) (h:WfT P (n+1) t ts):∃ ps:List (List T),ts=ps.flatten∧All2 (fun p f=>WfT P n f p) ps (fs.toList.map (·.type)):=by rw[WfT,hu] at h;exact h
end
theorem All2.cons_r {α β:Type} {R:α→β→Prop} {l:List α} {b:β} {bs:List β} (h:All2 R l (b::bs)):∃ x xs,l=x::xs∧R x b∧All2 R xs bs:=by
 cases l with
 |nil=>exact h.elim
 |cons x xs=>exact⟨x,xs,rfl,h⟩
theorem All2.nil_r {α β:Type} {R:α→β→Prop} {l:List α} (h:All2 R l ([]:List β)):l=[]:=by
 cases l with
 |nil=>rfl
 |cons x xs=>exact h.elim
def rngI (i:Int):Prop:=-9223372036854775808≤i∧i≤9223372036854775807
theorem II {i:Int} (h:(Lit.int .i64 i).wf=true):rngI i:=by
 have h':=(Bool.and_eq_true _ _ ▸ h:_∧_)
 have h1:=of_decide_eq_true h'.1
 have h2:=of_decide_eq_true h'.2
 exact⟨h1,h2⟩
def rngU (i:Int):Prop:=0≤i∧i≤255
theorem Ku {i:Int} (h:(Lit.int .u8 i).wf=true):rngU i:=by
 have h':=(Bool.and_eq_true _ _ ▸ h:_∧_)
 exact⟨of_decide_eq_true h'.1,of_decide_eq_true h'.2⟩
def rngField (x:Field):Prop:=True
def rngItem (x:Item):Prop:=(rngI x.kind)∧(x.f.length≤4398046510976∧∀ y∈x.f,rngField y)∧(x.l.length≤8796093021952)∧(rngI x.exp)
def rngPair (x:Pair):Prop:=(rngItem x.item)
def rngEffect (x:Effect):Prop:=(rngItem x.item)
def rngRid (x:Rid):Prop:=(rngI x.node)∧(rngI x.epoch)
def rngFeed (x:Feed):Prop:=(rngRid x.rid)∧(rngI x.off)∧(x.back.length≤1353245080300∧∀ y∈x.back,rngEffect y)∧(rngRid x.prev)∧(rngI x.upto)
def rngClaim (x:Claim):Prop:=(rngI x.frm)∧(rngI x.to)∧(rngI x.node)∧(rngI x.epoch)
def rngMsg (x:Msg):Prop:=(rngI x.kind)∧(rngI x.frm)∧(rngI x.to)∧(rngI x.epoch)∧(x.claims.length≤4398046510976∧∀ y∈x.claims,rngClaim y)∧(x.nodes.length≤17592186043904∧∀ y∈x.nodes,rngI y)∧(rngI x.node)∧(rngI x.slot)∧(rngI x.num)∧(rngRid x.rid)∧(rngRid x.prev)∧(rngI x.off)∧(x.effects.length≤1353245080300∧∀ y∈x.effects,rngEffect y)
end Go.Proofs.Ythjenkmbbnjcnaa
namespace Go.Proofs.Ythjenkmbbnjcnaa
open Go Go.RowKit
open Go.ChangeShapes Go.WideShapes Go.ChangeAt Go.RowKit
theorem Try.own:ownKnob Try.prog.godebug=none:=by kernel_rfl
theorem Try.laidOut:laidOutB Try.prog=true:=by kernel_rfl
end Go.Proofs.Ythjenkmbbnjcnaa
namespace Go.Proofs.Ythjenkmbbnjcnaa
open Go Go.RowKit
set_option maxRecDepth 100000
def rngH1 (i:Int):Prop:=0≤i∧i≤65535
end Go.Proofs.Ythjenkmbbnjcnaa
