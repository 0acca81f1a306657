/- Part 5 of the proof. -/
import Derived.Test.YtlbdhlbbkibgpaaGreatPb4
set_option linter.unusedVariables false
set_option linter.unusedSimpArgs false
set_option linter.constructorNameAsVariable false
set_option maxRecDepth 8000
set_option maxHeartbeats 8000000
namespace Go.Proofs.YtlbdhlbbkibgpaaGreat
open Go Go.RowKit
def Cj (n:Nat) (a0:Node) (a1:List Effect):Option Node :=
bn (BW n a0.db a1) fun v1 =>
bn (CU n a0.feed a1) fun v2 =>
some (⟨a0.count,a0.id,a0.master,a0.epoch,a0.voted,a0.claims,v1,a0.moves,a0.last,a0.seen,v2,a0.watch,a0.asked,a0.votes,a0.wait⟩:Node)
theorem IL {n:Nat} {a0:Node} {a1:List Effect} {r:Node} (h:Cj n a0 a1=some r):Sound Tryz.prog 41 [.g [.s (.int .i64 a0.count),.s (.int .i64 a0.id),.s (.int .i64 a0.master),.s (.int .i64 a0.epoch),.s (.int .i64 a0.voted),.d false 4 (encClaim a0.claims),.d false 6 (encPair a0.db),.r 0 4 0 a0.moves.length,.s (.int .i64 a0.last),.d false 3 (encSeen a0.seen),.s (.int .i64 a0.feed.rid.node),.s (.int .i64 a0.feed.rid.epoch),.s (.int .i64 a0.feed.off),.d false 7 (encEffect a0.feed.back),.s (.int .i64 a0.feed.prev.node),.s (.int .i64 a0.feed.prev.epoch),.s (.int .i64 a0.feed.upto),.d false 1 (encI a0.watch.heard),.d false 1 (encLI a0.watch.says),.s (.int .i64 a0.asked),.d false 1 (encI a0.votes),.s (.int .i64 a0.wait)],.l (.d false 7 (encEffect a1))] [⟨92,4,true,none,lvs (encMove a0.moves)⟩] (.g [.s (.int .i64 r.count),.s (.int .i64 r.id),.s (.int .i64 r.master),.s (.int .i64 r.epoch),.s (.int .i64 r.voted),.d false 4 (encClaim r.claims),.d false 6 (encPair r.db),.r 0 4 0 r.moves.length,.s (.int .i64 r.last),.d false 3 (encSeen r.seen),.s (.int .i64 r.feed.rid.node),.s (.int .i64 r.feed.rid.epoch),.s (.int .i64 r.feed.off),.d false 7 (encEffect r.feed.back),.s (.int .i64 r.feed.prev.node),.s (.int .i64 r.feed.prev.epoch),.s (.int .i64 r.feed.upto),.d false 1 (encI r.watch.heard),.d false 1 (encLI r.watch.says),.s (.int .i64 r.asked),.d false 1 (encI r.votes),.s (.int .i64 r.wait)]) [some ⟨92,4,true,none,lvs (encMove r.moves)⟩]:=by
 unfold Cj at h
 refine Sound.of_aw (fn:=Tryz.f41) (c:=_) Tryz.func41 rfl (by simp[Tryz.f41]) fun cx hG hnb=>?_
 rw[show Tryz.f41.ntmps=16 from rfl]
 have hn0:cx.nb=1:=hnb
 simp only[An,initTm,List.map_cons,List.map_nil]
 apply AW.step
 ·simp
  intros;rfl
 replace h:=bnE h;obtain⟨v1,e1,h⟩:=h
 replace h:=bnE h;obtain⟨v2,e2,h⟩:=h
 apply AW.drawnP (V:=[_,_,_,_,_,_,_,_,_]) mixed [⟨[0],[],[(2,none)],false⟩,⟨[0],[0],[(5,some 0)],false⟩,⟨[0],[],[(1,none)],false⟩,⟨[0],[0,1,2],[(6,some 1),(7,some 2)],false⟩,⟨[0],[],[(2,none)],false⟩,⟨[0],[4],[(9,some 4)],false⟩,⟨[0],[],[(1,none)],false⟩,⟨[0],[0,1,2,3,4,5,6],[(10,some 5),(11,some 6)],false⟩,⟨[0],[0,1,2,3,4,5],[(2,none)],false⟩,⟨[],[0,1,2,3,4,5,6,7,8],[],false⟩,⟨[],[0,1,2,3,4,5,6,7,8,9],[],false⟩,⟨[],[0,1,2,3,4,5,6,7,8,9,10],[],false⟩] 9 (by kernel_rfl) (by kernel_rfl)
 ·refine⟨?_,?_,?_,?_,?_,?_,?_,?_,?_,trivial⟩
  iterate 3 (· intro tm hr;simp[AllL,rdV] at hr;simp[hr];intros;first|exact KD.mk|exact KD.mkN)
  ·intro tm hr
   simp[AllL,rdV] at hr
   simp[hr]
   intros
   refine Ae FF (Ge e1) rfl ⟨.same rfl,.same rfl,trivial⟩ ?_
   try simp[]
   intros;first|exact KD.mk|exact KD.mkN
  iterate 3 (· intro tm hr;simp[AllL,rdV] at hr;simp[hr];intros;first|exact KD.mk|exact KD.mkN)
  ·intro tm hr
   simp[AllL,rdV] at hr
   simp[hr]
   intros
   refine Ae Hl (H7 e2) rfl ⟨.same rfl,.same rfl,trivial⟩ ?_
   try simp[]
   intros;first|exact KD.mk|exact KD.mkN
  ·intro tm hr;simp[AllL,rdV] at hr;simp[hr];intros;first|exact KD.mk|exact KD.mkN
 ·rfl
 ·simp[tmD,putD];rfl
 ·simp
  intros;rfl
 apply AW.step
 ·simp
  intros;rfl
 obtain rfl:=oi h
 refine AW.ret ?_
 refine Left.of (av:=_) (by simp[Tryz.f41,resV,resC,comp];rfl) ?_
 exact LeftV.mix 1 [some 0] hn0 rfl (by decide) rfl (by simp[pickOb,Aa,Ab]) (by simp[Aa,Ab])
theorem If:Enters Tryz.prog 41:=enters Tryz.func41 (by kernel_rfl) rfl
def Ca (n:Nat) (a0:Node) (a1:Msg):Option Node :=
bn (Bv n a0) fun v1 =>
chk (room v1.moves.length 1) <|
bn (Cv n v1.moves a1.slot) fun v3 =>
bn (lt (notB v3.2) fun v5 =>
ite' v5 (some (true)) (bn (nth v1.moves v3.1) fun v6 =>
lt (ltI v6.num 1) fun v8 =>
ite' v8 (some (true)) (lt (neI v6.num a1.num) fun v10 =>
ite' v10 (some (true)) (lt (neI v6.to a1.frm) fun v12 =>
some (v12))))) fun (y4:Bool) =>
lt (y4) fun v13 =>
ite' v13 (chk (room v1.moves.length 1) <|
some v1) (bn (nth v1.moves v3.1) fun v15 =>
bn (Cj n v1 [(⟨v15.key,true,(⟨0,⟨#[]⟩,[],[],0⟩:Item)⟩:Effect)]) fun v17 =>
bn (nth v17.moves v3.1) fun v18 =>
lt (v17.moves.set v3.1.toNat (⟨v18.slot,v18.to,0,v18.key⟩:Move)) fun v20 =>
bn (nth v20 v3.1) fun v23 =>
lt (v20.set v3.1.toNat (⟨v23.slot,v23.to,v23.num,⟨#[]⟩⟩:Move)) fun v25 =>
chk (room v25.length 1) <|
some (⟨v17.count,v17.id,v17.master,v17.epoch,v17.voted,v17.claims,v17.db,v25,v17.last,v17.seen,v17.feed,v17.watch,v17.asked,v17.votes,v17.wait⟩:Node))
def DY3t1:List DI:=[⟨[0],[],[(6,none)],false⟩,⟨[0],[0],[(17,some 0)],false⟩,⟨[0],[0,1],[(18,some 1)],false⟩,⟨[0],[0,1,2],[(2,none),(19,some 2)],false⟩,⟨[0],[0,1,2,3],[(19,some 2),(20,some 3)],false⟩,⟨[0],[0,1,2],[(5,none),(19,some 2)],false⟩,⟨[0],[0,1,2,3,4,5],[(19,some 2),(21,some 4),(22,some 5)],false⟩,⟨[0],[0,1,2,3,4,5,6],[(19,some 2),(23,some 6)],false⟩,⟨[0],[0,1,2,3,4,5,6,7],[(19,some 2),(24,some 7)],false⟩,⟨[0],[0,1,2,3,4,5,6,7,8],[(19,some 2),(25,some 8)],false⟩,⟨[0],[0,1,2,3,4,5,6,7,8,9],[(19,some 2),(26,some 9)],false⟩,⟨[0],[0,1,2,3,4,5,6,7,8,9,10],[(27,some 10)],false⟩,⟨[0],[0,1,2,3,4,5,6,7,8,9,10,11],[(2,none),(28,some 11)],false⟩,⟨[0],[0,1,2,3,4,5,6,7,8,9,10,11,12],[(28,some 11),(29,some 12)],false⟩,⟨[0],[0,1,2,3,4,5,6,7,8,9,10,11],[(5,none),(28,some 11)],false⟩,⟨[0],[0,1,2,3,4,5,6,7,8,9,10,11,12,13,14],[(28,some 11),(30,some 13),(31,some 14)],false⟩,⟨[0],[0,1,2,3,4,5,6,7,8,9,10,11,12,13,14,15],[(28,some 11),(32,some 15)],false⟩,⟨[0],[0,1,2,3,4,5,6,7,8,9,10,11,12,13,14,15,16],[(28,some 11),(33,some 16)],false⟩,⟨[0],[0,1,2,3,4,5,6,7,8,9,10,11],[(3,none),(28,some 11)],false⟩,⟨[0],[0,1,2,3,4,5,6,7,8,9,10,11,18],[(28,some 11),(35,some 18)],false⟩,⟨[0],[0,1,2,3,4,5,6,7,8,9,10,11,12,13,14,15,16,17,18,19],[(28,some 11),(34,some 17),(36,some 19)],false⟩,⟨[0],[0,1,2,3,4,5,6,7,8,9,10,11,12,13,14,15,16,17,18,19,20],[(28,some 11),(37,some 20)],false⟩,⟨[0],[0,1,2,3,4,5,6,7,8,9,10,11,12,13,14,15,16,17,18,19,20,21],[(38,some 21)],false⟩,⟨[0],[0,1,2,3,4,5,6,7,8,9,10,11,12,13,14,15,16,17,18,19,20,21,22],[(2,none),(39,some 22)],false⟩,⟨[0],[0,1,2,3,4,5,6,7,8,9,10,11,12,13,14,15,16,17,18,19,20,21,22,23],[(39,some 22),(40,some 23)],false⟩,⟨[0],[0,1,2,3,4,5,6,7,8,9,10,11,12,13,14,15,16,17,18,19,20,21,22],[(5,none),(39,some 22)],false⟩,⟨[0],[0,1,2,3,4,5,6,7,8,9,10,11,12,13,14,15,16,17,18,19,20,21,22,23,24,25],[(39,some 22),(41,some 24),(42,some 25)],false⟩,⟨[0],[0,1,2,3,4,5,6,7,8,9,10,11,12,13,14,15,16,17,18,19,20,21,22,23,24,25,26],[(39,some 22),(43,some 26)],false⟩,⟨[0],[0,1,2,3,4,5,6,7,8,9,10,11,12,13,14,15,16,17,18,19,20,21,22,23,24,25,26,27],[(39,some 22),(44,some 27)],false⟩,⟨[0],[0,1,2,3,4,5,6,7,8,9,10,11,12,13,14,15,16,17,18,19,20,21,22],[(3,none),(39,some 22)],false⟩,⟨[0],[0,1,2,3,4,5,6,7,8,9,10,11,12,13,14,15,16,17,18,19,20,21,22,29],[(39,some 22),(46,some 29)],false⟩,⟨[],[0,1,2,3,4,5,6,7,8,9,10,11,12,13,14,15,16,17,18,19,20,21,22,23,24,25,26,27,28,29,30],[],false⟩,⟨[],[0,1,2,3,4,5,6,7,8,9,10,11,12,13,14,15,16,17,18,19,20,21,22,23,24,25,26,27,28,29,30,31],[],false⟩]
theorem KB {n:Nat} {a0:Node} {a1:Msg} {r:Node} (h:Ca n a0 a1=some r):Sound Tryz.prog 13 [.g [.s (.int .i64 a0.count),.s (.int .i64 a0.id),.s (.int .i64 a0.master),.s (.int .i64 a0.epoch),.s (.int .i64 a0.voted),.d false 4 (encClaim a0.claims),.d false 6 (encPair a0.db),.d false 4 (encMove a0.moves),.s (.int .i64 a0.last),.d false 3 (encSeen a0.seen),.s (.int .i64 a0.feed.rid.node),.s (.int .i64 a0.feed.rid.epoch),.s (.int .i64 a0.feed.off),.d false 7 (encEffect a0.feed.back),.s (.int .i64 a0.feed.prev.node),.s (.int .i64 a0.feed.prev.epoch),.s (.int .i64 a0.feed.upto),.d false 1 (encI a0.watch.heard),.d false 1 (encLI a0.watch.says),.s (.int .i64 a0.asked),.d false 1 (encI a0.votes),.s (.int .i64 a0.wait)],.g [.s (.int .i64 a1.kind),.s (.int .i64 a1.frm),.s (.int .i64 a1.to),.s (.int .i64 a1.epoch),.d false 4 (encClaim a1.claims),.d false 1 (encI a1.nodes),.s (.int .i64 a1.node),.s (.int .i64 a1.slot),.s (.int .i64 a1.num),.s (.int .i64 a1.rid.node),.s (.int .i64 a1.rid.epoch),.s (.int .i64 a1.prev.node),.s (.int .i64 a1.prev.epoch),.s (.int .i64 a1.off),.d false 7 (encEffect a1.effects)]] [] (.g [.s (.int .i64 r.count),.s (.int .i64 r.id),.s (.int .i64 r.master),.s (.int .i64 r.epoch),.s (.int .i64 r.voted),.d false 4 (encClaim r.claims),.d false 6 (encPair r.db),.d false 4 (encMove r.moves),.s (.int .i64 r.last),.d false 3 (encSeen r.seen),.s (.int .i64 r.feed.rid.node),.s (.int .i64 r.feed.rid.epoch),.s (.int .i64 r.feed.off),.d false 7 (encEffect r.feed.back),.s (.int .i64 r.feed.prev.node),.s (.int .i64 r.feed.prev.epoch),.s (.int .i64 r.feed.upto),.d false 1 (encI r.watch.heard),.d false 1 (encLI r.watch.says),.s (.int .i64 r.asked),.d false 1 (encI r.votes),.s (.int .i64 r.wait)]) []:=by
 unfold Ca at h
 refine Sound.of_aw (fn:=Tryz.f13) (c:=_) Tryz.func13 rfl (by simp[Tryz.f13]) fun cx hG hnb=>?_
 rw[show Tryz.f13.ntmps=72 from rfl]
 have hn0:cx.nb=0:=hnb
 simp only[An,initTm,List.map_cons,List.map_nil]
 apply AW.step
 ·simp
  intros;rfl
 replace h:=bnE h;obtain⟨v1,e1,h⟩:=h
 apply AW.step
 ·simp[outR]
  intros
  refine As EN (E8 e1) rfl (by simp) ⟨.same rfl,trivial⟩ ?_
  try simp[outR]
  intros;rfl
 replace h:=chkE h;obtain⟨e2,h⟩:=h
 replace h:=bnE h;obtain⟨v3,e3,h⟩:=h
 apply AW.step
 ·simp
  intros
  refine Ae GK (Hm e3) rfl ⟨.rowd (by simp) rfl (by omega) (AB _) (by simp) (by first|exact (Ah e2).2|simpa using (Ah e2).2|simp),.same rfl,trivial⟩ ?_
  try simp
  intros;rfl
 refine AW.seq ?_
 replace h:=bnE h;obtain⟨y4,g4,h⟩:=h
 refine AW.flow (p:=fun gh ls=>(nP (cx:=cx) (fun q=>(⟨[(2,.l (.p 0 0)),(4,.l (.p 1 0)),(5,.l (.s (.int .i64 v3.1))),(49,.l (.s (.bool q)))],[some ⟨38,22,false,none,[.s (.int .i64 v1.count),.s (.int .i64 v1.id),.s (.int .i64 v1.master),.s (.int .i64 v1.epoch),.s (.int .i64 v1.voted),.d false 4 (encClaim v1.claims),.d false 6 (encPair v1.db),.r 2 4 0 v1.moves.length,.s (.int .i64 v1.last),.d false 3 (encSeen v1.seen),.s (.int .i64 v1.feed.rid.node),.s (.int .i64 v1.feed.rid.epoch),.s (.int .i64 v1.feed.off),.d false 7 (encEffect v1.feed.back),.s (.int .i64 v1.feed.prev.node),.s (.int .i64 v1.feed.prev.epoch),.s (.int .i64 v1.feed.upto),.d false 1 (encI v1.watch.heard),.d false 1 (encLI v1.watch.says),.s (.int .i64 v1.asked),.d false 1 (encI v1.votes),.s (.int .i64 v1.wait)]⟩,some ⟨38,22,false,none,[.s (.int .i64 0),.s (.int .i64 0),.s (.int .i64 0),.s (.int .i64 0),.s (.int .i64 0),.s (.slice none 0 0),.s (.slice none 0 0),.s (.slice none 0 0),.s (.int .i64 0),.s (.slice none 0 0),.s (.int .i64 0),.s (.int .i64 0),.s (.int .i64 0),.s (.slice none 0 0),.s (.int .i64 0),.s (.int .i64 0),.s (.int .i64 0),.s (.slice none 0 0),.s (.slice none 0 0),.s (.int .i64 0),.s (.slice none 0 0),.s (.int .i64 0)]⟩,some ⟨92,4,true,none,lvs (encMove v1.moves)⟩],72,gh,ls⟩:St))) y4) ?_ ?_
 ·replace h:=g4;clear g4
  replace h:=ltE h;obtain⟨v5,e5,h⟩:=h
  cases v5 with
  |true =>
   replace h:=iteT rfl h
   apply AW.drawnR (V:=[_,_,_,_,_,_,_,_,_,_,_,_,_,_,_,_,_,_,_,_,_,_,_,_,_,_,_,_,_,_,_]) mixed DY3t1 31 (by kernel_rfl) (by kernel_rfl)
   ·refine⟨?_,?_,?_,?_,?_,?_,?_,?_,?_,?_,?_,?_,?_,?_,?_,?_,?_,?_,?_,?_,?_,?_,?_,?_,?_,?_,?_,?_,?_,?_,?_,trivial⟩
    iterate 31 (· intro tm hr;simp[AllL,rdV] at hr;simp[hr,← e5];intros;first|exact KD.mk|exact KD.mkN)
   ·rfl
   ·simp[tmD,putD,← e5];rfl
   ·simp[← e5]
    intros;rfl
   obtain rfl:=oi h
   refine nP_i ?_
   refine Weak.mixN [some 0,some 2,some 3] hn0 (by decide) ?_ ?_ rfl
   all_goals first|(simp[Aa,Ab,pickOb];done)|rfl
  |false =>
   replace h:=iteF rfl h
   replace h:=bnE h;obtain⟨v6,e6,h⟩:=h
   have f7:=AH e6
   try simp[← e5,Ac e6] at f7
   replace h:=ltE h;obtain⟨v8,e8,h⟩:=h
   cases v8 with
   |true =>
    replace h:=iteT rfl h
    apply AW.drawnR (V:=[_,_,_,_,_,_,_,_,_,_,_,_,_,_,_,_,_,_,_,_,_,_,_,_,_,_,_,_,_,_,_]) mixed DY3t1 31 (by kernel_rfl) (by kernel_rfl)
    ·refine⟨?_,?_,?_,?_,?_,?_,?_,?_,?_,?_,?_,?_,?_,?_,?_,?_,?_,?_,?_,?_,?_,?_,?_,?_,?_,?_,?_,?_,?_,?_,?_,trivial⟩
     iterate 31 (· intro tm hr;simp[AllL,rdV] at hr;simp[hr,← e5,Ac e6,f7,AI (Ac e6).2 (j:=2) (by decide),lvs1,← e8];intros;first|exact KD.mk|exact KD.mkN)
    ·rfl
    ·simp[tmD,putD,← e5,Ac e6,f7,AI (Ac e6).2 (j:=2) (by decide),lvs1,← e8];rfl
    ·simp[← e5,Ac e6,f7,AI (Ac e6).2 (j:=2) (by decide),lvs1,← e8]
     intros;rfl
    obtain rfl:=oi h
    refine nP_i ?_
    refine Weak.mixN [some 0,some 2,some 3] hn0 (by decide) ?_ ?_ rfl
    all_goals first|(simp[Aa,Ab,pickOb];done)|rfl
   |false =>
    replace h:=iteF rfl h
    have f9:=AH e6
    try simp[← e5,Ac e6,f7,AI (Ac e6).2 (j:=2) (by decide),lvs1,← e8] at f9
    replace h:=ltE h;obtain⟨v10,e10,h⟩:=h
    cases v10 with
    |true =>
     replace h:=iteT rfl h
     apply AW.drawnR (V:=[_,_,_,_,_,_,_,_,_,_,_,_,_,_,_,_,_,_,_,_,_,_,_,_,_,_,_,_,_,_,_]) mixed DY3t1 31 (by kernel_rfl) (by kernel_rfl)
     ·refine⟨?_,?_,?_,?_,?_,?_,?_,?_,?_,?_,?_,?_,?_,?_,?_,?_,?_,?_,?_,?_,?_,?_,?_,?_,?_,?_,?_,?_,?_,?_,?_,trivial⟩
      iterate 31 (· intro tm hr;simp[AllL,rdV] at hr;simp[hr,← e5,Ac e6,f7,AI (Ac e6).2 (j:=2) (by decide),lvs1,← e8,f9,← e10];intros;first|exact KD.mk|exact KD.mkN)
     ·rfl
     ·simp[tmD,putD,← e5,Ac e6,f7,AI (Ac e6).2 (j:=2) (by decide),lvs1,← e8,f9,← e10];rfl
     ·simp[← e5,Ac e6,f7,AI (Ac e6).2 (j:=2) (by decide),lvs1,← e8,f9,← e10]
      intros;rfl
     obtain rfl:=oi h
     refine nP_i ?_
     refine Weak.mixN [some 0,some 2,some 3] hn0 (by decide) ?_ ?_ rfl
     all_goals first|(simp[Aa,Ab,pickOb];done)|rfl
    |false =>
     replace h:=iteF rfl h
     have f11:=AH e6
     try simp[← e5,Ac e6,f7,AI (Ac e6).2 (j:=2) (by decide),lvs1,← e8,f9,← e10] at f11
     replace h:=ltE h;obtain⟨v12,e12,h⟩:=h
     apply AW.drawnR (V:=[_,_,_,_,_,_,_,_,_,_,_,_,_,_,_,_,_,_,_,_,_,_,_,_,_,_,_,_,_,_,_]) mixed DY3t1 31 (by kernel_rfl) (by kernel_rfl)
     ·refine⟨?_,?_,?_,?_,?_,?_,?_,?_,?_,?_,?_,?_,?_,?_,?_,?_,?_,?_,?_,?_,?_,?_,?_,?_,?_,?_,?_,?_,?_,?_,?_,trivial⟩
      iterate 31 (· intro tm hr;simp[AllL,rdV] at hr;simp[hr,← e5,Ac e6,f7,AI (Ac e6).2 (j:=2) (by decide),lvs1,← e8,f9,← e10,f11,AI (Ac e6).2 (j:=1) (by decide),← e12];intros;first|exact KD.mk|exact KD.mkN)
     ·rfl
     ·simp[tmD,putD,← e5,Ac e6,f7,AI (Ac e6).2 (j:=2) (by decide),lvs1,← e8,f9,← e10,f11,AI (Ac e6).2 (j:=1) (by decide),← e12];rfl
     ·simp[← e5,Ac e6,f7,AI (Ac e6).2 (j:=2) (by decide),lvs1,← e8,f9,← e10,f11,AI (Ac e6).2 (j:=1) (by decide),← e12]
      intros;rfl
     obtain rfl:=oi h
     refine nP_i ?_
     refine Weak.mixN [some 0,some 2,some 3] hn0 (by decide) ?_ ?_ rfl
     all_goals first|(simp[Aa,Ab,pickOb];done)|rfl
 ·rintro e s hp
  obtain⟨rfl,hw⟩:=hp
  refine⟨_,hw,?_⟩
  try simp only[nm]
  replace h:=ltE h;obtain⟨v13,e13,h⟩:=h
  rw[← e13]
  cases v13 with
  |true =>
   replace h:=iteT rfl h
   refine AW.cond_true (by simp) ?_
   apply AW.step
   ·simp
    intros;rfl
   replace h:=chkE h;obtain⟨e14,h⟩:=h
   refine AW.frzRow 2 (ty:=92) (cap:=none) (sz:=4) (es:=encMove v1.moves) (by simp) (by omega) (AB _) (by first|exact (Ah e14).2|simpa using (Ah e14).2|simp) (by simp[Tm.frz,AV.frz,LV.frz];rfl) (by simp[Ob.frz,LV.frz];rfl) rfl ?_
   obtain rfl:=oi h
   refine AW.ret ?_
   refine Left.plain hnb (by simp[Tryz.f13,resV,resC,comp];rfl) rfl rfl ?_
   simp
  |false =>
   replace h:=iteF rfl h
   refine AW.cond_false (by simp) ?_
   refine AW.skip ?_
   try simp only[nm]
   replace h:=bnE h;obtain⟨v15,e15,h⟩:=h
   have f16:=AH e15
   try simp[Ac e15] at f16
   replace h:=bnE h;obtain⟨v17,e17,h⟩:=h
   apply AW.drawnP (V:=[_,_,_,_,_,_,_,_,_]) mixed [⟨[0],[],[(2,none)],false⟩,⟨[0],[],[(2,none)],false⟩,⟨[0],[1],[(52,some 1)],false⟩,⟨[0],[],[(5,none)],false⟩,⟨[0],[1,2,3],[(53,some 2),(54,some 3)],false⟩,⟨[0],[1,2,3,4],[(55,some 4)],false⟩,⟨[0],[1,2,3,4,5],[(56,some 5)],false⟩,⟨[0],[1,2,3,4,5,6],[(57,some 6)],false⟩,⟨[0],[1,2,3,4,5,6,7],[(58,some 7)],false⟩,⟨[],[0,1,2,3,4,5,6,7,8],[],false⟩,⟨[],[0,1,2,3,4,5,6,7,8,9],[],false⟩] 9 (by kernel_rfl) (by kernel_rfl)
   ·refine⟨?_,?_,?_,?_,?_,?_,?_,?_,?_,trivial⟩
    iterate 8 (· intro tm hr;simp[AllL,rdV] at hr;simp[hr,Ac e15,f16,AI (Ac e15).2 (j:=3) (by decide),lvs1,obAfter,outR,keptR,Aa,Ab];intros;first|exact KD.mk|exact KD.mkN)
    ·intro tm hr
     simp[AllL,rdV] at hr
     simp[hr,Ac e15,f16,AI (Ac e15).2 (j:=3) (by decide),lvs1,obAfter,outR,keptR,Aa,Ab]
     intros
     refine Fl (es:=encEffect [(⟨v15.key,true,(⟨0,⟨#[]⟩,[],[],0⟩:Item)⟩:Effect)]) (by simp[encEffect,lvs,All2]) (Bh _) (by omega) (by simp) ?_
     try simp[Ac e15,f16,AI (Ac e15).2 (j:=3) (by decide),lvs1,obAfter,outR,keptR,Aa,Ab]
     intros;first|exact KD.mk|exact KD.mkN
   ·rfl
   ·simp[tmD,putD,Ac e15,f16,AI (Ac e15).2 (j:=3) (by decide),lvs1,obAfter,outR,keptR,Aa,Ab];rfl
   ·simp[Ac e15,f16,AI (Ac e15).2 (j:=3) (by decide),lvs1,obAfter,outR,keptR,Aa,Ab]
    intros
    refine BT [2] If (IL e17) (by decide) (by simp[pickOb,Aa,Ab]) rfl rfl (by simp) ⟨.g ⟨.s _,.s _,.s _,.s _,.s _,.e _ _,.e _ _,(.own' (by simp[Aa,Ab]) (by simp)),.s _,.e _ _,.s _,.s _,.s _,.e _ _,.s _,.s _,.s _,.e _ _,.e _ _,.s _,.e _ _,.s _,trivial⟩,.l (.e _ _),trivial⟩ ?_
    try simp[Ac e15,f16,AI (Ac e15).2 (j:=3) (by decide),lvs1,obAfter,outR,keptR,Aa,Ab]
    intros;rfl
   replace h:=bnE h;obtain⟨v18,e18,h⟩:=h
   have f19:=AH e18
   try simp[Ac e18] at f19
   replace h:=ltE h;obtain⟨v20,e20,h⟩:=h
   have f21:=Hj (Ac e18).2 e20 (j:=2) (cs:=[.s (.int .i64 0)]) (by simp) rfl
   try simp at f21
   have f22:=f19
   try simp only[Ap e20] at f22
   replace h:=bnE h;obtain⟨v23,e23,h⟩:=h
   have f24:=AH e23
   try simp[Ac e18,f19,BZ (Ac e18).2 (j:=2) (m:=1) (by decide),f21,f22,Ac e23] at f24
   replace h:=ltE h;obtain⟨v25,e25,h⟩:=h
   have f26:=Hj (Ac e23).2 e25 (j:=3) (cs:=[.s (.string ⟨#[]⟩)]) (by simp) rfl
   try simp at f26
   have f27:=f19
   try simp only[Ap e25] at f27
   have f28:=f22
   try simp only[Ap e25] at f28
   have f29:=f24
   try simp only[Ap e25] at f29
   apply AW.drawnE (V:=[_,_,_,_,_,_,_,_,_]) (M:=[[some ⟨38,22,false,none,[.s (.int .i64 v17.count),.s (.int .i64 v17.id),.s (.int .i64 v17.master),.s (.int .i64 v17.epoch),.s (.int .i64 v17.voted),.d false 4 (encClaim v17.claims),.d false 6 (encPair v17.db),.r 2 4 0 v17.moves.length,.s (.int .i64 v17.last),.d false 3 (encSeen v17.seen),.s (.int .i64 v17.feed.rid.node),.s (.int .i64 v17.feed.rid.epoch),.s (.int .i64 v17.feed.off),.d false 7 (encEffect v17.feed.back),.s (.int .i64 v17.feed.prev.node),.s (.int .i64 v17.feed.prev.epoch),.s (.int .i64 v17.feed.upto),.d false 1 (encI v17.watch.heard),.d false 1 (encLI v17.watch.says),.s (.int .i64 v17.asked),.d false 1 (encI v17.votes),.s (.int .i64 v17.wait)]⟩,some ⟨38,22,false,none,[.s (.int .i64 0),.s (.int .i64 0),.s (.int .i64 0),.s (.int .i64 0),.s (.int .i64 0),.s (.slice none 0 0),.s (.slice none 0 0),.s (.slice none 0 0),.s (.int .i64 0),.s (.slice none 0 0),.s (.int .i64 0),.s (.int .i64 0),.s (.int .i64 0),.s (.slice none 0 0),.s (.int .i64 0),.s (.int .i64 0),.s (.int .i64 0),.s (.slice none 0 0),.s (.slice none 0 0),.s (.int .i64 0),.s (.slice none 0 0),.s (.int .i64 0)]⟩,some ⟨92,4,true,none,lvs (encMove v17.moves)⟩],[some ⟨38,22,false,none,[.s (.int .i64 v17.count),.s (.int .i64 v17.id),.s (.int .i64 v17.master),.s (.int .i64 v17.epoch),.s (.int .i64 v17.voted),.d false 4 (encClaim v17.claims),.d false 6 (encPair v17.db),.r 2 4 0 v17.moves.length,.s (.int .i64 v17.last),.d false 3 (encSeen v17.seen),.s (.int .i64 v17.feed.rid.node),.s (.int .i64 v17.feed.rid.epoch),.s (.int .i64 v17.feed.off),.d false 7 (encEffect v17.feed.back),.s (.int .i64 v17.feed.prev.node),.s (.int .i64 v17.feed.prev.epoch),.s (.int .i64 v17.feed.upto),.d false 1 (encI v17.watch.heard),.d false 1 (encLI v17.watch.says),.s (.int .i64 v17.asked),.d false 1 (encI v17.votes),.s (.int .i64 v17.wait)]⟩,some ⟨38,22,false,none,[.s (.int .i64 0),.s (.int .i64 0),.s (.int .i64 0),.s (.int .i64 0),.s (.int .i64 0),.s (.slice none 0 0),.s (.slice none 0 0),.s (.slice none 0 0),.s (.int .i64 0),.s (.slice none 0 0),.s (.int .i64 0),.s (.int .i64 0),.s (.int .i64 0),.s (.slice none 0 0),.s (.int .i64 0),.s (.int .i64 0),.s (.int .i64 0),.s (.slice none 0 0),.s (.slice none 0 0),.s (.int .i64 0),.s (.slice none 0 0),.s (.int .i64 0)]⟩,some ⟨92,4,true,none,lvs (encMove v20)⟩]]) mixed [⟨[0],[],[(2,none)],false⟩,⟨[0],[0],[(61,some 0)],false⟩,⟨[0],[],[(5,none)],false⟩,⟨[0,1],[],[(2,none)],false⟩,⟨[0,1],[3],[(64,some 3)],false⟩,⟨[0,1],[],[(5,none)],false⟩,⟨[0],[0,1,2],[(62,some 1),(63,some 2)],false⟩,⟨[0],[0,1,2,6],[(67,some 6)],false⟩,⟨[0],[0,1,2,6,7],[(68,some 7)],true⟩,⟨[],[0,1,2,3,4,5,6,7,8],[],false⟩,⟨[],[0,1,2,3,4,5,6,7,8,9],[],false⟩,⟨[],[0,1,2,3,4,5,6,7,8,9,10],[],false⟩] 9 1 (by kernel_rfl) (by kernel_rfl)
   ·rfl
   ·refine⟨?_,?_,?_,⟨?_,?_⟩,⟨?_,?_⟩,⟨?_,?_⟩,?_,?_,?_,trivial⟩
    iterate 12 (· intro tm hr;simp[AllL,rdV] at hr;simp[hr,Ac e18,f19,BZ (Ac e18).2 (j:=2) (m:=1) (by decide),f21,f22,Ac e23,f24,Ap e20,BZ (Ac e23).2 (j:=3) (m:=1) (by decide),f26,f27,f28,f29];intros;first|exact KD.mk|exact KD.mkN)
   ·rfl
   ·simp[tmD,putD,Ac e18,f19,BZ (Ac e18).2 (j:=2) (m:=1) (by decide),f21,f22,Ac e23,f24,Ap e20,BZ (Ac e23).2 (j:=3) (m:=1) (by decide),f26,f27,f28,f29];rfl
   ·simp[Ac e18,f19,BZ (Ac e18).2 (j:=2) (m:=1) (by decide),f21,f22,Ac e23,f24,Ap e20,BZ (Ac e23).2 (j:=3) (m:=1) (by decide),f26,f27,f28,f29]
    intros;rfl
   apply AW.step
   ·simp
    intros;rfl
   replace h:=chkE h;obtain⟨e30,h⟩:=h
   refine AW.frzRow 2 (ty:=92) (cap:=none) (sz:=4) (es:=encMove v25) (by simp) (by omega) (AB _) (by first|exact (Ah e30).2|simpa using (Ah e30).2|simp) (by simp[Tm.frz,AV.frz,LV.frz,Ap e20,Ap e25];rfl) (by simp[Ob.frz,LV.frz,Ap e20,Ap e25];rfl) rfl ?_
   obtain rfl:=oi h
   refine AW.ret ?_
   refine Left.plain hnb (by simp[Tryz.f13,resV,resC,comp];rfl) rfl rfl ?_
   simp
theorem JG:Enters Tryz.prog 13:=enters Tryz.func13 (by kernel_rfl) rfl
end Go.Proofs.YtlbdhlbbkibgpaaGreat
namespace Go.Proofs.YtlbdhlbbkibgpaaGreat
open Go Go.RowKit
def Bu (n:Nat) (a0:Node):Option Node :=
chk (small 32 a0.claims) <|
chk (small 40 a0.moves) <|
chk (small 24 a0.seen) <|
chk (small 8 a0.votes) <|
chk (small 96 a0.db) <|
chk (small 104 a0.feed.back) <|
lt (lenI a0.db) fun v7 =>
bn (iter n (fun (y8:Int×List Pair) =>
lt (ltI y8.1 v7) fun v11 =>
ite' v11 (bn (nth y8.2 y8.1) fun v12 =>
bn (A1 n v12.item) fun v14 =>
lt (y8.2.set y8.1.toNat (⟨v12.key,v14⟩:Pair)) fun v16 =>
lt (addI .i64 y8.1 1) fun v20 =>
some (.inl (v20,v16))) (some (.inr y8.2))) (0,a0.db)) fun (y9:List Pair) =>
lt (lenI a0.feed.back) fun v21 =>
bn (iter n (fun (y22:Int×List Effect) =>
lt (ltI y22.1 v21) fun v25 =>
ite' v25 (bn (nth y22.2 y22.1) fun v26 =>
bn (A1 n v26.item) fun v28 =>
lt (y22.2.set y22.1.toNat (⟨v26.key,v26.gone,v28⟩:Effect)) fun v30 =>
lt (addI .i64 y22.1 1) fun v34 =>
some (.inl (v34,v30))) (some (.inr y22.2))) (0,a0.feed.back)) fun (y23:List Effect) =>
chk (small 8 a0.watch.heard) <|
chk (small 24 a0.watch.says) <|
lt (lenI a0.watch.says) fun v37 =>
bn (iter n (fun (y38:Int×List (List Int)) =>
lt (ltI y38.1 v37) fun v41 =>
ite' v41 (bn (nth y38.2 y38.1) fun v42 =>
chk (small 8 v42) <|
lt (y38.2.set y38.1.toNat v42) fun v46 =>
lt (addI .i64 y38.1 1) fun v49 =>
some (.inl (v49,v46))) (some (.inr y38.2))) (0,a0.watch.says)) fun (y39:List (List Int)) =>
chk (room a0.claims.length 1) <|
chk (room y9.length 1) <|
chk (room a0.moves.length 1) <|
chk (room y23.length 1) <|
chk (room a0.watch.heard.length 1) <|
chk (room y39.length 1) <|
chk (room a0.votes.length 1) <|
some (⟨a0.count,a0.id,a0.master,a0.epoch,a0.voted,a0.claims,y9,a0.moves,a0.last,a0.seen,(⟨a0.feed.rid,a0.feed.off,y23,a0.feed.prev,a0.feed.upto⟩:Feed),(⟨a0.watch.heard,y39⟩:Watch),a0.asked,a0.votes,a0.wait⟩:Node)
theorem Gk {n:Nat} {a0:Node} {r:Node} (h:Bu n a0=some r):Sound Tryz.prog 33 [.g [.s (.int .i64 a0.count),.s (.int .i64 a0.id),.s (.int .i64 a0.master),.s (.int .i64 a0.epoch),.s (.int .i64 a0.voted),.d false 4 (encClaim a0.claims),.d false 6 (encPair a0.db),.d false 4 (encMove a0.moves),.s (.int .i64 a0.last),.d false 3 (encSeen a0.seen),.s (.int .i64 a0.feed.rid.node),.s (.int .i64 a0.feed.rid.epoch),.s (.int .i64 a0.feed.off),.d false 7 (encEffect a0.feed.back),.s (.int .i64 a0.feed.prev.node),.s (.int .i64 a0.feed.prev.epoch),.s (.int .i64 a0.feed.upto),.d false 1 (encI a0.watch.heard),.d false 1 (encLI a0.watch.says),.s (.int .i64 a0.asked),.d false 1 (encI a0.votes),.s (.int .i64 a0.wait)]] [] (.g [.s (.int .i64 r.count),.s (.int .i64 r.id),.s (.int .i64 r.master),.s (.int .i64 r.epoch),.s (.int .i64 r.voted),.d false 4 (encClaim r.claims),.d false 6 (encPair r.db),.d false 4 (encMove r.moves),.s (.int .i64 r.last),.r 0 3 0 r.seen.length,.s (.int .i64 r.feed.rid.node),.s (.int .i64 r.feed.rid.epoch),.s (.int .i64 r.feed.off),.d false 7 (encEffect r.feed.back),.s (.int .i64 r.feed.prev.node),.s (.int .i64 r.feed.prev.epoch),.s (.int .i64 r.feed.upto),.d false 1 (encI r.watch.heard),.d false 1 (encLI r.watch.says),.s (.int .i64 r.asked),.d false 1 (encI r.votes),.s (.int .i64 r.wait)]) [some ⟨100,3,true,none,lvs (encSeen r.seen)⟩]:=by
 unfold Bu at h
 refine Sound.of_aw (fn:=Tryz.f33) (c:=_) Tryz.func33 rfl (by simp[Tryz.f33]) fun cx hG hnb=>?_
 rw[show Tryz.f33.ntmps=104 from rfl]
 have hn0:cx.nb=0:=hnb
 simp only[An,initTm,List.map_cons,List.map_nil]
 apply AW.step
 ·simp
  intros;rfl
 replace h:=chkE h;obtain⟨e1,h⟩:=h
 replace h:=chkE h;obtain⟨e2,h⟩:=h
 replace h:=chkE h;obtain⟨e3,h⟩:=h
 replace h:=chkE h;obtain⟨e4,h⟩:=h
 apply AW.drawnE (V:=[_,_,_,_,_,_,_,_,_,_,_,_,_]) (M:=[[some ⟨38,22,false,none,[.s (.int .i64 a0.count),.s (.int .i64 a0.id),.s (.int .i64 a0.master),.s (.int .i64 a0.epoch),.s (.int .i64 a0.voted),.d false 4 (encClaim a0.claims),.d false 6 (encPair a0.db),.d false 4 (encMove a0.moves),.s (.int .i64 a0.last),.d false 3 (encSeen a0.seen),.s (.int .i64 a0.feed.rid.node),.s (.int .i64 a0.feed.rid.epoch),.s (.int .i64 a0.feed.off),.d false 7 (encEffect a0.feed.back),.s (.int .i64 a0.feed.prev.node),.s (.int .i64 a0.feed.prev.epoch),.s (.int .i64 a0.feed.upto),.d false 1 (encI a0.watch.heard),.d false 1 (encLI a0.watch.says),.s (.int .i64 a0.asked),.d false 1 (encI a0.votes),.s (.int .i64 a0.wait)]⟩,some ⟨38,22,false,none,[.s (.int .i64 0),.s (.int .i64 0),.s (.int .i64 0),.s (.int .i64 0),.s (.int .i64 0),.s (.slice none 0 0),.s (.slice none 0 0),.s (.slice none 0 0),.s (.int .i64 0),.s (.slice none 0 0),.s (.int .i64 0),.s (.int .i64 0),.s (.int .i64 0),.s (.slice none 0 0),.s (.int .i64 0),.s (.int .i64 0),.s (.int .i64 0),.s (.slice none 0 0),.s (.slice none 0 0),.s (.int .i64 0),.s (.slice none 0 0),.s (.int .i64 0)]⟩],[some ⟨38,22,false,none,[.s (.int .i64 a0.count),.s (.int .i64 a0.id),.s (.int .i64 a0.master),.s (.int .i64 a0.epoch),.s (.int .i64 a0.voted),.d false 4 (encClaim a0.claims),.d false 6 (encPair a0.db),.d false 4 (encMove a0.moves),.s (.int .i64 a0.last),.d false 3 (encSeen a0.seen),.s (.int .i64 a0.feed.rid.node),.s (.int .i64 a0.feed.rid.epoch),.s (.int .i64 a0.feed.off),.d false 7 (encEffect a0.feed.back),.s (.int .i64 a0.feed.prev.node),.s (.int .i64 a0.feed.prev.epoch),.s (.int .i64 a0.feed.upto),.d false 1 (encI a0.watch.heard),.d false 1 (encLI a0.watch.says),.s (.int .i64 a0.asked),.d false 1 (encI a0.votes),.s (.int .i64 a0.wait)]⟩,some ⟨38,22,false,none,[.s (.int .i64 0),.s (.int .i64 0),.s (.int .i64 0),.s (.int .i64 0),.s (.int .i64 0),.s (.slice none 0 0),.s (.slice none 0 0),.s (.slice none 0 0),.s (.int .i64 0),.s (.slice none 0 0),.s (.int .i64 0),.s (.int .i64 0),.s (.int .i64 0),.s (.slice none 0 0),.s (.int .i64 0),.s (.int .i64 0),.s (.int .i64 0),.s (.slice none 0 0),.s (.slice none 0 0),.s (.int .i64 0),.s (.slice none 0 0),.s (.int .i64 0)]⟩,some ⟨81,4,true,none,lvs (encClaim a0.claims)⟩],[some ⟨38,22,false,none,[.s (.int .i64 a0.count),.s (.int .i64 a0.id),.s (.int .i64 a0.master),.s (.int .i64 a0.epoch),.s (.int .i64 a0.voted),.d false 4 (encClaim a0.claims),.d false 6 (encPair a0.db),.d false 4 (encMove a0.moves),.s (.int .i64 a0.last),.d false 3 (encSeen a0.seen),.s (.int .i64 a0.feed.rid.node),.s (.int .i64 a0.feed.rid.epoch),.s (.int .i64 a0.feed.off),.d false 7 (encEffect a0.feed.back),.s (.int .i64 a0.feed.prev.node),.s (.int .i64 a0.feed.prev.epoch),.s (.int .i64 a0.feed.upto),.d false 1 (encI a0.watch.heard),.d false 1 (encLI a0.watch.says),.s (.int .i64 a0.asked),.d false 1 (encI a0.votes),.s (.int .i64 a0.wait)]⟩,some ⟨38,22,false,none,[.s (.int .i64 0),.s (.int .i64 0),.s (.int .i64 0),.s (.int .i64 0),.s (.int .i64 0),.s (.slice none 0 0),.s (.slice none 0 0),.s (.slice none 0 0),.s (.int .i64 0),.s (.slice none 0 0),.s (.int .i64 0),.s (.int .i64 0),.s (.int .i64 0),.s (.slice none 0 0),.s (.int .i64 0),.s (.int .i64 0),.s (.int .i64 0),.s (.slice none 0 0),.s (.slice none 0 0),.s (.int .i64 0),.s (.slice none 0 0),.s (.int .i64 0)]⟩,some ⟨81,4,true,none,lvs (encClaim a0.claims)⟩,some ⟨92,4,true,none,lvs (encMove a0.moves)⟩],[some ⟨38,22,false,none,[.s (.int .i64 a0.count),.s (.int .i64 a0.id),.s (.int .i64 a0.master),.s (.int .i64 a0.epoch),.s (.int .i64 a0.voted),.d false 4 (encClaim a0.claims),.d false 6 (encPair a0.db),.d false 4 (encMove a0.moves),.s (.int .i64 a0.last),.d false 3 (encSeen a0.seen),.s (.int .i64 a0.feed.rid.node),.s (.int .i64 a0.feed.rid.epoch),.s (.int .i64 a0.feed.off),.d false 7 (encEffect a0.feed.back),.s (.int .i64 a0.feed.prev.node),.s (.int .i64 a0.feed.prev.epoch),.s (.int .i64 a0.feed.upto),.d false 1 (encI a0.watch.heard),.d false 1 (encLI a0.watch.says),.s (.int .i64 a0.asked),.d false 1 (encI a0.votes),.s (.int .i64 a0.wait)]⟩,some ⟨38,22,false,none,[.s (.int .i64 0),.s (.int .i64 0),.s (.int .i64 0),.s (.int .i64 0),.s (.int .i64 0),.s (.slice none 0 0),.s (.slice none 0 0),.s (.slice none 0 0),.s (.int .i64 0),.s (.slice none 0 0),.s (.int .i64 0),.s (.int .i64 0),.s (.int .i64 0),.s (.slice none 0 0),.s (.int .i64 0),.s (.int .i64 0),.s (.int .i64 0),.s (.slice none 0 0),.s (.slice none 0 0),.s (.int .i64 0),.s (.slice none 0 0),.s (.int .i64 0)]⟩,some ⟨81,4,true,none,lvs (encClaim a0.claims)⟩,some ⟨92,4,true,none,lvs (encMove a0.moves)⟩,some ⟨100,3,true,none,lvs (encSeen a0.seen)⟩],[some ⟨38,22,false,none,[.s (.int .i64 a0.count),.s (.int .i64 a0.id),.s (.int .i64 a0.master),.s (.int .i64 a0.epoch),.s (.int .i64 a0.voted),.d false 4 (encClaim a0.claims),.d false 6 (encPair a0.db),.d false 4 (encMove a0.moves),.s (.int .i64 a0.last),.d false 3 (encSeen a0.seen),.s (.int .i64 a0.feed.rid.node),.s (.int .i64 a0.feed.rid.epoch),.s (.int .i64 a0.feed.off),.d false 7 (encEffect a0.feed.back),.s (.int .i64 a0.feed.prev.node),.s (.int .i64 a0.feed.prev.epoch),.s (.int .i64 a0.feed.upto),.d false 1 (encI a0.watch.heard),.d false 1 (encLI a0.watch.says),.s (.int .i64 a0.asked),.d false 1 (encI a0.votes),.s (.int .i64 a0.wait)]⟩,some ⟨38,22,false,none,[.s (.int .i64 0),.s (.int .i64 0),.s (.int .i64 0),.s (.int .i64 0),.s (.int .i64 0),.s (.slice none 0 0),.s (.slice none 0 0),.s (.slice none 0 0),.s (.int .i64 0),.s (.slice none 0 0),.s (.int .i64 0),.s (.int .i64 0),.s (.int .i64 0),.s (.slice none 0 0),.s (.int .i64 0),.s (.int .i64 0),.s (.int .i64 0),.s (.slice none 0 0),.s (.slice none 0 0),.s (.int .i64 0),.s (.slice none 0 0),.s (.int .i64 0)]⟩,some ⟨81,4,true,none,lvs (encClaim a0.claims)⟩,some ⟨92,4,true,none,lvs (encMove a0.moves)⟩,some ⟨100,3,true,none,lvs (encSeen a0.seen)⟩,some ⟨3,1,true,none,lvs (encI a0.votes)⟩]]) mixed [⟨[0],[],[(1,none)],false⟩,⟨[0],[0],[(7,some 0)],false⟩,⟨[0],[0,1],[(8,some 1)],true⟩,⟨[0,1],[],[(1,none)],false⟩,⟨[0,1],[3],[(10,some 3)],false⟩,⟨[1],[0,1,2,3,4],[(11,some 4)],true⟩,⟨[0,1,2],[],[(1,none)],false⟩,⟨[0,1,2],[6],[(13,some 6)],false⟩,⟨[2],[0,1,2,3,4,5,6,7],[(14,some 7)],true⟩,⟨[0,1,2,3],[],[(1,none)],false⟩,⟨[0,1,2,3],[9],[(16,some 9)],false⟩,⟨[3],[0,1,2,3,4,5,6,7,8,9,10],[(17,some 10)],true⟩,⟨[1,2,3,4],[0,1,2,3,4,6,7,9,10],[(1,none)],false⟩,⟨[],[0,1,2,3,4,5,6,7,8,9,10,11,12],[],false⟩,⟨[],[0,1,2,3,4,5,6,7,8,9,10,11,12,13],[],false⟩,⟨[],[0,1,2,3,4,5,6,7,8,9,10,11,12,13,14],[],false⟩,⟨[],[0,1,2,3,4,5,6,7,8,9,10,11,12,13,14,15],[],false⟩,⟨[],[0,1,2,3,4,5,6,7,8,9,10,11,12,13,14,15,16],[],false⟩,⟨[],[0,1,2,3,4,5,6,7,8,9,10,11,12,13,14,15,16,17],[],false⟩,⟨[],[0,1,2,3,4,5,6,7,8,9,10,11,12,13,14,15,16,17,18],[],false⟩] 13 4 (by kernel_rfl) (by kernel_rfl)
 ·rfl
 ·refine⟨?_,?_,?_,⟨?_,?_⟩,⟨?_,?_⟩,?_,⟨?_,?_,?_⟩,⟨?_,?_,?_⟩,?_,⟨?_,?_,?_,?_⟩,⟨?_,?_,?_,?_⟩,?_,⟨?_,?_,?_,?_⟩,trivial⟩
  iterate 2 (· intro tm hr;simp[AllL,rdV] at hr;simp[hr,outR];intros;first|exact KD.mk|exact KD.mkN)
  ·intro tm hr
   simp[AllL,rdV] at hr
   simp[hr,outR]
   intros
   refine As Fs (FX a0.claims (AP e1)) rfl (by simp) ⟨.d _ _ _,trivial⟩ ?_
   try simp[outR]
   intros;first|exact KD.mk|exact KD.mkN
  iterate 4 (· intro tm hr;simp[AllL,rdV] at hr;simp[hr,outR];intros;first|exact KD.mk|exact KD.mkN)
  ·intro tm hr
   simp[AllL,rdV] at hr
   simp[hr,outR]
   intros
   refine As FY (GE a0.moves (AP e2)) rfl (by simp) ⟨.d _ _ _,trivial⟩ ?_
   try simp[outR]
   intros;first|exact KD.mk|exact KD.mkN
  iterate 6 (· intro tm hr;simp[AllL,rdV] at hr;simp[hr,outR];intros;first|exact KD.mk|exact KD.mkN)
  ·intro tm hr
   simp[AllL,rdV] at hr
   simp[hr,outR]
   intros
   refine As FZ (GF a0.seen (AP e3)) rfl (by simp) ⟨.d _ _ _,trivial⟩ ?_
   try simp[outR]
   intros;first|exact KD.mk|exact KD.mkN
  iterate 8 (· intro tm hr;simp[AllL,rdV] at hr;simp[hr,outR];intros;first|exact KD.mk|exact KD.mkN)
  ·intro tm hr
   simp[AllL,rdV] at hr
   simp[hr,outR]
   intros
   refine As Dn (E5 a0.votes (AP e4)) rfl (by simp) ⟨.d _ _ _,trivial⟩ ?_
   try simp[outR]
   intros;first|exact KD.mk|exact KD.mkN
  iterate 4 (· intro tm hr;simp[AllL,rdV] at hr;simp[hr,outR];intros;first|exact KD.mk|exact KD.mkN)
 ·rfl
 ·simp[tmD,putD,outR];rfl
 ·simp[outR]
  intros;rfl
 replace h:=chkE h;obtain⟨e5,h⟩:=h
 replace h:=chkE h;obtain⟨e6,h⟩:=h
 apply AW.drawnE (V:=[_,_,_,_,_,_,_,_]) (M:=[[some ⟨38,22,false,none,[.s (.int .i64 a0.count),.s (.int .i64 a0.id),.s (.int .i64 a0.master),.s (.int .i64 a0.epoch),.s (.int .i64 a0.voted),.r 2 4 0 a0.claims.length,.d false 6 (encPair a0.db),.r 3 4 0 a0.moves.length,.s (.int .i64 a0.last),.r 4 3 0 a0.seen.length,.s (.int .i64 a0.feed.rid.node),.s (.int .i64 a0.feed.rid.epoch),.s (.int .i64 a0.feed.off),.d false 7 (encEffect a0.feed.back),.s (.int .i64 a0.feed.prev.node),.s (.int .i64 a0.feed.prev.epoch),.s (.int .i64 a0.feed.upto),.d false 1 (encI a0.watch.heard),.d false 1 (encLI a0.watch.says),.s (.int .i64 a0.asked),.r 5 1 0 a0.votes.length,.s (.int .i64 a0.wait)]⟩,some ⟨38,22,false,none,[.s (.int .i64 0),.s (.int .i64 0),.s (.int .i64 0),.s (.int .i64 0),.s (.int .i64 0),.s (.slice none 0 0),.s (.slice none 0 0),.s (.slice none 0 0),.s (.int .i64 0),.s (.slice none 0 0),.s (.int .i64 0),.s (.int .i64 0),.s (.int .i64 0),.s (.slice none 0 0),.s (.int .i64 0),.s (.int .i64 0),.s (.int .i64 0),.s (.slice none 0 0),.s (.slice none 0 0),.s (.int .i64 0),.s (.slice none 0 0),.s (.int .i64 0)]⟩,some ⟨81,4,true,none,lvs (encClaim a0.claims)⟩,some ⟨92,4,true,none,lvs (encMove a0.moves)⟩,some ⟨100,3,true,none,lvs (encSeen a0.seen)⟩,some ⟨3,1,true,none,lvs (encI a0.votes)⟩],[some ⟨38,22,false,none,[.s (.int .i64 a0.count),.s (.int .i64 a0.id),.s (.int .i64 a0.master),.s (.int .i64 a0.epoch),.s (.int .i64 a0.voted),.r 2 4 0 a0.claims.length,.d false 6 (encPair a0.db),.r 3 4 0 a0.moves.length,.s (.int .i64 a0.last),.r 4 3 0 a0.seen.length,.s (.int .i64 a0.feed.rid.node),.s (.int .i64 a0.feed.rid.epoch),.s (.int .i64 a0.feed.off),.d false 7 (encEffect a0.feed.back),.s (.int .i64 a0.feed.prev.node),.s (.int .i64 a0.feed.prev.epoch),.s (.int .i64 a0.feed.upto),.d false 1 (encI a0.watch.heard),.d false 1 (encLI a0.watch.says),.s (.int .i64 a0.asked),.r 5 1 0 a0.votes.length,.s (.int .i64 a0.wait)]⟩,some ⟨38,22,false,none,[.s (.int .i64 0),.s (.int .i64 0),.s (.int .i64 0),.s (.int .i64 0),.s (.int .i64 0),.s (.slice none 0 0),.s (.slice none 0 0),.s (.slice none 0 0),.s (.int .i64 0),.s (.slice none 0 0),.s (.int .i64 0),.s (.int .i64 0),.s (.int .i64 0),.s (.slice none 0 0),.s (.int .i64 0),.s (.int .i64 0),.s (.int .i64 0),.s (.slice none 0 0),.s (.slice none 0 0),.s (.int .i64 0),.s (.slice none 0 0),.s (.int .i64 0)]⟩,some ⟨81,4,true,none,lvs (encClaim a0.claims)⟩,some ⟨92,4,true,none,lvs (encMove a0.moves)⟩,some ⟨100,3,true,none,lvs (encSeen a0.seen)⟩,some ⟨3,1,true,none,lvs (encI a0.votes)⟩,some ⟨114,6,true,none,lvs (encPair a0.db)⟩],[some ⟨38,22,false,none,[.s (.int .i64 a0.count),.s (.int .i64 a0.id),.s (.int .i64 a0.master),.s (.int .i64 a0.epoch),.s (.int .i64 a0.voted),.r 2 4 0 a0.claims.length,.d false 6 (encPair a0.db),.r 3 4 0 a0.moves.length,.s (.int .i64 a0.last),.r 4 3 0 a0.seen.length,.s (.int .i64 a0.feed.rid.node),.s (.int .i64 a0.feed.rid.epoch),.s (.int .i64 a0.feed.off),.d false 7 (encEffect a0.feed.back),.s (.int .i64 a0.feed.prev.node),.s (.int .i64 a0.feed.prev.epoch),.s (.int .i64 a0.feed.upto),.d false 1 (encI a0.watch.heard),.d false 1 (encLI a0.watch.says),.s (.int .i64 a0.asked),.r 5 1 0 a0.votes.length,.s (.int .i64 a0.wait)]⟩,some ⟨38,22,false,none,[.s (.int .i64 0),.s (.int .i64 0),.s (.int .i64 0),.s (.int .i64 0),.s (.int .i64 0),.s (.slice none 0 0),.s (.slice none 0 0),.s (.slice none 0 0),.s (.int .i64 0),.s (.slice none 0 0),.s (.int .i64 0),.s (.int .i64 0),.s (.int .i64 0),.s (.slice none 0 0),.s (.int .i64 0),.s (.int .i64 0),.s (.int .i64 0),.s (.slice none 0 0),.s (.slice none 0 0),.s (.int .i64 0),.s (.slice none 0 0),.s (.int .i64 0)]⟩,some ⟨81,4,true,none,lvs (encClaim a0.claims)⟩,some ⟨92,4,true,none,lvs (encMove a0.moves)⟩,some ⟨100,3,true,none,lvs (encSeen a0.seen)⟩,some ⟨3,1,true,none,lvs (encI a0.votes)⟩,some ⟨114,6,true,none,lvs (encPair a0.db)⟩,some ⟨59,7,true,none,lvs (encEffect a0.feed.back)⟩]]) mixed [⟨[0],[],[(1,none)],false⟩,⟨[0],[0],[(23,some 0)],false⟩,⟨[0],[0,1],[(24,some 1)],true⟩,⟨[0,1],[],[(1,none)],false⟩,⟨[0,1],[3],[(26,some 3)],false⟩,⟨[0,1],[3,4],[(27,some 4)],false⟩,⟨[1],[0,1,2,3,4,5],[(28,some 5)],true⟩,⟨[1,2],[0,1,2,3,4,5],[(1,none)],false⟩,⟨[],[0,1,2,3,4,5,6,7],[],false⟩,⟨[],[0,1,2,3,4,5,6,7,8],[],false⟩,⟨[],[0,1,2,3,4,5,6,7,8,9],[],false⟩,⟨[],[0,1,2,3,4,5,6,7,8,9,10],[],false⟩] 8 2 (by kernel_rfl) (by kernel_rfl)
 ·rfl
 ·refine⟨?_,?_,?_,⟨?_,?_⟩,⟨?_,?_⟩,⟨?_,?_⟩,?_,⟨?_,?_⟩,trivial⟩
  iterate 2 (· intro tm hr;simp[AllL,rdV] at hr;simp[hr,outR];intros;first|exact KD.mk|exact KD.mkN)
  ·intro tm hr
   simp[AllL,rdV] at hr
   simp[hr,outR]
   intros
   refine As ES (Fm a0.db (AP e5)) rfl (by simp) ⟨.same rfl,trivial⟩ ?_
   try simp[outR]
   intros;first|exact KD.mk|exact KD.mkN
  iterate 6 (· intro tm hr;simp[AllL,rdV] at hr;simp[hr,outR];intros;first|exact KD.mk|exact KD.mkN)
  ·intro tm hr
   simp[AllL,rdV] at hr
   simp[hr,outR]
   intros
   refine As Ed (Er a0.feed.back (AP e6)) rfl (by simp) ⟨.same rfl,trivial⟩ ?_
   try simp[outR]
   intros;first|exact KD.mk|exact KD.mkN
  iterate 2 (· intro tm hr;simp[AllL,rdV] at hr;simp[hr,outR];intros;first|exact KD.mk|exact KD.mkN)
 ·rfl
 ·simp[tmD,putD,outR];rfl
 ·simp[outR]
  intros;rfl
 refine AW.seq ?_
 replace h:=ltE h;obtain⟨v7,e7,h⟩:=h
 apply AW.step
 ·simp[Ad e7]
  intros;rfl
 refine AW.block ?_
 replace h:=bnE h;obtain⟨y9,g9,h⟩:=h
 refine AW.iterP g9 (mk:=fun gh ls q=>(⟨[(1,.l (.p 0 0)),(2,.l (.p 1 0)),(35,.l (.s (.int .i64 v7))),(36,.l (.s (.int .i64 q.1)))],[some ⟨38,22,false,none,[.s (.int .i64 a0.count),.s (.int .i64 a0.id),.s (.int .i64 a0.master),.s (.int .i64 a0.epoch),.s (.int .i64 a0.voted),.r 2 4 0 a0.claims.length,.r 3 6 0 q.2.length,.r 4 4 0 a0.moves.length,.s (.int .i64 a0.last),.r 5 3 0 a0.seen.length,.s (.int .i64 a0.feed.rid.node),.s (.int .i64 a0.feed.rid.epoch),.s (.int .i64 a0.feed.off),.r 6 7 0 a0.feed.back.length,.s (.int .i64 a0.feed.prev.node),.s (.int .i64 a0.feed.prev.epoch),.s (.int .i64 a0.feed.upto),.d false 1 (encI a0.watch.heard),.d false 1 (encLI a0.watch.says),.s (.int .i64 a0.asked),.r 7 1 0 a0.votes.length,.s (.int .i64 a0.wait)]⟩,some ⟨38,22,false,none,[.s (.int .i64 0),.s (.int .i64 0),.s (.int .i64 0),.s (.int .i64 0),.s (.int .i64 0),.s (.slice none 0 0),.s (.slice none 0 0),.s (.slice none 0 0),.s (.int .i64 0),.s (.slice none 0 0),.s (.int .i64 0),.s (.int .i64 0),.s (.int .i64 0),.s (.slice none 0 0),.s (.int .i64 0),.s (.int .i64 0),.s (.int .i64 0),.s (.slice none 0 0),.s (.slice none 0 0),.s (.int .i64 0),.s (.slice none 0 0),.s (.int .i64 0)]⟩,some ⟨81,4,true,none,lvs (encClaim a0.claims)⟩,some ⟨114,6,true,none,lvs (encPair q.2)⟩,some ⟨92,4,true,none,lvs (encMove a0.moves)⟩,some ⟨100,3,true,none,lvs (encSeen a0.seen)⟩,some ⟨59,7,true,none,lvs (encEffect a0.feed.back)⟩,some ⟨3,1,true,none,lvs (encI a0.votes)⟩],104,gh,ls⟩:St)) (N:=fun gh ls=>(xP 0 (cx:=cx) (fun q=>(⟨[(1,.l (.p 0 0)),(2,.l (.p 1 0))],[some ⟨38,22,false,none,[.s (.int .i64 a0.count),.s (.int .i64 a0.id),.s (.int .i64 a0.master),.s (.int .i64 a0.epoch),.s (.int .i64 a0.voted),.r 2 4 0 a0.claims.length,.r 3 6 0 q.length,.r 4 4 0 a0.moves.length,.s (.int .i64 a0.last),.r 5 3 0 a0.seen.length,.s (.int .i64 a0.feed.rid.node),.s (.int .i64 a0.feed.rid.epoch),.s (.int .i64 a0.feed.off),.r 6 7 0 a0.feed.back.length,.s (.int .i64 a0.feed.prev.node),.s (.int .i64 a0.feed.prev.epoch),.s (.int .i64 a0.feed.upto),.d false 1 (encI a0.watch.heard),.d false 1 (encLI a0.watch.says),.s (.int .i64 a0.asked),.r 7 1 0 a0.votes.length,.s (.int .i64 a0.wait)]⟩,some ⟨38,22,false,none,[.s (.int .i64 0),.s (.int .i64 0),.s (.int .i64 0),.s (.int .i64 0),.s (.int .i64 0),.s (.slice none 0 0),.s (.slice none 0 0),.s (.slice none 0 0),.s (.int .i64 0),.s (.slice none 0 0),.s (.int .i64 0),.s (.int .i64 0),.s (.int .i64 0),.s (.slice none 0 0),.s (.int .i64 0),.s (.int .i64 0),.s (.int .i64 0),.s (.slice none 0 0),.s (.slice none 0 0),.s (.int .i64 0),.s (.slice none 0 0),.s (.int .i64 0)]⟩,some ⟨81,4,true,none,lvs (encClaim a0.claims)⟩,some ⟨114,6,true,none,lvs (encPair q)⟩,some ⟨92,4,true,none,lvs (encMove a0.moves)⟩,some ⟨100,3,true,none,lvs (encSeen a0.seen)⟩,some ⟨59,7,true,none,lvs (encEffect a0.feed.back)⟩,some ⟨3,1,true,none,lvs (encI a0.votes)⟩],104,gh,ls⟩:St)))) ?_ noX ?_ ?_
 ·refine Weak.mixN [some 0,some 1,some 2,some 6,some 3,some 4,some 7,some 5] hn0 (by decide) ?_ ?_ rfl
  all_goals first|(simp[Aa,Ab,pickOb];done)|rfl
 ·clear h;intro y8 y10 h
  replace h:=ltE h;obtain⟨v11,e11,h⟩:=h
  apply AW.step
  ·simp[← e11]
   intros;rfl
  refine AW.seq ?_
  cases v11 with
  |true =>
   replace h:=iteT rfl h
   refine AW.cond_true (by simp) ?_
   refine AW.skip ?_
   try simp only[nm]
   refine AW.seq ?_
   refine AW.block ?_
   apply AW.step
   ·simp
    intros;rfl
   replace h:=bnE h;obtain⟨v12,e12,h⟩:=h
   have f13:=AH e12
   try simp[Ac e12] at f13
   replace h:=bnE h;obtain⟨v14,e14,h⟩:=h
   have f15:=AH e12
   try simp[Ac e12,f13,AM (Ac e12).2 (j:=1) (k:=5) (by decide),AD (Ac e12).2 (j:=1) (m:=5) (by decide),lvs1] at f15
   replace h:=ltE h;obtain⟨v16,e16,h⟩:=h
   have f17:=Du (Ac e12).2 e16 (j:=1) (cs:=[.s (.int .i64 v14.kind),.s (.string v14.s),.d false 2 (encField v14.f),.d false 1 (encS v14.l),.s (.int .i64 v14.exp)]) (by simp) rfl
   try simp at f17
   have f18:=f13
   try simp only[Ap e16] at f18
   have f19:=f15
   try simp only[Ap e16] at f19
   apply AW.drawnR (V:=[_,_,_,_,_,_,_,_,_,_]) mixed [⟨[0],[],[(1,none)],false⟩,⟨[0],[0],[(39,some 0)],false⟩,⟨[0],[],[(3,none)],false⟩,⟨[0],[],[(1,none)],false⟩,⟨[0],[3],[(42,some 3)],false⟩,⟨[0],[],[(3,none)],false⟩,⟨[0],[3,4,5],[(43,some 4),(44,some 5)],false⟩,⟨[0],[3,4,5,6],[(45,some 6)],false⟩,⟨[0],[3,4,5,6,7],[(46,some 7)],false⟩,⟨[0],[3,4,5,6,7,8],[(47,some 8)],false⟩,⟨[],[0,1,2,3,4,5,6,7,8,9],[],false⟩,⟨[],[0,1,2,3,4,5,6,7,8,9,10],[],false⟩,⟨[],[0,1,2,3,4,5,6,7,8,9,10,11],[],false⟩] 10 (by kernel_rfl) (by kernel_rfl)
   ·refine⟨?_,?_,?_,?_,?_,?_,?_,?_,?_,?_,trivial⟩
    iterate 9 (· intro tm hr;simp[AllL,rdV] at hr;simp[hr,Ac e12,f13,AM (Ac e12).2 (j:=1) (k:=5) (by decide),AD (Ac e12).2 (j:=1) (m:=5) (by decide),lvs1,f15,f17,f18,f19];intros;first|exact KD.mk|exact KD.mkN)
    ·intro tm hr
     simp[AllL,rdV] at hr
     simp[hr,Ac e12,f13,AM (Ac e12).2 (j:=1) (k:=5) (by decide),AD (Ac e12).2 (j:=1) (m:=5) (by decide),lvs1,f15,f17,f18,f19]
     intros
     refine Ae B7 (Cu e14) rfl ⟨.same rfl,trivial⟩ ?_
     try simp[Ac e12,f13,AM (Ac e12).2 (j:=1) (k:=5) (by decide),AD (Ac e12).2 (j:=1) (m:=5) (by decide),lvs1,f15,f17,f18,f19]
     intros;first|exact KD.mk|exact KD.mkN
   ·rfl
   ·simp[tmD,putD,Ac e12,f13,AM (Ac e12).2 (j:=1) (k:=5) (by decide),AD (Ac e12).2 (j:=1) (m:=5) (by decide),lvs1,f15,f17,f18,f19];rfl
   ·simp[Ac e12,f13,AM (Ac e12).2 (j:=1) (k:=5) (by decide),AD (Ac e12).2 (j:=1) (m:=5) (by decide),lvs1,f15,f17,f18,f19]
    intros;rfl
   try simp only[nm]
   replace h:=ltE h;obtain⟨v20,e20,h⟩:=h
   apply AW.last
   ·simp[← e20]
    intros;rfl
   obtain rfl:=oi h
   refine nP_i ?_
   refine Weak.mixN [some 0,some 1,some 2,some 3,some 4,some 5,some 6,some 7] hn0 (by decide) ?_ ?_ rfl
   all_goals first|(simp[Aa,Ab,pickOb,Ap e16];done)|rfl
  |false =>
   replace h:=iteF rfl h
   refine AW.cond_false (by simp) ?_
   refine AW.exit ?_
   try simp only[nm]
   obtain rfl:=oi h
   refine xP_i ?_
   refine Weak.mixN [some 0,some 1,some 2,some 3,some 4,some 5,some 6,some 7] hn0 (by decide) ?_ ?_ rfl
   all_goals first|(simp[Aa,Ab,pickOb];done)|rfl
 ·rintro e s hp
  obtain⟨rfl,hw⟩:=hp
  refine⟨_,hw,?_⟩
  try simp only[nm]
  refine AW.seq ?_
  replace h:=ltE h;obtain⟨v21,e21,h⟩:=h
  apply AW.step
  ·simp[Ad e21]
   intros;rfl
  refine AW.block ?_
  replace h:=bnE h;obtain⟨y23,g23,h⟩:=h
  refine AW.iterP g23 (mk:=fun gh ls q=>(⟨[(1,.l (.p 0 0)),(2,.l (.p 1 0)),(55,.l (.s (.int .i64 v21))),(56,.l (.s (.int .i64 q.1)))],[some ⟨38,22,false,none,[.s (.int .i64 a0.count),.s (.int .i64 a0.id),.s (.int .i64 a0.master),.s (.int .i64 a0.epoch),.s (.int .i64 a0.voted),.r 2 4 0 a0.claims.length,.r 3 6 0 y9.length,.r 4 4 0 a0.moves.length,.s (.int .i64 a0.last),.r 5 3 0 a0.seen.length,.s (.int .i64 a0.feed.rid.node),.s (.int .i64 a0.feed.rid.epoch),.s (.int .i64 a0.feed.off),.r 6 7 0 q.2.length,.s (.int .i64 a0.feed.prev.node),.s (.int .i64 a0.feed.prev.epoch),.s (.int .i64 a0.feed.upto),.d false 1 (encI a0.watch.heard),.d false 1 (encLI a0.watch.says),.s (.int .i64 a0.asked),.r 7 1 0 a0.votes.length,.s (.int .i64 a0.wait)]⟩,some ⟨38,22,false,none,[.s (.int .i64 0),.s (.int .i64 0),.s (.int .i64 0),.s (.int .i64 0),.s (.int .i64 0),.s (.slice none 0 0),.s (.slice none 0 0),.s (.slice none 0 0),.s (.int .i64 0),.s (.slice none 0 0),.s (.int .i64 0),.s (.int .i64 0),.s (.int .i64 0),.s (.slice none 0 0),.s (.int .i64 0),.s (.int .i64 0),.s (.int .i64 0),.s (.slice none 0 0),.s (.slice none 0 0),.s (.int .i64 0),.s (.slice none 0 0),.s (.int .i64 0)]⟩,some ⟨81,4,true,none,lvs (encClaim a0.claims)⟩,some ⟨114,6,true,none,lvs (encPair y9)⟩,some ⟨92,4,true,none,lvs (encMove a0.moves)⟩,some ⟨100,3,true,none,lvs (encSeen a0.seen)⟩,some ⟨59,7,true,none,lvs (encEffect q.2)⟩,some ⟨3,1,true,none,lvs (encI a0.votes)⟩],104,gh,ls⟩:St)) (N:=fun gh ls=>(xP 2 (cx:=cx) (fun q=>(⟨[(1,.l (.p 0 0)),(2,.l (.p 1 0))],[some ⟨38,22,false,none,[.s (.int .i64 a0.count),.s (.int .i64 a0.id),.s (.int .i64 a0.master),.s (.int .i64 a0.epoch),.s (.int .i64 a0.voted),.r 2 4 0 a0.claims.length,.r 3 6 0 y9.length,.r 4 4 0 a0.moves.length,.s (.int .i64 a0.last),.r 5 3 0 a0.seen.length,.s (.int .i64 a0.feed.rid.node),.s (.int .i64 a0.feed.rid.epoch),.s (.int .i64 a0.feed.off),.r 6 7 0 q.length,.s (.int .i64 a0.feed.prev.node),.s (.int .i64 a0.feed.prev.epoch),.s (.int .i64 a0.feed.upto),.d false 1 (encI a0.watch.heard),.d false 1 (encLI a0.watch.says),.s (.int .i64 a0.asked),.r 7 1 0 a0.votes.length,.s (.int .i64 a0.wait)]⟩,some ⟨38,22,false,none,[.s (.int .i64 0),.s (.int .i64 0),.s (.int .i64 0),.s (.int .i64 0),.s (.int .i64 0),.s (.slice none 0 0),.s (.slice none 0 0),.s (.slice none 0 0),.s (.int .i64 0),.s (.slice none 0 0),.s (.int .i64 0),.s (.int .i64 0),.s (.int .i64 0),.s (.slice none 0 0),.s (.int .i64 0),.s (.int .i64 0),.s (.int .i64 0),.s (.slice none 0 0),.s (.slice none 0 0),.s (.int .i64 0),.s (.slice none 0 0),.s (.int .i64 0)]⟩,some ⟨81,4,true,none,lvs (encClaim a0.claims)⟩,some ⟨114,6,true,none,lvs (encPair y9)⟩,some ⟨92,4,true,none,lvs (encMove a0.moves)⟩,some ⟨100,3,true,none,lvs (encSeen a0.seen)⟩,some ⟨59,7,true,none,lvs (encEffect q)⟩,some ⟨3,1,true,none,lvs (encI a0.votes)⟩],104,gh,ls⟩:St)))) ?_ noX ?_ ?_
  ·refine Weak.mixN [some 0,some 1,some 2,some 3,some 4,some 5,some 6,some 7] hn0 (by decide) ?_ ?_ rfl
   all_goals first|(simp[Aa,Ab,pickOb];done)|rfl
  ·clear h;intro y22 y24 h
   replace h:=ltE h;obtain⟨v25,e25,h⟩:=h
   apply AW.step
   ·simp[← e25]
    intros;rfl
   refine AW.seq ?_
   cases v25 with
   |true =>
    replace h:=iteT rfl h
    refine AW.cond_true (by simp) ?_
    refine AW.skip ?_
    try simp only[nm]
    refine AW.seq ?_
    refine AW.block ?_
    apply AW.step
    ·simp
     intros;rfl
    replace h:=bnE h;obtain⟨v26,e26,h⟩:=h
    have f27:=AH e26
    try simp[Ac e26] at f27
    replace h:=bnE h;obtain⟨v28,e28,h⟩:=h
    have f29:=AH e26
    try simp[Ac e26,f27,AE (Ac e26).2 (j:=2) (k:=5) (by decide),AC (Ac e26).2 (j:=2) (m:=5) (by decide),lvs1] at f29
    replace h:=ltE h;obtain⟨v30,e30,h⟩:=h
    have f31:=DL (Ac e26).2 e30 (j:=2) (cs:=[.s (.int .i64 v28.kind),.s (.string v28.s),.d false 2 (encField v28.f),.d false 1 (encS v28.l),.s (.int .i64 v28.exp)]) (by simp) rfl
    try simp at f31
    have f32:=f27
    try simp only[Ap e30] at f32
    have f33:=f29
    try simp only[Ap e30] at f33
    apply AW.drawnR (V:=[_,_,_,_,_,_,_,_,_,_,_,_]) mixed [⟨[0],[],[(1,none)],false⟩,⟨[0],[0],[(59,some 0)],false⟩,⟨[0],[0,1],[(60,some 1)],false⟩,⟨[0],[],[(4,none)],false⟩,⟨[0],[],[(1,none)],false⟩,⟨[0],[4],[(63,some 4)],false⟩,⟨[0],[4,5],[(64,some 5)],false⟩,⟨[0],[],[(4,none)],false⟩,⟨[0],[4,5,6,7],[(65,some 6),(66,some 7)],false⟩,⟨[0],[4,5,6,7,8],[(67,some 8)],false⟩,⟨[0],[4,5,6,7,8,9],[(68,some 9)],false⟩,⟨[0],[4,5,6,7,8,9,10],[(69,some 10)],false⟩,⟨[],[0,1,2,3,4,5,6,7,8,9,10,11],[],false⟩,⟨[],[0,1,2,3,4,5,6,7,8,9,10,11,12],[],false⟩,⟨[],[0,1,2,3,4,5,6,7,8,9,10,11,12,13],[],false⟩] 12 (by kernel_rfl) (by kernel_rfl)
    ·refine⟨?_,?_,?_,?_,?_,?_,?_,?_,?_,?_,?_,?_,trivial⟩
     iterate 11 (· intro tm hr;simp[AllL,rdV] at hr;simp[hr,Ac e26,f27,AE (Ac e26).2 (j:=2) (k:=5) (by decide),AC (Ac e26).2 (j:=2) (m:=5) (by decide),lvs1,f29,f31,f32,f33];intros;first|exact KD.mk|exact KD.mkN)
     ·intro tm hr
      simp[AllL,rdV] at hr
      simp[hr,Ac e26,f27,AE (Ac e26).2 (j:=2) (k:=5) (by decide),AC (Ac e26).2 (j:=2) (m:=5) (by decide),lvs1,f29,f31,f32,f33]
      intros
      refine Ae B7 (Cu e28) rfl ⟨.same rfl,trivial⟩ ?_
      try simp[Ac e26,f27,AE (Ac e26).2 (j:=2) (k:=5) (by decide),AC (Ac e26).2 (j:=2) (m:=5) (by decide),lvs1,f29,f31,f32,f33]
      intros;first|exact KD.mk|exact KD.mkN
    ·rfl
    ·simp[tmD,putD,Ac e26,f27,AE (Ac e26).2 (j:=2) (k:=5) (by decide),AC (Ac e26).2 (j:=2) (m:=5) (by decide),lvs1,f29,f31,f32,f33];rfl
    ·simp[Ac e26,f27,AE (Ac e26).2 (j:=2) (k:=5) (by decide),AC (Ac e26).2 (j:=2) (m:=5) (by decide),lvs1,f29,f31,f32,f33]
     intros;rfl
    try simp only[nm]
    replace h:=ltE h;obtain⟨v34,e34,h⟩:=h
    apply AW.last
    ·simp[← e34]
     intros;rfl
    obtain rfl:=oi h
    refine nP_i ?_
    refine Weak.mixN [some 0,some 1,some 2,some 3,some 4,some 5,some 6,some 7] hn0 (by decide) ?_ ?_ rfl
    all_goals first|(simp[Aa,Ab,pickOb,Ap e30];done)|rfl
   |false =>
    replace h:=iteF rfl h
    refine AW.cond_false (by simp) ?_
    refine AW.exit ?_
    try simp only[nm]
    obtain rfl:=oi h
    refine xP_i ?_
    refine Weak.mixN [some 0,some 1,some 2,some 3,some 4,some 5,some 6,some 7] hn0 (by decide) ?_ ?_ rfl
    all_goals first|(simp[Aa,Ab,pickOb];done)|rfl
  ·rintro e s hp
   obtain⟨rfl,hw⟩:=hp
   refine⟨_,hw,?_⟩
   try simp only[nm]
   replace h:=chkE h;obtain⟨e35,h⟩:=h
   replace h:=chkE h;obtain⟨e36,h⟩:=h
   apply AW.drawnE (V:=[_,_,_,_,_,_,_,_,_,_]) (M:=[[some ⟨38,22,false,none,[.s (.int .i64 a0.count),.s (.int .i64 a0.id),.s (.int .i64 a0.master),.s (.int .i64 a0.epoch),.s (.int .i64 a0.voted),.r 2 4 0 a0.claims.length,.r 3 6 0 y9.length,.r 4 4 0 a0.moves.length,.s (.int .i64 a0.last),.r 5 3 0 a0.seen.length,.s (.int .i64 a0.feed.rid.node),.s (.int .i64 a0.feed.rid.epoch),.s (.int .i64 a0.feed.off),.r 6 7 0 y23.length,.s (.int .i64 a0.feed.prev.node),.s (.int .i64 a0.feed.prev.epoch),.s (.int .i64 a0.feed.upto),.d false 1 (encI a0.watch.heard),.d false 1 (encLI a0.watch.says),.s (.int .i64 a0.asked),.r 7 1 0 a0.votes.length,.s (.int .i64 a0.wait)]⟩,some ⟨38,22,false,none,[.s (.int .i64 0),.s (.int .i64 0),.s (.int .i64 0),.s (.int .i64 0),.s (.int .i64 0),.s (.slice none 0 0),.s (.slice none 0 0),.s (.slice none 0 0),.s (.int .i64 0),.s (.slice none 0 0),.s (.int .i64 0),.s (.int .i64 0),.s (.int .i64 0),.s (.slice none 0 0),.s (.int .i64 0),.s (.int .i64 0),.s (.int .i64 0),.s (.slice none 0 0),.s (.slice none 0 0),.s (.int .i64 0),.s (.slice none 0 0),.s (.int .i64 0)]⟩,some ⟨81,4,true,none,lvs (encClaim a0.claims)⟩,some ⟨114,6,true,none,lvs (encPair y9)⟩,some ⟨92,4,true,none,lvs (encMove a0.moves)⟩,some ⟨100,3,true,none,lvs (encSeen a0.seen)⟩,some ⟨59,7,true,none,lvs (encEffect y23)⟩,some ⟨3,1,true,none,lvs (encI a0.votes)⟩],[some ⟨38,22,false,none,[.s (.int .i64 a0.count),.s (.int .i64 a0.id),.s (.int .i64 a0.master),.s (.int .i64 a0.epoch),.s (.int .i64 a0.voted),.r 2 4 0 a0.claims.length,.r 3 6 0 y9.length,.r 4 4 0 a0.moves.length,.s (.int .i64 a0.last),.r 5 3 0 a0.seen.length,.s (.int .i64 a0.feed.rid.node),.s (.int .i64 a0.feed.rid.epoch),.s (.int .i64 a0.feed.off),.r 6 7 0 y23.length,.s (.int .i64 a0.feed.prev.node),.s (.int .i64 a0.feed.prev.epoch),.s (.int .i64 a0.feed.upto),.d false 1 (encI a0.watch.heard),.d false 1 (encLI a0.watch.says),.s (.int .i64 a0.asked),.r 7 1 0 a0.votes.length,.s (.int .i64 a0.wait)]⟩,some ⟨38,22,false,none,[.s (.int .i64 0),.s (.int .i64 0),.s (.int .i64 0),.s (.int .i64 0),.s (.int .i64 0),.s (.slice none 0 0),.s (.slice none 0 0),.s (.slice none 0 0),.s (.int .i64 0),.s (.slice none 0 0),.s (.int .i64 0),.s (.int .i64 0),.s (.int .i64 0),.s (.slice none 0 0),.s (.int .i64 0),.s (.int .i64 0),.s (.int .i64 0),.s (.slice none 0 0),.s (.slice none 0 0),.s (.int .i64 0),.s (.slice none 0 0),.s (.int .i64 0)]⟩,some ⟨81,4,true,none,lvs (encClaim a0.claims)⟩,some ⟨114,6,true,none,lvs (encPair y9)⟩,some ⟨92,4,true,none,lvs (encMove a0.moves)⟩,some ⟨100,3,true,none,lvs (encSeen a0.seen)⟩,some ⟨59,7,true,none,lvs (encEffect y23)⟩,some ⟨3,1,true,none,lvs (encI a0.votes)⟩,some ⟨3,1,true,none,lvs (encI a0.watch.heard)⟩],[some ⟨38,22,false,none,[.s (.int .i64 a0.count),.s (.int .i64 a0.id),.s (.int .i64 a0.master),.s (.int .i64 a0.epoch),.s (.int .i64 a0.voted),.r 2 4 0 a0.claims.length,.r 3 6 0 y9.length,.r 4 4 0 a0.moves.length,.s (.int .i64 a0.last),.r 5 3 0 a0.seen.length,.s (.int .i64 a0.feed.rid.node),.s (.int .i64 a0.feed.rid.epoch),.s (.int .i64 a0.feed.off),.r 6 7 0 y23.length,.s (.int .i64 a0.feed.prev.node),.s (.int .i64 a0.feed.prev.epoch),.s (.int .i64 a0.feed.upto),.d false 1 (encI a0.watch.heard),.d false 1 (encLI a0.watch.says),.s (.int .i64 a0.asked),.r 7 1 0 a0.votes.length,.s (.int .i64 a0.wait)]⟩,some ⟨38,22,false,none,[.s (.int .i64 0),.s (.int .i64 0),.s (.int .i64 0),.s (.int .i64 0),.s (.int .i64 0),.s (.slice none 0 0),.s (.slice none 0 0),.s (.slice none 0 0),.s (.int .i64 0),.s (.slice none 0 0),.s (.int .i64 0),.s (.int .i64 0),.s (.int .i64 0),.s (.slice none 0 0),.s (.int .i64 0),.s (.int .i64 0),.s (.int .i64 0),.s (.slice none 0 0),.s (.slice none 0 0),.s (.int .i64 0),.s (.slice none 0 0),.s (.int .i64 0)]⟩,some ⟨81,4,true,none,lvs (encClaim a0.claims)⟩,some ⟨114,6,true,none,lvs (encPair y9)⟩,some ⟨92,4,true,none,lvs (encMove a0.moves)⟩,some ⟨100,3,true,none,lvs (encSeen a0.seen)⟩,some ⟨59,7,true,none,lvs (encEffect y23)⟩,some ⟨3,1,true,none,lvs (encI a0.votes)⟩,some ⟨3,1,true,none,lvs (encI a0.watch.heard)⟩,some ⟨33,1,true,none,lvs (encLI a0.watch.says)⟩]]) mixed [⟨[0],[],[(1,none)],false⟩,⟨[0],[0],[(74,some 0)],false⟩,⟨[0],[0,1],[(75,some 1)],false⟩,⟨[0],[0,1,2],[(76,some 2)],true⟩,⟨[0,1],[],[(1,none)],false⟩,⟨[0,1],[4],[(78,some 4)],false⟩,⟨[0,1],[4,5],[(79,some 5)],false⟩,⟨[1],[0,1,2,3,4,5,6],[(80,some 6)],true⟩,⟨[1,2],[0,1,2,3,4,5,6],[(1,none)],false⟩,⟨[1,2],[0,1,2,3,4,5,6,8],[(82,some 8)],false⟩,⟨[],[0,1,2,3,4,5,6,7,8,9],[],false⟩,⟨[],[0,1,2,3,4,5,6,7,8,9,10],[],false⟩,⟨[],[0,1,2,3,4,5,6,7,8,9,10,11],[],false⟩,⟨[],[0,1,2,3,4,5,6,7,8,9,10,11,12],[],false⟩] 10 2 (by kernel_rfl) (by kernel_rfl)
   ·rfl
   ·refine⟨?_,?_,?_,?_,⟨?_,?_⟩,⟨?_,?_⟩,⟨?_,?_⟩,?_,⟨?_,?_⟩,⟨?_,?_⟩,trivial⟩
    iterate 3 (· intro tm hr;simp[AllL,rdV] at hr;simp[hr,outR];intros;first|exact KD.mk|exact KD.mkN)
    ·intro tm hr
     simp[AllL,rdV] at hr
     simp[hr,outR]
     intros
     refine As Dn (E5 a0.watch.heard (AP e35)) rfl (by simp) ⟨.d _ _ _,trivial⟩ ?_
     try simp[outR]
     intros;first|exact KD.mk|exact KD.mkN
    iterate 6 (· intro tm hr;simp[AllL,rdV] at hr;simp[hr,outR];intros;first|exact KD.mk|exact KD.mkN)
    ·intro tm hr
     simp[AllL,rdV] at hr
     simp[hr,outR]
     intros
     refine As HC (IC a0.watch.says (AP e36)) rfl (by simp) ⟨.same rfl,trivial⟩ ?_
     try simp[outR]
     intros;first|exact KD.mk|exact KD.mkN
    iterate 4 (· intro tm hr;simp[AllL,rdV] at hr;simp[hr,outR];intros;first|exact KD.mk|exact KD.mkN)
   ·rfl
   ·simp[tmD,putD,outR];rfl
   ·simp[outR]
    intros;rfl
   refine AW.seq ?_
   replace h:=ltE h;obtain⟨v37,e37,h⟩:=h
   apply AW.step
   ·simp[Ad e37]
    intros;rfl
   refine AW.block ?_
   replace h:=bnE h;obtain⟨y39,g39,h⟩:=h
   refine AW.iterP g39 (mk:=fun gh ls q=>(⟨[(1,.l (.p 0 0)),(2,.l (.p 1 0)),(88,.l (.r 2 1 0 q.2.length)),(89,.l (.s (.int .i64 v37))),(90,.l (.s (.int .i64 q.1)))],[some ⟨38,22,false,none,[.s (.int .i64 a0.count),.s (.int .i64 a0.id),.s (.int .i64 a0.master),.s (.int .i64 a0.epoch),.s (.int .i64 a0.voted),.r 3 4 0 a0.claims.length,.r 4 6 0 y9.length,.r 5 4 0 a0.moves.length,.s (.int .i64 a0.last),.r 6 3 0 a0.seen.length,.s (.int .i64 a0.feed.rid.node),.s (.int .i64 a0.feed.rid.epoch),.s (.int .i64 a0.feed.off),.r 7 7 0 y23.length,.s (.int .i64 a0.feed.prev.node),.s (.int .i64 a0.feed.prev.epoch),.s (.int .i64 a0.feed.upto),.r 8 1 0 a0.watch.heard.length,.r 2 1 0 q.2.length,.s (.int .i64 a0.asked),.r 9 1 0 a0.votes.length,.s (.int .i64 a0.wait)]⟩,some ⟨38,22,false,none,[.s (.int .i64 0),.s (.int .i64 0),.s (.int .i64 0),.s (.int .i64 0),.s (.int .i64 0),.s (.slice none 0 0),.s (.slice none 0 0),.s (.slice none 0 0),.s (.int .i64 0),.s (.slice none 0 0),.s (.int .i64 0),.s (.int .i64 0),.s (.int .i64 0),.s (.slice none 0 0),.s (.int .i64 0),.s (.int .i64 0),.s (.int .i64 0),.s (.slice none 0 0),.s (.slice none 0 0),.s (.int .i64 0),.s (.slice none 0 0),.s (.int .i64 0)]⟩,some ⟨33,1,true,none,lvs (encLI q.2)⟩,some ⟨81,4,true,none,lvs (encClaim a0.claims)⟩,some ⟨114,6,true,none,lvs (encPair y9)⟩,some ⟨92,4,true,none,lvs (encMove a0.moves)⟩,some ⟨100,3,true,none,lvs (encSeen a0.seen)⟩,some ⟨59,7,true,none,lvs (encEffect y23)⟩,some ⟨3,1,true,none,lvs (encI a0.watch.heard)⟩,some ⟨3,1,true,none,lvs (encI a0.votes)⟩],104,gh,ls⟩:St)) (N:=fun gh ls=>(xP 4 (cx:=cx) (fun q=>(⟨[(1,.l (.p 0 0)),(2,.l (.p 1 0))],[some ⟨38,22,false,none,[.s (.int .i64 a0.count),.s (.int .i64 a0.id),.s (.int .i64 a0.master),.s (.int .i64 a0.epoch),.s (.int .i64 a0.voted),.r 2 4 0 a0.claims.length,.r 3 6 0 y9.length,.r 4 4 0 a0.moves.length,.s (.int .i64 a0.last),.r 5 3 0 a0.seen.length,.s (.int .i64 a0.feed.rid.node),.s (.int .i64 a0.feed.rid.epoch),.s (.int .i64 a0.feed.off),.r 6 7 0 y23.length,.s (.int .i64 a0.feed.prev.node),.s (.int .i64 a0.feed.prev.epoch),.s (.int .i64 a0.feed.upto),.r 7 1 0 a0.watch.heard.length,.r 8 1 0 q.length,.s (.int .i64 a0.asked),.r 9 1 0 a0.votes.length,.s (.int .i64 a0.wait)]⟩,some ⟨38,22,false,none,[.s (.int .i64 0),.s (.int .i64 0),.s (.int .i64 0),.s (.int .i64 0),.s (.int .i64 0),.s (.slice none 0 0),.s (.slice none 0 0),.s (.slice none 0 0),.s (.int .i64 0),.s (.slice none 0 0),.s (.int .i64 0),.s (.int .i64 0),.s (.int .i64 0),.s (.slice none 0 0),.s (.int .i64 0),.s (.int .i64 0),.s (.int .i64 0),.s (.slice none 0 0),.s (.slice none 0 0),.s (.int .i64 0),.s (.slice none 0 0),.s (.int .i64 0)]⟩,some ⟨81,4,true,none,lvs (encClaim a0.claims)⟩,some ⟨114,6,true,none,lvs (encPair y9)⟩,some ⟨92,4,true,none,lvs (encMove a0.moves)⟩,some ⟨100,3,true,none,lvs (encSeen a0.seen)⟩,some ⟨59,7,true,none,lvs (encEffect y23)⟩,some ⟨3,1,true,none,lvs (encI a0.watch.heard)⟩,some ⟨33,1,true,none,lvs (encLI q)⟩,some ⟨3,1,true,none,lvs (encI a0.votes)⟩],104,gh,ls⟩:St)))) ?_ noX ?_ ?_
   ·refine Weak.mixN [some 0,some 1,some 9,some 2,some 3,some 4,some 5,some 6,some 8,some 7] hn0 (by decide) ?_ ?_ rfl
    all_goals first|(simp[Aa,Ab,pickOb];done)|rfl
   ·clear h;intro y38 y40 h
    replace h:=ltE h;obtain⟨v41,e41,h⟩:=h
    apply AW.step
    ·simp[← e41]
     intros;rfl
    refine AW.seq ?_
    cases v41 with
    |true =>
     replace h:=iteT rfl h
     refine AW.cond_true (by simp) ?_
     refine AW.skip ?_
     try simp only[nm]
     refine AW.seq ?_
     refine AW.block ?_
     replace h:=bnE h;obtain⟨v42,e42,h⟩:=h
     have f43:=AH e42
     try simp[Ac e42] at f43
     apply AW.step
     ·simp[Ac e42,f43,Fr (Ac e42).2,lvs1]
      intros;rfl
     replace h:=chkE h;obtain⟨e44,h⟩:=h
     have f45:=AH e42
     try simp[Ac e42] at f45
     replace h:=ltE h;obtain⟨v46,e46,h⟩:=h
     have f47:=FW (Ac e42).2 e46 (cs:=[.d false 1 (encI v42)]) (by simp) rfl
     try simp at f47
     have f48:=f45
     try simp only[Ap e46] at f48
     apply AW.drawnR (V:=[_,_,_,_,_,_]) mixed [⟨[0],[],[(1,none)],false⟩,⟨[0],[0],[(95,some 0)],false⟩,⟨[0],[0,1],[(96,some 1)],false⟩,⟨[0],[],[(5,none)],false⟩,⟨[0],[],[(6,none)],false⟩,⟨[0],[4],[(99,some 4)],false⟩,⟨[],[0,1,2,3,4,5],[],false⟩,⟨[],[0,1,2,3,4,5,6],[],false⟩] 6 (by kernel_rfl) (by kernel_rfl)
     ·refine⟨?_,?_,?_,?_,?_,?_,trivial⟩
      iterate 5 (· intro tm hr;simp[AllL,rdV] at hr;simp[hr,Ac e42,f45,Bc (Ac e42).2 (show 1≤1 by decide),f47,f48];intros;first|exact KD.mk|exact KD.mkN)
      ·intro tm hr
       simp[AllL,rdV] at hr
       simp[hr,Ac e42,f45,Bc (Ac e42).2 (show 1≤1 by decide),f47,f48]
       intros
       refine Ae Dn (Kl v42 (AP e44)) rfl ⟨.d _ _ _,trivial⟩ ?_
       try simp[Ac e42,f45,Bc (Ac e42).2 (show 1≤1 by decide),f47,f48]
       intros;first|exact KD.mk|exact KD.mkN
     ·rfl
     ·simp[tmD,putD,Ac e42,f45,Bc (Ac e42).2 (show 1≤1 by decide),f47,f48];rfl
     ·simp[Ac e42,f45,Bc (Ac e42).2 (show 1≤1 by decide),f47,f48]
      intros;rfl
     try simp only[nm]
     replace h:=ltE h;obtain⟨v49,e49,h⟩:=h
     apply AW.last
     ·simp[← e49]
      intros;rfl
     obtain rfl:=oi h
     refine nP_i ?_
     refine Weak.mixN [some 0,some 1,some 2,some 3,some 4,some 5,some 6,some 7,some 8,some 9] hn0 (by decide) ?_ ?_ rfl
     all_goals first|(simp[Aa,Ab,pickOb,Ap e46];done)|rfl
    |false =>
     replace h:=iteF rfl h
     refine AW.cond_false (by simp) ?_
     refine AW.exit ?_
     try simp only[nm]
     obtain rfl:=oi h
     refine xP_i ?_
     refine Weak.mixN [some 0,some 1,some 3,some 4,some 5,some 6,some 7,some 8,some 2,some 9] hn0 (by decide) ?_ ?_ rfl
     all_goals first|(simp[Aa,Ab,pickOb];done)|rfl
   ·rintro e s hp
    obtain⟨rfl,hw⟩:=hp
    refine⟨_,hw,?_⟩
    try simp only[nm]
    apply AW.step
    ·simp
     intros;rfl
    replace h:=chkE h;obtain⟨e50,h⟩:=h
    refine AW.frzRow 2 (ty:=81) (cap:=none) (sz:=4) (es:=encClaim a0.claims) (by simp) (by omega) (Bp _) (by first|exact (Ah e50).2|simpa using (Ah e50).2|simp) (by simp[Tm.frz,AV.frz,LV.frz];rfl) (by simp[Ob.frz,LV.frz];rfl) rfl ?_
    replace h:=chkE h;obtain⟨e51,h⟩:=h
    refine AW.frzRow 3 (ty:=114) (cap:=none) (sz:=6) (es:=encPair y9) (by simp) (by omega) (Av _) (by first|exact (Ah e51).2|simpa using (Ah e51).2|simp) (by simp[Tm.frz,AV.frz,LV.frz];rfl) (by simp[Ob.frz,LV.frz];rfl) rfl ?_
    replace h:=chkE h;obtain⟨e52,h⟩:=h
    refine AW.frzRow 4 (ty:=92) (cap:=none) (sz:=4) (es:=encMove a0.moves) (by simp) (by omega) (AB _) (by first|exact (Ah e52).2|simpa using (Ah e52).2|simp) (by simp[Tm.frz,AV.frz,LV.frz];rfl) (by simp[Ob.frz,LV.frz];rfl) rfl ?_
    replace h:=chkE h;obtain⟨e53,h⟩:=h
    refine AW.frzRow 6 (ty:=59) (cap:=none) (sz:=7) (es:=encEffect y23) (by simp) (by omega) (Bh _) (by first|exact (Ah e53).2|simpa using (Ah e53).2|simp) (by simp[Tm.frz,AV.frz,LV.frz];rfl) (by simp[Ob.frz,LV.frz];rfl) rfl ?_
    replace h:=chkE h;obtain⟨e54,h⟩:=h
    refine AW.frzRow 7 (ty:=3) (cap:=none) (sz:=1) (es:=encI a0.watch.heard) (by simp) (by omega) (Dl _) (by first|exact (Ah e54).2|simpa using (Ah e54).2|simp) (by simp[Tm.frz,AV.frz,LV.frz];rfl) (by simp[Ob.frz,LV.frz];rfl) rfl ?_
    replace h:=chkE h;obtain⟨e55,h⟩:=h
    refine AW.frzRow 8 (ty:=33) (cap:=none) (sz:=1) (es:=encLI y39) (by simp) (by omega) (HB _) (by first|exact (Ah e55).2|simpa using (Ah e55).2|simp) (by simp[Tm.frz,AV.frz,LV.frz];rfl) (by simp[Ob.frz,LV.frz];rfl) rfl ?_
    replace h:=chkE h;obtain⟨e56,h⟩:=h
    refine AW.frzRow 9 (ty:=3) (cap:=none) (sz:=1) (es:=encI a0.votes) (by simp) (by omega) (Dl _) (by first|exact (Ah e56).2|simpa using (Ah e56).2|simp) (by simp[Tm.frz,AV.frz,LV.frz];rfl) (by simp[Ob.frz,LV.frz];rfl) rfl ?_
    obtain rfl:=oi h
    refine AW.ret ?_
    refine Left.of (av:=_) (by simp[Tryz.f33,resV,resC,comp];rfl) ?_
    exact LeftV.mix 0 [some 5] hn0 rfl (by decide) rfl (by simp[pickOb,Aa,Ab]) (by simp[Aa,Ab])
theorem F5:Enters Tryz.prog 33:=enters Tryz.func33 (by kernel_rfl) rfl
def B2 (n:Nat) (a0:Int):Option Bool :=
bn (lt (geI a0 1) fun v2 =>
ite' v2 (lt (leI a0 40) fun v3 =>
some (v3)) (some (false))) fun (y1:Bool) =>
some y1
theorem DD {n:Nat} {a0:Int} {r:Bool} (h:B2 n a0=some r):Sound Tryz.prog 133 [.l (.s (.int .i64 a0))] [] (.l (.s (.bool r))) []:=by
 unfold B2 at h
 refine Sound.of_aw (fn:=Tryz.f133) (c:=_) Tryz.func133 rfl (by simp[Tryz.f133]) fun cx hG hnb=>?_
 rw[show Tryz.f133.ntmps=9 from rfl]
 have hn0:cx.nb=0:=hnb
 simp only[An,initTm,List.map_cons,List.map_nil]
 apply AW.step
 ·simp
  intros;rfl
 replace h:=bnE h;obtain⟨y1,g1,h⟩:=h
 refine AW.flow (p:=fun gh ls=>(nP (cx:=cx) (fun q=>(⟨[(2,.l (.s (.bool q)))],[],9,gh,ls⟩:St))) y1) ?_ ?_
 ·replace h:=g1;clear g1
  replace h:=ltE h;obtain⟨v2,e2,h⟩:=h
  cases v2 with
  |true =>
   replace h:=iteT rfl h
   replace h:=ltE h;obtain⟨v3,e3,h⟩:=h
   apply AW.last
   ·simp[← e2,← e3]
    intros;rfl
   obtain rfl:=oi h
   refine nP_i ?_
   refine Weak.mixN [] hn0 (by decide) ?_ ?_ rfl
   all_goals first|(simp[Aa,Ab,pickOb];done)|rfl
  |false =>
   replace h:=iteF rfl h
   apply AW.last
   ·simp[← e2]
    intros;rfl
   obtain rfl:=oi h
   refine nP_i ?_
   refine Weak.mixN [] hn0 (by decide) ?_ ?_ rfl
   all_goals first|(simp[Aa,Ab,pickOb];done)|rfl
 ·rintro e s hp
  obtain⟨rfl,hw⟩:=hp
  refine⟨_,hw,?_⟩
  try simp only[nm]
  obtain rfl:=oi h
  refine AW.ret ?_
  refine Left.plain hnb (by simp[Tryz.f133,resV,resC,comp];rfl) rfl rfl ?_
  simp
theorem De:Enters Tryz.prog 133:=enters Tryz.func133 (by kernel_rfl) rfl
def DO (n:Nat) (a0:List Field):Option (List Field) :=
some a0
theorem KC {n:Nat} {a0:List Field} {r:List Field} (h:DO n a0=some r):Sound Tryz.prog 135 [.l (.d false 2 (encField a0))] [] (.l (.f 145 [0])) [some ⟨54,1,false,none,[.d false 2 (encField r)]⟩]:=by
 unfold DO at h
 refine Sound.of_aw (fn:=Tryz.f135) (c:=_) Tryz.func135 rfl (by simp[Tryz.f135]) fun cx hG hnb=>?_
 rw[show Tryz.f135.ntmps=4 from rfl]
 have hn0:cx.nb=0:=hnb
 simp only[An,initTm,List.map_cons,List.map_nil]
 apply AW.step
 ·simp
  intros;rfl
 apply AW.step
 ·simp
  intros;rfl
 obtain rfl:=oi h
 refine AW.ret ?_
 refine Left.of (av:=_) (by simp[Tryz.f135,resV,resC,comp];rfl) ?_
 exact LeftV.mix 0 [some 0] hn0 rfl (by decide) rfl (by simp[pickOb,Aa,Ab]) (by simp[Aa,Ab])
theorem JH:Enters Tryz.prog 135:=enters Tryz.func135 (by kernel_rfl) rfl
def Do (n:Nat) (b0_0:List Field):Option Bool :=
bn (lt (lenI b0_0) fun v2 =>
bn (iter n (fun (y3:Int×Bool×ByteArray) =>
lt (ltI y3.1 v2) fun v6 =>
ite' v6 (bn (nth b0_0 y3.1) fun v7 =>
bn (bn (lt (notB y3.2.1) fun v10 =>
ite' v10 (lt (leS v7.name y3.2.2) fun v11 =>
some (v11)) (some (false))) fun (y9:Bool) =>
lt (y9) fun v12 =>
ite' v12 (some (.inr ())) (some (.inl ()))) fun (y8:Unit ⊕ Unit) =>
sm y8 (fun y13=>lt (addI .i64 y3.1 1) fun v15 =>
some (.inl (v15,false,v7.name))) (fun y14=>some (.inr (.inr (y3.2.1,y3.2.2))))) (some (.inr (.inl (y3.2.1,y3.2.2))))) (0,true,⟨#[]⟩)) fun (y4:(Bool×ByteArray) ⊕ (Bool×ByteArray)) =>
sm y4 (fun y16=>some (.inl ())) (fun y17=>some (.inr false))) fun (y1:Unit ⊕ Bool) =>
sm y1 (fun y18=>some true) (fun y19=>some y19)
theorem JI {n:Nat} {b0_0:List Field} {r:Bool} (h:Do n b0_0=some r):Sound Tryz.prog 134 [.l (.f 145 [0])] [⟨54,1,false,none,[.d false 2 (encField b0_0)]⟩] (.l (.s (.bool r))) [some ⟨54,1,false,none,[.d false 2 (encField b0_0)]⟩]:=by
 unfold Do at h
 refine Sound.of_aw (fn:=Tryz.f134) (c:=_) Tryz.func134 rfl (by simp[Tryz.f134]) fun cx hG hnb=>?_
 rw[show Tryz.f134.ntmps=16 from rfl]
 have hn0:cx.nb=1:=hnb
 simp only[An,initTm,List.map_cons,List.map_nil]
 apply AW.step
 ·simp
  intros;rfl
 apply AW.step
 ·simp
  intros;rfl
 replace h:=bnE h;obtain⟨y1,g1,h⟩:=h
 refine AW.flow (p:=fun gh ls=>(sp (nP (cx:=cx) (fun _=>(⟨[(2,.l (.p 1 0))],[some ⟨54,1,false,none,[.d false 2 (encField b0_0)]⟩,some ⟨4,1,false,none,[.s (.bool false)]⟩],16,gh,ls⟩:St))) (rP (cx:=cx) (P:=Tryz.prog) Tryz.f134 (fun q=>.l (.s (.bool q))) (fun q=>[some ⟨54,1,false,none,[.d false 2 (encField b0_0)]⟩]))) y1) ?_ ?_
 ·replace h:=g1;clear g1
  apply AW.step
  ·simp
   intros;rfl
  refine AW.block ?_
  refine AW.weak (Weak.keep [(2,.l (.p 1 0)),(3,.l (.p 2 0)),(4,.l (.p 3 0)),(6,.l (.f 145 [0]))] (by simp)) ?_
  refine AW.rangeG rfl Tryz.func145 (by kernel_rfl) rfl (by decide) rfl rfl fun cxI1 yl1 hnI1 hY1=>?_
  have hnJ1:cxI1.nb=1:=hnI1.trans hn0
  simp only[initTm,List.map_cons,List.map_nil]
  replace h:=ltE h;obtain⟨v2,e2,h⟩:=h
  apply AW.step
  ·simp[Ad e2]
   intros;rfl
  refine AW.block ?_
  replace h:=bnE h;obtain⟨y4,g4,h⟩:=h
  refine AW.iterP g4 (mk:=fun gh ls q=>(⟨[(0,.l (.s (.func (.yield yl1) #[] #[]))),(5,.l (.d false 2 (encField b0_0))),(6,.l (.s (.int .i64 v2))),(7,.l (.s (.int .i64 q.1)))],[some ⟨54,1,false,none,[.d false 2 (encField b0_0)]⟩,some ⟨4,1,false,none,[.s (.bool false)]⟩,some ⟨4,1,false,none,[.s (.bool q.2.1)]⟩,some ⟨9,1,false,none,[.s (.string q.2.2)]⟩],17,gh,ls⟩:St)) (N:=fun gh ls=>(sp (xP 0 (cx:=cxI1) (fun q=>(⟨[],[some ⟨54,1,false,none,[.d false 2 (encField b0_0)]⟩,some ⟨4,1,false,none,[.s (.bool false)]⟩,some ⟨4,1,false,none,[.s (.bool q.1)]⟩,some ⟨9,1,false,none,[.s (.string q.2)]⟩],17,gh,ls⟩:St))) (tP (cx:=cxI1) (fun q=>(⟨[],[some ⟨54,1,false,none,[.d false 2 (encField b0_0)]⟩,some ⟨4,1,false,none,[.s (.bool false)]⟩,some ⟨4,1,false,none,[.s (.bool q.1)]⟩,some ⟨9,1,false,none,[.s (.string q.2)]⟩],17,gh,some .ret⟩:St))))) ?_ (noS noX noT) ?_ ?_
  ·refine Weak.mixB 1 [some 0,some 1,some 2,some 3] hnJ1 (by decide) (by decide) ?_ ?_ ?_
   all_goals first|(simp[Aa,Ab,pickOb];done)|rfl
  ·clear h;intro y3 y5 h
   replace h:=ltE h;obtain⟨v6,e6,h⟩:=h
   apply AW.step
   ·simp[← e6]
    intros;rfl
   refine AW.seq ?_
   cases v6 with
   |true =>
    replace h:=iteT rfl h
    refine AW.cond_true (by simp) ?_
    refine AW.skip ?_
    try simp only[nm]
    refine AW.seq ?_
    refine AW.block ?_
    replace h:=bnE h;obtain⟨v7,e7,h⟩:=h
    apply AW.step
    ·simp[Ac e7]
     intros;rfl
    refine AW.stepYK ?_
    apply xopsY.yield hY1 0 3 rfl rfl rfl (by decide)
    ·simp
     intros;rfl
    ·rfl
    ·first|trivial|simp
    ·rfl
    ·rfl
    ·simp[puts];rfl
    intro cxR1 hnR1
    have hnS1:cxR1.nb=1:=hnR1.trans hnJ1
    apply AW.last
    ·simp
     intros;rfl
    refine⟨rfl,?_⟩
    replace h:=bnE h;obtain⟨y8,g8,h⟩:=h
    refine AW.flowR (p:=fun gh ls=>(sp (nP (cx:=cxR1) (fun _=>(⟨[],[some ⟨54,1,false,none,[.d false 2 (encField b0_0)]⟩,some ⟨4,1,false,none,[.s (.bool false)]⟩,some ⟨4,1,false,none,[.s (.bool false)]⟩,some ⟨9,1,false,none,[.s (.string v7.name)]⟩,some ⟨157,2,false,none,[.s (.string v7.name),.s (.string v7.val)]⟩],16,gh,ls⟩:St))) (tP (cx:=cxR1) (fun _=>(⟨[],[some ⟨54,1,false,none,[.d false 2 (encField b0_0)]⟩,some ⟨4,1,false,none,[.s (.bool false)]⟩,some ⟨4,1,false,none,[.s (.bool y3.2.1)]⟩,some ⟨9,1,false,none,[.s (.string y3.2.2)]⟩,some ⟨157,2,false,none,[.s (.string v7.name),.s (.string v7.val)]⟩],16,gh,ls⟩:St)))) y8) ?_ ?_
    ·replace h:=g8;clear g8
     refine AW.block ?_
     refine AW.seq ?_
     replace h:=bnE h;obtain⟨y9,g9,h⟩:=h
     refine AW.flow (p:=fun gh ls=>(nP (cx:=cxR1) (fun q=>(⟨[(2,.l (.p 1 0)),(3,.l (.p 2 0)),(4,.l (.p 3 0)),(5,.l (.s (.string v7.name))),(6,.l (.f 145 [0])),(14,.l (.s (.bool q)))],[some ⟨54,1,false,none,[.d false 2 (encField b0_0)]⟩,some ⟨4,1,false,none,[.s (.bool false)]⟩,some ⟨4,1,false,none,[.s (.bool y3.2.1)]⟩,some ⟨9,1,false,none,[.s (.string y3.2.2)]⟩,some ⟨157,2,false,none,[.s (.string v7.name),.s (.string v7.val)]⟩],16,gh,ls⟩:St))) y9) ?_ ?_
     ·replace h:=g9;clear g9
      replace h:=ltE h;obtain⟨v10,e10,h⟩:=h
      cases v10 with
      |true =>
       replace h:=iteT rfl h
       replace h:=ltE h;obtain⟨v11,e11,h⟩:=h
       apply AW.last
       ·simp[← e10,← e11]
        intros;rfl
       obtain rfl:=oi h
       refine nP_i ?_
       refine Weak.mixB 1 [some 0,some 1,some 2,some 3,some 4] hnS1 (by decide) (by decide) ?_ ?_ ?_
       all_goals first|(simp[Aa,Ab,pickOb];done)|rfl
      |false =>
       replace h:=iteF rfl h
       apply AW.last
       ·simp[← e10]
        intros;rfl
       obtain rfl:=oi h
       refine nP_i ?_
       refine Weak.mixB 1 [some 0,some 1,some 2,some 3,some 4] hnS1 (by decide) (by decide) ?_ ?_ ?_
       all_goals first|(simp[Aa,Ab,pickOb];done)|rfl
     ·rintro e s hp
      obtain⟨rfl,hw⟩:=hp
      refine⟨_,hw,?_⟩
      try simp only[nm]
      replace h:=ltE h;obtain⟨v12,e12,h⟩:=h
      rw[← e12]
      cases v12 with
      |true =>
       replace h:=iteT rfl h
       refine AW.cond_true (by simp) ?_
       apply AW.step
       ·simp
        intros;rfl
       obtain rfl:=oi h
       refine AW.ret ?_
       try simp only[nm]
       try simp only[sp_l,sp_r]
       refine tP_i ?_
       refine Weak.mixB 1 [some 0,some 1,some 2,some 3,some 4] hnS1 (by decide) (by decide) ?_ ?_ ?_
       all_goals first|(simp[Aa,Ab,pickOb];done)|rfl
      |false =>
       replace h:=iteF rfl h
       refine AW.cond_false (by simp) ?_
       refine AW.skip ?_
       try simp only[nm]
       apply AW.last
       ·simp
        intros;rfl
       obtain rfl:=oi h
       try simp only[sp_l,sp_r]
       refine nP_i ?_
       refine Weak.mixB 1 [some 0,some 1,some 2,some 3,some 4] hnS1 (by decide) (by decide) ?_ ?_ ?_
       all_goals first|(simp[Aa,Ab,pickOb];done)|rfl
    ·rintro e s hp
     rcases y8 with y13|y14
     ·replace h:=smL h
      obtain⟨rfl,hw⟩:=hp
      refine⟨_,hw,?_⟩
      try simp only[nm]
      refine⟨_,_,rfl,?_⟩
      refine Bz _ _ _ rfl ?_
      simp[puts]
      try intros
      unfold KK
      refine AW.cond_false (by simp) ?_
      refine AW.skip ?_
      try simp only[nm]
      replace h:=ltE h;obtain⟨v15,e15,h⟩:=h
      apply AW.last
      ·simp[← e15]
       intros;rfl
      obtain rfl:=oi h
      refine nP_i ?_
      refine Weak.mixB 1 [some 0,some 1,some 2,some 3] hnJ1 (by decide) (by decide) ?_ ?_ ?_
      all_goals first|(simp[Aa,Ab,pickOb];done)|rfl
     ·replace h:=smR h
      obtain⟨rfl,hw⟩:=hp
      refine⟨_,hw,?_⟩
      try simp only[nm]
      refine⟨_,_,rfl,?_⟩
      refine Bz _ _ _ rfl ?_
      simp[puts]
      try intros
      unfold KK
      refine AW.cond_true (by simp) ?_
      obtain rfl:=oi h
      refine AW.ret ?_
      try simp only[nm]
      try simp only[sp_l,sp_r]
      refine tP_i ?_
      refine Weak.mixB 1 [some 0,some 1,some 2,some 3] hnJ1 (by decide) (by decide) ?_ ?_ ?_
      all_goals first|(simp[Aa,Ab,pickOb];done)|rfl
   |false =>
    replace h:=iteF rfl h
    refine AW.cond_false (by simp) ?_
    refine AW.exit ?_
    try simp only[nm]
    obtain rfl:=oi h
    try simp only[sp_l,sp_r]
    refine xP_i ?_
    refine Weak.mixB 1 [some 0,some 1,some 2,some 3] hnJ1 (by decide) (by decide) ?_ ?_ ?_
    all_goals first|(simp[Aa,Ab,pickOb];done)|rfl
  ·rintro e s hp
   rcases y4 with y16|y17
   ·replace h:=smL h
    obtain⟨rfl,hw⟩:=hp
    refine⟨_,hw,?_⟩
    try simp only[nm]
    refine⟨_,_,rfl,?_⟩
    try simp only[]
    try simp only[nm]
    obtain rfl:=oi h
    try simp only[sp_l,sp_r]
    refine nP_i ?_
    refine Weak.mixB 1 [some 0,some 1] hn0 (by decide) (by decide) ?_ ?_ ?_
    all_goals first|(simp[Aa,Ab,pickOb];done)|rfl
   ·replace h:=smR h
    obtain⟨rfl,hw⟩:=hp
    refine⟨_,hw,?_⟩
    try simp only[nm]
    refine⟨_,_,rfl,?_⟩
    try simp only[]
    obtain rfl:=oi h
    refine AW.ret ?_
    try simp only[nm]
    refine rP_i ?_
    refine Left.of (av:=_) (by simp[Tryz.f134,resV,resC,comp];rfl) ?_
    exact LeftV.mix 1 [some 0] hn0 rfl (by decide) rfl (by simp[pickOb,Aa,Ab]) (by simp[Aa,Ab])
 ·rintro e s hp
  rcases y1 with y18|y19
  ·replace h:=smL h
   obtain⟨rfl,hw⟩:=hp
   refine⟨_,hw,?_⟩
   try simp only[nm]
   apply AW.step
   ·simp
    intros;rfl
   obtain rfl:=oi h
   refine AW.ret ?_
   refine Left.of (av:=_) (by simp[Tryz.f134,resV,resC,comp];rfl) ?_
   exact LeftV.mix 1 [some 0] hn0 rfl (by decide) rfl (by simp[pickOb,Aa,Ab]) (by simp[Aa,Ab])
  ·replace h:=smR h
   obtain⟨rfl,hl⟩:=hp
   refine⟨_,Weak.refl _,?_⟩
   obtain rfl:=oi h
   exact hl
theorem IM:Enters Tryz.prog 134:=enters Tryz.func134 (by kernel_rfl) rfl
def By (n:Nat) (a0:List ByteArray):Option (List ByteArray) :=
some a0
theorem Fw {n:Nat} {a0:List ByteArray} {r:List ByteArray} (h:By n a0=some r):Sound Tryz.prog 136 [.l (.d false 1 (encS a0))] [] (.l (.f 146 [0])) [some ⟨55,1,false,none,[.d false 1 (encS r)]⟩]:=by
 unfold By at h
 refine Sound.of_aw (fn:=Tryz.f136) (c:=_) Tryz.func136 rfl (by simp[Tryz.f136]) fun cx hG hnb=>?_
 rw[show Tryz.f136.ntmps=4 from rfl]
 have hn0:cx.nb=0:=hnb
 simp only[An,initTm,List.map_cons,List.map_nil]
 apply AW.step
 ·simp
  intros;rfl
 apply AW.step
 ·simp
  intros;rfl
 obtain rfl:=oi h
 refine AW.ret ?_
 refine Left.of (av:=_) (by simp[Tryz.f136,resV,resC,comp];rfl) ?_
 exact LeftV.mix 0 [some 0] hn0 rfl (by decide) rfl (by simp[pickOb,Aa,Ab]) (by simp[Aa,Ab])
theorem Ff:Enters Tryz.prog 136:=enters Tryz.func136 (by kernel_rfl) rfl
def B4 (n:Nat) (b0_0:List ByteArray):Option Bool :=
bn (lt (lenI b0_0) fun v2 =>
bn (iter n (fun (y3:Int×Bool×ByteArray) =>
lt (ltI y3.1 v2) fun v6 =>
ite' v6 (bn (nth b0_0 y3.1) fun v7 =>
bn (bn (lt (notB y3.2.1) fun v10 =>
ite' v10 (lt (leS v7 y3.2.2) fun v11 =>
some (v11)) (some (false))) fun (y9:Bool) =>
lt (y9) fun v12 =>
ite' v12 (some (.inr ())) (some (.inl ()))) fun (y8:Unit ⊕ Unit) =>
sm y8 (fun y13=>lt (addI .i64 y3.1 1) fun v15 =>
some (.inl (v15,false,v7))) (fun y14=>some (.inr (.inr (y3.2.1,y3.2.2))))) (some (.inr (.inl (y3.2.1,y3.2.2))))) (0,true,⟨#[]⟩)) fun (y4:(Bool×ByteArray) ⊕ (Bool×ByteArray)) =>
sm y4 (fun y16=>some (.inl ())) (fun y17=>some (.inr false))) fun (y1:Unit ⊕ Bool) =>
sm y1 (fun y18=>some true) (fun y19=>some y19)
theorem GO {n:Nat} {b0_0:List ByteArray} {r:Bool} (h:B4 n b0_0=some r):Sound Tryz.prog 134 [.l (.f 146 [0])] [⟨55,1,false,none,[.d false 1 (encS b0_0)]⟩] (.l (.s (.bool r))) [some ⟨55,1,false,none,[.d false 1 (encS b0_0)]⟩]:=by
 unfold B4 at h
 refine Sound.of_aw (fn:=Tryz.f134) (c:=_) Tryz.func134 rfl (by simp[Tryz.f134]) fun cx hG hnb=>?_
 rw[show Tryz.f134.ntmps=16 from rfl]
 have hn0:cx.nb=1:=hnb
 simp only[An,initTm,List.map_cons,List.map_nil]
 apply AW.step
 ·simp
  intros;rfl
 apply AW.step
 ·simp
  intros;rfl
 replace h:=bnE h;obtain⟨y1,g1,h⟩:=h
 refine AW.flow (p:=fun gh ls=>(sp (nP (cx:=cx) (fun _=>(⟨[(2,.l (.p 1 0))],[some ⟨55,1,false,none,[.d false 1 (encS b0_0)]⟩,some ⟨4,1,false,none,[.s (.bool false)]⟩],16,gh,ls⟩:St))) (rP (cx:=cx) (P:=Tryz.prog) Tryz.f134 (fun q=>.l (.s (.bool q))) (fun q=>[some ⟨55,1,false,none,[.d false 1 (encS b0_0)]⟩]))) y1) ?_ ?_
 ·replace h:=g1;clear g1
  apply AW.step
  ·simp
   intros;rfl
  refine AW.block ?_
  refine AW.weak (Weak.keep [(2,.l (.p 1 0)),(3,.l (.p 2 0)),(4,.l (.p 3 0)),(6,.l (.f 146 [0]))] (by simp)) ?_
  refine AW.rangeG rfl Tryz.func146 (by kernel_rfl) rfl (by decide) rfl rfl fun cxI1 yl1 hnI1 hY1=>?_
  have hnJ1:cxI1.nb=1:=hnI1.trans hn0
  simp only[initTm,List.map_cons,List.map_nil]
  replace h:=ltE h;obtain⟨v2,e2,h⟩:=h
  apply AW.step
  ·simp[Ad e2]
   intros;rfl
  refine AW.block ?_
  replace h:=bnE h;obtain⟨y4,g4,h⟩:=h
  refine AW.iterP g4 (mk:=fun gh ls q=>(⟨[(0,.l (.s (.func (.yield yl1) #[] #[]))),(5,.l (.d false 1 (encS b0_0))),(6,.l (.s (.int .i64 v2))),(7,.l (.s (.int .i64 q.1)))],[some ⟨55,1,false,none,[.d false 1 (encS b0_0)]⟩,some ⟨4,1,false,none,[.s (.bool false)]⟩,some ⟨4,1,false,none,[.s (.bool q.2.1)]⟩,some ⟨9,1,false,none,[.s (.string q.2.2)]⟩],16,gh,ls⟩:St)) (N:=fun gh ls=>(sp (xP 0 (cx:=cxI1) (fun q=>(⟨[],[some ⟨55,1,false,none,[.d false 1 (encS b0_0)]⟩,some ⟨4,1,false,none,[.s (.bool false)]⟩,some ⟨4,1,false,none,[.s (.bool q.1)]⟩,some ⟨9,1,false,none,[.s (.string q.2)]⟩],16,gh,ls⟩:St))) (tP (cx:=cxI1) (fun q=>(⟨[],[some ⟨55,1,false,none,[.d false 1 (encS b0_0)]⟩,some ⟨4,1,false,none,[.s (.bool false)]⟩,some ⟨4,1,false,none,[.s (.bool q.1)]⟩,some ⟨9,1,false,none,[.s (.string q.2)]⟩],16,gh,some .ret⟩:St))))) ?_ (noS noX noT) ?_ ?_
  ·refine Weak.mixB 1 [some 0,some 1,some 2,some 3] hnJ1 (by decide) (by decide) ?_ ?_ ?_
   all_goals first|(simp[Aa,Ab,pickOb];done)|rfl
  ·clear h;intro y3 y5 h
   replace h:=ltE h;obtain⟨v6,e6,h⟩:=h
   apply AW.step
   ·simp[← e6]
    intros;rfl
   refine AW.seq ?_
   cases v6 with
   |true =>
    replace h:=iteT rfl h
    refine AW.cond_true (by simp) ?_
    refine AW.skip ?_
    try simp only[nm]
    refine AW.seq ?_
    refine AW.block ?_
    replace h:=bnE h;obtain⟨v7,e7,h⟩:=h
    apply AW.step
    ·simp[Ac e7]
     intros;rfl
    refine AW.stepYK ?_
    apply xopsY.yield hY1 0 2 rfl rfl rfl (by decide)
    ·simp
     intros;rfl
    ·rfl
    ·first|trivial|simp
    ·rfl
    ·rfl
    ·simp[puts];rfl
    intro cxR1 hnR1
    have hnS1:cxR1.nb=1:=hnR1.trans hnJ1
    apply AW.last
    ·simp
     intros;rfl
    refine⟨rfl,?_⟩
    replace h:=bnE h;obtain⟨y8,g8,h⟩:=h
    refine AW.flowR (p:=fun gh ls=>(sp (nP (cx:=cxR1) (fun _=>(⟨[],[some ⟨55,1,false,none,[.d false 1 (encS b0_0)]⟩,some ⟨4,1,false,none,[.s (.bool false)]⟩,some ⟨4,1,false,none,[.s (.bool false)]⟩,some ⟨9,1,false,none,[.s (.string v7)]⟩],16,gh,ls⟩:St))) (tP (cx:=cxR1) (fun _=>(⟨[],[some ⟨55,1,false,none,[.d false 1 (encS b0_0)]⟩,some ⟨4,1,false,none,[.s (.bool false)]⟩,some ⟨4,1,false,none,[.s (.bool y3.2.1)]⟩,some ⟨9,1,false,none,[.s (.string y3.2.2)]⟩],16,gh,ls⟩:St)))) y8) ?_ ?_
    ·replace h:=g8;clear g8
     refine AW.block ?_
     refine AW.seq ?_
     replace h:=bnE h;obtain⟨y9,g9,h⟩:=h
     refine AW.flow (p:=fun gh ls=>(nP (cx:=cxR1) (fun q=>(⟨[(2,.l (.p 1 0)),(3,.l (.p 2 0)),(4,.l (.p 3 0)),(5,.l (.s (.string v7))),(6,.l (.f 146 [0])),(14,.l (.s (.bool q)))],[some ⟨55,1,false,none,[.d false 1 (encS b0_0)]⟩,some ⟨4,1,false,none,[.s (.bool false)]⟩,some ⟨4,1,false,none,[.s (.bool y3.2.1)]⟩,some ⟨9,1,false,none,[.s (.string y3.2.2)]⟩],16,gh,ls⟩:St))) y9) ?_ ?_
     ·replace h:=g9;clear g9
      replace h:=ltE h;obtain⟨v10,e10,h⟩:=h
      cases v10 with
      |true =>
       replace h:=iteT rfl h
       replace h:=ltE h;obtain⟨v11,e11,h⟩:=h
       apply AW.last
       ·simp[← e10,← e11]
        intros;rfl
       obtain rfl:=oi h
       refine nP_i ?_
       refine Weak.mixB 1 [some 0,some 1,some 2,some 3] hnS1 (by decide) (by decide) ?_ ?_ ?_
       all_goals first|(simp[Aa,Ab,pickOb];done)|rfl
      |false =>
       replace h:=iteF rfl h
       apply AW.last
       ·simp[← e10]
        intros;rfl
       obtain rfl:=oi h
       refine nP_i ?_
       refine Weak.mixB 1 [some 0,some 1,some 2,some 3] hnS1 (by decide) (by decide) ?_ ?_ ?_
       all_goals first|(simp[Aa,Ab,pickOb];done)|rfl
     ·rintro e s hp
      obtain⟨rfl,hw⟩:=hp
      refine⟨_,hw,?_⟩
      try simp only[nm]
      replace h:=ltE h;obtain⟨v12,e12,h⟩:=h
      rw[← e12]
      cases v12 with
      |true =>
       replace h:=iteT rfl h
       refine AW.cond_true (by simp) ?_
       apply AW.step
       ·simp
        intros;rfl
       obtain rfl:=oi h
       refine AW.ret ?_
       try simp only[nm]
       try simp only[sp_l,sp_r]
       refine tP_i ?_
       refine Weak.mixB 1 [some 0,some 1,some 2,some 3] hnS1 (by decide) (by decide) ?_ ?_ ?_
       all_goals first|(simp[Aa,Ab,pickOb];done)|rfl
      |false =>
       replace h:=iteF rfl h
       refine AW.cond_false (by simp) ?_
       refine AW.skip ?_
       try simp only[nm]
       apply AW.last
       ·simp
        intros;rfl
       obtain rfl:=oi h
       try simp only[sp_l,sp_r]
       refine nP_i ?_
       refine Weak.mixB 1 [some 0,some 1,some 2,some 3] hnS1 (by decide) (by decide) ?_ ?_ ?_
       all_goals first|(simp[Aa,Ab,pickOb];done)|rfl
    ·rintro e s hp
     rcases y8 with y13|y14
     ·replace h:=smL h
      obtain⟨rfl,hw⟩:=hp
      refine⟨_,hw,?_⟩
      try simp only[nm]
      refine⟨_,_,rfl,?_⟩
      refine Bz _ _ _ rfl ?_
      simp[puts]
      try intros
      unfold KK
      refine AW.cond_false (by simp) ?_
      refine AW.skip ?_
      try simp only[nm]
      replace h:=ltE h;obtain⟨v15,e15,h⟩:=h
      apply AW.last
      ·simp[← e15]
       intros;rfl
      obtain rfl:=oi h
      refine nP_i ?_
      refine Weak.mixB 1 [some 0,some 1,some 2,some 3] hnJ1 (by decide) (by decide) ?_ ?_ ?_
      all_goals first|(simp[Aa,Ab,pickOb];done)|rfl
     ·replace h:=smR h
      obtain⟨rfl,hw⟩:=hp
      refine⟨_,hw,?_⟩
      try simp only[nm]
      refine⟨_,_,rfl,?_⟩
      refine Bz _ _ _ rfl ?_
      simp[puts]
      try intros
      unfold KK
      refine AW.cond_true (by simp) ?_
      obtain rfl:=oi h
      refine AW.ret ?_
      try simp only[nm]
      try simp only[sp_l,sp_r]
      refine tP_i ?_
      refine Weak.mixB 1 [some 0,some 1,some 2,some 3] hnJ1 (by decide) (by decide) ?_ ?_ ?_
      all_goals first|(simp[Aa,Ab,pickOb];done)|rfl
   |false =>
    replace h:=iteF rfl h
    refine AW.cond_false (by simp) ?_
    refine AW.exit ?_
    try simp only[nm]
    obtain rfl:=oi h
    try simp only[sp_l,sp_r]
    refine xP_i ?_
    refine Weak.mixB 1 [some 0,some 1,some 2,some 3] hnJ1 (by decide) (by decide) ?_ ?_ ?_
    all_goals first|(simp[Aa,Ab,pickOb];done)|rfl
  ·rintro e s hp
   rcases y4 with y16|y17
   ·replace h:=smL h
    obtain⟨rfl,hw⟩:=hp
    refine⟨_,hw,?_⟩
    try simp only[nm]
    refine⟨_,_,rfl,?_⟩
    try simp only[]
    try simp only[nm]
    obtain rfl:=oi h
    try simp only[sp_l,sp_r]
    refine nP_i ?_
    refine Weak.mixB 1 [some 0,some 1] hn0 (by decide) (by decide) ?_ ?_ ?_
    all_goals first|(simp[Aa,Ab,pickOb];done)|rfl
   ·replace h:=smR h
    obtain⟨rfl,hw⟩:=hp
    refine⟨_,hw,?_⟩
    try simp only[nm]
    refine⟨_,_,rfl,?_⟩
    try simp only[]
    obtain rfl:=oi h
    refine AW.ret ?_
    try simp only[nm]
    refine rP_i ?_
    refine Left.of (av:=_) (by simp[Tryz.f134,resV,resC,comp];rfl) ?_
    exact LeftV.mix 1 [some 0] hn0 rfl (by decide) rfl (by simp[pickOb,Aa,Ab]) (by simp[Aa,Ab])
 ·rintro e s hp
  rcases y1 with y18|y19
  ·replace h:=smL h
   obtain⟨rfl,hw⟩:=hp
   refine⟨_,hw,?_⟩
   try simp only[nm]
   apply AW.step
   ·simp
    intros;rfl
   obtain rfl:=oi h
   refine AW.ret ?_
   refine Left.of (av:=_) (by simp[Tryz.f134,resV,resC,comp];rfl) ?_
   exact LeftV.mix 1 [some 0] hn0 rfl (by decide) rfl (by simp[pickOb,Aa,Ab]) (by simp[Aa,Ab])
  ·replace h:=smR h
   obtain⟨rfl,hl⟩:=hp
   refine⟨_,Weak.refl _,?_⟩
   obtain rfl:=oi h
   exact hl
theorem Gl:Enters Tryz.prog 134:=enters Tryz.func134 (by kernel_rfl) rfl
def Cw (n:Nat) (a0:Item):Option Bool :=
lt (eqI a0.kind 1) fun v1 =>
ite' v1 (lt (lenI a0.f) fun v2 =>
lt (lenI a0.l) fun v3 =>
lt (addI .i64 v2 v3) fun v4 =>
lt (eqI v4 0) fun v5 =>
some v5) (lt (eqI a0.kind 2) fun v6 =>
ite' v6 (bn (lt (eqS a0.s ⟨#[]⟩) fun v8 =>
ite' v8 (lt (lenI a0.l) fun v9 =>
lt (eqI v9 0) fun v10 =>
ite' v10 (lt (lenI a0.f) fun v11 =>
bn (B2 n v11) fun v12 =>
ite' v12 (bn (DO n a0.f) fun v13 =>
bn (Do n v13) fun v14 =>
some (v14)) (some (false))) (some (false))) (some (false))) fun (y7:Bool) =>
some y7) (lt (eqI a0.kind 3) fun v15 =>
ite' v15 (bn (lt (eqS a0.s ⟨#[]⟩) fun v17 =>
ite' v17 (lt (lenI a0.f) fun v18 =>
lt (eqI v18 0) fun v19 =>
ite' v19 (lt (lenI a0.l) fun v20 =>
bn (B2 n v20) fun v21 =>
some (v21)) (some (false))) (some (false))) fun (y16:Bool) =>
some y16) (lt (eqI a0.kind 4) fun v22 =>
ite' v22 (bn (lt (eqS a0.s ⟨#[]⟩) fun v24 =>
ite' v24 (lt (lenI a0.f) fun v25 =>
lt (eqI v25 0) fun v26 =>
ite' v26 (lt (lenI a0.l) fun v27 =>
bn (B2 n v27) fun v28 =>
ite' v28 (bn (By n a0.l) fun v29 =>
bn (B4 n v29) fun v30 =>
some (v30)) (some (false))) (some (false))) (some (false))) fun (y23:Bool) =>
some y23) (some false))))
theorem EK {n:Nat} {a0:Item} {r:Bool} (h:Cw n a0=some r):Sound Tryz.prog 114 [.g [.s (.int .i64 a0.kind),.s (.string a0.s),.d false 2 (encField a0.f),.d false 1 (encS a0.l),.s (.int .i64 a0.exp)]] [] (.l (.s (.bool r))) []:=by
 unfold Cw at h
 refine Sound.of_aw (fn:=Tryz.f114) (c:=_) Tryz.func114 rfl (by simp[Tryz.f114]) fun cx hG hnb=>?_
 rw[show Tryz.f114.ntmps=78 from rfl]
 have hn0:cx.nb=0:=hnb
 simp only[An,initTm,List.map_cons,List.map_nil]
 apply AW.step
 ·simp
  intros;rfl
 refine AW.seq ?_
 apply AW.step
 ·simp
  intros;rfl
 refine AW.block ?_
 replace h:=ltE h;obtain⟨v1,e1,h⟩:=h
 apply AW.step
 ·simp[← e1]
  intros;rfl
 cases v1 with
 |true =>
  replace h:=iteT rfl h
  refine AW.cond_true (by simp) ?_
  replace h:=ltE h;obtain⟨v2,e2,h⟩:=h
  replace h:=ltE h;obtain⟨v3,e3,h⟩:=h
  replace h:=ltE h;obtain⟨v4,e4,h⟩:=h
  replace h:=ltE h;obtain⟨v5,e5,h⟩:=h
  apply AW.step
  ·simp[Ad e2,Ad e3,← e4,← e5]
   intros;rfl
  obtain rfl:=oi h
  refine AW.ret ?_
  refine Left.plain hnb (by simp[Tryz.f114,resV,resC,comp];rfl) rfl rfl ?_
  simp
 |false =>
  replace h:=iteF rfl h
  refine AW.cond_false (by simp) ?_
  replace h:=ltE h;obtain⟨v6,e6,h⟩:=h
  apply AW.step
  ·simp[← e6]
   intros;rfl
  cases v6 with
  |true =>
   replace h:=iteT rfl h
   refine AW.cond_true (by simp) ?_
   replace h:=bnE h;obtain⟨y7,g7,h⟩:=h
   refine AW.flow (p:=fun gh ls=>(nP (cx:=cx) (fun q=>(⟨[(2,.l (.s (.bool q)))],[],78,gh,ls⟩:St))) y7) ?_ ?_
   ·replace h:=g7;clear g7
    replace h:=ltE h;obtain⟨v8,e8,h⟩:=h
    cases v8 with
    |true =>
     replace h:=iteT rfl h
     replace h:=ltE h;obtain⟨v9,e9,h⟩:=h
     replace h:=ltE h;obtain⟨v10,e10,h⟩:=h
     cases v10 with
     |true =>
      replace h:=iteT rfl h
      replace h:=ltE h;obtain⟨v11,e11,h⟩:=h
      replace h:=bnE h;obtain⟨v12,e12,h⟩:=h
      cases v12 with
      |true =>
       replace h:=iteT rfl h
       replace h:=bnE h;obtain⟨v13,e13,h⟩:=h
       replace h:=bnE h;obtain⟨v14,e14,h⟩:=h
       apply AW.last
       ·simp[← e8,Ad e9,← e10,Ad e11]
        intros
        refine Ae De (DD e12) rfl ⟨.same rfl,trivial⟩ ?_
        try simp[← e8,Ad e9,← e10,Ad e11]
        intros
        refine As JH (KC e13) rfl (by simp) ⟨.same rfl,trivial⟩ ?_
        try simp[← e8,Ad e9,← e10,Ad e11]
        intros
        refine BT [1] IM (JI e14) (by decide) (by simp[pickOb,Aa,Ab]) rfl rfl (by simp) ⟨.l (.fn (by simp)),trivial⟩ ?_
        try simp[← e8,Ad e9,← e10,Ad e11]
        intros;rfl
       obtain rfl:=oi h
       refine nP_i ?_
       refine Weak.mixN [] hn0 (by decide) ?_ ?_ rfl
       all_goals first|(simp[Aa,Ab,pickOb];done)|rfl
      |false =>
       replace h:=iteF rfl h
       apply AW.last
       ·simp[← e8,Ad e9,← e10,Ad e11]
        intros
        refine Ae De (DD e12) rfl ⟨.same rfl,trivial⟩ ?_
        try simp[← e8,Ad e9,← e10,Ad e11]
        intros;rfl
       obtain rfl:=oi h
       refine nP_i ?_
       refine Weak.mixN [] hn0 (by decide) ?_ ?_ rfl
       all_goals first|(simp[Aa,Ab,pickOb];done)|rfl
     |false =>
      replace h:=iteF rfl h
      apply AW.last
      ·simp[← e8,Ad e9,← e10]
       intros;rfl
      obtain rfl:=oi h
      refine nP_i ?_
      refine Weak.mixN [] hn0 (by decide) ?_ ?_ rfl
      all_goals first|(simp[Aa,Ab,pickOb];done)|rfl
    |false =>
     replace h:=iteF rfl h
     apply AW.last
     ·simp[← e8]
      intros;rfl
     obtain rfl:=oi h
     refine nP_i ?_
     refine Weak.mixN [] hn0 (by decide) ?_ ?_ rfl
     all_goals first|(simp[Aa,Ab,pickOb];done)|rfl
   ·rintro e s hp
    obtain⟨rfl,hw⟩:=hp
    refine⟨_,hw,?_⟩
    try simp only[nm]
    obtain rfl:=oi h
    refine AW.ret ?_
    refine Left.plain hnb (by simp[Tryz.f114,resV,resC,comp];rfl) rfl rfl ?_
    simp
  |false =>
   replace h:=iteF rfl h
   refine AW.cond_false (by simp) ?_
   replace h:=ltE h;obtain⟨v15,e15,h⟩:=h
   apply AW.step
   ·simp[← e15]
    intros;rfl
   cases v15 with
   |true =>
    replace h:=iteT rfl h
    refine AW.cond_true (by simp) ?_
    replace h:=bnE h;obtain⟨y16,g16,h⟩:=h
    refine AW.flow (p:=fun gh ls=>(nP (cx:=cx) (fun q=>(⟨[(2,.l (.s (.bool q)))],[],78,gh,ls⟩:St))) y16) ?_ ?_
    ·replace h:=g16;clear g16
     replace h:=ltE h;obtain⟨v17,e17,h⟩:=h
     cases v17 with
     |true =>
      replace h:=iteT rfl h
      replace h:=ltE h;obtain⟨v18,e18,h⟩:=h
      replace h:=ltE h;obtain⟨v19,e19,h⟩:=h
      cases v19 with
      |true =>
       replace h:=iteT rfl h
       replace h:=ltE h;obtain⟨v20,e20,h⟩:=h
       replace h:=bnE h;obtain⟨v21,e21,h⟩:=h
       apply AW.last
       ·simp[← e17,Ad e18,← e19,Ad e20]
        intros
        refine Ae De (DD e21) rfl ⟨.same rfl,trivial⟩ ?_
        try simp[← e17,Ad e18,← e19,Ad e20]
        intros;rfl
       obtain rfl:=oi h
       refine nP_i ?_
       refine Weak.mixN [] hn0 (by decide) ?_ ?_ rfl
       all_goals first|(simp[Aa,Ab,pickOb];done)|rfl
      |false =>
       replace h:=iteF rfl h
       apply AW.last
       ·simp[← e17,Ad e18,← e19]
        intros;rfl
       obtain rfl:=oi h
       refine nP_i ?_
       refine Weak.mixN [] hn0 (by decide) ?_ ?_ rfl
       all_goals first|(simp[Aa,Ab,pickOb];done)|rfl
     |false =>
      replace h:=iteF rfl h
      apply AW.last
      ·simp[← e17]
       intros;rfl
      obtain rfl:=oi h
      refine nP_i ?_
      refine Weak.mixN [] hn0 (by decide) ?_ ?_ rfl
      all_goals first|(simp[Aa,Ab,pickOb];done)|rfl
    ·rintro e s hp
     obtain⟨rfl,hw⟩:=hp
     refine⟨_,hw,?_⟩
     try simp only[nm]
     obtain rfl:=oi h
     refine AW.ret ?_
     refine Left.plain hnb (by simp[Tryz.f114,resV,resC,comp];rfl) rfl rfl ?_
     simp
   |false =>
    replace h:=iteF rfl h
    refine AW.cond_false (by simp) ?_
    replace h:=ltE h;obtain⟨v22,e22,h⟩:=h
    apply AW.step
    ·simp[← e22]
     intros;rfl
    cases v22 with
    |true =>
     replace h:=iteT rfl h
     refine AW.cond_true (by simp) ?_
     replace h:=bnE h;obtain⟨y23,g23,h⟩:=h
     refine AW.flow (p:=fun gh ls=>(nP (cx:=cx) (fun q=>(⟨[(2,.l (.s (.bool q)))],[],78,gh,ls⟩:St))) y23) ?_ ?_
     ·replace h:=g23;clear g23
      replace h:=ltE h;obtain⟨v24,e24,h⟩:=h
      cases v24 with
      |true =>
       replace h:=iteT rfl h
       replace h:=ltE h;obtain⟨v25,e25,h⟩:=h
       replace h:=ltE h;obtain⟨v26,e26,h⟩:=h
       cases v26 with
       |true =>
        replace h:=iteT rfl h
        replace h:=ltE h;obtain⟨v27,e27,h⟩:=h
        replace h:=bnE h;obtain⟨v28,e28,h⟩:=h
        cases v28 with
        |true =>
         replace h:=iteT rfl h
         replace h:=bnE h;obtain⟨v29,e29,h⟩:=h
         replace h:=bnE h;obtain⟨v30,e30,h⟩:=h
         apply AW.last
         ·simp[← e24,Ad e25,← e26,Ad e27]
          intros
          refine Ae De (DD e28) rfl ⟨.same rfl,trivial⟩ ?_
          try simp[← e24,Ad e25,← e26,Ad e27]
          intros
          refine As Ff (Fw e29) rfl (by simp) ⟨.same rfl,trivial⟩ ?_
          try simp[← e24,Ad e25,← e26,Ad e27]
          intros
          refine BT [1] Gl (GO e30) (by decide) (by simp[pickOb,Aa,Ab]) rfl rfl (by simp) ⟨.l (.fn (by simp)),trivial⟩ ?_
          try simp[← e24,Ad e25,← e26,Ad e27]
          intros;rfl
         obtain rfl:=oi h
         refine nP_i ?_
         refine Weak.mixN [] hn0 (by decide) ?_ ?_ rfl
         all_goals first|(simp[Aa,Ab,pickOb];done)|rfl
        |false =>
         replace h:=iteF rfl h
         apply AW.last
         ·simp[← e24,Ad e25,← e26,Ad e27]
          intros
          refine Ae De (DD e28) rfl ⟨.same rfl,trivial⟩ ?_
          try simp[← e24,Ad e25,← e26,Ad e27]
          intros;rfl
         obtain rfl:=oi h
         refine nP_i ?_
         refine Weak.mixN [] hn0 (by decide) ?_ ?_ rfl
         all_goals first|(simp[Aa,Ab,pickOb];done)|rfl
       |false =>
        replace h:=iteF rfl h
        apply AW.last
        ·simp[← e24,Ad e25,← e26]
         intros;rfl
        obtain rfl:=oi h
        refine nP_i ?_
        refine Weak.mixN [] hn0 (by decide) ?_ ?_ rfl
        all_goals first|(simp[Aa,Ab,pickOb];done)|rfl
      |false =>
       replace h:=iteF rfl h
       apply AW.last
       ·simp[← e24]
        intros;rfl
       obtain rfl:=oi h
       refine nP_i ?_
       refine Weak.mixN [] hn0 (by decide) ?_ ?_ rfl
       all_goals first|(simp[Aa,Ab,pickOb];done)|rfl
     ·rintro e s hp
      obtain⟨rfl,hw⟩:=hp
      refine⟨_,hw,?_⟩
      try simp only[nm]
      obtain rfl:=oi h
      refine AW.ret ?_
      refine Left.plain hnb (by simp[Tryz.f114,resV,resC,comp];rfl) rfl rfl ?_
      simp
    |false =>
     replace h:=iteF rfl h
     refine AW.cond_false (by simp) ?_
     refine AW.skip ?_
     try simp only[nm]
     apply AW.step
     ·simp
      intros;rfl
     obtain rfl:=oi h
     refine AW.ret ?_
     refine Left.plain hnb (by simp[Tryz.f114,resV,resC,comp];rfl) rfl rfl ?_
     simp
theorem Eq:Enters Tryz.prog 114:=enters Tryz.func114 (by kernel_rfl) rfl
def DP (n:Nat) (a0:Item):Option Item :=
some a0
theorem KE {n:Nat} {a0:Item} {r:Item} (h:DP n a0=some r):Sound Tryz.prog 115 [.g [.s (.int .i64 a0.kind),.s (.string a0.s),.d false 2 (encField a0.f),.d false 1 (encS a0.l),.s (.int .i64 a0.exp)]] [] (.l (.f 137 [0])) [some ⟨57,5,false,none,[.s (.int .i64 r.kind),.s (.string r.s),.d false 2 (encField r.f),.d false 1 (encS r.l),.s (.int .i64 r.exp)]⟩]:=by
 unfold DP at h
 refine Sound.of_aw (fn:=Tryz.f115) (c:=_) Tryz.func115 rfl (by simp[Tryz.f115]) fun cx hG hnb=>?_
 rw[show Tryz.f115.ntmps=4 from rfl]
 have hn0:cx.nb=0:=hnb
 simp only[An,initTm,List.map_cons,List.map_nil]
 apply AW.step
 ·simp
  intros;rfl
 apply AW.step
 ·simp
  intros;rfl
 obtain rfl:=oi h
 refine AW.ret ?_
 refine Left.of (av:=_) (by simp[Tryz.f115,resV,resC,comp];rfl) ?_
 exact LeftV.mix 0 [some 0] hn0 rfl (by decide) rfl (by simp[pickOb,Aa,Ab]) (by simp[Aa,Ab])
theorem JJ:Enters Tryz.prog 115:=enters Tryz.func115 (by kernel_rfl) rfl
def DE (n:Nat) (a0:Item):Option Bool :=
bn (bn (Cw n a0) fun v2 =>
lt (notB v2) fun v3 =>
ite' v3 (some (true)) (lt (ltI a0.exp 0) fun v4 =>
ite' v4 (some (true)) (lt (gtI a0.exp 9007199254740992) fun v5 =>
some (v5)))) fun (y1:Bool) =>
lt (y1) fun v6 =>
ite' v6 (some false) (bn (bn (DP n a0) fun v8 =>
bn (lt (lenS v8.s) fun v10 =>
lt (gtI v10 300) fun v11 =>
ite' v11 (some (.inr ())) (some (.inl ()))) fun (y9:Unit ⊕ Unit) =>
sm y9 (fun y12=>lt (lenI v8.f) fun v14 =>
bn (iter n (fun (y15:Int) =>
lt (ltI y15 v14) fun v18 =>
ite' v18 (bn (nth v8.f y15) fun v19 =>
bn (lt (lenS v19.name) fun v21 =>
lt (gtI v21 300) fun v22 =>
ite' v22 (some (.inr ())) (some (.inl ()))) fun (y20:Unit ⊕ Unit) =>
sm y20 (fun y23=>bn (lt (lenS v19.val) fun v26 =>
lt (gtI v26 300) fun v27 =>
ite' v27 (some (.inr ())) (some (.inl ()))) fun (y25:Unit ⊕ Unit) =>
sm y25 (fun y28=>lt (addI .i64 y15 1) fun v30 =>
some (.inl v30)) (fun y29=>some (.inr (.inr ())))) (fun y24=>some (.inr (.inr ())))) (some (.inr (.inl ())))) 0) fun (y16:Unit ⊕ Unit) =>
sm y16 (fun y31=>lt (lenI v8.l) fun v33 =>
bn (iter n (fun (y34:Int) =>
lt (ltI y34 v33) fun v37 =>
ite' v37 (bn (nth v8.l y34) fun v38 =>
bn (lt (lenS v38) fun v40 =>
lt (gtI v40 300) fun v41 =>
ite' v41 (some (.inr ())) (some (.inl ()))) fun (y39:Unit ⊕ Unit) =>
sm y39 (fun y42=>lt (addI .i64 y34 1) fun v44 =>
some (.inl v44)) (fun y43=>some (.inr (.inr ())))) (some (.inr (.inl ())))) 0) fun (y35:Unit ⊕ Unit) =>
sm y35 (fun y45=>some (.inl ())) (fun y46=>some (.inr false))) (fun y32=>some (.inr false))) (fun y13=>some (.inr false))) fun (y7:Unit ⊕ Bool) =>
sm y7 (fun y47=>some true) (fun y48=>some y48))
theorem Ig {n:Nat} {a0:Item} {r:Bool} (h:DE n a0=some r):Sound Tryz.prog 86 [.g [.s (.int .i64 a0.kind),.s (.string a0.s),.d false 2 (encField a0.f),.d false 1 (encS a0.l),.s (.int .i64 a0.exp)]] [] (.l (.s (.bool r))) []:=by
 unfold DE at h
 refine Sound.of_aw (fn:=Tryz.f86) (c:=_) Tryz.func86 rfl (by simp[Tryz.f86]) fun cx hG hnb=>?_
 rw[show Tryz.f86.ntmps=23 from rfl]
 have hn0:cx.nb=0:=hnb
 simp only[An,initTm,List.map_cons,List.map_nil]
 apply AW.step
 ·simp
  intros;rfl
 refine AW.seq ?_
 replace h:=bnE h;obtain⟨y1,g1,h⟩:=h
 refine AW.flow (p:=fun gh ls=>(nP (cx:=cx) (fun q=>(⟨[(1,.l (.p 0 0)),(2,.l (.p 1 0)),(16,.l (.s (.bool q)))],[some ⟨57,5,false,none,[.s (.int .i64 a0.kind),.s (.string a0.s),.d false 2 (encField a0.f),.d false 1 (encS a0.l),.s (.int .i64 a0.exp)]⟩,some ⟨4,1,false,none,[.s (.bool false)]⟩],23,gh,ls⟩:St))) y1) ?_ ?_
 ·replace h:=g1;clear g1
  replace h:=bnE h;obtain⟨v2,e2,h⟩:=h
  replace h:=ltE h;obtain⟨v3,e3,h⟩:=h
  cases v3 with
  |true =>
   replace h:=iteT rfl h
   apply AW.last
   ·simp[← e3]
    intros
    refine Ae Eq (EK e2) rfl ⟨.same rfl,trivial⟩ ?_
    try simp[← e3]
    intros;rfl
   obtain rfl:=oi h
   refine nP_i ?_
   refine Weak.mixN [some 0,some 1] hn0 (by decide) ?_ ?_ rfl
   all_goals first|(simp[Aa,Ab,pickOb];done)|rfl
  |false =>
   replace h:=iteF rfl h
   replace h:=ltE h;obtain⟨v4,e4,h⟩:=h
   cases v4 with
   |true =>
    replace h:=iteT rfl h
    apply AW.last
    ·simp[← e3,← e4]
     intros
     refine Ae Eq (EK e2) rfl ⟨.same rfl,trivial⟩ ?_
     try simp[← e3,← e4]
     intros;rfl
    obtain rfl:=oi h
    refine nP_i ?_
    refine Weak.mixN [some 0,some 1] hn0 (by decide) ?_ ?_ rfl
    all_goals first|(simp[Aa,Ab,pickOb];done)|rfl
   |false =>
    replace h:=iteF rfl h
    replace h:=ltE h;obtain⟨v5,e5,h⟩:=h
    apply AW.last
    ·simp[← e3,← e4,← e5]
     intros
     refine Ae Eq (EK e2) rfl ⟨.same rfl,trivial⟩ ?_
     try simp[← e3,← e4,← e5]
     intros;rfl
    obtain rfl:=oi h
    refine nP_i ?_
    refine Weak.mixN [some 0,some 1] hn0 (by decide) ?_ ?_ rfl
    all_goals first|(simp[Aa,Ab,pickOb];done)|rfl
 ·rintro e s hp
  obtain⟨rfl,hw⟩:=hp
  refine⟨_,hw,?_⟩
  try simp only[nm]
  replace h:=ltE h;obtain⟨v6,e6,h⟩:=h
  rw[← e6]
  cases v6 with
  |true =>
   replace h:=iteT rfl h
   refine AW.cond_true (by simp) ?_
   apply AW.step
   ·simp
    intros;rfl
   obtain rfl:=oi h
   refine AW.ret ?_
   refine Left.plain hnb (by simp[Tryz.f86,resV,resC,comp];rfl) rfl rfl ?_
   simp
  |false =>
   replace h:=iteF rfl h
   refine AW.cond_false (by simp) ?_
   refine AW.skip ?_
   try simp only[nm]
   replace h:=bnE h;obtain⟨y7,g7,h⟩:=h
   refine AW.flow (p:=fun gh ls=>(sp (nP (cx:=cx) (fun _=>(⟨[(2,.l (.p 0 0))],[some ⟨4,1,false,none,[.s (.bool false)]⟩],23,gh,ls⟩:St))) (rP (cx:=cx) (P:=Tryz.prog) Tryz.f86 (fun q=>.l (.s (.bool q))) (fun q=>[]))) y7) ?_ ?_
   ·replace h:=g7;clear g7
    replace h:=bnE h;obtain⟨v8,e8,h⟩:=h
    apply AW.step
    ·simp
     intros
     refine As JJ (KE e8) rfl (by simp) ⟨.same rfl,trivial⟩ ?_
     try simp
     intros;rfl
    refine AW.block ?_
    refine AW.weak (Weak.keep [(2,.l (.p 1 0)),(18,.l (.f 137 [2]))] (by simp)) ?_
    refine AW.rangeG rfl Tryz.func137 (by kernel_rfl) rfl (by decide) rfl rfl fun cxI1 yl1 hnI1 hY1=>?_
    have hnJ1:cxI1.nb=0:=hnI1.trans hn0
    simp only[initTm,List.map_cons,List.map_nil]
    refine AW.seq ?_
    refine AW.stepYK ?_
    apply xopsY.yield hY1 0 3 rfl rfl rfl (by decide)
    ·simp
     intros;rfl
    ·rfl
    ·first|trivial|simp
    ·rfl
    ·rfl
    ·simp[puts];rfl
    intro cxR1 hnR1
    have hnS1:cxR1.nb=0:=hnR1.trans hnJ1
    apply AW.last
    ·simp
     intros;rfl
    refine⟨rfl,?_⟩
    replace h:=bnE h;obtain⟨y9,g9,h⟩:=h
    refine AW.flowR (p:=fun gh ls=>(sp (nP (cx:=cxR1) (fun _=>(⟨[],[some ⟨57,5,false,none,[.s (.int .i64 a0.kind),.s (.string a0.s),.d false 2 (encField a0.f),.d false 1 (encS a0.l),.s (.int .i64 a0.exp)]⟩,some ⟨4,1,false,none,[.s (.bool false)]⟩,some ⟨57,5,false,none,[.s (.int .i64 v8.kind),.s (.string v8.s),.d false 2 (encField v8.f),.d false 1 (encS v8.l),.s (.int .i64 v8.exp)]⟩],23,gh,ls⟩:St))) (tP (cx:=cxR1) (fun _=>(⟨[],[some ⟨57,5,false,none,[.s (.int .i64 a0.kind),.s (.string a0.s),.d false 2 (encField a0.f),.d false 1 (encS a0.l),.s (.int .i64 a0.exp)]⟩,some ⟨4,1,false,none,[.s (.bool false)]⟩,some ⟨57,5,false,none,[.s (.int .i64 v8.kind),.s (.string v8.s),.d false 2 (encField v8.f),.d false 1 (encS v8.l),.s (.int .i64 v8.exp)]⟩],23,gh,ls⟩:St)))) y9) ?_ ?_
    ·replace h:=g9;clear g9
     refine AW.block ?_
     replace h:=ltE h;obtain⟨v10,e10,h⟩:=h
     replace h:=ltE h;obtain⟨v11,e11,h⟩:=h
     apply AW.step
     ·simp[← e10,← e11]
      intros;rfl
     cases v11 with
     |true =>
      replace h:=iteT rfl h
      refine AW.cond_true (by simp) ?_
      apply AW.step
      ·simp
       intros;rfl
      obtain rfl:=oi h
      refine AW.ret ?_
      try simp only[nm]
      try simp only[sp_l,sp_r]
      refine tP_i ?_
      refine Weak.mixB 0 [some 0,some 1,some 2] hnS1 (by decide) (by decide) ?_ ?_ ?_
      all_goals first|(simp[Aa,Ab,pickOb];done)|rfl
     |false =>
      replace h:=iteF rfl h
      refine AW.cond_false (by simp) ?_
      refine AW.skip ?_
      try simp only[nm]
      obtain rfl:=oi h
      try simp only[sp_l,sp_r]
      refine nP_i ?_
      refine Weak.mixB 0 [some 0,some 1,some 2] hnS1 (by decide) (by decide) ?_ ?_ ?_
      all_goals first|(simp[Aa,Ab,pickOb];done)|rfl
    ·rintro e s hp
     rcases y9 with y12|y13
     ·replace h:=smL h
      obtain⟨rfl,hw⟩:=hp
      refine⟨_,hw,?_⟩
      try simp only[nm]
      refine⟨_,_,rfl,?_⟩
      refine Bz _ _ _ rfl ?_
      simp[puts]
      try intros
      unfold KK
      refine AW.cond_false (by simp) ?_
      refine AW.skip ?_
      try simp only[nm]
      refine AW.seq ?_
      replace h:=ltE h;obtain⟨v14,e14,h⟩:=h
      apply AW.step
      ·simp[Ad e14]
       intros;rfl
      refine AW.block ?_
      replace h:=bnE h;obtain⟨y16,g16,h⟩:=h
      refine AW.iterP g16 (mk:=fun gh ls q=>(⟨[(0,.l (.s (.func (.yield yl1) #[] #[]))),(1,.l (.p 2 0)),(13,.l (.d false 2 (encField v8.f))),(14,.l (.s (.int .i64 v14))),(15,.l (.s (.int .i64 q)))],[some ⟨57,5,false,none,[.s (.int .i64 a0.kind),.s (.string a0.s),.d false 2 (encField a0.f),.d false 1 (encS a0.l),.s (.int .i64 a0.exp)]⟩,some ⟨4,1,false,none,[.s (.bool false)]⟩,some ⟨57,5,false,none,[.s (.int .i64 v8.kind),.s (.string v8.s),.d false 2 (encField v8.f),.d false 1 (encS v8.l),.s (.int .i64 v8.exp)]⟩],44,gh,ls⟩:St)) (N:=fun gh ls=>(sp (xP 0 (cx:=cxI1) (fun _=>(⟨[(0,.l (.s (.func (.yield yl1) #[] #[]))),(1,.l (.p 2 0))],[some ⟨57,5,false,none,[.s (.int .i64 a0.kind),.s (.string a0.s),.d false 2 (encField a0.f),.d false 1 (encS a0.l),.s (.int .i64 a0.exp)]⟩,some ⟨4,1,false,none,[.s (.bool false)]⟩,some ⟨57,5,false,none,[.s (.int .i64 v8.kind),.s (.string v8.s),.d false 2 (encField v8.f),.d false 1 (encS v8.l),.s (.int .i64 v8.exp)]⟩],44,gh,ls⟩:St))) (tP (cx:=cxI1) (fun _=>(⟨[],[some ⟨57,5,false,none,[.s (.int .i64 a0.kind),.s (.string a0.s),.d false 2 (encField a0.f),.d false 1 (encS a0.l),.s (.int .i64 a0.exp)]⟩,some ⟨4,1,false,none,[.s (.bool false)]⟩,some ⟨57,5,false,none,[.s (.int .i64 v8.kind),.s (.string v8.s),.d false 2 (encField v8.f),.d false 1 (encS v8.l),.s (.int .i64 v8.exp)]⟩],44,gh,some .ret⟩:St))))) ?_ (noS noX noT) ?_ ?_
      ·refine Weak.mixB 0 [some 0,some 1,some 2] hnJ1 (by decide) (by decide) ?_ ?_ ?_
       all_goals first|(simp[Aa,Ab,pickOb];done)|rfl
      ·clear h;intro y15 y17 h
       replace h:=ltE h;obtain⟨v18,e18,h⟩:=h
       apply AW.step
       ·simp[← e18]
        intros;rfl
       refine AW.seq ?_
       cases v18 with
       |true =>
        replace h:=iteT rfl h
        refine AW.cond_true (by simp) ?_
        refine AW.skip ?_
        try simp only[nm]
        refine AW.seq ?_
        refine AW.block ?_
        replace h:=bnE h;obtain⟨v19,e19,h⟩:=h
        apply AW.step
        ·simp[Ac e19]
         intros;rfl
        refine AW.stepYK ?_
        apply xopsY.yield hY1 0 3 rfl rfl rfl (by decide)
        ·simp
         intros;rfl
        ·rfl
        ·first|trivial|simp
        ·rfl
        ·rfl
        ·simp[puts];rfl
        intro cxR1 hnR1
        have hnS1:cxR1.nb=0:=hnR1.trans hnJ1
        apply AW.last
        ·simp
         intros;rfl
        refine⟨rfl,?_⟩
        replace h:=bnE h;obtain⟨y20,g20,h⟩:=h
        refine AW.flowR (p:=fun gh ls=>(sp (nP (cx:=cxR1) (fun _=>(⟨[],[some ⟨57,5,false,none,[.s (.int .i64 a0.kind),.s (.string a0.s),.d false 2 (encField a0.f),.d false 1 (encS a0.l),.s (.int .i64 a0.exp)]⟩,some ⟨4,1,false,none,[.s (.bool false)]⟩,some ⟨57,5,false,none,[.s (.int .i64 v8.kind),.s (.string v8.s),.d false 2 (encField v8.f),.d false 1 (encS v8.l),.s (.int .i64 v8.exp)]⟩,some ⟨157,2,false,none,[.s (.string v19.name),.s (.string v19.val)]⟩],23,gh,ls⟩:St))) (tP (cx:=cxR1) (fun _=>(⟨[],[some ⟨57,5,false,none,[.s (.int .i64 a0.kind),.s (.string a0.s),.d false 2 (encField a0.f),.d false 1 (encS a0.l),.s (.int .i64 a0.exp)]⟩,some ⟨4,1,false,none,[.s (.bool false)]⟩,some ⟨57,5,false,none,[.s (.int .i64 v8.kind),.s (.string v8.s),.d false 2 (encField v8.f),.d false 1 (encS v8.l),.s (.int .i64 v8.exp)]⟩,some ⟨157,2,false,none,[.s (.string v19.name),.s (.string v19.val)]⟩],23,gh,ls⟩:St)))) y20) ?_ ?_
        ·replace h:=g20;clear g20
         refine AW.block ?_
         replace h:=ltE h;obtain⟨v21,e21,h⟩:=h
         replace h:=ltE h;obtain⟨v22,e22,h⟩:=h
         apply AW.step
         ·simp[← e21,← e22]
          intros;rfl
         cases v22 with
         |true =>
          replace h:=iteT rfl h
          refine AW.cond_true (by simp) ?_
          apply AW.step
          ·simp
           intros;rfl
          obtain rfl:=oi h
          refine AW.ret ?_
          try simp only[nm]
          try simp only[sp_l,sp_r]
          refine tP_i ?_
          refine Weak.mixB 0 [some 0,some 1,some 2,some 3] hnS1 (by decide) (by decide) ?_ ?_ ?_
          all_goals first|(simp[Aa,Ab,pickOb];done)|rfl
         |false =>
          replace h:=iteF rfl h
          refine AW.cond_false (by simp) ?_
          refine AW.skip ?_
          try simp only[nm]
          obtain rfl:=oi h
          try simp only[sp_l,sp_r]
          refine nP_i ?_
          refine Weak.mixB 0 [some 0,some 1,some 2,some 3] hnS1 (by decide) (by decide) ?_ ?_ ?_
          all_goals first|(simp[Aa,Ab,pickOb];done)|rfl
        ·rintro e s hp
         rcases y20 with y23|y24
         ·replace h:=smL h
          obtain⟨rfl,hw⟩:=hp
          refine⟨_,hw,?_⟩
          try simp only[nm]
          refine⟨_,_,rfl,?_⟩
          apply xopsY.yield hY1 4 9 rfl rfl rfl (by decide)
          ·simp
           intros;rfl
          ·rfl
          ·first|trivial|simp
          ·rfl
          ·rfl
          ·simp[puts];rfl
          intro cxR1 hnR1
          have hnS1:cxR1.nb=0:=hnR1.trans hnJ1
          apply AW.last
          ·simp
           intros;rfl
          refine⟨rfl,?_⟩
          replace h:=bnE h;obtain⟨y25,g25,h⟩:=h
          refine AW.flowR (p:=fun gh ls=>(sp (nP (cx:=cxR1) (fun _=>(⟨[],[some ⟨57,5,false,none,[.s (.int .i64 a0.kind),.s (.string a0.s),.d false 2 (encField a0.f),.d false 1 (encS a0.l),.s (.int .i64 a0.exp)]⟩,some ⟨4,1,false,none,[.s (.bool false)]⟩,some ⟨57,5,false,none,[.s (.int .i64 v8.kind),.s (.string v8.s),.d false 2 (encField v8.f),.d false 1 (encS v8.l),.s (.int .i64 v8.exp)]⟩,some ⟨157,2,false,none,[.s (.string v19.name),.s (.string v19.val)]⟩],23,gh,ls⟩:St))) (tP (cx:=cxR1) (fun _=>(⟨[],[some ⟨57,5,false,none,[.s (.int .i64 a0.kind),.s (.string a0.s),.d false 2 (encField a0.f),.d false 1 (encS a0.l),.s (.int .i64 a0.exp)]⟩,some ⟨4,1,false,none,[.s (.bool false)]⟩,some ⟨57,5,false,none,[.s (.int .i64 v8.kind),.s (.string v8.s),.d false 2 (encField v8.f),.d false 1 (encS v8.l),.s (.int .i64 v8.exp)]⟩,some ⟨157,2,false,none,[.s (.string v19.name),.s (.string v19.val)]⟩],23,gh,ls⟩:St)))) y25) ?_ ?_
          ·replace h:=g25;clear g25
           refine AW.block ?_
           replace h:=ltE h;obtain⟨v26,e26,h⟩:=h
           replace h:=ltE h;obtain⟨v27,e27,h⟩:=h
           apply AW.step
           ·simp[← e26,← e27]
            intros;rfl
           cases v27 with
           |true =>
            replace h:=iteT rfl h
            refine AW.cond_true (by simp) ?_
            apply AW.step
            ·simp
             intros;rfl
            obtain rfl:=oi h
            refine AW.ret ?_
            try simp only[nm]
            try simp only[sp_l,sp_r]
            refine tP_i ?_
            refine Weak.mixB 0 [some 0,some 1,some 2,some 3] hnS1 (by decide) (by decide) ?_ ?_ ?_
            all_goals first|(simp[Aa,Ab,pickOb];done)|rfl
           |false =>
            replace h:=iteF rfl h
            refine AW.cond_false (by simp) ?_
            refine AW.skip ?_
            try simp only[nm]
            obtain rfl:=oi h
            try simp only[sp_l,sp_r]
            refine nP_i ?_
            refine Weak.mixB 0 [some 0,some 1,some 2,some 3] hnS1 (by decide) (by decide) ?_ ?_ ?_
            all_goals first|(simp[Aa,Ab,pickOb];done)|rfl
          ·rintro e s hp
           rcases y25 with y28|y29
           ·replace h:=smL h
            obtain⟨rfl,hw⟩:=hp
            refine⟨_,hw,?_⟩
            try simp only[nm]
            refine⟨_,_,rfl,?_⟩
            refine Bz _ _ _ rfl ?_
            simp[puts]
            try intros
            unfold KK
            refine AW.cond_false (by simp) ?_
            refine AW.skip ?_
            try simp only[nm]
            replace h:=ltE h;obtain⟨v30,e30,h⟩:=h
            apply AW.last
            ·simp[← e30]
             intros;rfl
            obtain rfl:=oi h
            refine nP_i ?_
            refine Weak.mixB 0 [some 0,some 1,some 2] hnJ1 (by decide) (by decide) ?_ ?_ ?_
            all_goals first|(simp[Aa,Ab,pickOb];done)|rfl
           ·replace h:=smR h
            obtain⟨rfl,hw⟩:=hp
            refine⟨_,hw,?_⟩
            try simp only[nm]
            refine⟨_,_,rfl,?_⟩
            refine Bz _ _ _ rfl ?_
            simp[puts]
            try intros
            unfold KK
            refine AW.cond_true (by simp) ?_
            obtain rfl:=oi h
            refine AW.ret ?_
            try simp only[nm]
            try simp only[sp_l,sp_r]
            refine tP_i ?_
            refine Weak.mixB 0 [some 0,some 1,some 2] hnJ1 (by decide) (by decide) ?_ ?_ ?_
            all_goals first|(simp[Aa,Ab,pickOb];done)|rfl
         ·replace h:=smR h
          obtain⟨rfl,hw⟩:=hp
          refine⟨_,hw,?_⟩
          try simp only[nm]
          refine⟨_,_,rfl,?_⟩
          refine Bz _ _ _ rfl ?_
          simp[puts]
          try intros
          unfold KK
          refine AW.cond_true (by simp) ?_
          obtain rfl:=oi h
          refine AW.ret ?_
          try simp only[nm]
          try simp only[sp_l,sp_r]
          refine tP_i ?_
          refine Weak.mixB 0 [some 0,some 1,some 2] hnJ1 (by decide) (by decide) ?_ ?_ ?_
          all_goals first|(simp[Aa,Ab,pickOb];done)|rfl
       |false =>
        replace h:=iteF rfl h
        refine AW.cond_false (by simp) ?_
        refine AW.exit ?_
        try simp only[nm]
        obtain rfl:=oi h
        try simp only[sp_l,sp_r]
        refine xP_i ?_
        refine Weak.mixB 0 [some 0,some 1,some 2] hnJ1 (by decide) (by decide) ?_ ?_ ?_
        all_goals first|(simp[Aa,Ab,pickOb];done)|rfl
      ·rintro e s hp
       rcases y16 with y31|y32
       ·replace h:=smL h
        obtain⟨rfl,hw⟩:=hp
        refine⟨_,hw,?_⟩
        try simp only[nm]
        replace h:=ltE h;obtain⟨v33,e33,h⟩:=h
        apply AW.step
        ·simp[Ad e33]
         intros;rfl
        refine AW.block ?_
        replace h:=bnE h;obtain⟨y35,g35,h⟩:=h
        refine AW.iterP g35 (mk:=fun gh ls q=>(⟨[(0,.l (.s (.func (.yield yl1) #[] #[]))),(33,.l (.d false 1 (encS v8.l))),(34,.l (.s (.int .i64 v33))),(35,.l (.s (.int .i64 q)))],[some ⟨57,5,false,none,[.s (.int .i64 a0.kind),.s (.string a0.s),.d false 2 (encField a0.f),.d false 1 (encS a0.l),.s (.int .i64 a0.exp)]⟩,some ⟨4,1,false,none,[.s (.bool false)]⟩,some ⟨57,5,false,none,[.s (.int .i64 v8.kind),.s (.string v8.s),.d false 2 (encField v8.f),.d false 1 (encS v8.l),.s (.int .i64 v8.exp)]⟩],44,gh,ls⟩:St)) (N:=fun gh ls=>(sp (xP 2 (cx:=cxI1) (fun _=>(⟨[],[some ⟨57,5,false,none,[.s (.int .i64 a0.kind),.s (.string a0.s),.d false 2 (encField a0.f),.d false 1 (encS a0.l),.s (.int .i64 a0.exp)]⟩,some ⟨4,1,false,none,[.s (.bool false)]⟩,some ⟨57,5,false,none,[.s (.int .i64 v8.kind),.s (.string v8.s),.d false 2 (encField v8.f),.d false 1 (encS v8.l),.s (.int .i64 v8.exp)]⟩],44,gh,ls⟩:St))) (tP (cx:=cxI1) (fun _=>(⟨[],[some ⟨57,5,false,none,[.s (.int .i64 a0.kind),.s (.string a0.s),.d false 2 (encField a0.f),.d false 1 (encS a0.l),.s (.int .i64 a0.exp)]⟩,some ⟨4,1,false,none,[.s (.bool false)]⟩,some ⟨57,5,false,none,[.s (.int .i64 v8.kind),.s (.string v8.s),.d false 2 (encField v8.f),.d false 1 (encS v8.l),.s (.int .i64 v8.exp)]⟩],44,gh,some .ret⟩:St))))) ?_ (noS noX noT) ?_ ?_
        ·refine Weak.mixB 0 [some 0,some 1,some 2] hnJ1 (by decide) (by decide) ?_ ?_ ?_
         all_goals first|(simp[Aa,Ab,pickOb];done)|rfl
        ·clear h;intro y34 y36 h
         replace h:=ltE h;obtain⟨v37,e37,h⟩:=h
         apply AW.step
         ·simp[← e37]
          intros;rfl
         refine AW.seq ?_
         cases v37 with
         |true =>
          replace h:=iteT rfl h
          refine AW.cond_true (by simp) ?_
          refine AW.skip ?_
          try simp only[nm]
          refine AW.seq ?_
          refine AW.block ?_
          replace h:=bnE h;obtain⟨v38,e38,h⟩:=h
          apply AW.step
          ·simp[Ac e38]
           intros;rfl
          refine AW.stepYK ?_
          apply xopsY.yield hY1 0 2 rfl rfl rfl (by decide)
          ·simp
           intros;rfl
          ·rfl
          ·first|trivial|simp
          ·rfl
          ·rfl
          ·simp[puts];rfl
          intro cxR1 hnR1
          have hnS1:cxR1.nb=0:=hnR1.trans hnJ1
          apply AW.last
          ·simp
           intros;rfl
          refine⟨rfl,?_⟩
          replace h:=bnE h;obtain⟨y39,g39,h⟩:=h
          refine AW.flowR (p:=fun gh ls=>(sp (nP (cx:=cxR1) (fun _=>(⟨[],[some ⟨57,5,false,none,[.s (.int .i64 a0.kind),.s (.string a0.s),.d false 2 (encField a0.f),.d false 1 (encS a0.l),.s (.int .i64 a0.exp)]⟩,some ⟨4,1,false,none,[.s (.bool false)]⟩,some ⟨57,5,false,none,[.s (.int .i64 v8.kind),.s (.string v8.s),.d false 2 (encField v8.f),.d false 1 (encS v8.l),.s (.int .i64 v8.exp)]⟩],23,gh,ls⟩:St))) (tP (cx:=cxR1) (fun _=>(⟨[],[some ⟨57,5,false,none,[.s (.int .i64 a0.kind),.s (.string a0.s),.d false 2 (encField a0.f),.d false 1 (encS a0.l),.s (.int .i64 a0.exp)]⟩,some ⟨4,1,false,none,[.s (.bool false)]⟩,some ⟨57,5,false,none,[.s (.int .i64 v8.kind),.s (.string v8.s),.d false 2 (encField v8.f),.d false 1 (encS v8.l),.s (.int .i64 v8.exp)]⟩],23,gh,ls⟩:St)))) y39) ?_ ?_
          ·replace h:=g39;clear g39
           refine AW.block ?_
           replace h:=ltE h;obtain⟨v40,e40,h⟩:=h
           replace h:=ltE h;obtain⟨v41,e41,h⟩:=h
           apply AW.step
           ·simp[← e40,← e41]
            intros;rfl
           cases v41 with
           |true =>
            replace h:=iteT rfl h
            refine AW.cond_true (by simp) ?_
            apply AW.step
            ·simp
             intros;rfl
            obtain rfl:=oi h
            refine AW.ret ?_
            try simp only[nm]
            try simp only[sp_l,sp_r]
            refine tP_i ?_
            refine Weak.mixB 0 [some 0,some 1,some 2] hnS1 (by decide) (by decide) ?_ ?_ ?_
            all_goals first|(simp[Aa,Ab,pickOb];done)|rfl
           |false =>
            replace h:=iteF rfl h
            refine AW.cond_false (by simp) ?_
            refine AW.skip ?_
            try simp only[nm]
            obtain rfl:=oi h
            try simp only[sp_l,sp_r]
            refine nP_i ?_
            refine Weak.mixB 0 [some 0,some 1,some 2] hnS1 (by decide) (by decide) ?_ ?_ ?_
            all_goals first|(simp[Aa,Ab,pickOb];done)|rfl
          ·rintro e s hp
           rcases y39 with y42|y43
           ·replace h:=smL h
            obtain⟨rfl,hw⟩:=hp
            refine⟨_,hw,?_⟩
            try simp only[nm]
            refine⟨_,_,rfl,?_⟩
            refine Bz _ _ _ rfl ?_
            simp[puts]
            try intros
            unfold KK
            refine AW.cond_false (by simp) ?_
            refine AW.skip ?_
            try simp only[nm]
            replace h:=ltE h;obtain⟨v44,e44,h⟩:=h
            apply AW.last
            ·simp[← e44]
             intros;rfl
            obtain rfl:=oi h
            refine nP_i ?_
            refine Weak.mixB 0 [some 0,some 1,some 2] hnJ1 (by decide) (by decide) ?_ ?_ ?_
            all_goals first|(simp[Aa,Ab,pickOb];done)|rfl
           ·replace h:=smR h
            obtain⟨rfl,hw⟩:=hp
            refine⟨_,hw,?_⟩
            try simp only[nm]
            refine⟨_,_,rfl,?_⟩
            refine Bz _ _ _ rfl ?_
            simp[puts]
            try intros
            unfold KK
            refine AW.cond_true (by simp) ?_
            obtain rfl:=oi h
            refine AW.ret ?_
            try simp only[nm]
            try simp only[sp_l,sp_r]
            refine tP_i ?_
            refine Weak.mixB 0 [some 0,some 1,some 2] hnJ1 (by decide) (by decide) ?_ ?_ ?_
            all_goals first|(simp[Aa,Ab,pickOb];done)|rfl
         |false =>
          replace h:=iteF rfl h
          refine AW.cond_false (by simp) ?_
          refine AW.exit ?_
          try simp only[nm]
          obtain rfl:=oi h
          try simp only[sp_l,sp_r]
          refine xP_i ?_
          refine Weak.mixB 0 [some 0,some 1,some 2] hnJ1 (by decide) (by decide) ?_ ?_ ?_
          all_goals first|(simp[Aa,Ab,pickOb];done)|rfl
        ·rintro e s hp
         rcases y35 with y45|y46
         ·replace h:=smL h
          obtain⟨rfl,hw⟩:=hp
          refine⟨_,hw,?_⟩
          try simp only[nm]
          refine⟨_,_,rfl,?_⟩
          try simp only[]
          try simp only[nm]
          obtain rfl:=oi h
          try simp only[sp_l,sp_r]
          refine nP_i ?_
          refine Weak.mixN [some 1] hn0 (by decide) ?_ ?_ rfl
          all_goals first|(simp[Aa,Ab,pickOb];done)|rfl
         ·replace h:=smR h
          obtain⟨rfl,hw⟩:=hp
          refine⟨_,hw,?_⟩
          try simp only[nm]
          refine⟨_,_,rfl,?_⟩
          try simp only[]
          obtain rfl:=oi h
          refine AW.ret ?_
          try simp only[nm]
          refine rP_i ?_
          refine Left.plain hnb (by simp[Tryz.f86,resV,resC,comp];rfl) rfl rfl ?_
          simp
       ·replace h:=smR h
        obtain⟨rfl,hw⟩:=hp
        refine⟨_,hw,?_⟩
        try simp only[nm]
        refine⟨_,_,rfl,?_⟩
        try simp only[]
        obtain rfl:=oi h
        refine AW.ret ?_
        try simp only[nm]
        refine rP_i ?_
        refine Left.plain hnb (by simp[Tryz.f86,resV,resC,comp];rfl) rfl rfl ?_
        simp
     ·replace h:=smR h
      obtain⟨rfl,hw⟩:=hp
      refine⟨_,hw,?_⟩
      try simp only[nm]
      refine⟨_,_,rfl,?_⟩
      refine Bz _ _ _ rfl ?_
      simp[puts]
      try intros
      unfold KK
      refine AW.cond_true (by simp) ?_
      refine AW.ret ?_
      refine⟨_,_,rfl,?_⟩
      try simp only[]
      obtain rfl:=oi h
      refine AW.ret ?_
      try simp only[nm]
      refine rP_i ?_
      refine Left.plain hnb (by simp[Tryz.f86,resV,resC,comp];rfl) rfl rfl ?_
      simp
   ·rintro e s hp
    rcases y7 with y47|y48
    ·replace h:=smL h
     obtain⟨rfl,hw⟩:=hp
     refine⟨_,hw,?_⟩
     try simp only[nm]
     apply AW.step
     ·simp
      intros;rfl
     obtain rfl:=oi h
     refine AW.ret ?_
     refine Left.plain hnb (by simp[Tryz.f86,resV,resC,comp];rfl) rfl rfl ?_
     simp
    ·replace h:=smR h
     obtain⟨rfl,hl⟩:=hp
     refine⟨_,Weak.refl _,?_⟩
     obtain rfl:=oi h
     exact hl
theorem Ho:Enters Tryz.prog 86:=enters Tryz.func86 (by kernel_rfl) rfl
def DF (n:Nat) (a0:Msg):Option Bool :=
bn (lt (lenI a0.effects) fun v2 =>
lt (neI v2 1) fun v3 =>
ite' v3 (some (true)) (lt (ltI a0.num 1) fun v4 =>
some (v4))) fun (y1:Bool) =>
lt (y1) fun v5 =>
ite' v5 (some false) (bn (nth a0.effects 0) fun v6 =>
bn (lt (lenS v6.key) fun v8 =>
lt (leI v8 40) fun v9 =>
ite' v9 (lt (notB v6.gone) fun v10 =>
ite' v10 (bn (DE n v6.item) fun v11 =>
ite' v11 (bn (CH n v6.key) fun v12 =>
lt (eqI v12 a0.slot) fun v13 =>
some (v13)) (some (false))) (some (false))) (some (false))) fun (y7:Bool) =>
some y7)
def DY4t1:List DI:=[⟨[0],[],[(3,none)],false⟩,⟨[0],[0],[(17,some 0)],false⟩,⟨[0],[0,1],[(18,some 1)],false⟩,⟨[0],[0,1,2],[(19,some 2)],false⟩,⟨[0],[0,1,2,3],[(20,some 3)],false⟩,⟨[0],[0,1,2,3,4],[(3,none),(21,some 4)],false⟩,⟨[0],[0,1,2,3,4,5],[(21,some 4),(22,some 5)],false⟩,⟨[0],[0,1,2,3,4,5,6],[(21,some 4),(23,some 6)],false⟩,⟨[0],[0,1,2,3,4,5,6,7],[(21,some 4),(24,some 7)],false⟩,⟨[0],[0,1,2,3,4,5,6,7,8],[(25,some 8)],false⟩,⟨[0],[0,1,2,3,4,5,6,7,8,9],[(3,none),(26,some 9)],false⟩,⟨[0],[0,1,2,3,4,5,6,7,8,9,10],[(26,some 9),(27,some 10)],false⟩,⟨[0],[0,1,2,3,4,5,6,7,8,9,10,11],[(26,some 9),(28,some 11)],false⟩,⟨[0],[0,1,2,3,4,5,6,7,8,9,10,11,12],[(26,some 9),(29,some 12)],false⟩,⟨[0],[0,1,2,3,4,5,6,7,8,9,10,11,12,13],[(30,some 13)],false⟩,⟨[0],[0,1,2,3,4,5,6,7,8,9,10,11,12,13,14],[(3,none),(31,some 14)],false⟩,⟨[0],[0,1,2,3,4,5,6,7,8,9,10,11,12,13,14,15],[(31,some 14),(32,some 15)],false⟩,⟨[0],[0,1,2,3,4,5,6,7,8,9,10,11,12,13,14,15,16],[(31,some 14),(33,some 16)],false⟩,⟨[0],[0,1,2,3,4,5,6,7,8,9,10,11,12,13,14],[(1,none),(31,some 14)],false⟩,⟨[0],[0,1,2,3,4,5,6,7,8,9,10,11,12,13,14,18],[(31,some 14),(35,some 18)],false⟩,⟨[],[0,1,2,3,4,5,6,7,8,9,10,11,12,13,14,15,16,17,18,19],[],false⟩,⟨[],[0,1,2,3,4,5,6,7,8,9,10,11,12,13,14,15,16,17,18,19,20],[],false⟩,⟨[],[0,1,2,3,4,5,6,7,8,9,10,11,12,13,14,15,16,17,18,19,20,21],[],false⟩]
theorem Mv {n:Nat} {a0:Msg} {r:Bool} (h:DF n a0=some r):Sound Tryz.prog 48 [.g [.s (.int .i64 a0.kind),.s (.int .i64 a0.frm),.s (.int .i64 a0.to),.s (.int .i64 a0.epoch),.d false 4 (encClaim a0.claims),.d false 1 (encI a0.nodes),.s (.int .i64 a0.node),.s (.int .i64 a0.slot),.s (.int .i64 a0.num),.s (.int .i64 a0.rid.node),.s (.int .i64 a0.rid.epoch),.s (.int .i64 a0.prev.node),.s (.int .i64 a0.prev.epoch),.s (.int .i64 a0.off),.d false 7 (encEffect a0.effects)]] [] (.l (.s (.bool r))) []:=by
 unfold DF at h
 refine Sound.of_aw (fn:=Tryz.f48) (c:=_) Tryz.func48 rfl (by simp[Tryz.f48]) fun cx hG hnb=>?_
 rw[show Tryz.f48.ntmps=39 from rfl]
 have hn0:cx.nb=0:=hnb
 simp only[An,initTm,List.map_cons,List.map_nil]
 apply AW.step
 ·simp
  intros;rfl
 refine AW.seq ?_
 replace h:=bnE h;obtain⟨y1,g1,h⟩:=h
 refine AW.flow (p:=fun gh ls=>(nP (cx:=cx) (fun q=>(⟨[(1,.l (.p 0 0)),(12,.l (.s (.bool q)))],[some ⟨49,15,false,none,[.s (.int .i64 a0.kind),.s (.int .i64 a0.frm),.s (.int .i64 a0.to),.s (.int .i64 a0.epoch),.d false 4 (encClaim a0.claims),.d false 1 (encI a0.nodes),.s (.int .i64 a0.node),.s (.int .i64 a0.slot),.s (.int .i64 a0.num),.s (.int .i64 a0.rid.node),.s (.int .i64 a0.rid.epoch),.s (.int .i64 a0.prev.node),.s (.int .i64 a0.prev.epoch),.s (.int .i64 a0.off),.d false 7 (encEffect a0.effects)]⟩],39,gh,ls⟩:St))) y1) ?_ ?_
 ·replace h:=g1;clear g1
  replace h:=ltE h;obtain⟨v2,e2,h⟩:=h
  replace h:=ltE h;obtain⟨v3,e3,h⟩:=h
  cases v3 with
  |true =>
   replace h:=iteT rfl h
   apply AW.last
   ·simp[Ad e2,← e3]
    intros;rfl
   obtain rfl:=oi h
   refine nP_i ?_
   refine Weak.mixN [some 0] hn0 (by decide) ?_ ?_ rfl
   all_goals first|(simp[Aa,Ab,pickOb];done)|rfl
  |false =>
   replace h:=iteF rfl h
   replace h:=ltE h;obtain⟨v4,e4,h⟩:=h
   apply AW.last
   ·simp[Ad e2,← e3,← e4]
    intros;rfl
   obtain rfl:=oi h
   refine nP_i ?_
   refine Weak.mixN [some 0] hn0 (by decide) ?_ ?_ rfl
   all_goals first|(simp[Aa,Ab,pickOb];done)|rfl
 ·rintro e s hp
  obtain⟨rfl,hw⟩:=hp
  refine⟨_,hw,?_⟩
  try simp only[nm]
  replace h:=ltE h;obtain⟨v5,e5,h⟩:=h
  rw[← e5]
  cases v5 with
  |true =>
   replace h:=iteT rfl h
   refine AW.cond_true (by simp) ?_
   apply AW.step
   ·simp
    intros;rfl
   obtain rfl:=oi h
   refine AW.ret ?_
   refine Left.plain hnb (by simp[Tryz.f48,resV,resC,comp];rfl) rfl rfl ?_
   simp
  |false =>
   replace h:=iteF rfl h
   refine AW.cond_false (by simp) ?_
   refine AW.skip ?_
   try simp only[nm]
   replace h:=bnE h;obtain⟨v6,e6,h⟩:=h
   apply AW.step
   ·simp[(show a0.effects[0]?=some v6 from (Ac e6).2)]
    intros;rfl
   replace h:=bnE h;obtain⟨y7,g7,h⟩:=h
   refine AW.flow (p:=fun gh ls=>(nP (cx:=cx) (fun q=>(⟨[(2,.l (.s (.bool q)))],[],39,gh,ls⟩:St))) y7) ?_ ?_
   ·replace h:=g7;clear g7
    replace h:=ltE h;obtain⟨v8,e8,h⟩:=h
    replace h:=ltE h;obtain⟨v9,e9,h⟩:=h
    cases v9 with
    |true =>
     replace h:=iteT rfl h
     replace h:=ltE h;obtain⟨v10,e10,h⟩:=h
     cases v10 with
     |true =>
      replace h:=iteT rfl h
      replace h:=bnE h;obtain⟨v11,e11,h⟩:=h
      cases v11 with
      |true =>
       replace h:=iteT rfl h
       replace h:=bnE h;obtain⟨v12,e12,h⟩:=h
       replace h:=ltE h;obtain⟨v13,e13,h⟩:=h
       apply AW.drawnR (V:=[_,_,_,_,_,_,_,_,_,_,_,_,_,_,_,_,_,_,_,_]) mixed DY4t1 20 (by kernel_rfl) (by kernel_rfl)
       ·refine⟨?_,?_,?_,?_,?_,?_,?_,?_,?_,?_,?_,?_,?_,?_,?_,?_,?_,?_,?_,?_,trivial⟩
        iterate 12 (· intro tm hr;simp[AllL,rdV] at hr;simp[hr,← e8,← e9,← e10,← e13];intros;first|exact KD.mk|exact KD.mkN)
        ·intro tm hr
         simp[AllL,rdV] at hr
         simp[hr,← e8,← e9,← e10,← e13]
         intros
         refine Ae Ho (Ig e11) rfl ⟨.same rfl,trivial⟩ ?_
         try simp[← e8,← e9,← e10,← e13]
         intros;first|exact KD.mk|exact KD.mkN
        iterate 4 (· intro tm hr;simp[AllL,rdV] at hr;simp[hr,← e8,← e9,← e10,← e13];intros;first|exact KD.mk|exact KD.mkN)
        ·intro tm hr
         simp[AllL,rdV] at hr
         simp[hr,← e8,← e9,← e10,← e13]
         intros
         refine Ae F2 (GI e12) rfl ⟨.same rfl,trivial⟩ ?_
         try simp[← e8,← e9,← e10,← e13]
         intros;first|exact KD.mk|exact KD.mkN
        iterate 2 (· intro tm hr;simp[AllL,rdV] at hr;simp[hr,← e8,← e9,← e10,← e13];intros;first|exact KD.mk|exact KD.mkN)
       ·rfl
       ·simp[tmD,putD,← e8,← e9,← e10,← e13];rfl
       ·simp[← e8,← e9,← e10,← e13]
        intros;rfl
       obtain rfl:=oi h
       refine nP_i ?_
       refine Weak.mixN [] hn0 (by decide) ?_ ?_ rfl
       all_goals first|(simp[Aa,Ab,pickOb];done)|rfl
      |false =>
       replace h:=iteF rfl h
       apply AW.drawnR (V:=[_,_,_,_,_,_,_,_,_,_,_,_,_,_,_,_,_,_,_,_]) mixed DY4t1 20 (by kernel_rfl) (by kernel_rfl)
       ·refine⟨?_,?_,?_,?_,?_,?_,?_,?_,?_,?_,?_,?_,?_,?_,?_,?_,?_,?_,?_,?_,trivial⟩
        iterate 12 (· intro tm hr;simp[AllL,rdV] at hr;simp[hr,← e8,← e9,← e10];intros;first|exact KD.mk|exact KD.mkN)
        ·intro tm hr
         simp[AllL,rdV] at hr
         simp[hr,← e8,← e9,← e10]
         intros
         refine Ae Ho (Ig e11) rfl ⟨.same rfl,trivial⟩ ?_
         try simp[← e8,← e9,← e10]
         intros;first|exact KD.mk|exact KD.mkN
        iterate 7 (· intro tm hr;simp[AllL,rdV] at hr;simp[hr,← e8,← e9,← e10];intros;first|exact KD.mk|exact KD.mkN)
       ·rfl
       ·simp[tmD,putD,← e8,← e9,← e10];rfl
       ·simp[← e8,← e9,← e10]
        intros;rfl
       obtain rfl:=oi h
       refine nP_i ?_
       refine Weak.mixN [] hn0 (by decide) ?_ ?_ rfl
       all_goals first|(simp[Aa,Ab,pickOb];done)|rfl
     |false =>
      replace h:=iteF rfl h
      apply AW.drawnR (V:=[_,_,_,_,_,_,_,_,_,_,_,_,_,_,_,_,_,_,_,_]) mixed DY4t1 20 (by kernel_rfl) (by kernel_rfl)
      ·refine⟨?_,?_,?_,?_,?_,?_,?_,?_,?_,?_,?_,?_,?_,?_,?_,?_,?_,?_,?_,?_,trivial⟩
       iterate 20 (· intro tm hr;simp[AllL,rdV] at hr;simp[hr,← e8,← e9,← e10];intros;first|exact KD.mk|exact KD.mkN)
      ·rfl
      ·simp[tmD,putD,← e8,← e9,← e10];rfl
      ·simp[← e8,← e9,← e10]
       intros;rfl
      obtain rfl:=oi h
      refine nP_i ?_
      refine Weak.mixN [] hn0 (by decide) ?_ ?_ rfl
      all_goals first|(simp[Aa,Ab,pickOb];done)|rfl
    |false =>
     replace h:=iteF rfl h
     apply AW.drawnR (V:=[_,_,_,_,_,_,_,_,_,_,_,_,_,_,_,_,_,_,_,_]) mixed DY4t1 20 (by kernel_rfl) (by kernel_rfl)
     ·refine⟨?_,?_,?_,?_,?_,?_,?_,?_,?_,?_,?_,?_,?_,?_,?_,?_,?_,?_,?_,?_,trivial⟩
      iterate 20 (· intro tm hr;simp[AllL,rdV] at hr;simp[hr,← e8,← e9];intros;first|exact KD.mk|exact KD.mkN)
     ·rfl
     ·simp[tmD,putD,← e8,← e9];rfl
     ·simp[← e8,← e9]
      intros;rfl
     obtain rfl:=oi h
     refine nP_i ?_
     refine Weak.mixN [] hn0 (by decide) ?_ ?_ rfl
     all_goals first|(simp[Aa,Ab,pickOb];done)|rfl
   ·rintro e s hp
    obtain⟨rfl,hw⟩:=hp
    refine⟨_,hw,?_⟩
    try simp only[nm]
    obtain rfl:=oi h
    refine AW.ret ?_
    refine Left.plain hnb (by simp[Tryz.f48,resV,resC,comp];rfl) rfl rfl ?_
    simp
theorem Ll:Enters Tryz.prog 48:=enters Tryz.func48 (by kernel_rfl) rfl
def CP (n:Nat) (a0:List Int):Option Int :=
lt (lenI a0) fun v1 =>
bn (iter n (fun (y2:Int) =>
lt (ltI y2 v1) fun v5 =>
ite' v5 (bn (nth a0 y2) fun v6 =>
lt (neI v6 0) fun v7 =>
ite' v7 (some (.inr (.inr v6))) (lt (addI .i64 y2 1) fun v8 =>
some (.inl v8))) (some (.inr (.inl ())))) 0) fun (y3:Unit ⊕ Int) =>
sm y3 (fun y9=>some 0) (fun y10=>some y10)
theorem KF {n:Nat} {a0:List Int} {r:Int} (h:CP n a0=some r):Sound Tryz.prog 51 [.l (.d true 1 (encI a0))] [] (.l (.s (.int .i64 r))) []:=by
 unfold CP at h
 refine Sound.of_aw (fn:=Tryz.f51) (c:=_) Tryz.func51 rfl (by simp[Tryz.f51]) fun cx hG hnb=>?_
 rw[show Tryz.f51.ntmps=18 from rfl]
 have hn0:cx.nb=0:=hnb
 simp only[An,initTm,List.map_cons,List.map_nil]
 apply AW.step
 ·simp
  intros;rfl
 apply AW.step
 ·simp
  intros;rfl
 refine AW.seq ?_
 replace h:=ltE h;obtain⟨v1,e1,h⟩:=h
 apply AW.step
 ·simp[Ad e1]
  intros;rfl
 refine AW.block ?_
 replace h:=bnE h;obtain⟨y3,g3,h⟩:=h
 refine AW.iterP g3 (mk:=fun gh ls q=>(⟨[(3,.l (.s (.int .i64 0))),(6,.l (.d true 1 (encI a0))),(7,.l (.s (.int .i64 v1))),(8,.l (.s (.int .i64 q)))],[],18,gh,ls⟩:St)) (N:=fun gh ls=>(sp (xP 0 (cx:=cx) (fun _=>(⟨[(3,.l (.s (.int .i64 0)))],[],18,gh,ls⟩:St))) (rP (cx:=cx) (P:=Tryz.prog) Tryz.f51 (fun q=>.l (.s (.int .i64 q))) (fun q=>[])))) ?_ (noS noX noR) ?_ ?_
 ·refine Weak.mixN [] hn0 (by decide) ?_ ?_ rfl
  all_goals first|(simp[Aa,Ab,pickOb];done)|rfl
 ·clear h;intro y2 y4 h
  replace h:=ltE h;obtain⟨v5,e5,h⟩:=h
  apply AW.step
  ·simp[← e5]
   intros;rfl
  refine AW.seq ?_
  cases v5 with
  |true =>
   replace h:=iteT rfl h
   refine AW.cond_true (by simp) ?_
   refine AW.skip ?_
   try simp only[nm]
   refine AW.seq ?_
   refine AW.block ?_
   replace h:=bnE h;obtain⟨v6,e6,h⟩:=h
   apply AW.step
   ·simp[Ac e6]
    intros;rfl
   replace h:=ltE h;obtain⟨v7,e7,h⟩:=h
   apply AW.step
   ·simp[← e7]
    intros;rfl
   cases v7 with
   |true =>
    replace h:=iteT rfl h
    refine AW.cond_true (by simp) ?_
    apply AW.step
    ·simp
     intros;rfl
    obtain rfl:=oi h
    refine AW.ret ?_
    try simp only[nm]
    refine rP_i ?_
    refine Left.plain hnb (by simp[Tryz.f51,resV,resC,comp];rfl) rfl rfl ?_
    simp
   |false =>
    replace h:=iteF rfl h
    refine AW.cond_false (by simp) ?_
    refine AW.skip ?_
    try simp only[nm]
    replace h:=ltE h;obtain⟨v8,e8,h⟩:=h
    apply AW.last
    ·simp[← e8]
     intros;rfl
    obtain rfl:=oi h
    refine nP_i ?_
    refine Weak.mixN [] hn0 (by decide) ?_ ?_ rfl
    all_goals first|(simp[Aa,Ab,pickOb];done)|rfl
  |false =>
   replace h:=iteF rfl h
   refine AW.cond_false (by simp) ?_
   refine AW.exit ?_
   try simp only[nm]
   obtain rfl:=oi h
   try simp only[sp_l,sp_r]
   refine xP_i ?_
   refine Weak.mixN [] hn0 (by decide) ?_ ?_ rfl
   all_goals first|(simp[Aa,Ab,pickOb];done)|rfl
 ·rintro e s hp
  rcases y3 with y9|y10
  ·replace h:=smL h
   obtain⟨rfl,hw⟩:=hp
   refine⟨_,hw,?_⟩
   try simp only[nm]
   apply AW.step
   ·simp
    intros;rfl
   obtain rfl:=oi h
   refine AW.ret ?_
   refine Left.plain hnb (by simp[Tryz.f51,resV,resC,comp];rfl) rfl rfl ?_
   simp
  ·replace h:=smR h
   obtain⟨rfl,hl⟩:=hp
   refine⟨_,Weak.refl _,?_⟩
   obtain rfl:=oi h
   exact hl
theorem JK:Enters Tryz.prog 51:=enters Tryz.func51 (by kernel_rfl) rfl
def Bn (n:Nat) (a0:Seen) (a1:Msg):Option Int :=
bn (A3 n a0.node a1.frm) fun v1 =>
bn (A3 n a0.slot a1.slot) fun v2 =>
chk (room 2 1) <|
bn (CP n [v1,v2]) fun v4 =>
some v4
theorem Gi {n:Nat} {a0:Seen} {a1:Msg} {r:Int} (h:Bn n a0 a1=some r):Sound Tryz.prog 50 [.g [.s (.int .i64 a0.node),.s (.int .i64 a0.slot),.s (.int .i64 a0.num)],.g [.s (.int .i64 a1.kind),.s (.int .i64 a1.frm),.s (.int .i64 a1.to),.s (.int .i64 a1.epoch),.d false 4 (encClaim a1.claims),.d false 1 (encI a1.nodes),.s (.int .i64 a1.node),.s (.int .i64 a1.slot),.s (.int .i64 a1.num),.s (.int .i64 a1.rid.node),.s (.int .i64 a1.rid.epoch),.s (.int .i64 a1.prev.node),.s (.int .i64 a1.prev.epoch),.s (.int .i64 a1.off),.d false 7 (encEffect a1.effects)]] [] (.l (.s (.int .i64 r))) []:=by
 unfold Bn at h
 refine Sound.of_aw (fn:=Tryz.f50) (c:=_) Tryz.func50 rfl (by simp[Tryz.f50]) fun cx hG hnb=>?_
 rw[show Tryz.f50.ntmps=17 from rfl]
 have hn0:cx.nb=0:=hnb
 simp only[An,initTm,List.map_cons,List.map_nil]
 apply AW.step
 ·simp
  intros;rfl
 replace h:=bnE h;obtain⟨v1,e1,h⟩:=h
 replace h:=bnE h;obtain⟨v2,e2,h⟩:=h
 replace h:=chkE h;obtain⟨e3,h⟩:=h
 replace h:=bnE h;obtain⟨v4,e4,h⟩:=h
 apply AW.drawnP (V:=[_,_,_,_,_,_,_,_,_]) mixed [⟨[0],[],[(2,none)],false⟩,⟨[0],[0],[(5,some 0)],false⟩,⟨[0],[],[(3,none)],false⟩,⟨[0],[2],[(7,some 2)],false⟩,⟨[0],[0,1,2,3],[(6,some 1),(8,some 3)],false⟩,⟨[0],[],[(2,none)],false⟩,⟨[0],[5],[(10,some 5)],false⟩,⟨[0],[],[(3,none)],false⟩,⟨[0],[7],[(12,some 7)],false⟩,⟨[],[0,1,2,3,4,5,6,7,8],[],false⟩,⟨[],[0,1,2,3,4,5,6,7,8,9],[],false⟩,⟨[],[0,1,2,3,4,5,6,7,8,9,10],[],false⟩,⟨[],[0,1,2,3,4,5,6,7,8,9,10,11],[],false⟩] 9 (by kernel_rfl) (by kernel_rfl)
 ·refine⟨?_,?_,?_,?_,?_,?_,?_,?_,?_,trivial⟩
  iterate 4 (· intro tm hr;simp[AllL,rdV] at hr;simp[hr];intros;first|exact KD.mk|exact KD.mkN)
  ·intro tm hr
   simp[AllL,rdV] at hr
   simp[hr]
   intros
   refine Ae Ch (Cn e1) rfl ⟨.same rfl,.same rfl,trivial⟩ ?_
   try simp[]
   intros;first|exact KD.mk|exact KD.mkN
  iterate 4 (· intro tm hr;simp[AllL,rdV] at hr;simp[hr];intros;first|exact KD.mk|exact KD.mkN)
 ·rfl
 ·simp[tmD,putD];rfl
 ·simp
  intros
  refine Ae Ch (Cn e2) rfl ⟨.same rfl,.same rfl,trivial⟩ ?_
  try simp[]
  intros
  refine Ay ?_
  try simp[]
  intros
  refine Ae JK (KF e4) rfl ⟨.rowd (by simp[MS]) rfl (by omega) (Dl _) (by simp) (by first|exact (Ah e3).2|simpa using (Ah e3).2|simp),trivial⟩ ?_
  try simp[]
  intros;rfl
 obtain rfl:=oi h
 refine AW.ret ?_
 refine Left.plain hnb (by simp[Tryz.f50,resV,resC,comp];rfl) rfl rfl ?_
 simp
theorem FJ:Enters Tryz.prog 50:=enters Tryz.func50 (by kernel_rfl) rfl
def AX (n:Nat) (a0:List Seen) (a1:Msg):Option (Int×Bool) :=
lt (lenI a0) fun v1 =>
bn (iter n (fun (y2:Int×Int) =>
lt (ltI y2.1 y2.2) fun v5 =>
ite' v5 (lt (addI .i64 y2.1 y2.2) fun v6 =>
lt (cvI .u64 v6) fun v7 =>
bn (shrI .u64 v7 1) fun v8 =>
lt (cvI .i64 v8) fun v9 =>
bn (nth a0 v9) fun v10 =>
bn (Bn n v10 a1) fun v11 =>
lt (ltI v11 0) fun v12 =>
ite' v12 (lt (addI .i64 v9 1) fun v13 =>
some (.inl (v13,y2.2))) (some (.inl (y2.1,v9)))) (some (.inr y2.1))) (0,v1)) fun (y3:Int) =>
bn (lt (ltI y3 v1) fun v15 =>
ite' v15 (bn (nth a0 y3) fun v16 =>
bn (Bn n v16 a1) fun v17 =>
lt (eqI v17 0) fun v18 =>
some (v18)) (some (false))) fun (y14:Bool) =>
some (y3,y14)
def DY4t2:List DI:=[⟨[0],[],[(9,none)],false⟩,⟨[0],[],[(9,none)],false⟩,⟨[0],[],[(8,none)],false⟩,⟨[0],[1,2],[(36,some 1),(37,some 2)],false⟩,⟨[0],[1,2,3],[(38,some 3)],false⟩,⟨[0],[1,2,3,4],[(2,none),(39,some 4)],false⟩,⟨[0],[1,2,3,4],[(0,none),(39,some 4)],false⟩,⟨[0],[1,2,3,4],[(9,none),(39,some 4)],false⟩,⟨[0],[1,2,3,4,6,7],[(39,some 4),(41,some 6),(42,some 7)],false⟩,⟨[0],[1,2,3,4,6,7,8],[(39,some 4),(43,some 8)],false⟩,⟨[0],[1,2,3,4],[(4,none),(39,some 4)],false⟩,⟨[0],[1,2,3,4,5,6,7,8,9,10],[(39,some 4),(40,some 5),(44,some 9),(45,some 10)],false⟩,⟨[0],[1,2,3,4,5,6,7,8,9,10,11],[(39,some 4),(46,some 11)],false⟩,⟨[0],[1,2,3,4,5,6,7,8,9,10,11,12],[(39,some 4),(47,some 12)],false⟩,⟨[0],[0,1,2,3,4,5,6,7,8,9,10,11],[(35,some 0)],false⟩,⟨[],[0,1,2,3,4,5,6,7,8,9,10,11,12,13,14],[],false⟩]
theorem DG {n:Nat} {a0:List Seen} {a1:Msg} {r:Int×Bool} (h:AX n a0 a1=some r):Sound Tryz.prog 49 [.l (.d true 3 (encSeen a0)),.g [.s (.int .i64 a1.kind),.s (.int .i64 a1.frm),.s (.int .i64 a1.to),.s (.int .i64 a1.epoch),.d false 4 (encClaim a1.claims),.d false 1 (encI a1.nodes),.s (.int .i64 a1.node),.s (.int .i64 a1.slot),.s (.int .i64 a1.num),.s (.int .i64 a1.rid.node),.s (.int .i64 a1.rid.epoch),.s (.int .i64 a1.prev.node),.s (.int .i64 a1.prev.epoch),.s (.int .i64 a1.off),.d false 7 (encEffect a1.effects)],.l (.s (.func (.func 50) #[] #[]))] [] (.t [(false,[.s (.int .i64 r.1)]),(false,[.s (.bool r.2)])]) []:=by
 unfold AX at h
 refine Sound.of_aw (fn:=Tryz.f49) (c:=_) Tryz.func49 rfl (by simp[Tryz.f49]) fun cx hG hnb=>?_
 rw[show Tryz.f49.ntmps=49 from rfl]
 have hn0:cx.nb=0:=hnb
 simp only[An,initTm,List.map_cons,List.map_nil]
 apply AW.step
 ·simp
  intros;rfl
 replace h:=ltE h;obtain⟨v1,e1,h⟩:=h
 apply AW.step
 ·simp[Ad e1]
  intros;rfl
 apply AW.step
 ·simp
  intros;rfl
 refine AW.seq ?_
 refine AW.block ?_
 replace h:=bnE h;obtain⟨y3,g3,h⟩:=h
 refine AW.iterP g3 (mk:=fun gh ls q=>(⟨[(0,.l (.d true 3 (encSeen a0))),(2,.l (.s (.func (.func 50) #[] #[]))),(4,.l (.p 0 0)),(8,.l (.s (.int .i64 v1))),(9,.l (.s (.int .i64 q.1))),(10,.l (.s (.int .i64 q.2)))],[some ⟨49,15,false,none,[.s (.int .i64 a1.kind),.s (.int .i64 a1.frm),.s (.int .i64 a1.to),.s (.int .i64 a1.epoch),.d false 4 (encClaim a1.claims),.d false 1 (encI a1.nodes),.s (.int .i64 a1.node),.s (.int .i64 a1.slot),.s (.int .i64 a1.num),.s (.int .i64 a1.rid.node),.s (.int .i64 a1.rid.epoch),.s (.int .i64 a1.prev.node),.s (.int .i64 a1.prev.epoch),.s (.int .i64 a1.off),.d false 7 (encEffect a1.effects)]⟩],49,gh,ls⟩:St)) (N:=fun gh ls=>(xP 0 (cx:=cx) (fun q=>(⟨[(0,.l (.d true 3 (encSeen a0))),(2,.l (.s (.func (.func 50) #[] #[]))),(4,.l (.p 0 0)),(8,.l (.s (.int .i64 v1))),(9,.l (.s (.int .i64 q)))],[some ⟨49,15,false,none,[.s (.int .i64 a1.kind),.s (.int .i64 a1.frm),.s (.int .i64 a1.to),.s (.int .i64 a1.epoch),.d false 4 (encClaim a1.claims),.d false 1 (encI a1.nodes),.s (.int .i64 a1.node),.s (.int .i64 a1.slot),.s (.int .i64 a1.num),.s (.int .i64 a1.rid.node),.s (.int .i64 a1.rid.epoch),.s (.int .i64 a1.prev.node),.s (.int .i64 a1.prev.epoch),.s (.int .i64 a1.off),.d false 7 (encEffect a1.effects)]⟩],49,gh,ls⟩:St)))) ?_ noX ?_ ?_
 ·refine Weak.mixN [some 0] hn0 (by decide) ?_ ?_ rfl
  all_goals first|(simp[Aa,Ab,pickOb];done)|rfl
 ·clear h;intro y2 y4 h
  refine AW.seq ?_
  replace h:=ltE h;obtain⟨v5,e5,h⟩:=h
  apply AW.step
  ·simp[← e5]
   intros;rfl
  cases v5 with
  |true =>
   replace h:=iteT rfl h
   refine AW.cond_true (by simp) ?_
   refine AW.skip ?_
   try simp only[nm]
   refine AW.block ?_
   replace h:=ltE h;obtain⟨v6,e6,h⟩:=h
   replace h:=ltE h;obtain⟨v7,e7,h⟩:=h
   replace h:=bnE h;obtain⟨v8,e8,h⟩:=h
   replace h:=ltE h;obtain⟨v9,e9,h⟩:=h
   apply AW.step
   ·simp[← e6,← e7,e8,← e9]
    intros;rfl
   replace h:=bnE h;obtain⟨v10,e10,h⟩:=h
   replace h:=bnE h;obtain⟨v11,e11,h⟩:=h
   replace h:=ltE h;obtain⟨v12,e12,h⟩:=h
   apply AW.drawnP (V:=[_,_,_,_,_,_]) mixed [⟨[0],[],[(2,none)],false⟩,⟨[0],[],[(0,none)],false⟩,⟨[0],[],[(11,none)],false⟩,⟨[0],[1,2],[(25,some 1),(26,some 2)],false⟩,⟨[0],[1,2,3],[(27,some 3)],false⟩,⟨[0],[],[(4,none)],false⟩,⟨[],[0,1,2,3,4,5],[],false⟩,⟨[],[0,1,2,3,4,5,6],[],false⟩] 6 (by kernel_rfl) (by kernel_rfl)
   ·refine⟨?_,?_,?_,?_,?_,?_,trivial⟩
    iterate 6 (· intro tm hr;simp[AllL,rdV] at hr;simp[hr,Ac e10,← e12];intros;first|exact KD.mk|exact KD.mkN)
   ·rfl
   ·simp[tmD,putD,Ac e10,← e12];rfl
   ·simp[Ac e10,← e12]
    intros
    refine Ae FJ (Gi e11) rfl ⟨.same rfl,.same rfl,trivial⟩ ?_
    try simp[Ac e10,← e12]
    intros;rfl
   cases v12 with
   |true =>
    replace h:=iteT rfl h
    refine AW.cond_true (by simp) ?_
    replace h:=ltE h;obtain⟨v13,e13,h⟩:=h
    apply AW.last
    ·simp[← e13]
     intros;rfl
    obtain rfl:=oi h
    refine nP_i ?_
    refine Weak.mixN [some 0] hn0 (by decide) ?_ ?_ rfl
    all_goals first|(simp[Aa,Ab,pickOb];done)|rfl
   |false =>
    replace h:=iteF rfl h
    refine AW.cond_false (by simp) ?_
    apply AW.last
    ·simp
     intros;rfl
    obtain rfl:=oi h
    refine nP_i ?_
    refine Weak.mixN [some 0] hn0 (by decide) ?_ ?_ rfl
    all_goals first|(simp[Aa,Ab,pickOb];done)|rfl
  |false =>
   replace h:=iteF rfl h
   refine AW.cond_false (by simp) ?_
   refine AW.exit ?_
   try simp only[nm]
   obtain rfl:=oi h
   refine xP_i ?_
   refine Weak.mixN [some 0] hn0 (by decide) ?_ ?_ rfl
   all_goals first|(simp[Aa,Ab,pickOb];done)|rfl
 ·rintro e s hp
  obtain⟨rfl,hw⟩:=hp
  refine⟨_,hw,?_⟩
  try simp only[nm]
  replace h:=bnE h;obtain⟨y14,g14,h⟩:=h
  refine AW.flow (p:=fun gh ls=>(nP (cx:=cx) (fun q=>(⟨[(6,.l (.s (.int .i64 y3))),(7,.l (.s (.bool q)))],[],49,gh,ls⟩:St))) y14) ?_ ?_
  ·replace h:=g14;clear g14
   replace h:=ltE h;obtain⟨v15,e15,h⟩:=h
   cases v15 with
   |true =>
    replace h:=iteT rfl h
    replace h:=bnE h;obtain⟨v16,e16,h⟩:=h
    replace h:=bnE h;obtain⟨v17,e17,h⟩:=h
    replace h:=ltE h;obtain⟨v18,e18,h⟩:=h
    apply AW.drawnR (V:=[_,_,_,_,_,_,_,_,_,_,_,_,_,_,_]) mixed DY4t2 15 (by kernel_rfl) (by kernel_rfl)
    ·refine⟨?_,?_,?_,?_,?_,?_,?_,?_,?_,?_,?_,?_,?_,?_,?_,trivial⟩
     iterate 11 (· intro tm hr;simp[AllL,rdV] at hr;simp[hr,← e15,Ac e16,← e18];intros;first|exact KD.mk|exact KD.mkN)
     ·intro tm hr
      simp[AllL,rdV] at hr
      simp[hr,← e15,Ac e16,← e18]
      intros
      refine Ae FJ (Gi e17) rfl ⟨.same rfl,.same rfl,trivial⟩ ?_
      try simp[← e15,Ac e16,← e18]
      intros;first|exact KD.mk|exact KD.mkN
     iterate 3 (· intro tm hr;simp[AllL,rdV] at hr;simp[hr,← e15,Ac e16,← e18];intros;first|exact KD.mk|exact KD.mkN)
    ·rfl
    ·simp[tmD,putD,← e15,Ac e16,← e18];rfl
    ·simp[← e15,Ac e16,← e18]
     intros;rfl
    obtain rfl:=oi h
    refine nP_i ?_
    refine Weak.mixN [] hn0 (by decide) ?_ ?_ rfl
    all_goals first|(simp[Aa,Ab,pickOb];done)|rfl
   |false =>
    replace h:=iteF rfl h
    apply AW.drawnR (V:=[_,_,_,_,_,_,_,_,_,_,_,_,_,_,_]) mixed DY4t2 15 (by kernel_rfl) (by kernel_rfl)
    ·refine⟨?_,?_,?_,?_,?_,?_,?_,?_,?_,?_,?_,?_,?_,?_,?_,trivial⟩
     iterate 15 (· intro tm hr;simp[AllL,rdV] at hr;simp[hr,← e15];intros;first|exact KD.mk|exact KD.mkN)
    ·rfl
    ·simp[tmD,putD,← e15];rfl
    ·simp[← e15]
     intros;rfl
    obtain rfl:=oi h
    refine nP_i ?_
    refine Weak.mixN [] hn0 (by decide) ?_ ?_ rfl
    all_goals first|(simp[Aa,Ab,pickOb];done)|rfl
  ·rintro e s hp
   obtain⟨rfl,hw⟩:=hp
   refine⟨_,hw,?_⟩
   try simp only[nm]
   obtain rfl:=oi h
   refine AW.ret ?_
   refine Left.plain hnb (by simp[Tryz.f49,resV,resC,comp];rfl) rfl rfl ?_
   simp
theorem Dq:Enters Tryz.prog 49:=enters Tryz.func49 (by kernel_rfl) rfl
def Bo (n:Nat) (a0:Node) (a1:List Effect):Option Node :=
bn (BW n a0.db a1) fun v1 =>
bn (CU n a0.feed a1) fun v2 =>
some (⟨a0.count,a0.id,a0.master,a0.epoch,a0.voted,a0.claims,v1,a0.moves,a0.last,a0.seen,v2,a0.watch,a0.asked,a0.votes,a0.wait⟩:Node)
theorem Hc {n:Nat} {a0:Node} {a1:List Effect} {r:Node} (h:Bo n a0 a1=some r):Sound Tryz.prog 41 [.g [.s (.int .i64 a0.count),.s (.int .i64 a0.id),.s (.int .i64 a0.master),.s (.int .i64 a0.epoch),.s (.int .i64 a0.voted),.d false 4 (encClaim a0.claims),.d false 6 (encPair a0.db),.d false 4 (encMove a0.moves),.s (.int .i64 a0.last),.r 0 3 0 a0.seen.length,.s (.int .i64 a0.feed.rid.node),.s (.int .i64 a0.feed.rid.epoch),.s (.int .i64 a0.feed.off),.d false 7 (encEffect a0.feed.back),.s (.int .i64 a0.feed.prev.node),.s (.int .i64 a0.feed.prev.epoch),.s (.int .i64 a0.feed.upto),.d false 1 (encI a0.watch.heard),.d false 1 (encLI a0.watch.says),.s (.int .i64 a0.asked),.d false 1 (encI a0.votes),.s (.int .i64 a0.wait)],.l (.d false 7 (encEffect a1))] [⟨100,3,true,none,lvs (encSeen a0.seen)⟩] (.g [.s (.int .i64 r.count),.s (.int .i64 r.id),.s (.int .i64 r.master),.s (.int .i64 r.epoch),.s (.int .i64 r.voted),.d false 4 (encClaim r.claims),.d false 6 (encPair r.db),.d false 4 (encMove r.moves),.s (.int .i64 r.last),.r 0 3 0 r.seen.length,.s (.int .i64 r.feed.rid.node),.s (.int .i64 r.feed.rid.epoch),.s (.int .i64 r.feed.off),.d false 7 (encEffect r.feed.back),.s (.int .i64 r.feed.prev.node),.s (.int .i64 r.feed.prev.epoch),.s (.int .i64 r.feed.upto),.d false 1 (encI r.watch.heard),.d false 1 (encLI r.watch.says),.s (.int .i64 r.asked),.d false 1 (encI r.votes),.s (.int .i64 r.wait)]) [some ⟨100,3,true,none,lvs (encSeen r.seen)⟩]:=by
 unfold Bo at h
 refine Sound.of_aw (fn:=Tryz.f41) (c:=_) Tryz.func41 rfl (by simp[Tryz.f41]) fun cx hG hnb=>?_
 rw[show Tryz.f41.ntmps=16 from rfl]
 have hn0:cx.nb=1:=hnb
 simp only[An,initTm,List.map_cons,List.map_nil]
 apply AW.step
 ·simp
  intros;rfl
 replace h:=bnE h;obtain⟨v1,e1,h⟩:=h
 replace h:=bnE h;obtain⟨v2,e2,h⟩:=h
 apply AW.drawnP (V:=[_,_,_,_,_,_,_,_,_]) mixed [⟨[0],[],[(2,none)],false⟩,⟨[0],[0],[(5,some 0)],false⟩,⟨[0],[],[(1,none)],false⟩,⟨[0],[0,1,2],[(6,some 1),(7,some 2)],false⟩,⟨[0],[],[(2,none)],false⟩,⟨[0],[4],[(9,some 4)],false⟩,⟨[0],[],[(1,none)],false⟩,⟨[0],[0,1,2,3,4,5,6],[(10,some 5),(11,some 6)],false⟩,⟨[0],[0,1,2,3,4,5],[(2,none)],false⟩,⟨[],[0,1,2,3,4,5,6,7,8],[],false⟩,⟨[],[0,1,2,3,4,5,6,7,8,9],[],false⟩,⟨[],[0,1,2,3,4,5,6,7,8,9,10],[],false⟩] 9 (by kernel_rfl) (by kernel_rfl)
 ·refine⟨?_,?_,?_,?_,?_,?_,?_,?_,?_,trivial⟩
  iterate 3 (· intro tm hr;simp[AllL,rdV] at hr;simp[hr];intros;first|exact KD.mk|exact KD.mkN)
  ·intro tm hr
   simp[AllL,rdV] at hr
   simp[hr]
   intros
   refine Ae FF (Ge e1) rfl ⟨.same rfl,.same rfl,trivial⟩ ?_
   try simp[]
   intros;first|exact KD.mk|exact KD.mkN
  iterate 3 (· intro tm hr;simp[AllL,rdV] at hr;simp[hr];intros;first|exact KD.mk|exact KD.mkN)
  ·intro tm hr
   simp[AllL,rdV] at hr
   simp[hr]
   intros
   refine Ae Hl (H7 e2) rfl ⟨.same rfl,.same rfl,trivial⟩ ?_
   try simp[]
   intros;first|exact KD.mk|exact KD.mkN
  ·intro tm hr;simp[AllL,rdV] at hr;simp[hr];intros;first|exact KD.mk|exact KD.mkN
 ·rfl
 ·simp[tmD,putD];rfl
 ·simp
  intros;rfl
 apply AW.step
 ·simp
  intros;rfl
 obtain rfl:=oi h
 refine AW.ret ?_
 refine Left.of (av:=_) (by simp[Tryz.f41,resV,resC,comp];rfl) ?_
 exact LeftV.mix 1 [some 0] hn0 rfl (by decide) rfl (by simp[pickOb,Aa,Ab]) (by simp[Aa,Ab])
theorem GP:Enters Tryz.prog 41:=enters Tryz.func41 (by kernel_rfl) rfl
def B3 (n:Nat) (a0:Node) (a1:Msg):Option (Node×List Msg) :=
bn (Bu n a0) fun v1 =>
bn (lt (neI v1.master (-1)) fun v3 =>
ite' v3 (some (true)) (bn (DF n a1) fun v4 =>
lt (notB v4) fun v5 =>
some (v5))) fun (y2:Bool) =>
lt (y2) fun v6 =>
ite' v6 (chk (room v1.seen.length 1) <|
some (v1,[])) (chk (room v1.seen.length 1) <|
bn (AX n v1.seen a1) fun v9 =>
bn (bn (lt (notB v9.2) fun v12 =>
ite' v12 (some (true)) (bn (nth v1.seen v9.1) fun v13 =>
lt (ltI v13.num a1.num) fun v15 =>
some (v15))) fun (y11:Bool) =>
lt (y11) fun v16 =>
ite' v16 (bn (Bo n v1 a1.effects) fun v17 =>
bn (lt (notB v9.2) fun v19 =>
ite' v19 (chk (insB v17.seen v9.1) <|
lt (insL v17.seen v9.1.toNat (⟨a1.frm,a1.slot,0⟩:Seen)) fun v21 =>
some (v21)) (some (v17.seen))) fun (y18:List Seen) =>
bn (nth y18 v9.1) fun v22 =>
lt (y18.set v9.1.toNat (⟨v22.node,v22.slot,a1.num⟩:Seen)) fun v24 =>
some ((v17.count,v17.id,v17.master,v17.epoch,v17.voted,v17.claims,v17.db,v17.moves,v17.last,v17.feed.rid.node,v17.feed.rid.epoch,v17.feed.off,v17.feed.back,v17.feed.prev.node,v17.feed.prev.epoch,v17.feed.upto,v17.watch.heard,v17.watch.says,v17.asked,v17.votes,v17.wait,v24))) (some ((v1.count,v1.id,v1.master,v1.epoch,v1.voted,v1.claims,v1.db,v1.moves,v1.last,v1.feed.rid.node,v1.feed.rid.epoch,v1.feed.off,v1.feed.back,v1.feed.prev.node,v1.feed.prev.epoch,v1.feed.upto,v1.watch.heard,v1.watch.says,v1.asked,v1.votes,v1.wait,v1.seen)))) fun (y10:Int×Int×Int×Int×Int×List Claim×List Pair×List Move×Int×Int×Int×Int×List Effect×Int×Int×Int×List Int×List (List Int)×Int×List Int×Int×List Seen) =>
chk (room y10.2.2.2.2.2.2.2.2.2.2.2.2.2.2.2.2.2.2.2.2.2.length 1) <|
some ((⟨y10.1,y10.2.1,y10.2.2.1,y10.2.2.2.1,y10.2.2.2.2.1,y10.2.2.2.2.2.1,y10.2.2.2.2.2.2.1,y10.2.2.2.2.2.2.2.1,y10.2.2.2.2.2.2.2.2.1,y10.2.2.2.2.2.2.2.2.2.2.2.2.2.2.2.2.2.2.2.2.2,(⟨(⟨y10.2.2.2.2.2.2.2.2.2.1,y10.2.2.2.2.2.2.2.2.2.2.1⟩:Rid),y10.2.2.2.2.2.2.2.2.2.2.2.1,y10.2.2.2.2.2.2.2.2.2.2.2.2.1,(⟨y10.2.2.2.2.2.2.2.2.2.2.2.2.2.1,y10.2.2.2.2.2.2.2.2.2.2.2.2.2.2.1⟩:Rid),y10.2.2.2.2.2.2.2.2.2.2.2.2.2.2.2.1⟩:Feed),(⟨y10.2.2.2.2.2.2.2.2.2.2.2.2.2.2.2.2.1,y10.2.2.2.2.2.2.2.2.2.2.2.2.2.2.2.2.2.1⟩:Watch),y10.2.2.2.2.2.2.2.2.2.2.2.2.2.2.2.2.2.2.1,y10.2.2.2.2.2.2.2.2.2.2.2.2.2.2.2.2.2.2.2.1,y10.2.2.2.2.2.2.2.2.2.2.2.2.2.2.2.2.2.2.2.2.1⟩:Node),[(⟨3,y10.2.1,a1.frm,0,[],[],0,a1.slot,a1.num,(⟨0,0⟩:Rid),(⟨0,0⟩:Rid),0,[]⟩:Msg)]))
def DY4t3:List DI:=[⟨[0],[],[(7,none)],false⟩,⟨[0],[0],[(26,some 0)],false⟩,⟨[0],[0,1],[(27,some 1)],false⟩,⟨[0],[0,1,2],[(2,none),(28,some 2)],false⟩,⟨[0],[0,1,2,3],[(28,some 2),(29,some 3)],false⟩,⟨[0],[0,1,2],[(6,none),(28,some 2)],false⟩,⟨[0],[0,1,2,3,4,5],[(28,some 2),(30,some 4),(31,some 5)],false⟩,⟨[0],[0,1,2,3,4,5,6],[(28,some 2),(32,some 6)],false⟩,⟨[0],[0,1,2,3,4,5,6,7],[(28,some 2),(33,some 7)],false⟩,⟨[0],[0,1,2],[(3,none),(28,some 2)],false⟩,⟨[0],[0,1,2,9],[(28,some 2),(35,some 9)],false⟩,⟨[],[0,1,2,3,4,5,6,7,8,9,10],[],false⟩,⟨[],[0,1,2,3,4,5,6,7,8,9,10,11],[],false⟩]
theorem Hp {n:Nat} {a0:Node} {a1:Msg} {r:Node×List Msg} (h:B3 n a0 a1=some r):Sound Tryz.prog 16 [.g [.s (.int .i64 a0.count),.s (.int .i64 a0.id),.s (.int .i64 a0.master),.s (.int .i64 a0.epoch),.s (.int .i64 a0.voted),.d false 4 (encClaim a0.claims),.d false 6 (encPair a0.db),.d false 4 (encMove a0.moves),.s (.int .i64 a0.last),.d false 3 (encSeen a0.seen),.s (.int .i64 a0.feed.rid.node),.s (.int .i64 a0.feed.rid.epoch),.s (.int .i64 a0.feed.off),.d false 7 (encEffect a0.feed.back),.s (.int .i64 a0.feed.prev.node),.s (.int .i64 a0.feed.prev.epoch),.s (.int .i64 a0.feed.upto),.d false 1 (encI a0.watch.heard),.d false 1 (encLI a0.watch.says),.s (.int .i64 a0.asked),.d false 1 (encI a0.votes),.s (.int .i64 a0.wait)],.g [.s (.int .i64 a1.kind),.s (.int .i64 a1.frm),.s (.int .i64 a1.to),.s (.int .i64 a1.epoch),.d false 4 (encClaim a1.claims),.d false 1 (encI a1.nodes),.s (.int .i64 a1.node),.s (.int .i64 a1.slot),.s (.int .i64 a1.num),.s (.int .i64 a1.rid.node),.s (.int .i64 a1.rid.epoch),.s (.int .i64 a1.prev.node),.s (.int .i64 a1.prev.epoch),.s (.int .i64 a1.off),.d false 7 (encEffect a1.effects)]] [] (.t [(true,[.s (.int .i64 r.1.count),.s (.int .i64 r.1.id),.s (.int .i64 r.1.master),.s (.int .i64 r.1.epoch),.s (.int .i64 r.1.voted),.d false 4 (encClaim r.1.claims),.d false 6 (encPair r.1.db),.d false 4 (encMove r.1.moves),.s (.int .i64 r.1.last),.d false 3 (encSeen r.1.seen),.s (.int .i64 r.1.feed.rid.node),.s (.int .i64 r.1.feed.rid.epoch),.s (.int .i64 r.1.feed.off),.d false 7 (encEffect r.1.feed.back),.s (.int .i64 r.1.feed.prev.node),.s (.int .i64 r.1.feed.prev.epoch),.s (.int .i64 r.1.feed.upto),.d false 1 (encI r.1.watch.heard),.d false 1 (encLI r.1.watch.says),.s (.int .i64 r.1.asked),.d false 1 (encI r.1.votes),.s (.int .i64 r.1.wait)]),(false,[.d false 15 (encMsg r.2)])]) []:=by
 unfold B3 at h
 refine Sound.of_aw (fn:=Tryz.f16) (c:=_) Tryz.func16 rfl (by simp[Tryz.f16]) fun cx hG hnb=>?_
 rw[show Tryz.f16.ntmps=74 from rfl]
 have hn0:cx.nb=0:=hnb
 simp only[An,initTm,List.map_cons,List.map_nil]
 apply AW.step
 ·simp
  intros;rfl
 replace h:=bnE h;obtain⟨v1,e1,h⟩:=h
 apply AW.step
 ·simp[outR]
  intros
  refine As F5 (Gk e1) rfl (by simp) ⟨.same rfl,trivial⟩ ?_
  try simp[outR]
  intros;rfl
 refine AW.seq ?_
 replace h:=bnE h;obtain⟨y2,g2,h⟩:=h
 refine AW.flow (p:=fun gh ls=>(nP (cx:=cx) (fun q=>(⟨[(2,.l (.p 0 0)),(3,.l (.p 1 0)),(4,.l (.p 2 0)),(17,.l (.s (.bool q)))],[some ⟨38,22,false,none,[.s (.int .i64 v1.count),.s (.int .i64 v1.id),.s (.int .i64 v1.master),.s (.int .i64 v1.epoch),.s (.int .i64 v1.voted),.d false 4 (encClaim v1.claims),.d false 6 (encPair v1.db),.d false 4 (encMove v1.moves),.s (.int .i64 v1.last),.r 3 3 0 v1.seen.length,.s (.int .i64 v1.feed.rid.node),.s (.int .i64 v1.feed.rid.epoch),.s (.int .i64 v1.feed.off),.d false 7 (encEffect v1.feed.back),.s (.int .i64 v1.feed.prev.node),.s (.int .i64 v1.feed.prev.epoch),.s (.int .i64 v1.feed.upto),.d false 1 (encI v1.watch.heard),.d false 1 (encLI v1.watch.says),.s (.int .i64 v1.asked),.d false 1 (encI v1.votes),.s (.int .i64 v1.wait)]⟩,some ⟨49,15,false,none,[.s (.int .i64 a1.kind),.s (.int .i64 a1.frm),.s (.int .i64 a1.to),.s (.int .i64 a1.epoch),.d false 4 (encClaim a1.claims),.d false 1 (encI a1.nodes),.s (.int .i64 a1.node),.s (.int .i64 a1.slot),.s (.int .i64 a1.num),.s (.int .i64 a1.rid.node),.s (.int .i64 a1.rid.epoch),.s (.int .i64 a1.prev.node),.s (.int .i64 a1.prev.epoch),.s (.int .i64 a1.off),.d false 7 (encEffect a1.effects)]⟩,some ⟨38,22,false,none,[.s (.int .i64 0),.s (.int .i64 0),.s (.int .i64 0),.s (.int .i64 0),.s (.int .i64 0),.s (.slice none 0 0),.s (.slice none 0 0),.s (.slice none 0 0),.s (.int .i64 0),.s (.slice none 0 0),.s (.int .i64 0),.s (.int .i64 0),.s (.int .i64 0),.s (.slice none 0 0),.s (.int .i64 0),.s (.int .i64 0),.s (.int .i64 0),.s (.slice none 0 0),.s (.slice none 0 0),.s (.int .i64 0),.s (.slice none 0 0),.s (.int .i64 0)]⟩,some ⟨100,3,true,none,lvs (encSeen v1.seen)⟩],74,gh,ls⟩:St))) y2) ?_ ?_
 ·replace h:=g2;clear g2
  replace h:=ltE h;obtain⟨v3,e3,h⟩:=h
  cases v3 with
  |true =>
   replace h:=iteT rfl h
   apply AW.last
   ·simp[← e3]
    intros;rfl
   obtain rfl:=oi h
   refine nP_i ?_
   refine Weak.mixN [some 0,some 1,some 2,some 3] hn0 (by decide) ?_ ?_ rfl
   all_goals first|(simp[Aa,Ab,pickOb];done)|rfl
  |false =>
   replace h:=iteF rfl h
   replace h:=bnE h;obtain⟨v4,e4,h⟩:=h
   replace h:=ltE h;obtain⟨v5,e5,h⟩:=h
   apply AW.last
   ·simp[← e3,← e5]
    intros
    refine Ae Ll (Mv e4) rfl ⟨.same rfl,trivial⟩ ?_
    try simp[← e3,← e5]
    intros;rfl
   obtain rfl:=oi h
   refine nP_i ?_
   refine Weak.mixN [some 0,some 1,some 2,some 3] hn0 (by decide) ?_ ?_ rfl
   all_goals first|(simp[Aa,Ab,pickOb];done)|rfl
 ·rintro e s hp
  obtain⟨rfl,hw⟩:=hp
  refine⟨_,hw,?_⟩
  try simp only[nm]
  replace h:=ltE h;obtain⟨v6,e6,h⟩:=h
  rw[← e6]
  cases v6 with
  |true =>
   replace h:=iteT rfl h
   refine AW.cond_true (by simp) ?_
   apply AW.step
   ·simp
    intros;rfl
   replace h:=chkE h;obtain⟨e7,h⟩:=h
   refine AW.frzRow 3 (ty:=100) (cap:=none) (sz:=3) (es:=encSeen v1.seen) (by simp) (by omega) (AK _) (by first|exact (Ah e7).2|simpa using (Ah e7).2|simp) (by simp[Tm.frz,AV.frz,LV.frz];rfl) (by simp[Ob.frz,LV.frz];rfl) rfl ?_
   refine AW.nilD 5 15 (by simp) ?_
   obtain rfl:=oi h
   refine AW.ret ?_
   refine Left.plain hnb (by simp[Tryz.f16,resV,resC,comp];rfl) rfl rfl ?_
   simp
  |false =>
   replace h:=iteF rfl h
   refine AW.cond_false (by simp) ?_
   refine AW.skip ?_
   try simp only[nm]
   replace h:=chkE h;obtain⟨e8,h⟩:=h
   replace h:=bnE h;obtain⟨v9,e9,h⟩:=h
   apply AW.step
   ·simp
    intros
    refine Ae Dq (DG e9) rfl ⟨.rowd (by simp) rfl (by omega) (AK _) (by simp) (by first|exact (Ah e8).2|simpa using (Ah e8).2|simp),.same rfl,.same rfl,trivial⟩ ?_
    try simp
    intros;rfl
   replace h:=bnE h;obtain⟨y10,g10,h⟩:=h
   refine AW.flow (p:=fun gh ls=>(nP (cx:=cx) (fun q=>(⟨[(2,.l (.p 0 0)),(3,.l (.p 1 0)),(4,.l (.p 2 0))],[some ⟨38,22,false,none,[.s (.int .i64 q.1),.s (.int .i64 q.2.1),.s (.int .i64 q.2.2.1),.s (.int .i64 q.2.2.2.1),.s (.int .i64 q.2.2.2.2.1),.d false 4 (encClaim q.2.2.2.2.2.1),.d false 6 (encPair q.2.2.2.2.2.2.1),.d false 4 (encMove q.2.2.2.2.2.2.2.1),.s (.int .i64 q.2.2.2.2.2.2.2.2.1),.r 3 3 0 q.2.2.2.2.2.2.2.2.2.2.2.2.2.2.2.2.2.2.2.2.2.length,.s (.int .i64 q.2.2.2.2.2.2.2.2.2.1),.s (.int .i64 q.2.2.2.2.2.2.2.2.2.2.1),.s (.int .i64 q.2.2.2.2.2.2.2.2.2.2.2.1),.d false 7 (encEffect q.2.2.2.2.2.2.2.2.2.2.2.2.1),.s (.int .i64 q.2.2.2.2.2.2.2.2.2.2.2.2.2.1),.s (.int .i64 q.2.2.2.2.2.2.2.2.2.2.2.2.2.2.1),.s (.int .i64 q.2.2.2.2.2.2.2.2.2.2.2.2.2.2.2.1),.d false 1 (encI q.2.2.2.2.2.2.2.2.2.2.2.2.2.2.2.2.1),.d false 1 (encLI q.2.2.2.2.2.2.2.2.2.2.2.2.2.2.2.2.2.1),.s (.int .i64 q.2.2.2.2.2.2.2.2.2.2.2.2.2.2.2.2.2.2.1),.d false 1 (encI q.2.2.2.2.2.2.2.2.2.2.2.2.2.2.2.2.2.2.2.1),.s (.int .i64 q.2.2.2.2.2.2.2.2.2.2.2.2.2.2.2.2.2.2.2.2.1)]⟩,some ⟨49,15,false,none,[.s (.int .i64 a1.kind),.s (.int .i64 a1.frm),.s (.int .i64 a1.to),.s (.int .i64 a1.epoch),.d false 4 (encClaim a1.claims),.d false 1 (encI a1.nodes),.s (.int .i64 a1.node),.s (.int .i64 a1.slot),.s (.int .i64 a1.num),.s (.int .i64 a1.rid.node),.s (.int .i64 a1.rid.epoch),.s (.int .i64 a1.prev.node),.s (.int .i64 a1.prev.epoch),.s (.int .i64 a1.off),.d false 7 (encEffect a1.effects)]⟩,some ⟨38,22,false,none,[.s (.int .i64 0),.s (.int .i64 0),.s (.int .i64 0),.s (.int .i64 0),.s (.int .i64 0),.s (.slice none 0 0),.s (.slice none 0 0),.s (.slice none 0 0),.s (.int .i64 0),.s (.slice none 0 0),.s (.int .i64 0),.s (.int .i64 0),.s (.int .i64 0),.s (.slice none 0 0),.s (.int .i64 0),.s (.int .i64 0),.s (.int .i64 0),.s (.slice none 0 0),.s (.slice none 0 0),.s (.int .i64 0),.s (.slice none 0 0),.s (.int .i64 0)]⟩,some ⟨100,3,true,none,lvs (encSeen q.2.2.2.2.2.2.2.2.2.2.2.2.2.2.2.2.2.2.2.2.2)⟩],74,gh,ls⟩:St))) y10) ?_ ?_
   ·replace h:=g10;clear g10
    replace h:=bnE h;obtain⟨y11,g11,h⟩:=h
    refine AW.flow (p:=fun gh ls=>(nP (cx:=cx) (fun q=>(⟨[(2,.l (.p 0 0)),(3,.l (.p 1 0)),(4,.l (.p 2 0)),(6,.l (.s (.int .i64 v9.1))),(7,.l (.s (.bool v9.2))),(38,.l (.s (.bool q)))],[some ⟨38,22,false,none,[.s (.int .i64 v1.count),.s (.int .i64 v1.id),.s (.int .i64 v1.master),.s (.int .i64 v1.epoch),.s (.int .i64 v1.voted),.d false 4 (encClaim v1.claims),.d false 6 (encPair v1.db),.d false 4 (encMove v1.moves),.s (.int .i64 v1.last),.r 3 3 0 v1.seen.length,.s (.int .i64 v1.feed.rid.node),.s (.int .i64 v1.feed.rid.epoch),.s (.int .i64 v1.feed.off),.d false 7 (encEffect v1.feed.back),.s (.int .i64 v1.feed.prev.node),.s (.int .i64 v1.feed.prev.epoch),.s (.int .i64 v1.feed.upto),.d false 1 (encI v1.watch.heard),.d false 1 (encLI v1.watch.says),.s (.int .i64 v1.asked),.d false 1 (encI v1.votes),.s (.int .i64 v1.wait)]⟩,some ⟨49,15,false,none,[.s (.int .i64 a1.kind),.s (.int .i64 a1.frm),.s (.int .i64 a1.to),.s (.int .i64 a1.epoch),.d false 4 (encClaim a1.claims),.d false 1 (encI a1.nodes),.s (.int .i64 a1.node),.s (.int .i64 a1.slot),.s (.int .i64 a1.num),.s (.int .i64 a1.rid.node),.s (.int .i64 a1.rid.epoch),.s (.int .i64 a1.prev.node),.s (.int .i64 a1.prev.epoch),.s (.int .i64 a1.off),.d false 7 (encEffect a1.effects)]⟩,some ⟨38,22,false,none,[.s (.int .i64 0),.s (.int .i64 0),.s (.int .i64 0),.s (.int .i64 0),.s (.int .i64 0),.s (.slice none 0 0),.s (.slice none 0 0),.s (.slice none 0 0),.s (.int .i64 0),.s (.slice none 0 0),.s (.int .i64 0),.s (.int .i64 0),.s (.int .i64 0),.s (.slice none 0 0),.s (.int .i64 0),.s (.int .i64 0),.s (.int .i64 0),.s (.slice none 0 0),.s (.slice none 0 0),.s (.int .i64 0),.s (.slice none 0 0),.s (.int .i64 0)]⟩,some ⟨100,3,true,none,lvs (encSeen v1.seen)⟩],74,gh,ls⟩:St))) y11) ?_ ?_
    ·replace h:=g11;clear g11
     replace h:=ltE h;obtain⟨v12,e12,h⟩:=h
     cases v12 with
     |true =>
      replace h:=iteT rfl h
      apply AW.drawnR (V:=[_,_,_,_,_,_,_,_,_,_,_]) mixed DY4t3 11 (by kernel_rfl) (by kernel_rfl)
      ·refine⟨?_,?_,?_,?_,?_,?_,?_,?_,?_,?_,?_,trivial⟩
       iterate 11 (· intro tm hr;simp[AllL,rdV] at hr;simp[hr,← e12];intros;first|exact KD.mk|exact KD.mkN)
      ·rfl
      ·simp[tmD,putD,← e12];rfl
      ·simp[← e12]
       intros;rfl
      obtain rfl:=oi h
      refine nP_i ?_
      refine Weak.mixN [some 0,some 1,some 2,some 3] hn0 (by decide) ?_ ?_ rfl
      all_goals first|(simp[Aa,Ab,pickOb];done)|rfl
     |false =>
      replace h:=iteF rfl h
      replace h:=bnE h;obtain⟨v13,e13,h⟩:=h
      have f14:=AH e13
      try simp[← e12,Ac e13] at f14
      replace h:=ltE h;obtain⟨v15,e15,h⟩:=h
      apply AW.drawnR (V:=[_,_,_,_,_,_,_,_,_,_,_]) mixed DY4t3 11 (by kernel_rfl) (by kernel_rfl)
      ·refine⟨?_,?_,?_,?_,?_,?_,?_,?_,?_,?_,?_,trivial⟩
       iterate 11 (· intro tm hr;simp[AllL,rdV] at hr;simp[hr,← e12,Ac e13,f14,E2 (Ac e13).2 (j:=2) (by decide),lvs1,← e15];intros;first|exact KD.mk|exact KD.mkN)
      ·rfl
      ·simp[tmD,putD,← e12,Ac e13,f14,E2 (Ac e13).2 (j:=2) (by decide),lvs1,← e15];rfl
      ·simp[← e12,Ac e13,f14,E2 (Ac e13).2 (j:=2) (by decide),lvs1,← e15]
       intros;rfl
      obtain rfl:=oi h
      refine nP_i ?_
      refine Weak.mixN [some 0,some 1,some 2,some 3] hn0 (by decide) ?_ ?_ rfl
      all_goals first|(simp[Aa,Ab,pickOb];done)|rfl
    ·rintro e s hp
     obtain⟨rfl,hw⟩:=hp
     refine⟨_,hw,?_⟩
     try simp only[nm]
     replace h:=ltE h;obtain⟨v16,e16,h⟩:=h
     rw[← e16]
     cases v16 with
     |true =>
      replace h:=iteT rfl h
      refine AW.cond_true (by simp) ?_
      replace h:=bnE h;obtain⟨v17,e17,h⟩:=h
      apply AW.step
      ·simp[obAfter,outR,keptR,Aa,Ab]
       intros
       refine BT [3] GP (Hc e17) (by decide) (by simp[pickOb,Aa,Ab]) rfl rfl (by simp) ⟨.g ⟨.s _,.s _,.s _,.s _,.s _,.e _ _,.e _ _,.e _ _,.s _,(.own' (by simp[Aa,Ab]) (by simp)),.s _,.s _,.s _,.e _ _,.s _,.s _,.s _,.e _ _,.e _ _,.s _,.e _ _,.s _,trivial⟩,.l (.e _ _),trivial⟩ ?_
       try simp[obAfter,outR,keptR,Aa,Ab]
       intros;rfl
      replace h:=bnE h;obtain⟨y18,g18,h⟩:=h
      refine AW.flow (p:=fun gh ls=>(nP (cx:=cx) (fun q=>(⟨[(2,.l (.p 0 0)),(3,.l (.p 1 0)),(4,.l (.p 2 0)),(6,.l (.s (.int .i64 v9.1)))],[some ⟨38,22,false,none,[.s (.int .i64 v17.count),.s (.int .i64 v17.id),.s (.int .i64 v17.master),.s (.int .i64 v17.epoch),.s (.int .i64 v17.voted),.d false 4 (encClaim v17.claims),.d false 6 (encPair v17.db),.d false 4 (encMove v17.moves),.s (.int .i64 v17.last),.r 3 3 0 q.length,.s (.int .i64 v17.feed.rid.node),.s (.int .i64 v17.feed.rid.epoch),.s (.int .i64 v17.feed.off),.d false 7 (encEffect v17.feed.back),.s (.int .i64 v17.feed.prev.node),.s (.int .i64 v17.feed.prev.epoch),.s (.int .i64 v17.feed.upto),.d false 1 (encI v17.watch.heard),.d false 1 (encLI v17.watch.says),.s (.int .i64 v17.asked),.d false 1 (encI v17.votes),.s (.int .i64 v17.wait)]⟩,some ⟨49,15,false,none,[.s (.int .i64 a1.kind),.s (.int .i64 a1.frm),.s (.int .i64 a1.to),.s (.int .i64 a1.epoch),.d false 4 (encClaim a1.claims),.d false 1 (encI a1.nodes),.s (.int .i64 a1.node),.s (.int .i64 a1.slot),.s (.int .i64 a1.num),.s (.int .i64 a1.rid.node),.s (.int .i64 a1.rid.epoch),.s (.int .i64 a1.prev.node),.s (.int .i64 a1.prev.epoch),.s (.int .i64 a1.off),.d false 7 (encEffect a1.effects)]⟩,some ⟨38,22,false,none,[.s (.int .i64 0),.s (.int .i64 0),.s (.int .i64 0),.s (.int .i64 0),.s (.int .i64 0),.s (.slice none 0 0),.s (.slice none 0 0),.s (.slice none 0 0),.s (.int .i64 0),.s (.slice none 0 0),.s (.int .i64 0),.s (.int .i64 0),.s (.int .i64 0),.s (.slice none 0 0),.s (.int .i64 0),.s (.int .i64 0),.s (.int .i64 0),.s (.slice none 0 0),.s (.slice none 0 0),.s (.int .i64 0),.s (.slice none 0 0),.s (.int .i64 0)]⟩,some ⟨100,3,true,none,lvs (encSeen q)⟩],74,gh,ls⟩:St))) y18) ?_ ?_
      ·replace h:=g18;clear g18
       replace h:=ltE h;obtain⟨v19,e19,h⟩:=h
       apply AW.step
       ·simp[← e19]
        intros;rfl
       cases v19 with
       |true =>
        replace h:=iteT rfl h
        refine AW.cond_true (by simp) ?_
        replace h:=chkE h;obtain⟨e20,h⟩:=h
        replace h:=ltE h;obtain⟨v21,e21,h⟩:=h
        apply AW.last
        ·simp[obAfter,outR,keptR,Aa,Ab,← e21,Bl e20 e21]
         intros
         refine Ay ?_
         try simp[obAfter,outR,keptR,Aa,Ab,← e21,Bl e20 e21]
         intros
         refine Dt [3,4] [5,6] ⟨_,rfl,rfl,_,rfl,rfl,rfl,rfl⟩ Mi (OZ v17.seen v9.1 (⟨a1.frm,a1.slot,0⟩:Seen) e20) (by decide) rfl rfl (by simp[pickOb,Ki]) rfl rfl rfl (by simp) (by simp) ⟨.l (.own (by simp[Aa,Ab])),.l (.s _),.l (.own (by simp[Aa,Ab])),trivial⟩ ?_
         try simp[obAfter,outR,keptR,Aa,Ab,← e21,Bl e20 e21]
         intros;rfl
        obtain rfl:=oi h
        refine nP_i ?_
        refine Weak.mixN [some 0,some 1,some 2,some 5] hn0 (by decide) ?_ ?_ rfl
        all_goals first|(simp[Aa,Ab,pickOb];done)|rfl
       |false =>
        replace h:=iteF rfl h
        refine AW.cond_false (by simp) ?_
        refine AW.skip ?_
        try simp only[nm]
        obtain rfl:=oi h
        refine nP_i ?_
        refine Weak.mixN [some 0,some 1,some 2,some 3] hn0 (by decide) ?_ ?_ rfl
        all_goals first|(simp[Aa,Ab,pickOb];done)|rfl
      ·rintro e s hp
       obtain⟨rfl,hw⟩:=hp
       refine⟨_,hw,?_⟩
       try simp only[nm]
       replace h:=bnE h;obtain⟨v22,e22,h⟩:=h
       have f23:=AH e22
       try simp[Ac e22] at f23
       replace h:=ltE h;obtain⟨v24,e24,h⟩:=h
       have f25:=K4 (Ac e22).2 e24 (j:=2) (cs:=[.s (.int .i64 a1.num)]) (by simp) rfl
       try simp at f25
       have f26:=f23
       try simp only[Ap e24] at f26
       apply AW.last
       ·simp[Ac e22,f23,Kj (Ac e22).2 (j:=2) (m:=1) (by decide),f25,f26]
        intros;rfl
       obtain rfl:=oi h
       refine nP_i ?_
       refine Weak.mixN [some 0,some 1,some 2,some 3] hn0 (by decide) ?_ ?_ rfl
       all_goals first|(simp[Aa,Ab,pickOb,Ap e24];done)|rfl
     |false =>
      replace h:=iteF rfl h
      refine AW.cond_false (by simp) ?_
      refine AW.skip ?_
      try simp only[nm]
      obtain rfl:=oi h
      refine nP_i ?_
      refine Weak.mixN [some 0,some 1,some 2,some 3] hn0 (by decide) ?_ ?_ rfl
      all_goals first|(simp[Aa,Ab,pickOb];done)|rfl
   ·rintro e s hp
    obtain⟨rfl,hw⟩:=hp
    refine⟨_,hw,?_⟩
    try simp only[nm]
    apply AW.drawnE (V:=[_,_,_,_,_,_,_,_,_,_,_,_]) (M:=[[some ⟨38,22,false,none,[.s (.int .i64 y10.1),.s (.int .i64 y10.2.1),.s (.int .i64 y10.2.2.1),.s (.int .i64 y10.2.2.2.1),.s (.int .i64 y10.2.2.2.2.1),.d false 4 (encClaim y10.2.2.2.2.2.1),.d false 6 (encPair y10.2.2.2.2.2.2.1),.d false 4 (encMove y10.2.2.2.2.2.2.2.1),.s (.int .i64 y10.2.2.2.2.2.2.2.2.1),.r 3 3 0 y10.2.2.2.2.2.2.2.2.2.2.2.2.2.2.2.2.2.2.2.2.2.length,.s (.int .i64 y10.2.2.2.2.2.2.2.2.2.1),.s (.int .i64 y10.2.2.2.2.2.2.2.2.2.2.1),.s (.int .i64 y10.2.2.2.2.2.2.2.2.2.2.2.1),.d false 7 (encEffect y10.2.2.2.2.2.2.2.2.2.2.2.2.1),.s (.int .i64 y10.2.2.2.2.2.2.2.2.2.2.2.2.2.1),.s (.int .i64 y10.2.2.2.2.2.2.2.2.2.2.2.2.2.2.1),.s (.int .i64 y10.2.2.2.2.2.2.2.2.2.2.2.2.2.2.2.1),.d false 1 (encI y10.2.2.2.2.2.2.2.2.2.2.2.2.2.2.2.2.1),.d false 1 (encLI y10.2.2.2.2.2.2.2.2.2.2.2.2.2.2.2.2.2.1),.s (.int .i64 y10.2.2.2.2.2.2.2.2.2.2.2.2.2.2.2.2.2.2.1),.d false 1 (encI y10.2.2.2.2.2.2.2.2.2.2.2.2.2.2.2.2.2.2.2.1),.s (.int .i64 y10.2.2.2.2.2.2.2.2.2.2.2.2.2.2.2.2.2.2.2.2.1)]⟩,some ⟨49,15,false,none,[.s (.int .i64 a1.kind),.s (.int .i64 a1.frm),.s (.int .i64 a1.to),.s (.int .i64 a1.epoch),.d false 4 (encClaim a1.claims),.d false 1 (encI a1.nodes),.s (.int .i64 a1.node),.s (.int .i64 a1.slot),.s (.int .i64 a1.num),.s (.int .i64 a1.rid.node),.s (.int .i64 a1.rid.epoch),.s (.int .i64 a1.prev.node),.s (.int .i64 a1.prev.epoch),.s (.int .i64 a1.off),.d false 7 (encEffect a1.effects)]⟩,some ⟨38,22,false,none,[.s (.int .i64 0),.s (.int .i64 0),.s (.int .i64 0),.s (.int .i64 0),.s (.int .i64 0),.s (.slice none 0 0),.s (.slice none 0 0),.s (.slice none 0 0),.s (.int .i64 0),.s (.slice none 0 0),.s (.int .i64 0),.s (.int .i64 0),.s (.int .i64 0),.s (.slice none 0 0),.s (.int .i64 0),.s (.int .i64 0),.s (.int .i64 0),.s (.slice none 0 0),.s (.slice none 0 0),.s (.int .i64 0),.s (.slice none 0 0),.s (.int .i64 0)]⟩,some ⟨100,3,true,none,lvs (encSeen y10.2.2.2.2.2.2.2.2.2.2.2.2.2.2.2.2.2.2.2.2.2)⟩],[some ⟨38,22,false,none,[.s (.int .i64 y10.1),.s (.int .i64 y10.2.1),.s (.int .i64 y10.2.2.1),.s (.int .i64 y10.2.2.2.1),.s (.int .i64 y10.2.2.2.2.1),.d false 4 (encClaim y10.2.2.2.2.2.1),.d false 6 (encPair y10.2.2.2.2.2.2.1),.d false 4 (encMove y10.2.2.2.2.2.2.2.1),.s (.int .i64 y10.2.2.2.2.2.2.2.2.1),.r 3 3 0 y10.2.2.2.2.2.2.2.2.2.2.2.2.2.2.2.2.2.2.2.2.2.length,.s (.int .i64 y10.2.2.2.2.2.2.2.2.2.1),.s (.int .i64 y10.2.2.2.2.2.2.2.2.2.2.1),.s (.int .i64 y10.2.2.2.2.2.2.2.2.2.2.2.1),.d false 7 (encEffect y10.2.2.2.2.2.2.2.2.2.2.2.2.1),.s (.int .i64 y10.2.2.2.2.2.2.2.2.2.2.2.2.2.1),.s (.int .i64 y10.2.2.2.2.2.2.2.2.2.2.2.2.2.2.1),.s (.int .i64 y10.2.2.2.2.2.2.2.2.2.2.2.2.2.2.2.1),.d false 1 (encI y10.2.2.2.2.2.2.2.2.2.2.2.2.2.2.2.2.1),.d false 1 (encLI y10.2.2.2.2.2.2.2.2.2.2.2.2.2.2.2.2.2.1),.s (.int .i64 y10.2.2.2.2.2.2.2.2.2.2.2.2.2.2.2.2.2.2.1),.d false 1 (encI y10.2.2.2.2.2.2.2.2.2.2.2.2.2.2.2.2.2.2.2.1),.s (.int .i64 y10.2.2.2.2.2.2.2.2.2.2.2.2.2.2.2.2.2.2.2.2.1)]⟩,some ⟨49,15,false,none,[.s (.int .i64 a1.kind),.s (.int .i64 a1.frm),.s (.int .i64 a1.to),.s (.int .i64 a1.epoch),.d false 4 (encClaim a1.claims),.d false 1 (encI a1.nodes),.s (.int .i64 a1.node),.s (.int .i64 a1.slot),.s (.int .i64 a1.num),.s (.int .i64 a1.rid.node),.s (.int .i64 a1.rid.epoch),.s (.int .i64 a1.prev.node),.s (.int .i64 a1.prev.epoch),.s (.int .i64 a1.off),.d false 7 (encEffect a1.effects)]⟩,some ⟨38,22,false,none,[.s (.int .i64 y10.1),.s (.int .i64 y10.2.1),.s (.int .i64 y10.2.2.1),.s (.int .i64 y10.2.2.2.1),.s (.int .i64 y10.2.2.2.2.1),.d false 4 (encClaim y10.2.2.2.2.2.1),.d false 6 (encPair y10.2.2.2.2.2.2.1),.d false 4 (encMove y10.2.2.2.2.2.2.2.1),.s (.int .i64 y10.2.2.2.2.2.2.2.2.1),.r 3 3 0 y10.2.2.2.2.2.2.2.2.2.2.2.2.2.2.2.2.2.2.2.2.2.length,.s (.int .i64 y10.2.2.2.2.2.2.2.2.2.1),.s (.int .i64 y10.2.2.2.2.2.2.2.2.2.2.1),.s (.int .i64 y10.2.2.2.2.2.2.2.2.2.2.2.1),.d false 7 (encEffect y10.2.2.2.2.2.2.2.2.2.2.2.2.1),.s (.int .i64 y10.2.2.2.2.2.2.2.2.2.2.2.2.2.1),.s (.int .i64 y10.2.2.2.2.2.2.2.2.2.2.2.2.2.2.1),.s (.int .i64 y10.2.2.2.2.2.2.2.2.2.2.2.2.2.2.2.1),.d false 1 (encI y10.2.2.2.2.2.2.2.2.2.2.2.2.2.2.2.2.1),.d false 1 (encLI y10.2.2.2.2.2.2.2.2.2.2.2.2.2.2.2.2.2.1),.s (.int .i64 y10.2.2.2.2.2.2.2.2.2.2.2.2.2.2.2.2.2.2.1),.d false 1 (encI y10.2.2.2.2.2.2.2.2.2.2.2.2.2.2.2.2.2.2.2.1),.s (.int .i64 y10.2.2.2.2.2.2.2.2.2.2.2.2.2.2.2.2.2.2.2.2.1)]⟩,some ⟨100,3,true,none,lvs (encSeen y10.2.2.2.2.2.2.2.2.2.2.2.2.2.2.2.2.2.2.2.2.2)⟩]]) mixed [⟨[0],[],[(2,none)],false⟩,⟨[0,1],[],[(2,none)],false⟩,⟨[0,1],[1],[(64,some 1)],false⟩,⟨[0,1],[],[(3,none)],false⟩,⟨[0,1],[3],[(66,some 3)],false⟩,⟨[0,1],[],[(3,none)],false⟩,⟨[0,1],[5],[(68,some 5)],false⟩,⟨[0,1],[],[(3,none)],false⟩,⟨[0,1],[7],[(70,some 7)],false⟩,⟨[0,1],[1,2,3,4,5,6,7,8],[(65,some 2),(67,some 4),(69,some 6),(71,some 8)],false⟩,⟨[0,1],[1,2,3,4,5,6,7,8,9],[(72,some 9)],false⟩,⟨[0],[0],[(4,none),(63,some 0)],true⟩,⟨[],[0,1,2,3,4,5,6,7,8,9,10,11],[],false⟩] 12 1 (by kernel_rfl) (by kernel_rfl)
    ·rfl
    ·refine⟨?_,⟨?_,?_⟩,⟨?_,?_⟩,⟨?_,?_⟩,⟨?_,?_⟩,⟨?_,?_⟩,⟨?_,?_⟩,⟨?_,?_⟩,⟨?_,?_⟩,⟨?_,?_⟩,⟨?_,?_⟩,?_,trivial⟩
     iterate 19 (· intro tm hr;simp[AllL,rdV] at hr;simp[hr];intros;first|exact KD.mk|exact KD.mkN)
     ·intro tm hr
      simp[AllL,rdV] at hr
      simp[hr]
      intros
      refine Fl (es:=encMsg [(⟨3,y10.2.1,a1.frm,0,[],[],0,a1.slot,a1.num,(⟨0,0⟩:Rid),(⟨0,0⟩:Rid),0,[]⟩:Msg)]) (by simp[encMsg,lvs,All2]) (Fj _) (by omega) (by simp) ?_
      try simp[]
      intros;first|exact KD.mk|exact KD.mkN
     ·intro tm hr
      simp[AllL,rdV] at hr
      simp[hr]
      intros
      refine Fl (es:=encMsg [(⟨3,y10.2.1,a1.frm,0,[],[],0,a1.slot,a1.num,(⟨0,0⟩:Rid),(⟨0,0⟩:Rid),0,[]⟩:Msg)]) (by simp[encMsg,lvs,All2]) (Fj _) (by omega) (by simp) ?_
      try simp[]
      intros;first|exact KD.mk|exact KD.mkN
     ·intro tm hr;simp[AllL,rdV] at hr;simp[hr];intros;first|exact KD.mk|exact KD.mkN
    ·rfl
    ·simp[tmD,putD];rfl
    ·simp
     intros;rfl
    replace h:=chkE h;obtain⟨e27,h⟩:=h
    refine AW.frzRow 3 (ty:=100) (cap:=none) (sz:=3) (es:=encSeen y10.2.2.2.2.2.2.2.2.2.2.2.2.2.2.2.2.2.2.2.2.2) (by simp) (by omega) (AK _) (by first|exact (Ah e27).2|simpa using (Ah e27).2|simp) (by simp[Tm.frz,AV.frz,LV.frz];rfl) (by simp[Ob.frz,LV.frz];rfl) rfl ?_
    obtain rfl:=oi h
    refine AW.ret ?_
    refine Left.plain hnb (by simp[Tryz.f16,resV,resC,comp];rfl) rfl rfl ?_
    simp
theorem GQ:Enters Tryz.prog 16:=enters Tryz.func16 (by kernel_rfl) rfl
end Go.Proofs.YtlbdhlbbkibgpaaGreat
namespace Go.Proofs.YtlbdhlbbkibgpaaGreat
open Go Go.RowKit
end Go.Proofs.YtlbdhlbbkibgpaaGreat

namespace Go.Proofs.YtlbdhlbbkibgpaaGreat
open Go Go.RowKit
def big:Nat:=281474976710656
section
variable {α β γ:Type}
theorem LP {f:α→Option (α ⊕ β)} (Q:β→Prop) (I:Nat→α→Prop) (N:Nat)
  (h:∀ k a,k≤N→I k a→(∃ a',k<N∧f a=some (.inl a')∧I (k+1) a')∨∃ b,f a=some (.inr b)∧Q b) :
  ∀ (d k:Nat) (a:α),k+d=N→I k a→∀ n,d<n→∃ b,iter n f a=some b∧Q b
 |d,k,a,hd,hI,0,hn=>by omega
 |d,k,a,hd,hI,n+1,hn=>by
  rcases h k a (by omega) hI with ⟨a',hk,h1,h2⟩|⟨b,h1,h2⟩
  ·rw[NS h1]
   match d with
   |0=>omega
   |d+1=>exact LP Q I N h d (k+1) a' (by omega) h2 n (by omega)
  ·exact⟨b,NT h1,h2⟩
theorem KG {f:α→Option (α ⊕ β)} {a:α} (Q:β→Prop) (I:Nat→α→Prop) (N:Nat) (hN:N<big)
  (h0:I 0 a) (h:∀ k a,k≤N→I k a→(∃ a',k<N∧f a=some (.inl a')∧I (k+1) a')∨∃ b,f a=some (.inr b)∧Q b):∃ b,iter big f a=some b∧Q b :=
 LP Q I N h N 0 a (by omega) h0 big hN
theorem Fc {f:α→Option (α ⊕ β)} {a:α} {b:β} (s:Nat→α) (N:Nat) (hN:N<big) (h0:a=s 0) (h:∀ i,i<N→f (s i)=some (.inl (s (i+1)))) (he:f (s N)=some (.inr b)):iter big f a=some b:=by
 obtain⟨b',h1,h2⟩:=KG (f:=f) (a:=a) (·=b) (fun k x=>x=s k) N hN h0 fun k x hk hx=>by
  subst hx
  by_cases hl:k<N
  ·exact .inl ⟨_,hl,h k hl,rfl⟩
  ·have:k=N:=by omega
   subst this
   exact .inr ⟨b,he,rfl⟩
 rw[h1,h2]
theorem BO {f:α→Option (α ⊕ β)} {a:α} {k:β→Option γ} {r:Option γ} (b:β) (s:Nat→α) (N:Nat) (hN:N<big) (h0:a=s 0) (h:∀ i,i<N→f (s i)=some (.inl (s (i+1)))) (he:f (s N)=some (.inr b)) (hk:k b=r):bn (iter big f a) k=r:=by
 rw[Fc s N hN h0 h he]
 exact hk
theorem F6 {b:Bool} {k:Option β} (h:b=true):chk b k=k:=by subst h;rfl
def Rn (m:Option α) (Q:α→Prop):Prop:=∃ v,m=some v∧Q v
theorem Rn.some {v:α} {Q:α→Prop} (h:Q v):Rn (some v) Q:=⟨v,rfl,h⟩
theorem Rn.mono {m:Option α} {Q R:α→Prop} (h:Rn m Q) (hk:∀ v,Q v→R v):Rn m R:=⟨h.choose,h.choose_spec.1,hk _ h.choose_spec.2⟩
theorem Rn.lt {a:α} {k:α→Option β} {Q:β→Prop} (h:Rn (k a) Q):Rn (lt a k) Q:=h
theorem Rn.bn {m:Option α} {k:α→Option β} {P:α→Prop} {Q:β→Prop} (h:Rn m P) (hk:∀ v,P v→Rn (k v) Q):Rn (bn m k) Q:=by
 obtain⟨v,rfl,hv⟩:=h
 exact hk v hv
theorem Rn.bnE {m:Option α} {k:α→Option β} {v:α} {Q:β→Prop} (h:m=Option.some v) (hk:Rn (k v) Q):Rn (Go.Proofs.YtlbdhlbbkibgpaaGreat.bn m k) Q:=by
 subst h
 exact hk
theorem Rn.chk {b:Bool} {k:Option β} {Q:β→Prop} (h:b=true) (hk:Rn k Q):Rn (chk b k) Q:=by
 subst h
 exact hk
theorem Rn.room {m c:Nat} {k:Option β} {Q:β→Prop} (h:m*c≤140737488355328) (h2:m≤140737488355328) (hk:Rn k Q):Rn (Go.Proofs.YtlbdhlbbkibgpaaGreat.chk (Go.Proofs.YtlbdhlbbkibgpaaGreat.room m c) k) Q:=Rn.chk (by simp[Go.Proofs.YtlbdhlbbkibgpaaGreat.room,h,h2]) hk
theorem Rn.ite {b:Bool} {x y:Option β} {Q:β→Prop} (h:b=true→Rn x Q) (h2:b=false→Rn y Q):Rn (ite' b x y) Q:=by
 cases b
 ·exact h2 rfl
 ·exact h rfl
theorem Rn.sm {s:α ⊕ β} {f:α→Option γ} {g:β→Option γ} {Q:γ→Prop} (h:∀ a,s=.inl a→Rn (f a) Q) (h2:∀ b,s=.inr b→Rn (g b) Q):Rn (sm s f g) Q:=by
 cases s with
 |inl a=>exact h a rfl
 |inr b=>exact h2 b rfl
theorem Rn.iter {f:α→Option (α ⊕ β)} {a:α} (Q:β→Prop) (I:Nat→α→Prop) (N:Nat) (hN:N<big) (h0:I 0 a)
  (h:∀ k a,k≤N→I k a→Rn (f a) fun x=>match x with|.inl a'=>k<N∧I (k+1) a'|.inr b=>Q b):Rn (iter big f a) Q:=by
 refine KG Q I N hN h0 fun k a hk hI=>?_
 obtain⟨x,h1,h2⟩:=h k a hk hI
 cases x with
 |inl a'=>exact .inl ⟨a',h2.1,h1,h2.2⟩
 |inr b=>exact .inr ⟨b,h1,h2⟩
theorem AN {m c:Nat} {k:Option β} (h:m*c≤140737488355328) (h2:m≤140737488355328):chk (room m c) k=k:=F6 (by simp[room,h,h2])
theorem Df {c:Nat} {l:List α} {k:Option β} (h:l.length*c≤140737488355328) (h2:l.length≤140737488355328):chk (small c l) k=k:=F6 (by simp[small,h,h2])
theorem Ag (l:List α):lenI l=(l.length:Int):=rfl
theorem Aw {l:List α} {i:Nat} (h:i<l.length):nth l (i:Int)=some l[i]:=by rw[G5,List.getElem?_eq_getElem h]
theorem F7 {l:List α} {i:Nat} (h:i≤l.length):segl l (i:Int)=some (l.drop i):=by simp[segl,h]
theorem KH {l:List α} {i:Nat} (h:i≤l.length):segh l (i:Int)=some (l.take i):=by simp[segh,h]
theorem Jc {l:List α} {i j:Nat} (h:i≤j) (h2:j≤l.length):seglh l (i:Int) (j:Int)=some ((l.drop i).take (j - i)):=by
 have h3:(i:Int)≤j:=by omega
 have h4:(j:Int)≤l.length:=by omega
 simp[seglh,seg,h3,h4]
end
theorem wrap64 {a:Int} (h:-9223372036854775808≤a) (h2:a≤9223372036854775807):IntKind.i64.wrap a=a:=by
 simp[IntKind.wrap,IntKind.bits,IntKind.signed]
 omega
theorem Ar {a b:Int} (h:-9223372036854775808≤a+b) (h2:a+b≤9223372036854775807):addI .i64 a b=a+b:=wrap64 h h2
theorem EW {a b:Int} (h:-9223372036854775808≤a - b) (h2:a - b≤9223372036854775807):subI .i64 a b=a - b:=wrap64 h h2
theorem Cy {a:Int} (h:-9223372036854775808≤a) (h2:a≤9223372036854775807):cvI .i64 a=a:=wrap64 h h2
end Go.Proofs.YtlbdhlbbkibgpaaGreat
namespace Go.Proofs.YtlbdhlbbkibgpaaGreat
open Go Go.RowKit
@[simp] theorem HK (a:ByteArray):neS a a=false:=by simp[neS]
@[simp] theorem DY (a:Int):neI a a=false:=by simp[neI]
@[simp] theorem andB_tt:andB true true=true:=rfl
theorem B5 {a b:Int} (h:a<b):ltI a b=true:=by simp[ltI,h]
theorem BK {a b:Int} (h:¬ a<b):ltI a b=false:=by simp[ltI];omega
def okI (i:Item):Prop:=i.f.length≤4398046511104∧i.l.length≤8796093022208
theorem Dg (i:Item) (h:okI i):Bq big i=some i:=by
 unfold Bq
 have h1:=h.1
 have h2:=h.2
 rw[Df (by omega) (by omega),Df (by omega) (by omega),AN (by omega) (by omega),AN (by omega) (by omega)]
def okE (l:List Effect):Prop:=l.length≤1000000000∧∀ e∈l,okI e.item
theorem Ni (l:List Effect) (h:okE l):Cs big l=some l:=by
 have hl:=h.1
 unfold Cs
 rw[Df (by omega) (by omega)]
 simp only[Ai,Af,Aj,Ak,Al,Am,Ag,Option.some.injEq]
 refine BO (l) (fun i=>((i:Int),l)) l.length (by unfold big;omega) rfl (fun i hi=>?_) ?_ ?_
 rotate_left 2
 ·rw[AN (by omega) (by omega)]
 ·rw[B5 (by simp;omega)]
  simp only[Ai,Af,Aj,Ak,Al,Am,Ag,Option.some.injEq,Aw hi,Dg _ (h.2 _ (List.getElem_mem hi))]
  rw[Ar (by omega) (by omega)]
  have e:l.set i { key:=l[i].key,gone:=l[i].gone,item:=l[i].item }=l:=List.set_getElem_self hi
  simp[e]
 ·rw[BK (by simp)];rfl
def lastN (l:List Effect):List Effect:=l.drop (l.length - 64)
theorem okE.drop {l:List Effect} (h:okE l) (k:Nat):okE (l.drop k):=⟨by have:=h.1;simp;omega,fun e he=>h.2 e (List.mem_of_mem_drop he)⟩
theorem okE.app {l m:List Effect} (h:okE l) (h2:okE m) (h3:l.length+m.length≤1000000000):okE (l++m):=⟨by simp;exact h3,fun e he=>by
 rcases List.mem_append.1 he with he|he
 ·exact h.2 e he
 ·exact h2.2 e he⟩
theorem KI (l:List Effect) (h:okE l):Dc big l 64=some (lastN l):=by
 have hl:=h.1
 unfold Dc
 simp only[Ai,Af,Aj,Ak,Al,Am,Ag,Option.some.injEq]
 rw[EW (by omega) (by omega)]
 have e:maxI 0 ((l.length:Int) - 64)=((l.length - 64:Nat):Int):=by simp only[maxI];omega
 rw[e,F7 (by omega)]
 simp only[Ai,Af,Aj,Ak,Al,Am,Ag,Option.some.injEq]
 rw[Ni _ (h.drop _)]
 rfl
end Go.Proofs.YtlbdhlbbkibgpaaGreat
namespace Go.Proofs.YtlbdhlbbkibgpaaGreat
open Go Go.RowKit
theorem A9 {k:IntKind} {a b:Int} (h:0≤a) (hb:0<b):remI k a b=some (a % b):=by
 have:¬ b=0:=by omega
 simp only[remI,ne_eq,this,not_false_eq_true,if_true,Int.tmod_eq_emod_of_nonneg h]
theorem NY {a b:Int} (h:0≤a) (h2:a<18446744073709551616) (hb:0<b):quoI .u64 a b=some (a / b):=by
 have hne:¬ b=0:=by omega
 have h3:a / b≤a:=Int.ediv_le_self b h
 have h4:0≤a / b:=Int.ediv_nonneg h (by omega)
 simp only[quoI,ne_eq,hne,not_false_eq_true,if_true,Int.tdiv_eq_ediv_of_nonneg h,Hy]
 rw[Int.emod_eq_of_lt h4 (by omega)]
theorem IN {a b:Int} (h:0≤a) (h2:a<9223372036854775808) (hb:0<b):quoI .i64 a b=some (a / b):=by
 have hne:¬ b=0:=by omega
 have h3:a / b≤a:=Int.ediv_le_self b h
 have h4:0≤a / b:=Int.ediv_nonneg h (by omega)
 simp only[quoI,ne_eq,hne,not_false_eq_true,if_true,Int.tdiv_eq_ediv_of_nonneg h]
 rw[wrap64 (by omega) (by omega)]
theorem O0 {a b:ByteArray} (h:a.size+b.size≤9223372036854775807):catS a b=some (a++b):=by simp[catS,h]
theorem strL1 (x:Int):(strL [x]).size=1:=rfl
theorem Rn.cat {β:Type} {a b:ByteArray} {k:ByteArray→Option β} {Q:β→Prop} (h:a.size+b.size≤9223372036854775807) (hk:Rn (k (a++b)) Q):Rn (Go.Proofs.YtlbdhlbbkibgpaaGreat.bn (catS a b) k) Q:=Rn.bnE (O0 h) hk
theorem D3 (a:Int) (h:-9223372036854775808≤a) (h2:a≤9223372036854775807):Rn (BM big a) fun s=>s.size≤30:=by
 unfold BM
 refine Rn.lt (Rn.bn (P:=fun v:Int=>0≤v∧v<18446744073709551616) ?_ fun v hv=>?_)
 ·refine Rn.lt (Rn.ite (fun _=>Rn.lt (Rn.some ?_)) (fun _=>Rn.some ?_)) <;> simp only[negI,cvI,Hy] <;> omega
 refine Rn.bn (P:=fun b:Int×ByteArray=>0≤b.1∧b.2.size≤20) (Rn.iter _ (fun k a=>0≤a.1∧a.1<18446744073709551616∧a.1<10 ^ (20 - k)∧a.2.size=k) 20 (by unfold big;omega) ⟨hv.1,hv.2,by simp only;omega,rfl⟩ fun k a hk hI=>?_) fun b hb=>?_
 ·obtain⟨i1,i2,i3,i4⟩:=hI
  refine Rn.lt (Rn.ite (fun hg=>?_) (fun hg=>Rn.some ⟨i1,by simp only;omega⟩))
  have hg:10≤a.1:=by simpa [geI] using hg
  have hk2:k<20:=by
   apply Nat.lt_of_not_le
   intro hk3
   have:20 - k=0:=by omega
   rw[this] at i3
   simp at i3
   omega
  refine Rn.bnE (A9 i1 (by omega)) (Rn.lt (Rn.lt (Rn.lt (Rn.cat ?_ (Rn.bnE (NY i1 i2 (by omega)) (Rn.some ⟨hk2,?_,?_,?_,?_⟩))))))
  ·rw[strL1];omega
  ·simp only;omega
  ·simp only;omega
  ·have e:20 - k=(20 - (k+1))+1:=by omega
   rw[e,Int.pow_succ] at i3
   simp only
   omega
  ·simp[strL1,i4];omega
 ·refine Rn.lt (Rn.lt (Rn.lt (Rn.cat ?_ (Rn.lt (Rn.ite (fun _=>Rn.cat ?_ (Rn.some ?_)) (fun _=>Rn.some ?_))))))
  ·rw[strL1];omega
  ·have e1:(⟨#[45]⟩:ByteArray).size=1:=rfl
   simp only[ByteArray.size_append,strL1,e1];omega
  ·have e1:(⟨#[45]⟩:ByteArray).size=1:=rfl
   simp only[ByteArray.size_append,strL1,e1];omega
  ·simp[strL1];omega
theorem PR (a:Int) (h:0≤a) (h2:a≤255):Rn (A5 big a) fun _=>True:=by
 unfold A5
 refine Rn.bnE (A9 h (by omega)) (Rn.lt (Rn.lt (Rn.cat ?_ (Rn.cat ?_ (Rn.lt ?_)))))
 ·rw[strL1];decide
 ·rw[ByteArray.size_append,strL1];decide
 rw[Cy (by omega) (by omega)]
 refine Rn.bnE (IN h (by omega) (by omega)) (Rn.bnE (A9 (by omega) (by omega)) (Rn.bn (D3 _ (by omega) (by omega)) fun s hs=>Rn.cat ?_ (Rn.some trivial)))
 have e1:(⟨#[123]⟩:ByteArray).size=1:=rfl
 have e2:(⟨#[125]⟩:ByteArray).size=1:=rfl
 simp only[ByteArray.size_append,strL1,e1,e2]
 omega
theorem O1 (l:List Field) (x y:ByteArray) (h:l.length≤100):Rn (CI big l x y) fun m=>m.length≤l.length+1:=by
 unfold CI
 refine Rn.bn (P:=fun b:Bool×List Field=>b.2.length+(if b.1 then 0 else 1)≤l.length+1)
  (Rn.iter _ (fun k a=>a.2.1=(k:Int)∧a.2.2.length+(if a.1 then 0 else 1)≤k+1) l.length (by unfold big;omega) ⟨rfl,by simp⟩ fun k a hk hI=>?_) fun b hb=>?_
 ·obtain⟨d,i,m⟩:=a
  obtain⟨rfl,i2⟩:=hI
  simp only at i2
  refine Rn.lt (Rn.lt (Rn.ite (fun hg=>?_) (fun hg=>Rn.some ?_)))
  ·have hk2:k<l.length:=by
    have:((k:Int)<(l.length:Int)):=by simpa [ltI,lenI] using hg
    omega
   refine Rn.bn (P:=fun b:Bool×List Field=>b.2.length+(if b.1 then 0 else 1)≤k+2) ?_ fun b hb=>?_
   ·refine Rn.bn (P:=fun b:Bool×List Field=>b.2.length+(if b.1 then 0 else 1)≤k+1) ?_ fun b hb=>?_
    ·refine Rn.bn (P:=fun b:Bool=>b=true→d=false) ?_ fun b hb=>?_
     ·refine Rn.lt (Rn.ite (fun hd=>Rn.bnE (Aw hk2) (Rn.lt (Rn.some fun _=>?_))) (fun hd=>Rn.some (by simp)))
      simpa [notB] using hd
     ·refine Rn.lt (Rn.ite (fun hd=>Rn.room ?_ ?_ (Rn.lt (Rn.some ?_))) (fun hd=>Rn.some i2))
      ·simp only;split at i2 <;> omega
      ·simp only;split at i2 <;> omega
      ·rw[hb hd] at i2
       simpa using i2
    ·refine Rn.bnE (Aw hk2) (Rn.lt (Rn.ite (fun hd=>Rn.room ?_ ?_ (Rn.lt (Rn.some ?_))) (fun hd=>Rn.some ?_)))
     ·split at hb <;> omega
     ·split at hb <;> omega
     ·simp only[List.length_append,List.length_cons,List.length_nil]
      omega
     ·simp only;omega
   ·refine Rn.lt (Rn.some ⟨hk2,?_,?_⟩)
    ·simp only;rw[Ar (by omega) (by omega)];omega
    ·simpa using hb
  ·simp only
   split at i2 <;> simp_all <;> omega
 ·refine Rn.bn (P:=fun m:List Field=>m.length≤l.length+1) ?_ fun m hm=>Rn.room (by omega) (by omega) (Rn.some hm)
  refine Rn.lt (Rn.ite (fun hd=>Rn.room ?_ ?_ (Rn.lt (Rn.some ?_))) (fun hd=>Rn.some ?_))
  ·split at hb <;> omega
  ·split at hb <;> omega
  ·have:b.1=false:=by simpa [notB] using hd
   rw[this] at hb
   simpa using hb
  ·split at hb <;> omega
theorem O2 (l:List ByteArray) (x:ByteArray) (h:l.length≤1000000000):Rn (B6 big l x) fun _=>True:=by
 unfold B6
 refine Rn.bn (P:=fun _=>True) (Rn.iter _ (fun k a=>a=(k:Int)) l.length (by unfold big;omega) rfl fun k a hk hI=>?_) fun b _=>Rn.sm (fun _ _=>Rn.some trivial) (fun _ _=>Rn.some trivial)
 subst hI
 refine Rn.lt (Rn.lt (Rn.ite (fun hg=>?_) (fun hg=>Rn.some trivial)))
 have hk2:k<l.length:=by
  have:((k:Int)<(l.length:Int)):=by simpa [ltI,lenI] using hg
  omega
 refine Rn.bnE (Aw hk2) (Rn.lt (Rn.ite (fun _=>Rn.some trivial) (fun _=>Rn.lt (Rn.some ⟨hk2,?_⟩))))
 rw[Ar (by omega) (by omega)];omega
theorem O3 (l:List ByteArray) (x:ByteArray) (h:l.length≤1000000000):Rn (BQ big l x) fun m=>m.length≤l.length+1:=by
 unfold BQ
 refine Rn.bn (O2 l x h) fun v _=>Rn.ite (fun _=>Rn.room (by omega) (by omega) (Rn.some (by omega))) (fun _=>?_)
 refine Rn.bn (P:=fun i:Int=>∃ k:Nat,k≤l.length∧i=k) (Rn.iter _ (fun k a=>a=(k:Int)) l.length (by unfold big;omega) rfl fun k a hk hI=>?_) fun b hb=>?_
 ·subst hI
  refine Rn.bn (P:=fun b:Bool=>b=true→k<l.length) ?_ fun b hb=>Rn.lt (Rn.ite (fun hd=>Rn.lt (Rn.some ⟨hb hd,?_⟩)) (fun _=>Rn.some ⟨k,hk,rfl⟩))
  ·refine Rn.lt (Rn.lt (Rn.ite (fun hg=>?_) (fun _=>Rn.some (by simp))))
   have hk2:k<l.length:=by
    have:((k:Int)<(l.length:Int)):=by simpa [ltI,lenI] using hg
    omega
   exact Rn.bnE (Aw hk2) (Rn.lt (Rn.some fun _=>hk2))
  ·have:=hb hd
   rw[Ar (by omega) (by omega)];omega
 ·obtain⟨k,hk,rfl⟩:=hb
  refine Rn.bnE (KH hk) (Rn.room ?_ ?_ (Rn.room ?_ ?_ (Rn.lt (Rn.bnE (F7 hk) (Rn.room ?_ ?_ (Rn.lt (Rn.some ?_)))))))
  all_goals simp only[List.length_append,List.length_cons,List.length_nil,List.length_take,List.length_drop]
  all_goals omega
end Go.Proofs.YtlbdhlbbkibgpaaGreat
namespace Go.Proofs.YtlbdhlbbkibgpaaGreat
open Go Go.RowKit
def u8s (l:List Int):Prop:=∀ x∈l,0≤x∧x≤255
theorem DQ {a b:Int} (h:ltI a b=true):a<b:=by simpa [ltI] using h
theorem DR {a b:Int} (h:ltI a b=false):b≤a:=by simpa [ltI] using h
theorem JN {a b:Int} (h:eqI a b=false):a≠b:=by simpa [eqI] using h
theorem NZ (l:List Int) (x:Int) (hl:u8s l) (hx:0≤x) (hx2:x≤255):Rn (Cg big l x) fun i=>i.f.length≤9∧i.l.length≤9:=by
 unfold Cg
 refine Rn.lt (Rn.lt (Rn.ite (fun _=>Rn.some ⟨by simp,by simp⟩) (fun hne=>?_)))
 have h0:0<l.length:=by
  have:=JN hne
  simp only[lenI] at this
  omega
 have hb0:=hl _ (List.getElem_mem h0)
 refine Rn.bnE (Aw (i:=0) h0) (Rn.lt ?_)
 rw[Cy (by omega) (by omega)]
 refine Rn.bnE (A9 hb0.1 (by omega)) (Rn.lt (Rn.bn (P:=fun _=>True) ?_ fun v _=>?_))
 ·refine Rn.bnE (A9 hx (by omega)) (Rn.lt (Rn.ite (fun _=>Rn.lt (Rn.some trivial)) (fun _=>Rn.some trivial)))
 generalize addI .i64 1 (l[0] % 4)=kd
 refine Rn.bn (P:=fun b:ByteArray×List Field×List ByteArray=>b.2.1.length≤9∧b.2.2.length≤9)
  (Rn.iter _ (fun k a=>a.1=((k+1:Nat):Int)∧a.2.1.size≤40*k∧a.2.2.1.length≤k∧a.2.2.2.length≤k) 8 (by unfold big;omega) ⟨rfl,Nat.le_refl _,by simp,by simp⟩ fun k a hk hI=>?_) fun b hb=>?_
 ·obtain⟨i,s,f,m⟩:=a
  obtain⟨rfl,i2,i3,i4⟩:=hI
  simp only at i2 i3 i4
  refine Rn.bn (P:=fun b:Bool=>b=true→k<8∧k+1<l.length) ?_ fun b hb=>Rn.lt (Rn.ite (fun hd=>?_) (fun _=>Rn.some ⟨by simp only;omega,by simp only;omega⟩))
  ·refine Rn.lt (Rn.lt (Rn.ite (fun hg=>Rn.lt (Rn.some fun hg2=>?_)) (fun _=>Rn.some (by simp))))
   have h1:=DQ hg
   have h2:=DQ hg2
   simp only[lenI] at h1 h2
   omega
  ·obtain⟨hk8,hkl⟩:=hb hd
   have hb1:=hl _ (List.getElem_mem hkl)
   refine Rn.bn (P:=fun b:ByteArray×List Field×List ByteArray=>b.1.size≤40*(k+1)∧b.2.1.length≤k+1∧b.2.2.length≤k+1) ?_ fun b hb=>Rn.lt (Rn.some ⟨hk8,?_,hb⟩)
   ·refine Rn.bnE (Aw hkl) (Rn.bnE (A9 hb1.1 (by omega)) (Rn.lt (Rn.lt (Rn.lt ?_))))
    rw[Cy (by omega) (by omega)]
    refine Rn.bnE (A9 hb1.1 (by omega)) ?_
    refine Rn.bn (D3 _ (by omega) (by omega)) fun d hd=>?_
    refine Rn.cat (by rw[strL1];omega) ?_
    have hw:∀ x:Int,(strL [x]++d).size≤31:=fun x=>by
     rw[ByteArray.size_append,strL1];omega
    have hw:=hw (addI .u8 97 (l[k+1] % 5))
    revert hw
    generalize strL [addI .u8 97 (l[k+1] % 5)]++d=w
    intro hw
    refine Rn.lt ?_
    refine Rn.ite (fun _=>?_) (fun _=>?_)
    ·refine Rn.cat (by simp only;omega) (Rn.some ⟨?_,?_,?_⟩)
     ·rw[ByteArray.size_append];simp only;omega
     ·simp only;omega
     ·simp only;omega
    refine Rn.lt ?_
    refine Rn.ite (fun _=>?_) (fun _=>?_)
    ·refine Rn.lt ?_
     rw[EW (by omega) (by omega)]
     refine Rn.bn (D3 _ (by omega) (by omega)) fun e he=>?_
     refine Rn.bn (O1 _ _ _ (by simp only;omega)) fun z hz=>?_
     refine Rn.some ⟨?_,?_,?_⟩
     ·simp only;omega
     ·simp only at hz ⊢;omega
     ·simp only;omega
    refine Rn.lt ?_
    refine Rn.ite (fun _=>?_) (fun _=>?_)
    ·refine Rn.room (by simp only;omega) (by simp only;omega) (Rn.lt (Rn.some ⟨?_,?_,?_⟩))
     ·simp only;omega
     ·simp only;omega
     ·simp only[List.length_append,List.length_cons,List.length_nil];omega
    ·refine Rn.room (by simp only;omega) (by simp only;omega) ?_
     refine Rn.bn (O3 _ _ (by simp only;omega)) fun z hz=>?_
     refine Rn.some ⟨?_,?_,?_⟩
     ·simp only;omega
     ·simp only;omega
     ·simp only at hz ⊢;omega
   ·show addI .i64 ((k+1:Nat):Int) 1=_
    rw[Ar (by omega) (by omega)];omega
 ·refine Rn.bn (P:=fun _=>True) ?_ fun c _=>?_
  rotate_left
  ·refine Rn.lt (Rn.ite (fun _=>?_) (fun _=>Rn.room (by omega) (by omega) (Rn.some hb)))
   refine Rn.bnE (Aw (i:=0) h0) (Rn.lt ?_)
   rw[Cy (by omega) (by omega)]
   exact Rn.bn (D3 _ (by omega) (by omega)) fun d hd=>Rn.some ⟨by simp,by simp⟩
  ·exact Rn.lt (Rn.lt (Rn.ite (fun _=>Rn.lt (Rn.some trivial)) (fun _=>Rn.some trivial)))
theorem u8s.seg {l:List Int} (h:u8s l) (i j:Nat):u8s ((l.drop i).take j):=fun x hx=>h x (List.mem_of_mem_drop (List.mem_of_mem_take hx))
end Go.Proofs.YtlbdhlbbkibgpaaGreat
namespace Go.Proofs.YtlbdhlbbkibgpaaGreat
open Go Go.RowKit
theorem okE.lastN {l:List Effect} (h:okE l):okE (lastN l):=h.drop _
def allR (l:List Effect) (i:Nat):List Effect:=(List.replicate i l).flatten
def fdOf (off:Int) (b:List Effect):Feed:=⟨⟨0,0⟩,off,b,⟨0,0⟩,0⟩
end Go.Proofs.YtlbdhlbbkibgpaaGreat
namespace Go.Proofs.YtlbdhlbbkibgpaaGreat
open Go Go.RowKit
section
variable {α β γ σ:Type}
theorem FK {f:α→Option (α ⊕ β)} {a0:α} {k:β→Option γ} {r:Option γ} {δ:Type} (l:List δ) (g:σ→δ→σ) (mk:Nat→σ→α) (s0:σ) (b:β) (hl:l.length≤140737488355328) (h0:a0=mk 0 s0)
  (h:∀ i (hi:i<l.length) a,a=(l.take i).foldl g s0→f (mk i a)=some (.inl (mk (i+1) (g a l[i])))) (he:f (mk l.length (l.foldl g s0))=some (.inr b)) (hk:k b=r):bn (iter big f a0) k=r:=by
 refine BO b (fun i=>mk i ((l.take i).foldl g s0)) l.length (by unfold big;omega) h0 (fun i hi=>?_) ?_ hk
 ·rw[h i hi _ rfl,← List.take_append_getElem hi,List.foldl_append]
  rfl
 ·rw[List.take_length];exact he
theorem shapeG {key:α→ByteArray} (name:ByteArray):∀ l:List α,l.Pairwise (fun a b=>slt (key a) (key b)=true)→∃ A B C,l=A++B++C∧(∀ a∈A,slt (key a) name=true)∧(∀ c∈C,slt name (key c)=true)∧(B=[]∨∃ x,B=[x]∧key x=name)
 |[],_=>⟨[],[],[],rfl,by simp,by simp,.inl rfl⟩
 |a::l,h=>by
  obtain⟨h1,h2⟩:=List.pairwise_cons.1 h
  cases hs:slt (key a) name
  ·rcases (MX _ _).1 hs with e|e
   ·exact⟨[],[a],l,rfl,by simp,fun c hc=>e ▸ h1 c hc,.inr ⟨a,rfl,e⟩⟩
   ·refine⟨[],[],a::l,rfl,by simp,fun c hc=>?_,.inl rfl⟩
    rcases List.mem_cons.1 hc with rfl|hc
    ·exact e
    ·exact C6 e (h1 c hc)
  ·obtain⟨A,B,C,rfl,h3,h4,h5⟩:=shapeG name l h2
   exact⟨a::A,B,C,rfl,fun x hx=>by rcases List.mem_cons.1 hx with rfl|hx;exact hs;exact h3 x hx,h4,h5⟩
theorem Rn.eq {m:Option α} {v:α} (h:Rn m (·=v)):m=Option.some v:=by
 obtain⟨w,h1,rfl⟩:=h
 exact h1
end
def SrtP (l:List Pair):Prop:=l.Pairwise (fun a b=>slt a.key b.key=true)
def newP (e:Effect):List Pair:=if e.gone then [] else [⟨e.key,e.item⟩]
def applyP (l:List Pair) (e:Effect):List Pair:=l.filter (fun p=>slt p.key e.key)++newP e++l.filter (fun p=>slt e.key p.key)
theorem Dh {α:Type} {p:α→Bool} {l:List α} (h:∀ a∈l,p a=true):l.filter p=l:=List.filter_eq_self.2 h
theorem CJ {α:Type} {p:α→Bool} {l:List α} (h:∀ a∈l,p a=false):l.filter p=[]:=List.filter_eq_nil_iff.2 fun a ha=>by simp[h a ha]
theorem Cz {A B C:List Pair} {e:Effect} (hA:∀ a∈A,slt a.key e.key=true) (hC:∀ c∈C,slt e.key c.key=true) (hB:B=[]∨∃ x,B=[x]∧x.key=e.key):applyP (A++B++C) e=A++newP e++C:=by
 have hB1:∀ b∈B,slt b.key e.key=false:=fun b hb=>by
  rcases hB with rfl|⟨x,rfl,hx⟩
  ·simp at hb
  ·simp at hb;subst hb;rw[hx];exact BI _
 have hB2:∀ b∈B,slt e.key b.key=false:=fun b hb=>by
  rcases hB with rfl|⟨x,rfl,hx⟩
  ·simp at hb
  ·simp at hb;subst hb;rw[hx];exact BI _
 unfold applyP
 rw[List.filter_append,List.filter_append,List.filter_append,List.filter_append,Dh hA,CJ hB1,CJ (fun c hc=>CB (hC c hc)),CJ (fun a ha=>CB (hA a ha)),CJ hB2,Dh hC]
 simp
theorem Ih {l:List Pair} (h:SrtP l) (e:Effect):SrtP (applyP l e):=by
 unfold SrtP applyP newP
 have h1:SrtP (l.filter (fun p=>slt p.key e.key)):=List.Pairwise.filter _ h
 have h2:SrtP (l.filter (fun p=>slt e.key p.key)):=List.Pairwise.filter _ h
 refine List.pairwise_append.2 ⟨List.pairwise_append.2 ⟨h1,?_,fun a ha b hb=>?_⟩,h2,fun a ha b hb=>?_⟩
 ·split <;> simp
 ·split at hb
  ·simp at hb
  ·simp at hb;subst hb;exact (List.mem_filter.1 ha).2
 ·have hb2:=(List.mem_filter.1 hb).2
  rcases List.mem_append.1 ha with ha|ha
  ·exact C6 (List.mem_filter.1 ha).2 hb2
  ·split at ha
   ·simp at ha
   ·simp at ha;subst ha;exact hb2
theorem Ii (l:List Pair) (e:Effect) (h:SrtP l):(applyP l e).length≤l.length+1:=by
 obtain⟨A,B,C,rfl,hA,hC,hB⟩:=shapeG (key:=Pair.key) e.key l h
 rw[Cz hA hC hB]
 have:(newP e).length≤1:=by unfold newP;split <;> simp
 simp;omega
def okP (l:List Pair):Prop:=∀ p∈l,okI p.item
theorem Jd {l:List Pair} {e:Effect} (h:okP l) (he:okI e.item):okP (applyP l e):=by
 intro p hp
 unfold applyP newP at hp
 rcases List.mem_append.1 hp with hp|hp
 ·rcases List.mem_append.1 hp with hp|hp
  ·exact h p (List.mem_filter.1 hp).1
  ·split at hp
   ·simp at hp
   ·simp at hp;subst hp;exact he
 ·exact h p (List.mem_filter.1 hp).1
def stepP (e:Effect) (a:Bool×List Pair) (x:Pair):Bool×List Pair :=
 let a1:=if a.1=false∧slt x.key e.key=false then (true,a.2++[⟨e.key,e.item⟩]) else a
 if x.key=e.key then a1 else (a1.1,a1.2++[x])
theorem Nj (e:Effect) (a:Bool×List Pair) (x:Pair):(stepP e a x).2.length≤a.2.length+2:=by
 unfold stepP
 dsimp only
 split <;> split <;> simp <;> omega
theorem GR (e:Effect):∀ (l:List Pair) (a:Bool×List Pair),(l.foldl (stepP e) a).2.length≤a.2.length+2*l.length
 |[],a=>by simp
 |x::l,a=>by
  have h1:=GR e l (stepP e a x)
  have h2:=Nj e a x
  simp only[List.foldl_cons,List.length_cons]
  omega
theorem Je {e:Effect}:∀ (A:List Pair) (d:Bool) (out:List Pair),(∀ a∈A,slt a.key e.key=true)→A.foldl (stepP e) (d,out)=(d,out++A)
 |[],d,out,_=>by simp
 |a::A,d,out,h=>by
  have h1:=h a (by simp)
  have e1:stepP e (d,out) a=(d,out++[a]):=by simp[stepP,h1,Cq h1]
  rw[List.foldl_cons,e1,Je A d (out++[a]) fun b hb=>h b (by simp[hb])]
  simp
theorem Ei {e:Effect}:∀ (A:List Pair) (out:List Pair),(∀ a∈A,slt e.key a.key=true)→A.foldl (stepP e) (true,out)=(true,out++A)
 |[],out,_=>by simp
 |a::A,out,h=>by
  have h1:=h a (by simp)
  have hne:¬ a.key=e.key:=fun h=>Cq h1 h.symm
  have e1:stepP e (true,out) a=(true,out++[a]):=by simp[stepP,hne]
  rw[List.foldl_cons,e1,Ei A (out++[a]) fun b hb=>h b (by simp[hb])]
  simp
theorem Nk {e:Effect} {l:List Pair} (h:SrtP l):(bif (l.foldl (stepP e) (e.gone,[])).1 then (l.foldl (stepP e) (e.gone,[])).2 else (l.foldl (stepP e) (e.gone,[])).2++[⟨e.key,e.item⟩])=applyP l e:=by
 obtain⟨A,B,C,rfl,hA,hC,hB⟩:=shapeG (key:=Pair.key) e.key l h
 rw[Cz hA hC hB,List.foldl_append,List.foldl_append,Je A _ _ hA]
 cases hg:e.gone
 ·rcases hB with rfl|⟨x,rfl,hx⟩
  ·cases C with
   |nil=>simp[newP,hg]
   |cons c C =>
    have h1:=hC c (by simp)
    have hne:¬ c.key=e.key:=fun h=>Cq h1 h.symm
    have e1:stepP e (false,[]++A) c=(true,A++[⟨e.key,e.item⟩,c]):=by simp[stepP,CB h1,hne]
    rw[List.foldl_nil,List.foldl_cons,e1,Ei C _ fun b hb=>hC b (by simp[hb])]
    simp[newP,hg]
  ·have e1:stepP e (false,[]++A) x=(true,A++[⟨e.key,e.item⟩]):=by simp[stepP,hx,BI]
   rw[List.foldl_cons,List.foldl_nil,e1,Ei C _ hC]
   simp[newP,hg]
 ·rcases hB with rfl|⟨x,rfl,hx⟩
  ·rw[List.foldl_nil,Ei C _ hC]
   simp[newP,hg]
  ·have e1:stepP e (true,[]++A) x=(true,A):=by simp[stepP,hx]
   rw[List.foldl_cons,List.foldl_nil,e1,Ei C _ hC]
   simp[newP,hg]
theorem Mw (l:List Pair) (e:Effect) (h:SrtP l) (hl:l.length≤100000000):Dv big l e=some (applyP l e):=by
 unfold Dv
 refine FK l (stepP e) (fun i a=>(a.1,(i:Int),a.2)) (e.gone,[]) (l.foldl (stepP e) (e.gone,[])) (by omega) rfl (fun i hi a ha=>?_) ?_ ?_
 ·have hlen:a.2.length≤2*i:=by
   have:=GR e (l.take i) (e.gone,[])
   rw[← ha] at this
   simp at this
   omega
  simp only[Ai,Af,Aj,Ak,Al,Am,Ag,Option.some.injEq]
  rw[B5 (by omega)]
  simp only[Ai,Af,Aj,Ak,Al,Am,Ag,Option.some.injEq,Aw hi]
  have e2:(ite' (ite' (notB a.1) (some (geS l[i].key e.key)) (some false)).get! (some (true,a.2++[(⟨e.key,e.item⟩:Pair)])) (some (a.1,a.2)))=some (if a.1=false∧slt l[i].key e.key=false then (true,a.2++[⟨e.key,e.item⟩]) else a):=by
   cases h1:a.1 <;> cases h2:slt l[i].key e.key <;> simp[notB,geS,h1,h2,ite'] <;> (rw[← h1])
  rw[AN (by omega) (by omega)]
  have e3:ite' (notB a.1) (some (geS l[i].key e.key)) (some false)=some (ite' (notB a.1) (some (geS l[i].key e.key)) (some false)).get!:=by
   cases a.1 <;> rfl
  rw[e3]
  simp only[Ai,Af,Aj,Ak,Al,Am,Ag,Option.some.injEq]
  rw[e2]
  simp only[Ai,Af,Aj,Ak,Al,Am,Ag,Option.some.injEq]
  rw[Ar (by omega) (by omega)]
  unfold stepP
  dsimp only
  generalize hq:(if a.1=false∧slt l[i].key e.key=false then (true,a.2++[(⟨e.key,e.item⟩:Pair)]) else a)=q
  have hq2:q.2.length≤2*i+1:=by
   rw[← hq]
   split
   ·simp only[List.length_append,List.length_cons,List.length_nil];omega
   ·omega
  by_cases hk:l[i].key=e.key
  ·rw[hk,HK]
   simp[Ak,Af]
  ·rw[show neS l[i].key e.key=true by simp[neS,hk],if_neg hk,Aj,AN (by omega) (by omega)]
   simp only[Ai,Af,Aj,Ak,Al,Am,Ag,Option.some.injEq]
   simp
 ·simp only[Ai,Af,Aj,Ak,Al,Am,Ag,Option.some.injEq]
  rw[BK (by omega)]
  rfl
 ·have hlen:(l.foldl (stepP e) (e.gone,[])).2.length≤2*l.length:=by
   have:=GR e l (e.gone,[])
   simp at this
   omega
  have hA:=Nk (e:=e) h
  have hn:=Ii l e h
  simp only[Ai,Af,Aj,Ak,Al,Am,Ag,Option.some.injEq]
  rw[AN (by omega) (by omega)]
  revert hA
  cases (l.foldl (stepP e) (e.gone,[])).1 <;> intro hA <;> simp at hA <;> rw[hA] <;> simp[notB,ite',Af] <;> rw[AN (by omega) (by omega)]
end Go.Proofs.YtlbdhlbbkibgpaaGreat
namespace Go.Proofs.YtlbdhlbbkibgpaaGreat
open Go Go.RowKit
theorem shr1 {x:Int} (h:0≤x):shrI .u64 x 1=some (x / 2):=by
 simp[shrI,IntKind.bits,Int.fdiv_eq_ediv_of_nonneg]
theorem Nl {a:Int} (h:0≤a) (h2:a<18446744073709551616):cvI .u64 a=a:=by
 simp only[cvI,Hy];omega
theorem LQ (A B C:List Pair) (k:ByteArray) (hA:∀ a∈A,slt a.key k=true) (hC:∀ c∈C,slt k c.key=true) (hB:B=[]∨∃ x,B=[x]∧x.key=k) (hl:(A++B++C).length≤1000000000) :
  AQ big (A++B++C) k=some ((A.length:Int),!B.isEmpty):=by
 have hget:∀ i x,(A++B++C)[i]?=some x→slt x.key k=decide (i<A.length):=fun i x hx=>by
  rw[List.append_assoc] at hx
  by_cases h:i<A.length
  ·rw[List.getElem?_append_left h] at hx
   simp only[h,decide_true]
   exact hA _ (List.mem_of_getElem? hx)
  ·rw[List.getElem?_append_right (by omega)] at hx
   simp only[h,decide_false]
   rcases List.mem_append.1 (List.mem_of_getElem? hx) with hm|hm
   ·rcases hB with rfl|⟨y,rfl,hy⟩
    ·simp at hm
    ·simp at hm;rw[hm,hy];exact BI _
   ·exact CB (hC _ hm)
 have hB2:(A++B++C)[A.length]?=(B++C)[0]?:=by rw[List.append_assoc,List.getElem?_append_right (Nat.le_refl _),Nat.sub_self]
 have hAL:A.length≤(A++B++C).length:=by simp
 generalize A++B++C=L at hget hB2 hl hAL ⊢
 refine Rn.eq ?_
 unfold AQ
 refine Rn.lt (Rn.bn (P:=fun i=>i=(A.length:Int)) (Rn.iter _ (fun q a=>∃ lo hi:Nat,a=((lo:Int),(hi:Int))∧lo≤A.length∧A.length≤hi∧hi≤L.length∧hi - lo<2 ^ (48 - q)) 48 (by unfold big;omega) ⟨0,L.length,rfl,by omega,hAL,Nat.le_refl _,by omega⟩ fun q a hq hI=>?_) fun i hi=>?_)
 ·obtain⟨lo,hi,rfl,h1,h2,h3,h4⟩:=hI
  refine Rn.lt (Rn.ite (fun hg=>?_) (fun hg=>Rn.some ?_))
  ·have hg:=DQ hg
   simp only at hg
   have hq2:q<48:=by
    apply Nat.lt_of_not_le
    intro h
    have:48 - q=0:=by omega
    rw[this] at h4
    omega
   have e48:48 - q=(48 - (q+1))+1:=by omega
   rw[e48,Nat.pow_succ] at h4
   refine Rn.lt (Rn.lt ?_)
   rw[Ar (by simp only;omega) (by simp only;omega),Nl (by simp only;omega) (by simp only;omega)]
   refine Rn.bnE (shr1 (by simp only;omega)) (Rn.lt ?_)
   rw[Cy (by simp only;omega) (by simp only;omega)]
   have em:((lo:Int)+(hi:Int)) / 2=(((lo+hi) / 2:Nat):Int):=by omega
   simp only
   rw[em]
   have hm:(lo+hi) / 2<L.length:=by omega
   have hge:=hget _ _ (List.getElem?_eq_getElem hm)
   refine Rn.bnE (Aw hm) (Rn.bnE (v:=cmpB L[(lo+hi) / 2].key k) rfl (Rn.lt (Rn.ite (fun hc=>Rn.lt (Rn.some ⟨hq2,(lo+hi) / 2+1,hi,?_,?_⟩)) (fun hc=>Rn.some ⟨hq2,lo,(lo+hi) / 2,rfl,?_⟩))))
   ·rw[Ar (by omega) (by omega)]
    exact congrArg (·,(hi:Int)) (by omega)
   ·rw[(LG _ _).1 (DQ hc)] at hge
    have:=of_decide_eq_true hge.symm
    refine⟨?_,h2,h3,?_⟩ <;> omega
   ·have hc2:slt L[(lo+hi) / 2].key k=false:=by
     cases h:slt L[(lo+hi) / 2].key k
     ·rfl
     ·have:=(LG _ _).2 h
      have:=DR hc
      omega
    rw[hc2] at hge
    have:=of_decide_eq_false hge.symm
    refine⟨h1,?_,?_,?_⟩ <;> omega
  ·have hg:=DR hg
   simp only at hg ⊢
   omega
 ·subst hi
  refine Rn.bn (P:=fun b=>b=!B.isEmpty) ?_ fun b hb=>Rn.some (by rw[hb])
  refine Rn.lt (Rn.ite (fun hg=>?_) (fun hg=>Rn.some ?_))
  ·have hg:=DQ hg
   simp only[lenI] at hg
   have hm:A.length<L.length:=by omega
   refine Rn.bnE (Aw hm) (Rn.bnE (v:=cmpB L[A.length].key k) rfl (Rn.lt (Rn.some ?_)))
   rw[List.getElem?_eq_getElem hm] at hB2
   rcases hB with rfl|⟨y,rfl,hy⟩
   ·have hc:=hC L[A.length] (List.mem_of_getElem? (by simpa using hB2.symm))
    have hne:¬ cmpB L[A.length].key k=0:=fun h=>Cq hc ((LH _ _).1 h).symm
    simp[eqI,hne]
   ·simp at hB2
    rw[hB2,hy]
    simp[eqI,(LH k k).2 rfl]
  ·have hg:=DR hg
   simp only[lenI] at hg
   have e:L[A.length]?=none:=List.getElem?_eq_none (by omega)
   rw[e] at hB2
   rcases hB with rfl|⟨y,rfl,hy⟩
   ·rfl
   ·simp at hB2
theorem N0 (A B C:List Pair) (k:ByteArray) (hA:∀ a∈A,slt a.key k=true) (hC:∀ c∈C,slt k c.key=true) (hB:B=[]∨∃ x,B=[x]∧x.key=k) (hl:(A++B++C).length≤1000000000) :
  BB big (A++B++C) k=some ((A.length:Int),!B.isEmpty):=by
 have:=LQ A B C k hA hC hB hl
 unfold BB
 rw[show AY big (A++B++C) k=AQ big (A++B++C) k from rfl,this]
 rfl
theorem N1 (A B C:List Pair) (k:ByteArray) (hA:∀ a∈A,slt a.key k=true) (hC:∀ c∈C,slt k c.key=true) (hB:B=[]∨∃ x,B=[x]∧x.key=k) (hl:(A++B++C).length≤1000000000) :
  CK big (A++B++C) k=some ((A.length:Int),!B.isEmpty):=by
 unfold CK
 rw[LQ A B C k hA hC hB hl]
 rfl
theorem ED:∀ (es:List Effect) (l:List Pair),SrtP l→okP l→(∀ e∈es,okI e.item)→SrtP (es.foldl applyP l)∧okP (es.foldl applyP l)∧(es.foldl applyP l).length≤l.length+es.length
 |[],l,h1,h2,_=>⟨h1,h2,by simp⟩
 |e::es,l,h1,h2,h3=>by
  obtain⟨g1,g2,g3⟩:=ED es (applyP l e) (Ih h1 e) (Jd h2 (h3 e (by simp))) fun x hx=>h3 x (by simp[hx])
  have:=Ii l e h1
  exact⟨g1,g2,by simp only[List.foldl_cons,List.length_cons];omega⟩
theorem IO (l:List Pair) (es:List Effect) (h:SrtP l) (h2:okP l) (he:∀ e∈es,okI e.item) (hl:l.length+es.length≤100000000):BW big l es=some (es.foldl applyP l):=by
 unfold BW
 rw[Df (by omega) (by omega)]
 simp only[Ai,Af,Aj,Ak,Al,Am,Ag,Option.some.injEq]
 refine BO l (fun i=>((i:Int),l)) l.length (by unfold big;omega) rfl (fun i hi=>?_) ?_ ?_
 ·simp only[Ai,Af,Aj,Ak,Al,Am,Ag,Option.some.injEq]
  rw[B5 (by omega),Aw hi]
  simp only[Ai,Af,Aj,Ak,Al,Am,Ag,Option.some.injEq]
  rw[Dg _ (h2 _ (List.getElem_mem hi))]
  simp only[Ai,Af,Aj,Ak,Al,Am,Ag,Option.some.injEq]
  rw[Ar (by omega) (by omega)]
  have e:l.set i { key:=l[i].key,item:=l[i].item }=l:=List.set_getElem_self hi
  simp[e]
 ·simp only[Ai,Af,Aj,Ak,Al,Am,Ag,Option.some.injEq]
  rw[BK (by omega)]
  rfl
 refine FK es applyP (fun i a=>((i:Int),a)) l (es.foldl applyP l) (by omega) rfl (fun i hi a ha=>?_) ?_ ?_
 ·obtain⟨g1,g2,g3⟩:=ED (es.take i) l h h2 fun x hx=>he x (List.mem_of_mem_take hx)
  rw[← ha] at g1 g2 g3
  have hal:a.length≤100000000:=by rw[List.length_take] at g3;omega
  have hok:=he _ (List.getElem_mem hi)
  simp only[Ai,Af,Aj,Ak,Al,Am,Ag,Option.some.injEq]
  rw[B5 (by omega),Aw hi]
  simp only[Ai,Af,Aj,Ak,Al,Am,Ag,Option.some.injEq]
  rw[AN (by omega) (by omega)]
  obtain⟨A,B,C,e,hA,hC,hB⟩:=shapeG (key:=Pair.key) es[i].key a g1
  have hap:applyP a es[i]=A++newP es[i]++C:=by rw[e];exact Cz hA hC hB
  have hf:BB big a es[i].key=some ((A.length:Int),!B.isEmpty):=by rw[e];exact N0 A B C _ hA hC hB (by rw[← e];omega)
  rw[hf,hap]
  simp only[Ai,Af,Aj,Ak,Al,Am,Ag,Option.some.injEq]
  rw[Ar (a:=(i:Int)) (by omega) (by omega)]
  have hlen:A.length+B.length+C.length=a.length:=by rw[e];simp;omega
  rcases hB with rfl|⟨x,rfl,hx⟩
  ·simp only[List.isEmpty_nil,Bool.not_true,Ai,Af,Aj,Ak,Al,Am,Ag,Option.some.injEq]
   cases hg:es[i].gone
   ·simp only[GA,Ai,Af,Aj,Ak,Al,Am,Ag,Option.some.injEq]
    rw[Dg _ hok]
    simp only[Ai,Af,Aj,Ak,Al,Am,Ag,Option.some.injEq]
    rw[F6 (by simp[insB];simp at hlen;omega)]
    have e1:insL a A.length ⟨es[i].key,es[i].item⟩=A++newP es[i]++C:=by rw[e];simp[insL,newP,hg]
    simp[e1,Af]
   ·simp only[Ez,Ai,Af,Aj,Ak,Al,Am,Ag,Option.some.injEq]
    rw[e]
    simp[newP,hg]
  ·simp only[List.isEmpty_cons,Bool.not_false,Ai,Af,Aj,Ak,Al,Am,Ag,Option.some.injEq]
   have hn:(A++[x]++C)[A.length]?=some x:=by simp
   cases hg:es[i].gone
   ·simp only[Ai,Af,Aj,Ak,Al,Am,Ag,Option.some.injEq]
    rw[Dg _ hok]
    simp only[Ai,Af,Aj,Ak,Al,Am,Ag,Option.some.injEq]
    rw[G5,e,hn]
    have e1:(A++[x]++C).set A.length ⟨x.key,es[i].item⟩=A++newP es[i]++C:=by simp[newP,hg,hx]
    simp[e1,Af,Ai]
    simp[newP,hg,hx]
   ·simp only[Ai,Af,Aj,Ak,Al,Am,Ag,Option.some.injEq]
    rw[Ar (by omega) (by omega),F6 (by simp[delB];simp at hlen;omega)]
    have e1:delL a A.length=A++newP es[i]++C:=by rw[e];simp[delL,newP,hg]
    simp[e1,Af]
 ·simp only[Ai,Af,Aj,Ak,Al,Am,Ag,Option.some.injEq]
  rw[BK (by omega)]
  rfl
 ·obtain⟨g1,g2,g3⟩:=ED es l h h2 he
  rw[AN (by omega) (by omega)]
theorem Ij (l:List Pair) (es:List Effect) (h:SrtP l) (h2:okP l) (he:∀ e∈es,okI e.item) (hl:l.length+es.length≤100000000):Dw big l es=some (es.foldl applyP l):=by
 unfold Dw
 rw[AN (by omega) (by omega),AN (by omega) (by omega)]
 refine FK es applyP (fun i a=>(a,(i:Int))) l (es.foldl applyP l) (by omega) rfl (fun i hi a ha=>?_) ?_ rfl
 ·obtain⟨g1,g2,g3⟩:=ED (es.take i) l h h2 fun x hx=>he x (List.mem_of_mem_take hx)
  rw[← ha] at g1 g2 g3
  rw[List.length_take] at g3
  simp only[Ai,Af,Aj,Ak,Al,Am,Ag,Option.some.injEq]
  rw[B5 (by omega),Aw hi]
  simp only[Ai,Af,Aj,Ak,Al,Am,Ag,Option.some.injEq]
  rw[Mw _ _ g1 (by omega)]
  simp only[Ai,Af,Aj,Ak,Al,Am,Ag,Option.some.injEq]
  rw[Ar (by omega) (by omega)]
  rfl
 ·simp only[Ai,Af,Aj,Ak,Al,Am,Ag,Option.some.injEq]
  rw[BK (by omega)]
  rfl
end Go.Proofs.YtlbdhlbbkibgpaaGreat
namespace Go.Proofs.YtlbdhlbbkibgpaaGreat
open Go Go.RowKit
theorem O4 (b c:Bool):ite' b (some c) (some false)=some (b && c):=by cases b <;> rfl
theorem PS (b c:Bool):ite' b (some true) (some c)=some (b || c):=by cases b <;> rfl
def addF (f:Feed) (l:List Effect):Feed:={ f with off:=addI .i64 f.off l.length,back:=lastN (f.back++l) }
theorem N2 (f:Feed) (l:List Effect) (h:okE f.back) (h2:okE l) (h3:f.back.length+l.length≤1000000000):CU big f l=some (addF f l):=by
 have hl:=h2.1
 unfold CU
 simp only[Ai,Af,Aj,Ak,Al,Am,Ag,Option.some.injEq]
 rw[F6 (by simp[catB];omega)]
 simp only[Ai,Af,Aj,Ak,Al,Am,Ag,Option.some.injEq,List.flatten_cons,List.flatten_nil,List.append_nil]
 rw[KI _ (h.app h2 h3)]
 rfl
def allP (l:List Pair):List Effect:=l.map fun p=>⟨p.key,false,p.item⟩
def goesF (f:Feed) (rid:Rid) (off:Int):Bool:=(decide (rid=f.rid) || (decide (rid=f.prev) && decide (off≤f.upto))) && (decide (off≤f.off) && decide (f.off - f.back.length≤off))
def ansF (f:Feed) (db:List Pair) (rid:Rid) (off:Int):Msg :=
 bif goesF f rid off then ⟨5,0,0,0,[],[],0,0,0,f.rid,rid,off,(f.back.drop (off - (f.off - f.back.length)).toNat).take 16⟩ else ⟨6,0,0,0,[],[],0,0,0,f.rid,⟨0,0⟩,f.off,allP db⟩
def okF (f:Feed):Prop:=okE f.back∧f.back.length≤64∧(f.back.length:Int)≤f.off∧f.off≤9223372036854775807
theorem okE.take {l:List Effect} (h:okE l) (k:Nat):okE (l.take k):=⟨by have:=h.1;simp;omega,fun e he=>h.2 e (List.mem_of_mem_take he)⟩
end Go.Proofs.YtlbdhlbbkibgpaaGreat
namespace Go.Proofs.YtlbdhlbbkibgpaaGreat
open Go Go.RowKit
def newerF (f:Feed) (m:Msg):Bool:=!decide (m.rid.node=f.rid.node) || (decide (f.rid.epoch<m.rid.epoch) || (decide (m.rid=f.rid) && decide (f.off<m.off)))
def nextF (f:Feed) (m:Msg):Bool:=decide (m.kind=5) && (decide (m.prev=f.rid) && decide (m.off=f.off))
def gotF (f:Feed) (db:List Pair) (m:Msg):Feed×List Pair×Bool :=
 bif nextF f m then (addF (bif decide (m.rid=f.rid) then f else { f with rid:=m.rid,prev:=f.rid,upto:=f.off }) m.effects,m.effects.foldl applyP db,true)
 else bif decide (m.kind=6) && newerF f m then (⟨m.rid,m.off,[],⟨0,0⟩,0⟩,m.effects.foldl applyP [],true) else (f,db,false)
theorem N3 (f:Feed) (h:f.back.length≤64) (h2:-9223372036854775808≤f.off) (h3:f.off≤9223372036854775807):addF f []=f:=by
 unfold addF lastN
 rw[Ar (by simp;omega) (by simp;omega),List.append_nil,show f.back.length - 64=0 by omega,List.drop_zero]
 simp
end Go.Proofs.YtlbdhlbbkibgpaaGreat
namespace Go.Proofs.YtlbdhlbbkibgpaaGreat
open Go Go.RowKit
end Go.Proofs.YtlbdhlbbkibgpaaGreat
namespace Go.Proofs.YtlbdhlbbkibgpaaGreat
open Go Go.RowKit
def effAt (l:List Int) (i:Nat):Option Effect :=
 bn (nth l ((4*i:Nat):Int)) fun v11=>bn (A5 big v11) fun v12=>bn (nth l ((4*i+1:Nat):Int)) fun v14=>bn (remI .u8 v14 4) fun v15 =>
 bn (ite' (notB (eqI v15 0)) (bn (seglh l ((4*i+1:Nat):Int) ((4*i+4:Nat):Int)) fun v20=>bn (nth l ((4*i+2:Nat):Int)) fun v23=>bn (Cg big v20 v23) fun v24=>some ((⟨v12,eqI v15 0,v24⟩:Effect))) (some ((⟨v12,eqI v15 0,(⟨0,⟨#[]⟩,[],[],0⟩:Item)⟩:Effect)))) fun (y17:Effect) =>
 some y17
theorem N4 (l:List Int) (hl:u8s l) (i:Nat) (h:4*i+3<l.length) (hlen:l.length≤1000000000):Rn (effAt l i) fun e=>okI e.item:=by
 have hb0:=hl _ (List.getElem_mem (show 4*i<l.length by omega))
 have hb1:=hl _ (List.getElem_mem (show 4*i+1<l.length by omega))
 have hb2:=hl _ (List.getElem_mem (show 4*i+2<l.length by omega))
 unfold effAt
 refine Rn.bnE (Aw (show 4*i<l.length by omega)) (Rn.bn (PR _ hb0.1 hb0.2) fun key _=>Rn.bnE (Aw (show 4*i+1<l.length by omega)) (Rn.bnE (A9 hb1.1 (by omega)) (Rn.bn (P:=fun b:Effect=>b.item.f.length≤9∧b.item.l.length≤9) ?_ fun b hb=>Rn.some ?_)))
 ·refine Rn.ite (fun _=>?_) (fun _=>Rn.some ⟨by simp,by simp⟩)
  exact Rn.bnE (Jc (by omega) (by omega)) (Rn.bnE (Aw (show 4*i+2<l.length by omega)) (Rn.bn (NZ _ _ (hl.seg _ _) hb2.1 hb2.2) fun it hit=>Rn.some hit))
 ·exact⟨by omega,by omega⟩
theorem GS (l:List Int) (hl:u8s l) (h:l.length≤1000000000):Rn (BD big l) fun m=>m.length=min 40 (l.length / 4)∧(∀ i,i<m.length→effAt l i=m[i]?)∧∀ e∈m,okI e.item:=by
 unfold BD
 refine Rn.bn (P:=fun m:List Effect=>m.length=min 40 (l.length / 4)∧(∀ i,i<m.length→effAt l i=m[i]?)∧∀ e∈m,okI e.item)
  (Rn.iter _ (fun k a=>a.1=((4*k:Nat):Int)∧a.2.length=k∧4*k≤l.length∧(∀ i,i<k→effAt l i=a.2[i]?)∧∀ e∈a.2,okI e.item) 40 (by unfold big;omega) ⟨rfl,rfl,by omega,by simp,by simp⟩ fun k a hk hI=>?_) fun m hm=>Rn.room (by omega) (by omega) (Rn.some hm)
 obtain⟨i,m⟩:=a
 obtain⟨rfl,i2,i5,i6,i3⟩:=hI
 simp only at i2 i3 i6
 refine Rn.bn (P:=fun b:Bool=>(b=true→k<40∧4*k+3<l.length)∧(b=false→k=min 40 (l.length / 4))) ?_ fun b hb=>Rn.lt (Rn.ite (fun hd=>?_) (fun hd=>Rn.some ⟨by simp only[i2];exact hb.2 hd,by simp only[i2];exact i6,i3⟩))
 ·refine Rn.lt ?_
  rw[Ar (by simp only;omega) (by simp only;omega)]
  refine Rn.lt (Rn.lt (Rn.ite (fun hg=>Rn.lt (Rn.lt (Rn.some ?_))) (fun hg=>Rn.some ?_)))
  ·have h1:=DQ hg
   simp only[lenI] at h1
   refine⟨fun h2=>?_,fun h2=>?_⟩
   ·have h2:=DQ h2
    simp only[lenI,i2] at h2
    omega
   ·have h2:=DR h2
    simp only[lenI,i2] at h2
    omega
  ·have h1:=DR hg
   simp only[lenI] at h1
   exact⟨fun h=>by simp at h,fun _=>by omega⟩
 ·obtain⟨h40,h4⟩:=hb.1 hd
  obtain⟨e,he,hok⟩:=N4 l hl k h4 h
  have he':=he
  unfold effAt at he
  rw[show addI .i64 ((4*k:Nat):Int) 1=((4*k+1:Nat):Int) by rw[Ar (by omega) (by omega)];omega,show addI .i64 ((4*k:Nat):Int) 4=((4*k+4:Nat):Int) by rw[Ar (by omega) (by omega)];omega,show addI .i64 ((4*k:Nat):Int) 2=((4*k+2:Nat):Int) by rw[Ar (by omega) (by omega)];omega]
  obtain⟨w1,e1,he⟩:=bnE he
  obtain⟨w2,e2,he⟩:=bnE he
  obtain⟨w3,e3,he⟩:=bnE he
  obtain⟨w4,e4,he⟩:=bnE he
  obtain⟨w5,e5,he⟩:=bnE he
  have heq:=Option.some.inj he
  clear he
  subst heq
  refine Rn.bnE e1 (Rn.bnE e2 (Rn.lt (Rn.bnE e3 (Rn.bnE e4 (Rn.lt (Rn.bnE (v:=w5) e5 (Rn.room ?_ ?_ (Rn.lt (Rn.lt (Rn.some ⟨h40,?_,?_,by omega,?_,?_⟩))))))))))
  ·simp only;omega
  ·simp only;omega
  ·simp only;omega
  ·simp[i2]
  ·intro i hi
   show effAt l i=(m++[_])[i]?
   by_cases hik:i<k
   ·rw[i6 i hik,List.getElem?_append_left (by omega)]
   ·have:i=k:=by omega
    subst this
    rw[he',List.getElem?_append_right (by omega),i2,Nat.sub_self]
    rfl
  ·intro x hx
   rcases List.mem_append.1 hx with hx|hx
   ·exact i3 x hx
   ·simp only[List.mem_singleton] at hx
    rw[hx]
    exact hok
end Go.Proofs.YtlbdhlbbkibgpaaGreat
namespace Go.Proofs.YtlbdhlbbkibgpaaGreat
open Go Go.RowKit
def mkF (r:Int) (l:List Effect):Feed:=⟨⟨r % 4,r / 64⟩,l.length,l,⟨0,0⟩,0⟩
def dbOf (l:List Effect):List Pair:=l.foldl applyP []
theorem O5 {l:List Effect} (h:∀ e∈l,okI e.item):SrtP (dbOf l)∧okP (dbOf l)∧(dbOf l).length≤l.length:=by
 obtain⟨g1,g2,g3⟩:=ED l [] .nil (by simp[okP]) h
 exact⟨g1,g2,by simp at g3;exact g3⟩
def harm (fr:Rid) (o:Nat) (m:Msg):Prop:=m.rid=fr∧okE m.effects∧m.effects.length≤100∧((m.kind=5∧(m.prev≠fr∨m.off<o∨m.effects=[]))∨(m.kind=6∧m.off≤o))
theorem harm.mono {fr:Rid} {o o':Nat} {m:Msg} (h:harm fr o m) (ho:o≤o'):harm fr o' m:=by
 obtain⟨h1,h2,h3,h4⟩:=h
 refine⟨h1,h2,h3,?_⟩
 rcases h4 with ⟨a,b|b|b⟩|⟨a,b⟩
 ·exact .inl ⟨a,.inl b⟩
 ·exact .inl ⟨a,.inr (.inl (by omega))⟩
 ·exact .inl ⟨a,.inr (.inr b)⟩
 ·exact .inr ⟨a,by omega⟩
theorem harm.got {g:Feed} {own:List Pair} {o:Nat} {m:Msg} (h:harm g.rid o m) (ho:g.off=o) (hb:g.back.length≤64) (hs:o≤1000000):(gotF g own m).1=g∧(gotF g own m).2.1=own:=by
 obtain⟨h1,h2,h3,h4⟩:=h
 unfold gotF
 cases hn:nextF g m
 ·have hw:(decide (m.kind=6) && newerF g m)=false:=by
   rcases h4 with ⟨a,b⟩|⟨a,b⟩
   ·simp[a]
   ·simp only[newerF,h1,ho]
    have:¬ (o:Int)<m.off:=by omega
    simp[this]
  rw[hw]
  exact⟨rfl,rfl⟩
 ·have he:m.effects=[]:=by
   simp only[nextF,Bool.and_eq_true,decide_eq_true_eq] at hn
   obtain⟨n1,n2,n3⟩:=hn
   rcases h4 with ⟨a,b|b|b⟩|⟨a,b⟩
   ·exact absurd n2 b
   ·omega
   ·exact b
   ·omega
  rw[he,show decide (m.rid=g.rid)=true by simp[h1]]
  exact⟨N3 g hb (by omega) (by omega),rfl⟩
def At (r other:Int) (l:List Effect) (k i:Nat) (g:Feed) (own:List Pair) (sent:List Msg):Prop :=
 sent.length=i∧okE g.back∧g.back.length≤64∧((i=0∧g.rid≠(mkF r l).rid∧g=mkF other (l.take k)∧own=dbOf (l.take k)) ∨
 ∃ o:Nat,g.rid=(mkF r l).rid∧g.off=o∧o≤l.length∧min l.length (16*i)≤o∧own=dbOf (l.take o)∧∀ m∈sent,harm (mkF r l).rid o m)
end Go.Proofs.YtlbdhlbbkibgpaaGreat
namespace Go.Proofs.YtlbdhlbbkibgpaaGreat
open Go Go.RowKit
theorem OD {a b:Int} (h:gtI a b=false):a≤b:=by simpa [gtI] using h
theorem leI_d {a b:Int} (h:leI a b=true):a≤b:=by simpa [leI] using h
theorem geI_d {a b:Int} (h:geI a b=true):b≤a:=by simpa [geI] using h
end Go.Proofs.YtlbdhlbbkibgpaaGreat
namespace Go.Proofs.YtlbdhlbbkibgpaaGreat
open Go Go.RowKit
def rawP (l:List Pair) (k:ByteArray):Option Item:=(l.find? fun p=>decide (p.key=k)).map fun p=>p.item
def noI:Item:=⟨0,⟨#[]⟩,[],[],0⟩
theorem Ik {A B C:List Pair} {k:ByteArray} (hA:∀ a∈A,slt a.key k=true) (hC:∀ c∈C,slt k c.key=true) (hB:B=[]∨∃ x,B=[x]∧x.key=k):rawP (A++B++C) k=(B.head?).map fun p=>p.item:=by
 have h1:A.find? (fun p=>decide (p.key=k))=none:=List.find?_eq_none.2 fun p hp=>by simpa using Cq (hA p hp)
 have h2:C.find? (fun p=>decide (p.key=k))=none:=List.find?_eq_none.2 fun p hp=>by simpa using fun e=>Cq (hC p hp) e.symm
 unfold rawP
 rw[List.find?_append,List.find?_append,h1,h2]
 rcases hB with rfl|⟨x,rfl,hx⟩
 ·rfl
 ·simp[hx]
theorem KJ (l:List Pair) (k:ByteArray) (h:SrtP l) (ho:okP l) (hl:l.length≤1000000000):Da big l k=some ((rawP l k).getD noI,(rawP l k).isSome):=by
 obtain⟨A,B,C,rfl,hA,hC,hB⟩:=shapeG (key:=Pair.key) k l h
 unfold Da
 rw[N1 A B C k hA hC hB hl,Ik hA hC hB]
 rcases hB with rfl|⟨x,rfl,hx⟩
 ·rfl
 ·have hn:(A++[x]++C)[A.length]?=some x:=by simp
  simp only[Ai,Af,Aj,Ak,Al,Am,Ag,Option.some.injEq,List.isEmpty_cons,Bool.not_false,Ez,G5,hn]
  rw[Dg _ (ho x (by simp))]
  rfl
def alive (i:Item) (now:Int):Bool:=decide (i.exp=0) || decide (now<i.exp)
def getP (l:List Pair) (k:ByteArray) (now:Int):Option Item:=bif alive ((rawP l k).getD noI) now then rawP l k else none
theorem Nm:okI noI:=⟨by simp[noI],by simp[noI]⟩
end Go.Proofs.YtlbdhlbbkibgpaaGreat
namespace Go.Proofs.YtlbdhlbbkibgpaaGreat
open Go Go.RowKit
theorem ltT {a b:Int} (h:a<b):ltI a b=true:=by simp[ltI,h]
theorem ltF {a b:Int} (h:¬ a<b):ltI a b=false:=by simp[ltI];omega
theorem FL (c:UInt8):∀ l:List UInt8,(Lib.indexByte l c=-1∧∀ b∈l,b≠c)∨∃ i:Nat,Lib.indexByte l c=i∧∃ hi:i<l.length,l[i]=c∧∀ j (hj:j<i),l[j]≠c
 |[]=>.inl ⟨rfl,by simp⟩
 |b::l=>by
  by_cases h:b=c
  ·refine .inr ⟨0,?_,by simp,h,fun j hj=>by omega⟩
   unfold Lib.indexByte
   simp[h]
  ·rcases FL c l with ⟨h1,h2⟩|⟨i,h1,hi,h2,h3⟩
   ·refine .inl ⟨?_,fun x hx=>?_⟩
    ·unfold Lib.indexByte
     simp[h,h1]
    ·rcases List.mem_cons.1 hx with rfl|hx
     ·exact h
     ·exact h2 x hx
   ·refine .inr ⟨i+1,?_,by simp;omega,by simpa using h2,fun j hj=>?_⟩
    ·unfold Lib.indexByte
     have:¬ ((i:Int)=-1):=by omega
     simp[h,h1,this]
    ·cases j with
     |zero=>exact h
     |succ j=>simpa using h3 j (by omega)
theorem F8 {s:ByteArray} {i:Nat} (h:i<s.size):bAt s i=((s.data.toList[i]'(by simpa using h)).toNat:Int):=by
 unfold bAt
 rw[dif_pos h]
 rfl
theorem HL {a:UInt8} {c:Nat} (hc:c<256):((a.toNat:Int)=(c:Int))↔a=(c:Int).toNat.toUInt8:=by
 have e:((c:Int).toNat.toUInt8).toNat=c:=by simp;omega
 constructor
 ·intro h
  apply UInt8.toNat_inj.1
  rw[e]
  omega
 ·rintro rfl
  rw[e]
theorem Jf (s:ByteArray) (c:Int) (hc0:0≤c) (hc:c<256):(idxB s c=-1∧∀ i,i<s.size→bAt s i≠c)∨∃ i:Nat,idxB s c=i∧i<s.size∧bAt s i=c∧∀ j,j<i→bAt s j≠c:=by
 obtain⟨c,rfl⟩:∃ n:Nat,c=n:=⟨c.toNat,by omega⟩
 have hc:c<256:=by omega
 have hlen:s.data.toList.length=s.size:=by simp
 rcases FL ((c:Int).toNat.toUInt8) s.data.toList with ⟨h1,h2⟩|⟨i,h1,hi,h2,h3⟩
 ·refine .inl ⟨h1,fun i hi=>?_⟩
  rw[F8 hi,Ne,HL hc]
  exact h2 _ (List.getElem_mem _)
 ·refine .inr ⟨i,h1,by omega,?_,fun j hj=>?_⟩
  ·rw[F8 (by omega),HL hc]
   exact h2
  ·rw[F8 (by omega),Ne,HL hc]
   exact h3 j hj
theorem KL (s:ByteArray):Bs big s=some (idxB s 123):=by
 unfold Bs
 by_cases h:(⟨#[123]⟩:ByteArray)=s
 ·subst h
  rfl
 ·simp only[Ai,eqS,decide_eq_false h,Ak]
  rfl
theorem Hq (s:ByteArray):Be big s=some (idxB s 125):=by
 unfold Be
 by_cases h:(⟨#[125]⟩:ByteArray)=s
 ·subst h
  rfl
 ·simp only[Ai,eqS,decide_eq_false h,Ak]
  rfl
theorem geT {a b:Int} (h:b≤a):geI a b=true:=by simp[geI,h]
theorem geF {a b:Int} (h:¬ b≤a):geI a b=false:=by simp[geI];omega
theorem PT (s:ByteArray) (h:idxB s 123=-1):BC big s=some (s,⟨#[]⟩,false):=by
 unfold BC BL
 rw[KL,h]
 rfl
theorem Nn (s:ByteArray) (h:idxB s 125=-1):Bf big s=some (s,⟨#[]⟩,false):=by
 unfold Bf Bm
 rw[Hq,h]
 rfl
theorem No (s:ByteArray) (i:Nat) (h:idxB s 123=i) (hi:i<s.size) (hs:s.size≤1000000000000):BC big s=some (s.extract 0 i,s.extract (i+1) s.size,true):=by
 unfold BC BL
 rw[KL,h]
 have e1:segSh s (i:Int)=some (s.extract 0 i):=by
  unfold segSh
  rw[if_pos (by omega)]
  rfl
 have e2:segSl s ((i:Int)+1)=some (s.extract (i+1) s.size):=by
  unfold segSl
  rw[if_pos (by omega)]
  rfl
 simp only[Ai,Af,Aj,Ak,Al,Am,Ag,Option.some.injEq]
 rw[geT (by omega),Ar (by omega) (by omega),e1,e2]
 rfl
theorem Np (s:ByteArray) (i:Nat) (h:idxB s 125=i) (hi:i<s.size) (hs:s.size≤1000000000000):Bf big s=some (s.extract 0 i,s.extract (i+1) s.size,true):=by
 unfold Bf Bm
 rw[Hq,h]
 have e1:segSh s (i:Int)=some (s.extract 0 i):=by
  unfold segSh
  rw[if_pos (by omega)]
  rfl
 have e2:segSl s ((i:Int)+1)=some (s.extract (i+1) s.size):=by
  unfold segSl
  rw[if_pos (by omega)]
  rfl
 simp only[Ai,Af,Aj,Ak,Al,Am,Ag,Option.some.injEq]
 rw[geT (by omega),Ar (by omega) (by omega),e1,e2]
 rfl
theorem Fx {s:ByteArray} {a j:Nat} (h:a+j<s.size):bAt (s.extract a s.size) j=bAt s (a+j):=by
 have h2:j<(s.extract a s.size).size:=by rw[ByteArray.size_extract];omega
 unfold bAt
 rw[dif_pos h2,dif_pos h,ByteArray.getElem_extract]
theorem EE {s:ByteArray} {i:Nat} (h:i<s.size):atS s (i:Int)=some (bAt s i):=by
 unfold atS
 rw[if_pos (by omega)]
 rfl
theorem neT {a b:Int} (h:a≠b):neI a b=true:=by simp[neI,h]
theorem eqF' {a b:Int} (h:a≠b):eqI a b=false:=by simp[eqI,h]
theorem PU (s:ByteArray) (hs:s.size≤1000000000000):∃ t:ByteArray,CC big s=some t∧BU big s=some t∧t.size≤s.size:=by
 rcases Jf s 123 (by omega) (by omega) with ⟨h1,h2⟩|⟨i,h1,h2,h3,h4⟩
 ·refine⟨s,?_,?_,Nat.le_refl _⟩
  ·unfold CC
   refine BO (.inl ()) (fun i=>(i:Int)) s.size (by unfold big;omega) rfl (fun i hi=>?_) ?_ rfl
   ·simp only[Ai]
    rw[ltT (by simp only[lenS];omega),EE hi]
    simp only[Ai,Af,Aj,Ak,Al,Am,Ag,Option.some.injEq]
    rw[neT (h2 i hi),Aj,Ar (by omega) (by omega)]
    rfl
   ·simp only[Ai]
    rw[ltF (by simp only[lenS];omega)]
    rfl
  ·unfold BU
   rw[PT s h1]
   rfl
 have hstep:∀ q,q<i→∀ {γ:Type} (x:Option (Int ⊕ γ)) (y:Option (Int ⊕ γ)),ite' (ltI (q:Int) (lenS s)) (bn (atS s (q:Int)) fun v6=>ite' (neI v6 123) (some (.inl (addI .i64 (q:Int) 1))) x) y=some (.inl ((q+1:Nat):Int)):=fun q hq γ x y=>by
  rw[ltT (by simp only[lenS];omega),EE (by omega)]
  simp only[Ai,Af,Aj,Ak,Al,Am,Ag,Option.some.injEq]
  rw[neT (h4 q hq),Aj,Ar (by omega) (by omega)]
  rfl
 have hsz:(s.extract (i+1) s.size).size=s.size - (i+1):=by rw[ByteArray.size_extract];omega
 rcases Jf (s.extract (i+1) s.size) 125 (by omega) (by omega) with ⟨k1,k2⟩|⟨j,k1,k2,k3,k4⟩
 ·have k2:∀ q,i+1+q<s.size→bAt s (i+1+q)≠125:=fun q hq=>by
   have:=k2 q (by omega)
   rwa [Fx hq] at this
  refine⟨s,?_,?_,Nat.le_refl _⟩
  ·unfold CC
   refine BO (.inr s) (fun i=>(i:Int)) i (by unfold big;omega) rfl (fun q hq=>hstep q hq _ _) ?_ rfl
   simp only[Ai]
   rw[ltT (by simp only[lenS];omega),EE h2]
   simp only[Ai,Af,Aj,Ak,Al,Am,Ag,Option.some.injEq,h3]
   rw[show neI (123:Int) 123=false by rfl,Ak]
   refine BO (.inl ()) (fun q=>((i+1+q:Nat):Int)) (s.size - (i+1)) (by unfold big;omega) (by rw[Ar (by omega) (by omega)];omega) (fun q hq=>?_) ?_ rfl
   ·rw[ltT (by simp only[lenS];omega),EE (by omega)]
    simp only[Ai,Af,Aj,Ak,Al,Am,Ag,Option.some.injEq]
    rw[eqF' (k2 q (by omega)),Ak,Ar (by omega) (by omega)]
    rfl
   ·rw[ltF (by simp only[lenS];omega)]
    rfl
  ·unfold BU
   rw[No s i h1 h2 hs]
   simp only[Ai,Af,Aj,Ak,Al,Am,Ag,Option.some.injEq]
   rw[Nn _ k1]
   rfl
 ·have hj:i+1+j<s.size:=by omega
  have k3:bAt s (i+1+j)=125:=by rwa [Fx hj] at k3
  have k4:∀ q,q<j→bAt s (i+1+q)≠125:=fun q hq=>by
   have:=k4 q hq
   rwa [Fx (by omega)] at this
  have hex:(s.extract (i+1) s.size).extract 0 j=s.extract (i+1) (i+1+j):=by
   rw[ByteArray.extract_extract]
   congr 1
   omega
  have hez:(s.extract (i+1) (i+1+j)).size=j:=by rw[ByteArray.size_extract];omega
  have hslot:BU big s=some (bif decide (j=0) then s else s.extract (i+1) (i+1+j)):=by
   unfold BU
   rw[No s i h1 h2 hs]
   simp only[Ai,Af,Aj,Ak,Al,Am,Ag,Option.some.injEq]
   rw[Np _ j k1 k2 (by omega)]
   simp only[Ai,Af,Aj,Ak,Al,Am,Ag,Option.some.injEq,hex]
   by_cases h0:j=0
   ·have:s.extract (i+1) (i+1+j)=⟨#[]⟩:=by
     apply ByteArray.ext
     apply Array.eq_empty_of_size_eq_zero
     exact hez.trans h0
    rw[this,show neS (⟨#[]⟩:ByteArray) ⟨#[]⟩=false by rfl,decide_eq_true h0]
    rfl
   ·have:s.extract (i+1) (i+1+j)≠⟨#[]⟩:=fun h=>by
     rw[h] at hez
     exact h0 hez.symm
    rw[show neS (s.extract (i+1) (i+1+j)) ⟨#[]⟩=true by simp[neS,this],decide_eq_false h0]
    rfl
  have hr1:CC big s=some (bif decide (j=0) then s else s.extract (i+1) (i+1+j)):=by
   unfold CC
   refine BO (.inr (bif decide (j=0) then s else s.extract (i+1) (i+1+j))) (fun i=>(i:Int)) i (by unfold big;omega) rfl (fun q hq=>hstep q hq _ _) ?_ rfl
   simp only[Ai]
   rw[ltT (by simp only[lenS];omega),EE h2]
   simp only[Ai,Af,Aj,Ak,Al,Am,Ag,Option.some.injEq,h3]
   rw[show neI (123:Int) 123=false by rfl,Ak]
   refine BO (.inr (bif decide (j=0) then s else s.extract (i+1) (i+1+j))) (fun q=>((i+1+q:Nat):Int)) j (by unfold big;omega) (by rw[Ar (by omega) (by omega)];omega) (fun q hq=>?_) ?_ rfl
   ·rw[ltT (by simp only[lenS];omega),EE (by omega)]
    simp only[Ai,Af,Aj,Ak,Al,Am,Ag,Option.some.injEq]
    rw[eqF' (k4 q hq),Ak,Ar (by omega) (by omega)]
    rfl
   ·rw[ltT (by simp only[lenS];omega),EE hj]
    simp only[Ai,Af,Aj,Ak,Al,Am,Ag,Option.some.injEq,k3]
    rw[show eqI (125:Int) 125=true by rfl,Aj,Ar (by omega) (by omega)]
    by_cases h0:j=0
    ·rw[show eqI ((i+1+j:Nat):Int) ((i:Int)+1)=true by simp[eqI];omega,decide_eq_true h0]
     rfl
    ·rw[eqF' (by omega),decide_eq_false h0,Ak]
     have:segSlh s ((i:Int)+1) ((i+1+j:Nat):Int)=some (s.extract (i+1) (i+1+j)):=by
      unfold segSlh segS
      rw[if_pos (by omega)]
      rfl
     rw[this]
     rfl
  refine⟨_,hr1,hslot,?_⟩
  cases decide (j=0)
  ·simp only[cond_false];omega
  ·exact Nat.le_refl _
theorem LR {x y:Nat} (hx:x<2 ^ 62) (hy:y<2 ^ 62):xorI .i64 (x:Int) (y:Int)=((x ^^^ y:Nat):Int):=by
 have h:=Nat.xor_lt_two_pow hx hy
 show IntKind.i64.wrap ((BitVec.ofInt 64 (x:Int) ^^^ BitVec.ofInt 64 (y:Int)).toNat:Int)=_
 simp only[BitVec.ofInt_natCast,BitVec.toNat_xor,BitVec.toNat_ofNat]
 rw[Nat.mod_eq_of_lt (show x<2 ^ 64 by omega),Nat.mod_eq_of_lt (show y<2 ^ 64 by omega),wrap64 (by omega) (by omega)]
theorem wrapU16 (a:Int):IntKind.u16.wrap a=a % 65536:=by simp[IntKind.wrap,IntKind.bits,IntKind.signed]
theorem LS {x y:Nat} (hx:x<2 ^ 16) (hy:y<2 ^ 16):xorI .u16 (x:Int) (y:Int)=((x ^^^ y:Nat):Int):=by
 have h:=Nat.xor_lt_two_pow hx hy
 show IntKind.u16.wrap ((BitVec.ofInt 16 (x:Int) ^^^ BitVec.ofInt 16 (y:Int)).toNat:Int)=_
 simp only[BitVec.ofInt_natCast,BitVec.toNat_xor,BitVec.toNat_ofNat]
 rw[Nat.mod_eq_of_lt hx,Nat.mod_eq_of_lt hy,wrapU16]
 omega
theorem O6 {x:Nat} (hx:x<2 ^ 62):andI .i64 (x:Int) 65535=((x % 65536:Nat):Int):=by
 have e:(65535:Int)=((65535:Nat):Int):=rfl
 rw[e]
 show IntKind.i64.wrap ((BitVec.ofInt 64 (x:Int) &&& BitVec.ofInt 64 ((65535:Nat):Int)).toNat:Int)=_
 simp only[BitVec.ofInt_natCast,BitVec.toNat_and,BitVec.toNat_ofNat]
 rw[Nat.mod_eq_of_lt (show x<2 ^ 64 by omega),show 65535 % 2 ^ 64=2 ^ 16 - 1 by rfl,Nat.and_two_pow_sub_one_eq_mod,wrap64 (by omega) (by omega)]
def bit1 (c:Nat):Nat:=if 32768≤c then (2*c ^^^ 4129) % 65536 else 2*c
theorem O7 {c:Nat} (h:c<65536):bit1 c<65536:=by unfold bit1;split <;> omega
def bits:Nat→Nat→Nat
 |0,c=>c
 |k+1,c=>bit1 (bits k c)
theorem G6 {c:Nat} (h:c<65536):∀ k,bits k c<65536
 |0=>h
 |k+1=>O7 (G6 h k)
def byteN (s:ByteArray) (i:Nat):Nat:=(bAt s i).toNat
theorem HM (s:ByteArray) (i:Nat):bAt s i=(byteN s i:Int)∧byteN s i<256:=by
 unfold byteN bAt
 split
 ·rename_i h
  have:=(s[i]'h).toNat_lt
  omega
 ·exact⟨rfl,by simp⟩
def crcN (s:ByteArray):Nat→Nat
 |0=>0
 |i+1=>bits 8 (crcN s i ^^^ byteN s i*256)
theorem FM (s:ByteArray):∀ i,crcN s i<65536
 |0=>by simp[crcN]
 |i+1=>by
  have h1:=FM s i
  have h2:=(HM s i).2
  exact G6 (Nat.xor_lt_two_pow (n:=16) (by omega) (by omega)) 8
theorem Nq (s:ByteArray) (hs:s.size≤1000000000000):EA big s=some (crcN s s.size:Int):=by
 unfold EA
 refine BO (crcN s s.size:Int) (fun i=>((crcN s i:Int),(i:Int))) s.size (by unfold big;omega) rfl (fun i hi=>?_) ?_ rfl
 ·simp only[Ai]
  rw[ltT (by simp only[lenS];omega),EE hi]
  obtain⟨b1,b2⟩:=HM s i
  have hc:=FM s i
  rw[b1]
  simp only[Ai,Af,Aj,Ak,Al,Am,Ag,Option.some.injEq]
  rw[Cy (by omega) (by omega)]
  have e1:shlI .i64 (byteN s i:Int) 8=some ((byteN s i*256:Nat):Int):=by
   unfold shlI
   rw[if_pos (by omega)]
   simp only[IntKind.bits,show min (8:Int).toNat 64=8 by rfl]
   rw[wrap64 (by omega) (by omega)]
   congr 1
  rw[e1]
  simp only[Af]
  rw[LR (by omega) (by omega)]
  have hx:crcN s i ^^^ byteN s i*256<65536:=Nat.xor_lt_two_pow (n:=16) (by omega) (by omega)
  have hcs:crcN s (i+1)=bits 8 (crcN s i ^^^ byteN s i*256):=rfl
  rw[hcs]
  clear hcs
  generalize crcN s i ^^^ byteN s i*256=x at hx ⊢
  refine BO (bits 8 x:Int) (fun k=>((bits k x:Int),(k:Int))) 8 (by unfold big;omega) rfl (fun k hk=>?_) ?_ ?_
  ·simp only
   rw[ltT (by omega),Aj]
   have hb:=G6 hx k
   have e2:shlI .i64 (bits k x:Int) 1=some ((2*bits k x:Nat):Int):=by
    unfold shlI
    rw[if_pos (by omega)]
    simp only[IntKind.bits,show min (1:Int).toNat 64=1 by rfl]
    rw[wrap64 (by omega) (by omega)]
    congr 1
    omega
   rw[e2]
   simp only[Af]
   have e3:ite' (geI ((2*bits k x:Nat):Int) 65536) (some (andI .i64 (xorI .i64 ((2*bits k x:Nat):Int) 4129) 65535)) (some ((2*bits k x:Nat):Int))=some (bit1 (bits k x):Int):=by
    unfold bit1
    by_cases h:32768≤bits k x
    ·rw[geT (by omega),if_pos h,Aj,show (4129:Int)=((4129:Nat):Int) by rfl,LR (by omega) (by omega)]
     have h2:2*bits k x ^^^ 4129<2 ^ 17:=Nat.xor_lt_two_pow (by omega) (by omega)
     rw[O6 (by omega)]
    ·rw[geF (by omega),if_neg h,Ak]
   rw[e3]
   simp only[Af]
   rw[Ar (by omega) (by omega)]
   rfl
  ·simp only
   rw[ltF (by omega)]
   rfl
  ·rw[Ar (by omega) (by omega)]
   rfl
 ·simp only[Ai]
  rw[ltF (by simp only[lenS];omega)]
  rfl
theorem Il (s:ByteArray):(bytesI s).length=s.size:=by simp[bytesI]
theorem Mx (s:ByteArray) (i:Nat) (h:i<(bytesI s).length):(bytesI s)[i]=bAt s i:=by
 rw[F8 (by rw[Il] at h;exact h)]
 simp[bytesI]
theorem Lm (s:ByteArray) (hs:s.size≤1000000000000):Dz big (bytesI s)=some (crcN s s.size:Int):=by
 unfold Dz
 have hl:=Il s
 simp only[Ai]
 refine BO (crcN s s.size:Int) (fun i=>((crcN s i:Int),(i:Int))) s.size (by unfold big;omega) rfl (fun i hi=>?_) ?_ ?_
 ·simp only
  rw[ltT (by simp only[lenI];omega),Aw (by omega),Mx]
  obtain⟨b1,b2⟩:=HM s i
  have hc:=FM s i
  rw[b1]
  simp only[Ai,Af,Aj,Ak,Al,Am,Ag,Option.some.injEq]
  have e0:cvI .u16 (byteN s i:Int)=(byteN s i:Int):=by unfold cvI;rw[wrapU16];omega
  rw[e0]
  have e1:shlI .u16 (byteN s i:Int) 8=some ((byteN s i*256:Nat):Int):=by
   unfold shlI
   rw[if_pos (by omega)]
   simp only[IntKind.bits,show min (8:Int).toNat 16=8 by rfl]
   rw[wrapU16]
   congr 1
   omega
  rw[e1]
  simp only[Af]
  rw[LS (by omega) (by omega)]
  have hx:crcN s i ^^^ byteN s i*256<65536:=Nat.xor_lt_two_pow (n:=16) (by omega) (by omega)
  have hcs:crcN s (i+1)=bits 8 (crcN s i ^^^ byteN s i*256):=rfl
  rw[hcs]
  clear hcs
  generalize crcN s i ^^^ byteN s i*256=x at hx ⊢
  refine BO (bits 8 x:Int) (fun k=>((bits k x:Int),(k:Int))) 8 (by unfold big;omega) rfl (fun k hk=>?_) ?_ ?_
  ·simp only
   rw[ltT (by omega),Aj]
   have hb:=G6 hx k
   have e2:shlI .u16 (bits k x:Int) 1=some ((2*bits k x % 65536:Nat):Int):=by
    unfold shlI
    rw[if_pos (by omega)]
    simp only[IntKind.bits,show min (1:Int).toNat 16=1 by rfl]
    rw[wrapU16]
    congr 1
    omega
   have e4:shrI .u16 (bits k x:Int) 15=some ((bits k x / 32768:Nat):Int):=by
    unfold shrI
    rw[if_pos (by omega)]
    simp only[IntKind.bits,show min (15:Int).toNat 16=15 by rfl]
    rw[Int.fdiv_eq_ediv_of_nonneg _ (by omega)]
    rfl
   rw[e2,e4]
   simp only[Af]
   have e5:mulI .u16 4129 ((bits k x / 32768:Nat):Int)=((4129*(bits k x / 32768):Nat):Int):=by
    unfold mulI
    rw[wrapU16]
    omega
   rw[e5,LS (by omega) (by omega)]
   have e3:(2*bits k x % 65536) ^^^ (4129*(bits k x / 32768))=bit1 (bits k x):=by
    unfold bit1
    by_cases h:32768≤bits k x
    ·rw[if_pos h,show bits k x / 32768=1 by omega]
     have:=@Nat.xor_mod_two_pow (2*bits k x) 4129 16
     rw[show (2:Nat) ^ 16=65536 by rfl] at this
     rw[this]
    ·rw[if_neg h,show bits k x / 32768=0 by omega,Nat.mod_eq_of_lt (by omega),Nat.mul_zero,Nat.xor_zero]
   rw[e3,Ar (by omega) (by omega)]
   rfl
  ·simp only
   rw[ltF (by omega)]
   rfl
  ·rw[Ar (by omega) (by omega)]
   rfl
 ·simp only
  rw[ltF (by simp only[lenI];omega)]
  rfl
 ·have hc:=FM s s.size
  rw[Cy (by omega) (by omega)]
def slotOf (k:ByteArray):Int:=(Ce big k).getD 0
theorem G7 (k:ByteArray) (h:k.size≤1000000000000):Ce big k=some (slotOf k)∧CH big k=some (slotOf k):=by
 obtain⟨t,h1,h2,h3⟩:=PU k h
 have hc:=FM t t.size
 have e:remI .i64 (crcN t t.size:Int) 16384=some (((crcN t t.size) % 16384:Nat):Int):=by
  simp[remI,Int.tmod_eq_emod_of_nonneg]
 have e1:Ce big k=some (((crcN t t.size) % 16384:Nat):Int):=by
  unfold Ce
  rw[h1]
  simp only[Af]
  rw[Nq t (by omega)]
  simp only[Af]
  rw[e]
  rfl
 have e2:CH big k=some (((crcN t t.size) % 16384:Nat):Int):=by
  unfold CH
  rw[h2]
  simp only[Af]
  rw[AN (by omega) (by omega)]
  simp only[Ai]
  rw[Lm t (by omega)]
  simp only[Af]
  rw[e]
  rfl
 unfold slotOf
 rw[e1,e2]
 exact⟨rfl,rfl⟩
def inP (l:List Pair) (s:Int):List ByteArray:=(l.filter fun p=>decide (slotOf p.key=s)).map fun p=>p.key
theorem KM (l:List Pair) (s:Int) (i:Nat) (hi:i<l.length):inP (l.take (i+1)) s=bif decide (slotOf l[i].key=s) then inP (l.take i) s++[l[i].key] else inP (l.take i) s:=by
 rw[← List.take_append_getElem hi]
 unfold inP
 rw[List.filter_append,List.map_append]
 by_cases h:slotOf l[i].key=s
 ·simp[h]
 ·simp[h]
theorem FN (l:List Pair) (s:Int):(inP l s).length≤l.length:=by
 unfold inP
 rw[List.length_map]
 exact List.length_filter_le _ _
theorem LT (l:List Pair) (s:Int) (hl:l.length≤1000000000) (hk:∀ p∈l,p.key.size≤1000000000000):DU big l s=some (inP l s):=by
 unfold DU
 have hlen:=FN l s
 refine BO (inP l s) (fun i=>((i:Int),inP (l.take i) s)) l.length (by unfold big;omega) rfl (fun i hi=>?_) ?_ ?_
 ·have hn:=FN (l.take i) s
  rw[List.length_take] at hn
  simp only[Ai,Af,Aj,Ak,Al,Am,Ag,Option.some.injEq]
  rw[ltT (by omega),Aw hi]
  simp only[Ai,Af,Aj,Ak,Al,Am,Ag,Option.some.injEq]
  rw[(G7 _ (hk _ (List.getElem_mem hi))).1]
  simp only[Ai,Af,Aj,Ak,Al,Am,Ag,Option.some.injEq]
  rw[AN (by omega) (by omega),Ar (by omega) (by omega),KM l s i hi]
  unfold eqI
  cases decide (slotOf l[i].key=s) <;> rfl
 ·simp only[Ai,Af,Aj,Ak,Al,Am,Ag,Option.some.injEq]
  rw[ltF (by omega),List.take_length]
  rfl
 ·rw[AN (by omega) (by omega)]
theorem Ln (l:List Pair) (s:Int) (hl:l.length≤1000000000) (hk:∀ p∈l,p.key.size≤1000000000000):DA big l s=some (inP l s):=by
 unfold DA DM Bt Bk
 have hlen:=FN l s
 simp only[Ai,Af,Aj,Ak,Al,Am,Ag,Option.some.injEq]
 have e:∀ x:Option (List ByteArray),x=some (inP l s)→(bn (bn (bn x fun y4=>some y4) fun y1=>chk (room y1.length 1) (some y1)) fun v1=>some v1)=some (inP l s):=by
  rintro x rfl
  simp only[Ai,Af,Aj,Ak,Al,Am,Ag,Option.some.injEq]
  rw[AN (by omega) (by omega)]
  rfl
 refine (congrArg (fun x=>bn x fun v2=>some v2) (e _ ?_)).trans rfl
 refine Fc (fun i=>((i:Int),inP (l.take i) s)) l.length (by unfold big;omega) rfl (fun i hi=>?_) ?_
 ·have hn:=FN (l.take i) s
  rw[List.length_take] at hn
  simp only[Ai,Af,Aj,Ak,Al,Am,Ag,Option.some.injEq]
  rw[ltT (by omega),Aw hi]
  simp only[Ai,Af,Aj,Ak,Al,Am,Ag,Option.some.injEq]
  rw[(G7 _ (hk _ (List.getElem_mem hi))).2]
  simp only[Ai,Af,Aj,Ak,Al,Am,Ag,Option.some.injEq]
  rw[AN (by omega) (by omega),Ar (by omega) (by omega),KM l s i hi]
  unfold eqI
  cases decide (slotOf l[i].key=s) <;> rfl
 ·simp only[Ai,Af,Aj,Ak,Al,Am,Ag,Option.some.injEq]
  rw[ltF (by omega),List.take_length]
  rfl
end Go.Proofs.YtlbdhlbbkibgpaaGreat
namespace Go.Proofs.YtlbdhlbbkibgpaaGreat
open Go Go.RowKit
def keyT (j:Nat):ByteArray:=(A5 big (j:Int)).getD ⟨#[]⟩
theorem O8 (n:Int) (h:0≤n) (h2:n≤255):A5 big n=A5 big (n % 20):=by
 unfold A5
 rw[A9 h (by omega),A9 (show 0≤n % 20 by omega) (by omega),Cy (by omega) (by omega),Cy (show -9223372036854775808≤n % 20 by omega) (by omega)]
 simp only[Af,Ai]
 rw[IN h (by omega) (by omega),IN (show 0≤n % 20 by omega) (by omega) (by omega)]
 simp only[Af]
 rw[A9 (by omega) (by omega),A9 (show 0≤n % 20 / 4 by omega) (by omega),show n % 20 % 4=n % 4 by omega,show n % 20 / 4 % 5=n / 4 % 5 by omega]
def keysB:Bool:=(List.range 20).all fun j=>(A5 big (j:Int)).isSome && decide ((keyT j).size=4) && decide (slotOf (keyT j)=slotOf (keyT (j % 4)))
theorem N5:keysB=true:=by kernel_rfl
def slotsB:Bool:=(List.range 4).all fun a=>(List.range 4).all fun b=>decide (a=b) || !decide (slotOf (keyT a)=slotOf (keyT b))
theorem IP {j:Nat} (h:j<20):A5 big (j:Int)=some (keyT j)∧(keyT j).size=4∧slotOf (keyT j)=slotOf (keyT (j % 4)):=by
 have h1:=List.all_eq_true.1 N5 j (List.mem_range.2 h)
 simp only[Bool.and_eq_true,decide_eq_true_eq] at h1
 refine⟨?_,h1.1.2,h1.2⟩
 unfold keyT
 cases h2:A5 big (j:Int) with
 |none=>rw[h2] at h1;simp at h1
 |some v=>rfl
theorem HN (n:Int) (h:0≤n) (h2:n≤255):∃ j:Nat,j<20∧(j:Int)=n % 20∧A5 big n=some (keyT j):=by
 refine⟨(n % 20).toNat,by omega,by omega,?_⟩
 rw[O8 n h h2,← (IP (show (n % 20).toNat<20 by omega)).1]
 congr 1
 omega
def keyed (k:ByteArray):Prop:=∃ j,j<20∧k=keyT j
theorem Nr (l:List Int) (hl:u8s l) (i:Nat) (h:4*i+3<l.length) (e:Effect) (he:effAt l i=some e):keyed e.key∧(e.gone=true→e.item=noI):=by
 have hb0:=hl _ (List.getElem_mem (show 4*i<l.length by omega))
 have hb1:=hl _ (List.getElem_mem (show 4*i+1<l.length by omega))
 unfold effAt at he
 rw[Aw (show 4*i<l.length by omega),Aw (show 4*i+1<l.length by omega)] at he
 simp only[Af] at he
 obtain⟨j,hj,-,hk⟩:=HN _ hb0.1 hb0.2
 rw[hk,A9 hb1.1 (by omega)] at he
 simp only[Af] at he
 cases hg:eqI (l[4*i+1] % 4) 0
 ·rw[hg] at he
  obtain⟨y,hy,he⟩:=bnE he
  have he:=Option.some.inj he
  subst he
  rw[show notB false=true from rfl,Aj] at hy
  obtain⟨_,-,hy⟩:=bnE hy
  obtain⟨_,-,hy⟩:=bnE hy
  obtain⟨_,-,hy⟩:=bnE hy
  have hy:=Option.some.inj hy
  subst hy
  exact⟨⟨j,hj,rfl⟩,fun h=>by cases h⟩
 ·rw[hg] at he
  simp only[Ez,Ak,Af,Option.some.injEq] at he
  subst he
  exact⟨⟨j,hj,rfl⟩,fun _=>rfl⟩
def okM (m:List Effect):Prop:=m.length≤40∧∀ e∈m,okI e.item∧keyed e.key∧(e.gone=true→e.item=noI)
theorem GT (l:List Int) (hl:u8s l) (h:l.length≤1000000000):Rn (BD big l) okM:=by
 refine (GS l hl h).mono fun m hm=>?_
 obtain⟨h1,h2,h3⟩:=hm
 refine⟨by omega,fun e he=>⟨h3 e he,?_⟩⟩
 obtain⟨i,hi,rfl⟩:=List.getElem_of_mem he
 exact Nr l hl i (by omega) _ (by rw[h2 i hi,List.getElem?_eq_getElem hi])
theorem Im (Q:ByteArray→Prop):∀ (es:List Effect) (l:List Pair),(∀ p∈l,Q p.key)→(∀ e∈es,Q e.key)→∀ p∈es.foldl applyP l,Q p.key
 |[],l,h1,_=>h1
 |e::es,l,h1,h2=>by
  refine Im Q es (applyP l e) (fun p hp=>?_) fun x hx=>h2 x (by simp[hx])
  unfold applyP newP at hp
  rcases List.mem_append.1 hp with hp|hp
  ·rcases List.mem_append.1 hp with hp|hp
   ·exact h1 p (List.mem_filter.1 hp).1
   ·split at hp
    ·simp at hp
    ·simp at hp;subst hp;exact h2 e (by simp)
  ·exact h1 p (List.mem_filter.1 hp).1
def setO (k:ByteArray) (o:Option Item) (e:Effect):Option Item:=if e.key=k then (if e.gone then none else some e.item) else o
theorem KN {l:List Pair} {k:ByteArray}:(rawP l k).isSome=true↔∃ p∈l,p.key=k:=by
 unfold rawP
 rw[Option.isSome_map,List.find?_isSome]
 simp
theorem O9 {l:List Pair} {s:Int} {k:ByteArray}:k∈inP l s↔slotOf k=s∧∃ p∈l,p.key=k:=by
 unfold inP
 simp only[List.mem_map,List.mem_filter,decide_eq_true_eq]
 constructor
 ·rintro⟨p,⟨h1,h2⟩,rfl⟩
  exact⟨h2,p,h1,rfl⟩
 ·rintro⟨h1,p,h2,rfl⟩
  exact⟨p,⟨h2,h1⟩,rfl⟩
theorem LU {l:List Pair} (h:SrtP l) (s:Int):(inP l s).Pairwise fun a b=>slt a b=true:=by
 unfold inP
 exact List.pairwise_map.2 (List.Pairwise.filter _ h)
def okDB (db:List Pair):Prop:=SrtP db∧okP db∧db.length≤40∧∀ p∈db,keyed p.key
theorem Ns (ns:List Int) (hu:u8s ns) (h:ns.length≤1000000000):Rn (BJ big ns) okDB:=by
 unfold BJ
 refine Rn.bn (GT ns hu h) fun m hm=>?_
 obtain⟨h1,h2⟩:=hm
 have ho:∀ e∈m,okI e.item:=fun e he=>(h2 e he).1
 refine Rn.bnE (Ij [] m .nil (by simp[okP]) ho (by simp;omega)) (Rn.some ?_)
 obtain⟨g1,g2,g3⟩:=O5 ho
 exact⟨g1,g2,by have:=g3;unfold dbOf at this;omega,Im keyed m [] (by simp) fun e he=>(h2 e he).2.1⟩
theorem Ej {k:ByteArray} (h:keyed k):k.size=4:=by
 obtain⟨j,hj,rfl⟩:=h
 exact (IP hj).2.1
def cntS (f:Nat→Nat):Nat→Nat
 |0=>0
 |k+1=>cntS f k+f k
def hasS (l:List ByteArray) (x:ByteArray):Bool:=l.any fun y=>decide (y=x)
theorem Nt {l:List ByteArray} {x:ByteArray} (h:x∈l):hasS l x=true:=List.any_eq_true.2 ⟨x,h,by simp⟩
theorem PV {l:List ByteArray} {x:ByteArray} (h:x ∉ l):hasS l x=false:=by
 cases hh:hasS l x
 ·rfl
 ·obtain⟨y,h1,h2⟩:=List.any_eq_true.1 hh
  exact absurd (of_decide_eq_true h2 ▸ h1) h
theorem Nu (l:List ByteArray) (x:ByteArray) (h:l.length≤1000000000):H8 big l x=some (hasS l x):=by
 refine Rn.eq ?_
 unfold H8
 refine Rn.bn (P:=fun y=>(y=.inl ()∧x ∉ l)∨(y=.inr true∧x∈l)) (Rn.iter _ (fun q a=>a=(q:Int)∧∀ i (h:i<q) (hi:i<l.length),l[i]≠x) l.length (by unfold big;omega) ⟨rfl,fun i h=>by omega⟩ fun q a hq hI=>?_) fun y hy=>?_
 ·obtain⟨rfl,hI⟩:=hI
  simp only[Ai,Af,Aj,Ak,Al,Am,Ag,Option.some.injEq]
  by_cases hq2:q<l.length
  ·rw[B5 (by omega),Aw hq2]
   simp only[Ai,Af,Aj,Ak,Al,Am,Ag,Option.some.injEq,eqS]
   by_cases hk:l[q]=x
   ·rw[decide_eq_true hk]
    exact⟨_,rfl,.inr ⟨rfl,hk ▸ List.getElem_mem hq2⟩⟩
   ·rw[decide_eq_false hk]
    refine⟨_,rfl,hq2,by rw[Ar (by omega) (by omega)];omega,fun i hi h1=>?_⟩
    by_cases hiq:i=q
    ·subst hiq;exact hk
    ·exact hI i (by omega) h1
  ·obtain rfl:q=l.length:=by omega
   rw[BK (by omega)]
   refine⟨_,rfl,.inl ⟨rfl,fun hx=>?_⟩⟩
   obtain⟨i,hi,e⟩:=List.getElem_of_mem hx
   exact hI i hi hi e
 ·rcases hy with ⟨rfl,h⟩|⟨rfl,h⟩
  ·exact⟨_,rfl,(PV h).symm⟩
  ·exact⟨_,rfl,(Nt h).symm⟩
theorem Lo {l:List Pair} {k:ByteArray} {it:Item} (h:SrtP l) (hk:(rawP l k).isSome=true):(applyP l ⟨k,true,it⟩).length+1=l.length:=by
 obtain⟨A,B,C,rfl,hA,hC,hB⟩:=shapeG (key:=Pair.key) k l h
 rw[Cz (e:=⟨k,true,it⟩) hA hC hB]
 rw[Ik hA hC hB] at hk
 rcases hB with rfl|⟨x,rfl,hx⟩
 ·simp at hk
 ·simp[newP];omega
end Go.Proofs.YtlbdhlbbkibgpaaGreat
namespace Go.Proofs.YtlbdhlbbkibgpaaGreat
open Go Go.RowKit
end Go.Proofs.YtlbdhlbbkibgpaaGreat
namespace Go.Proofs.YtlbdhlbbkibgpaaGreat
open Go Go.RowKit
theorem gtT {a b:Int} (h:b<a):gtI a b=true:=decide_eq_true h
theorem gtF {a b:Int} (h:¬ b<a):gtI a b=false:=decide_eq_false h
theorem Pa {a b:Int}:gtI a b=false↔a≤b:=⟨OD,fun h=>gtF (by omega)⟩
theorem Pb {a b:Int}:ltI a b=false↔b≤a:=⟨fun h=>DR h,fun h=>BK (by omega)⟩
theorem Pc {a b:Int}:leI a b=true↔a≤b:=⟨fun h=>leI_d h,fun h=>decide_eq_true h⟩
theorem Pd {a b:Int}:geI a b=true↔b≤a:=⟨fun h=>geI_d h,fun h=>decide_eq_true h⟩
theorem G8 {s:ByteArray} (h:¬ s.size≤300):gtI (lenS s) 300=true:=gtT (by simp only[lenS];omega)
theorem FO {s:ByteArray} (h:s.size≤300):gtI (lenS s) 300=false:=gtF (by simp only[lenS];omega)
theorem allN {ρ:Type} (n:Nat) (hn:n<big) (ok:Nat→Prop) (r:ρ) (f:Int→Option (Int ⊕ (Unit ⊕ ρ))) (h1:∀ i,i<n→ok i→f (i:Int)=some (.inl ((i+1:Nat):Int)))
  (h2:∀ i,i<n→¬ ok i→f (i:Int)=some (.inr (.inr r))) (he:f (n:Int)=some (.inr (.inl ()))):Rn (iter big f 0) fun y=>(y=.inl ()∧∀ i,i<n→ok i)∨(y=.inr r∧∃ i,i<n∧¬ ok i):=by
 refine Rn.iter _ (fun q a=>a=(q:Int)∧∀ i,i<q→ok i) n hn ⟨rfl,fun i h=>by omega⟩ fun q a hq hI=>?_
 obtain⟨rfl,hI⟩:=hI
 by_cases hl:q<n
 ·by_cases h:ok q
  ·rw[h1 q hl h]
   refine⟨_,rfl,hl,rfl,fun i hi=>?_⟩
   by_cases hiq:i=q
   ·subst hiq;exact h
   ·exact hI i (by omega)
  ·rw[h2 q hl h]
   exact⟨_,rfl,.inr ⟨rfl,q,hl,h⟩⟩
 ·obtain rfl:q=n:=by omega
  rw[he]
  exact⟨_,rfl,.inl ⟨rfl,hI⟩⟩
def risesAt {α:Type} (key:α→ByteArray) (l:List α) (i:Nat):Prop:=∀ (h:0<i) (hi:i<l.length),slt (key l[i - 1]) (key l[i])=true
def rises {α:Type} (key:α→ByteArray) (l:List α):Prop:=l.Pairwise fun a b=>slt (key a) (key b)=true
theorem Jg {α:Type} (key:α→ByteArray) (l:List α):rises key l↔∀ i,i<l.length→risesAt key l i:=by
 constructor
 ·intro h i hi h0 hi2
  exact List.pairwise_iff_getElem.1 h (i - 1) i (by omega) hi2 (by omega)
 ·intro h
  refine List.pairwise_iff_getElem.2 fun i j hi hj hij=>?_
  obtain⟨d,rfl⟩:∃ d,j=i+1+d:=⟨j - (i+1),by omega⟩
  clear hij
  induction d with
  |zero=>exact h (i+1) hj (by omega) hj
  |succ d ih=>exact C6 (ih (by omega)) (h (i+1+(d+1)) hj (by omega) hj)
def okFld (x:Field):Prop:=x.name.size≤300∧x.val.size≤300
def shapeI (it:Item):Prop:=(it.kind=1∧it.f=[]∧it.l=[])∨(it.kind=2∧it.s=⟨#[]⟩∧it.l=[]∧it.f≠[])∨((it.kind=3∨it.kind=4)∧it.s=⟨#[]⟩∧it.f=[]∧it.l≠[])
def sizesI (it:Item):Prop:=it.s.size≤300∧(∀ x∈it.f,okFld x)∧∀ x∈it.l,x.size≤300
def mayI (it:Item):Prop:=shapeI it∧sizesI it∧it.f.length≤40∧it.l.length≤40∧0≤it.exp∧it.exp≤9007199254740992∧rises (fun x:Field=>x.name) it.f∧(it.kind=4→rises (fun x=>x) it.l)
theorem len0 {α:Type} (l:List α):eqI (lenI l) 0=decide (l=[]):=by
 cases l with
 |nil=>rfl
 |cons x l=>rw[decide_eq_false (by simp)];exact decide_eq_false (by simp only[lenI,List.length_cons];omega)
theorem risingLoop {α:Type} (key:α→ByteArray) (l:List α) (hl:l.length≤140737488355328) :
  Rn (bn (lt (lenI l) fun v2=>bn (iter big (fun (y3:Int×Bool×ByteArray)=>lt (ltI y3.1 v2) fun v6=>ite' v6 (bn (nth l y3.1) fun v7=>bn (bn (lt (notB y3.2.1) fun v10=>ite' v10 (lt (leS (key v7) y3.2.2) fun v11=>some (v11)) (some (false))) fun (y9:Bool)=>lt (y9) fun v12=>ite' v12 (some (.inr ())) (some (.inl ()))) fun (y8:Unit ⊕ Unit) =>
   sm y8 (fun y13=>lt (addI .i64 y3.1 1) fun v15=>some (.inl (v15,false,key v7))) (fun y14=>some (.inr (.inr (y3.2.1,y3.2.2))))) (some (.inr (.inl (y3.2.1,y3.2.2))))) (0,true,⟨#[]⟩)) fun (y4:(Bool×ByteArray) ⊕ (Bool×ByteArray))=>sm y4 (fun y16=>some (.inl ())) (fun y17=>some (.inr false))) fun (y1:Unit ⊕ Bool)=>sm y1 (fun y18=>some true) (fun y19=>some y19))
   fun b=>(b=true↔rises key l):=by
 refine Rn.bn (P:=fun y=>(y=.inl ()∧rises key l)∨(y=.inr false∧¬ rises key l)) ?_ fun y hy=>?_
 ·refine Rn.lt (Rn.bn (P:=fun y=>(∃ z,y=.inl z∧rises key l)∨(∃ z,y=.inr z∧¬ rises key l)) (Rn.iter _ (fun q a=>a.1=(q:Int)∧(a.2.1=true↔q=0)∧(∀ (h:0<q) (hq:q - 1<l.length),a.2.2=key l[q - 1])∧∀ i,i<q→risesAt key l i) l.length (by unfold big;omega) ⟨rfl,by simp,fun h=>by omega,fun i h=>by omega⟩ fun q a hq hI=>?_) fun y hy=>?_)
  ·obtain⟨i,first,ahead⟩:=a
   obtain⟨rfl,h1,h2,h3⟩:=hI
   simp only at h1 h2
   simp only[Ai,Af,Aj,Ak,Al,Am,Ag,Option.some.injEq]
   by_cases hl2:q<l.length
   ·rw[B5 (by omega),Aw hl2]
    simp only[Ai,Af,Aj,Ak,Al,Am,Ag,Option.some.injEq]
    by_cases hr:risesAt key l q
    ·have e:ite' (notB first) (some (leS (key l[q]) ahead)) (some false)=some false:=by
      cases first
      ·have hq0:0<q:=by
        apply Nat.pos_of_ne_zero
        intro h
        simpa using h1.2 h
       rw[h2 hq0 (by omega),GA,Aj]
       simp[leS,hr hq0 hl2]
      ·rfl
     rw[e]
     simp only[Ai,Af,Aj,Ak,Al,Am,Ag,Option.some.injEq]
     refine⟨_,rfl,hl2,?_,by simp,fun _ _=>by simp,fun i hi=>?_⟩
     ·rw[Ar (by omega) (by omega)];omega
     ·by_cases hiq:i=q
      ·subst hiq;exact hr
      ·exact h3 i (by omega)
    ·have hq0:0<q:=by
      apply Nat.pos_of_ne_zero
      intro h
      exact hr fun h0=>by omega
     have hf:first=false:=by
      cases first
      ·rfl
      ·have:=h1.1 rfl
       omega
     subst hf
     have hn:slt (key l[q - 1]) (key l[q])=false:=by
      cases h:slt (key l[q - 1]) (key l[q])
      ·rfl
      ·exact absurd (fun _ _=>h) hr
     rw[h2 hq0 (by omega),GA,Aj]
     simp only[leS,hn,Ai,Af,Aj,Ak,Al,Am,Ag,Option.some.injEq,Bool.not_false]
     exact⟨_,rfl,.inr ⟨_,rfl,fun h=>hr ((Jg key l).1 h q hl2)⟩⟩
   ·obtain rfl:q=l.length:=by omega
    rw[BK (by omega)]
    exact⟨_,rfl,.inl ⟨_,rfl,(Jg key l).2 h3⟩⟩
  ·rcases hy with ⟨z,rfl,h⟩|⟨z,rfl,h⟩
   ·exact⟨_,rfl,.inl ⟨rfl,h⟩⟩
   ·exact⟨_,rfl,.inr ⟨rfl,h⟩⟩
 ·rcases hy with ⟨rfl,h⟩|⟨rfl,h⟩
  ·exact⟨_,rfl,by simp[h]⟩
  ·exact⟨_,rfl,by simp[h]⟩
theorem N6 (l:List Field) (hl:l.length≤140737488355328):Rn (Do big l) fun b=>(b=true↔rises (fun x:Field=>x.name) l):=risingLoop (fun x:Field=>x.name) l hl
theorem N7 (l:List ByteArray) (hl:l.length≤140737488355328):Rn (B4 big l) fun b=>(b=true↔rises (fun x=>x) l):=risingLoop (fun x=>x) l hl
def shapeP (it:Item):Prop:=shapeI it∧it.f.length≤40∧it.l.length≤40∧rises (fun x:Field=>x.name) it.f∧(it.kind=4→rises (fun x=>x) it.l)
theorem IQ {α:Type} (l:List α):B2 big (lenI l)=some (decide (l≠[]∧l.length≤40)):=by
 unfold B2
 simp only[Ai,O4,Af]
 congr 1
 rw[Bool.eq_iff_iff]
 simp only[Bool.and_eq_true,decide_eq_true_eq,Pc,Pd,lenI]
 cases l with
 |nil=>simp
 |cons x l =>
  simp only[List.length_cons,ne_eq,reduceCtorEq,not_false_eq_true,true_and]
  constructor
  ·rintro⟨-,h⟩
   omega
  ·intro h
   omega
theorem GU {α:Type} (key:α→ByteArray):rises key []:=.nil
theorem My (it:Item) (ho:okI it):Rn (Cw big it) fun b=>(b=true↔shapeP it):=by
 unfold Cw
 obtain⟨o1,o2⟩:=ho
 refine Rn.lt (Rn.ite (fun h1=>?_) (fun h1=>Rn.lt (Rn.ite (fun h2=>?_) (fun h2=>Rn.lt (Rn.ite (fun h3=>?_) (fun h3=>Rn.lt (Rn.ite (fun h4=>?_) (fun h4=>?_))))))))
 ·have h1:it.kind=1:=by simpa [eqI] using h1
  refine Rn.lt (Rn.lt (Rn.lt (Rn.lt (Rn.some ?_))))
  simp only[lenI]
  rw[Ar (by omega) (by omega)]
  unfold shapeP shapeI
  simp only[h1,eqI,decide_eq_true_eq]
  constructor
  ·intro h
   have hf:it.f=[]:=List.length_eq_zero_iff.1 (by omega)
   have hl:it.l=[]:=List.length_eq_zero_iff.1 (by omega)
   simp[hf,hl,GU]
  ·intro h
   simp at h
   simp[h.1]
 ·have h2:it.kind=2:=by simpa [eqI] using h2
  refine Rn.bn (P:=fun b=>(b=true↔shapeP it)) ?_ fun b hb=>Rn.some hb
  refine Rn.lt (Rn.ite (fun hs=>?_) (fun hs=>Rn.some ?_))
  rotate_left
  ·have hs:it.s≠⟨#[]⟩:=by simpa [eqS] using hs
   simp[shapeP,shapeI,h2,hs]
  have hs:it.s=⟨#[]⟩:=by simpa [eqS] using hs
  refine Rn.lt (Rn.lt ?_)
  rw[len0]
  refine Rn.ite (fun hl=>?_) (fun hl=>Rn.some ?_)
  rotate_left
  ·have hl:it.l≠[]:=by simpa using hl
   simp[shapeP,shapeI,h2,hl]
  have hl:it.l=[]:=by simpa using hl
  refine Rn.lt (Rn.bnE (IQ it.f) (Rn.ite (fun hf=>?_) (fun hf=>Rn.some ?_)))
  rotate_left
  ·have hf:¬ (it.f≠[]∧it.f.length≤40):=of_decide_eq_false hf
   unfold shapeP shapeI
   simp only[h2,hs,hl]
   constructor
   ·intro h;simp at h
   ·rintro⟨h,h',-⟩
    simp at h
    exact absurd ⟨h,h'⟩ hf
  have hf:it.f≠[]∧it.f.length≤40:=of_decide_eq_true hf
  unfold DO
  refine Rn.bnE rfl (Rn.bn (N6 it.f (by omega)) fun b hb=>Rn.some (hb.trans ?_))
  unfold shapeP shapeI
  simp[h2,hs,hl,hf.1,hf.2]
 ·have h3:it.kind=3:=by simpa [eqI] using h3
  refine Rn.bn (P:=fun b=>(b=true↔shapeP it)) ?_ fun b hb=>Rn.some hb
  refine Rn.lt (Rn.ite (fun hs=>?_) (fun hs=>Rn.some ?_))
  rotate_left
  ·have hs:it.s≠⟨#[]⟩:=by simpa [eqS] using hs
   simp[shapeP,shapeI,h3,hs]
  have hs:it.s=⟨#[]⟩:=by simpa [eqS] using hs
  refine Rn.lt (Rn.lt ?_)
  rw[len0]
  refine Rn.ite (fun hf=>?_) (fun hf=>Rn.some ?_)
  rotate_left
  ·have hf:it.f≠[]:=by simpa using hf
   simp[shapeP,shapeI,h3,hf]
  have hf:it.f=[]:=by simpa using hf
  refine Rn.lt (Rn.bnE (IQ it.l) (Rn.some ?_))
  unfold shapeP shapeI
  simp[h3,hs,hf,GU]
 ·have h4:it.kind=4:=by simpa [eqI] using h4
  refine Rn.bn (P:=fun b=>(b=true↔shapeP it)) ?_ fun b hb=>Rn.some hb
  refine Rn.lt (Rn.ite (fun hs=>?_) (fun hs=>Rn.some ?_))
  rotate_left
  ·have hs:it.s≠⟨#[]⟩:=by simpa [eqS] using hs
   simp[shapeP,shapeI,h4,hs]
  have hs:it.s=⟨#[]⟩:=by simpa [eqS] using hs
  refine Rn.lt (Rn.lt ?_)
  rw[len0]
  refine Rn.ite (fun hf=>?_) (fun hf=>Rn.some ?_)
  rotate_left
  ·have hf:it.f≠[]:=by simpa using hf
   simp[shapeP,shapeI,h4,hf]
  have hf:it.f=[]:=by simpa using hf
  refine Rn.lt (Rn.bnE (IQ it.l) (Rn.ite (fun hl=>?_) (fun hl=>Rn.some ?_)))
  rotate_left
  ·have hl:¬ (it.l≠[]∧it.l.length≤40):=of_decide_eq_false hl
   unfold shapeP shapeI
   simp only[h4,hs,hf]
   constructor
   ·intro h;simp at h
   ·rintro⟨h,-,h',-⟩
    simp at h
    exact absurd ⟨h,h'⟩ hl
  have hl:it.l≠[]∧it.l.length≤40:=of_decide_eq_true hl
  unfold By
  refine Rn.bnE rfl (Rn.bn (N7 it.l (by omega)) fun b hb=>Rn.some (hb.trans ?_))
  unfold shapeP shapeI
  simp[h4,hs,hf,hl.1,hl.2,GU]
 ·have h1:it.kind≠1:=by simpa [eqI] using h1
  have h2:it.kind≠2:=by simpa [eqI] using h2
  have h3:it.kind≠3:=by simpa [eqI] using h3
  have h4:it.kind≠4:=by simpa [eqI] using h4
  refine Rn.some ?_
  simp[shapeP,shapeI,h1,h2,h3,h4]
theorem KO (it:Item) (ho:okI it):Rn (DE big it) fun b=>(b=true↔mayI it):=by
 unfold DE
 refine Rn.bn (P:=fun b=>(b=false↔(shapeP it∧0≤it.exp∧it.exp≤9007199254740992))) ?_ fun b hb=>Rn.lt (Rn.ite (fun hd=>Rn.some ?_) (fun hd=>?_))
 ·obtain⟨v,hv,hv2⟩:=My it ho
  refine Rn.bnE hv ⟨_,by simp only[Ai,PS];rfl,?_⟩
  cases v
  ·have:¬ shapeP it:=fun h=>by simpa using hv2.2 h
   simp[notB,this]
  ·have:shapeP it:=hv2.1 rfl
   simp only[this,Ez,Bool.false_or,Pa,Pb,Bool.or_eq_false_iff,true_and]
 ·have hno:¬ mayI it:=fun h=>by
   have:=hb.2 ⟨⟨h.1,h.2.2.1,h.2.2.2.1,h.2.2.2.2.2.2⟩,h.2.2.2.2.1,h.2.2.2.2.2.1⟩
   rw[hd] at this
   simp at this
  simp[hno]
 ·obtain⟨⟨b1,b2,b3,b4⟩,b5,b6⟩:=hb.1 hd
  refine Rn.bn (P:=fun y=>(y=.inl ()∧sizesI it)∨(y=.inr false∧¬ sizesI it)) ?_ fun y hy=>?_
  rotate_left
  ·rcases hy with ⟨rfl,h⟩|⟨rfl,h⟩
   ·exact⟨_,rfl,fun _=>⟨b1,h,b2,b3,b5,b6,b4⟩,fun _=>rfl⟩
   ·have:¬ mayI it:=fun hm=>h hm.2.1
    exact⟨_,rfl,by simp[this]⟩
  unfold DP
  refine Rn.bnE rfl ?_
  by_cases hs:it.s.size≤300
  rotate_left
  ·have:¬ sizesI it:=fun h=>hs h.1
   refine⟨_,by simp only[Ai];rw[G8 (s:=it.s) (by omega)];rfl,.inr ⟨rfl,this⟩⟩
  simp only[Ai]
  rw[FO (s:=it.s) (by omega)]
  simp only[Ai,Af,Aj,Ak,Al,Am,Ag,Option.some.injEq]
  refine Rn.bn (allN it.f.length (by unfold big;omega) (fun i=>(hi:i<it.f.length)→okFld it.f[i]) () _ (fun i hi hok=>?_) (fun i hi hok=>?_) ?_) fun y hy=>?_
  ·obtain⟨o1,o2⟩:=hok hi
   rw[B5 (by omega),Aw hi]
   simp only[Ai,Af,Aj,Ak,Al,Am,Ag,Option.some.injEq]
   rw[FO (s:=it.f[i].name) (by omega),FO (s:=it.f[i].val) (by omega)]
   simp only[Ai,Af,Aj,Ak,Al,Am,Ag,Option.some.injEq]
   rw[Ar (by omega) (by omega)]
   rfl
  ·rw[B5 (by omega),Aw hi]
   simp only[Ai,Af,Aj,Ak,Al,Am,Ag,Option.some.injEq]
   by_cases o1:it.f[i].name.size≤300
   ·by_cases o2:it.f[i].val.size≤300
    ·exact absurd (fun _=>⟨o1,o2⟩) hok
    ·rw[FO (s:=it.f[i].name) (by omega),G8 (s:=it.f[i].val) (by omega)]
     rfl
   ·rw[G8 (s:=it.f[i].name) (by omega)]
    rfl
  ·rw[BK (by omega)]
   rfl
  ·rcases hy with ⟨rfl,hy⟩|⟨rfl,i,hi,hy⟩
   rotate_left
   ·have:¬ sizesI it:=fun h=>hy fun _=>h.2.1 _ (List.getElem_mem hi)
    exact⟨_,rfl,.inr ⟨rfl,this⟩⟩
   simp only[Ai,Af,Aj,Ak,Al,Am,Ag,Option.some.injEq]
   refine Rn.bn (allN it.l.length (by unfold big;omega) (fun i=>(hi:i<it.l.length)→it.l[i].size≤300) () _ (fun i hi hok=>?_) (fun i hi hok=>?_) ?_) fun y hy2=>?_
   ·have o1:=hok hi
    rw[B5 (by omega),Aw hi]
    simp only[Ai,Af,Aj,Ak,Al,Am,Ag,Option.some.injEq]
    rw[FO (s:=it.l[i]) (by omega)]
    simp only[Ai,Af,Aj,Ak,Al,Am,Ag,Option.some.injEq]
    rw[Ar (by omega) (by omega)]
    rfl
   ·rw[B5 (by omega),Aw hi]
    simp only[Ai,Af,Aj,Ak,Al,Am,Ag,Option.some.injEq]
    by_cases o1:it.l[i].size≤300
    ·exact absurd (fun _=>o1) hok
    ·rw[G8 (s:=it.l[i]) (by omega)]
     rfl
   ·rw[BK (by omega)]
    rfl
   ·rcases hy2 with ⟨rfl,hy2⟩|⟨rfl,i,hi,hy2⟩
    ·refine⟨_,rfl,.inl ⟨rfl,hs,fun x hx=>?_,fun x hx=>?_⟩⟩
     ·obtain⟨i,hi,rfl⟩:=List.getElem_of_mem hx
      exact hy i hi hi
     ·obtain⟨i,hi,rfl⟩:=List.getElem_of_mem hx
      exact hy2 i hi hi
    ·have:¬ sizesI it:=fun h=>hy2 fun _=>h.2.2 _ (List.getElem_mem hi)
     exact⟨_,rfl,.inr ⟨rfl,this⟩⟩
def mayP (p:Pair):Prop:=p.key.size≤40∧mayI p.item
def mayS (l:List Pair):Prop:=(∀ p∈l,mayP p)∧SrtP l
end Go.Proofs.YtlbdhlbbkibgpaaGreat
