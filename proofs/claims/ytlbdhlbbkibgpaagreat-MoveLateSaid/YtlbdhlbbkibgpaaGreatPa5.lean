/- Part 5 of the proof. -/
import Derived.Test.YtlbdhlbbkibgpaaGreatPa4
import Derived.Test.YtlbdhlbbkibgpaaGreatRows
import Derived.ProofKit
set_option linter.unusedVariables false
set_option linter.unusedSimpArgs false
set_option linter.constructorNameAsVariable false
set_option maxRecDepth 8000
set_option maxHeartbeats 8000000
namespace Go.Proofs.YtlbdhlbbkibgpaaGreat
open Go Go.RowKit
def B8 (n:Nat) (a0:Node) (a1:List Effect):Option Node :=
bn (BP n a0.db a1) fun v1 =>
bn (CH n a0.feed a1) fun v2 =>
some (⟨a0.count,a0.id,a0.master,a0.epoch,a0.voted,a0.claims,v1,a0.moves,a0.last,a0.seen,v2,a0.watch,a0.asked,a0.votes,a0.wait⟩:Node)
theorem H5 {n:Nat} {a0:Node} {a1:List Effect} {r:Node} (h:B8 n a0 a1=some r):Sound Tryz.prog 41 [.g [.s (.int .i64 a0.count),.s (.int .i64 a0.id),.s (.int .i64 a0.master),.s (.int .i64 a0.epoch),.s (.int .i64 a0.voted),.d false 4 (encClaim a0.claims),.d false 6 (encPair a0.db),.r 0 4 0 a0.moves.length,.s (.int .i64 a0.last),.d false 3 (encSeen a0.seen),.s (.int .i64 a0.feed.rid.node),.s (.int .i64 a0.feed.rid.epoch),.s (.int .i64 a0.feed.off),.d false 7 (encEffect a0.feed.back),.s (.int .i64 a0.feed.prev.node),.s (.int .i64 a0.feed.prev.epoch),.s (.int .i64 a0.feed.upto),.d false 1 (encI a0.watch.heard),.d false 1 (encLI a0.watch.says),.s (.int .i64 a0.asked),.d false 1 (encI a0.votes),.s (.int .i64 a0.wait)],.l (.d false 7 (encEffect a1))] [⟨92,4,true,none,lvs (encMove a0.moves)⟩] (.g [.s (.int .i64 r.count),.s (.int .i64 r.id),.s (.int .i64 r.master),.s (.int .i64 r.epoch),.s (.int .i64 r.voted),.d false 4 (encClaim r.claims),.d false 6 (encPair r.db),.r 0 4 0 r.moves.length,.s (.int .i64 r.last),.d false 3 (encSeen r.seen),.s (.int .i64 r.feed.rid.node),.s (.int .i64 r.feed.rid.epoch),.s (.int .i64 r.feed.off),.d false 7 (encEffect r.feed.back),.s (.int .i64 r.feed.prev.node),.s (.int .i64 r.feed.prev.epoch),.s (.int .i64 r.feed.upto),.d false 1 (encI r.watch.heard),.d false 1 (encLI r.watch.says),.s (.int .i64 r.asked),.d false 1 (encI r.votes),.s (.int .i64 r.wait)]) [some ⟨92,4,true,none,lvs (encMove r.moves)⟩]:=by
 unfold B8 at h
 refine Sound.of_aw (fn:=Tryz.f41) (c:=_) Tryz.func41 rfl (by simp[Tryz.f41]) fun cx hG hnb=>?_
 rw[show Tryz.f41.ntmps=16 from rfl]
 have hn0:cx.nb=1:=hnb
 simp only[An,initTm,List.map_cons,List.map_nil]
 apply AW.step
 ·simp
  intros;rfl
 replace h:=bnE h;obtain⟨v1,e1,h⟩:=h
 replace h:=bnE h;obtain⟨v2,e2,h⟩:=h
 apply AW.drawnP (V:=[_,_,_,_,_,_,_,_,_]) mixed [⟨[0],[],[(2,none)],false⟩,⟨[0],[0],[(5,some 0)],false⟩,⟨[0],[],[(1,none)],false⟩,⟨[0],[0,1,2],[(6,some 1),(7,some 2)],false⟩,⟨[0],[],[(2,none)],false⟩,⟨[0],[4],[(9,some 4)],false⟩,⟨[0],[],[(1,none)],false⟩,⟨[0],[0,1,2,3,4,5,6],[(10,some 5),(11,some 6)],false⟩,⟨[0],[0,1,2,3,4,5],[(2,none)],false⟩,⟨[],[0,1,2,3,4,5,6,7,8],[],false⟩,⟨[],[0,1,2,3,4,5,6,7,8,9],[],false⟩,⟨[],[0,1,2,3,4,5,6,7,8,9,10],[],false⟩] 9 (by kernel_rfl) (by kernel_rfl)
 ·refine⟨?_,?_,?_,?_,?_,?_,?_,?_,?_,trivial⟩
  iterate 3 (· intro tm hr;simp[AllL,rdV] at hr;simp[hr];intros;first|exact KD.mk|exact KD.mkN)
  ·intro tm hr
   simp[AllL,rdV] at hr
   simp[hr]
   intros
   refine Ad HX (IO e1) rfl ⟨.same rfl,.same rfl,trivial⟩ ?_
   try simp[]
   intros;first|exact KD.mk|exact KD.mkN
  iterate 3 (· intro tm hr;simp[AllL,rdV] at hr;simp[hr];intros;first|exact KD.mk|exact KD.mkN)
  ·intro tm hr
   simp[AllL,rdV] at hr
   simp[hr]
   intros
   refine Ad Km (Lr e2) rfl ⟨.same rfl,.same rfl,trivial⟩ ?_
   try simp[]
   intros;first|exact KD.mk|exact KD.mkN
  ·intro tm hr;simp[AllL,rdV] at hr;simp[hr];intros;first|exact KD.mk|exact KD.mkN
 ·rfl
 ·simp[tmD,putD];rfl
 ·simp
  intros;rfl
 apply AW.step
 ·simp
  intros;rfl
 obtain rfl:=oi h
 refine AW.ret ?_
 refine Left.of (av:=_) (by simp[Tryz.f41,resV,resC,comp];rfl) ?_
 exact LeftV.mix 1 [some 0] hn0 rfl (by decide) rfl (by simp[pickOb,Aa,Ab]) (by simp[Aa,Ab])
theorem HE:Enters Tryz.prog 41:=enters Tryz.func41 (by kernel_rfl) rfl
def A8 (n:Nat) (a0:Node) (a1:Msg):Option Node :=
bn (Bp n a0) fun v1 =>
chk (room v1.moves.length 1) <|
bn (Ch n v1.moves a1.slot) fun v3 =>
bn (lt (notB v3.2) fun v5 =>
ite' v5 (some (true)) (bn (nth v1.moves v3.1) fun v6 =>
lt (ltI v6.num 1) fun v8 =>
ite' v8 (some (true)) (lt (neI v6.num a1.num) fun v10 =>
ite' v10 (some (true)) (lt (neI v6.to a1.frm) fun v12 =>
some (v12))))) fun (y4:Bool) =>
lt (y4) fun v13 =>
ite' v13 (chk (room v1.moves.length 1) <|
some v1) (bn (nth v1.moves v3.1) fun v15 =>
bn (B8 n v1 [(⟨v15.key,true,(⟨0,⟨#[]⟩,[],[],0⟩:Item)⟩:Effect)]) fun v17 =>
bn (nth v17.moves v3.1) fun v18 =>
lt (v17.moves.set v3.1.toNat (⟨v18.slot,v18.to,0,v18.key⟩:Move)) fun v20 =>
bn (nth v20 v3.1) fun v23 =>
lt (v20.set v3.1.toNat (⟨v23.slot,v23.to,v23.num,⟨#[]⟩⟩:Move)) fun v25 =>
chk (room v25.length 1) <|
some (⟨v17.count,v17.id,v17.master,v17.epoch,v17.voted,v17.claims,v17.db,v25,v17.last,v17.seen,v17.feed,v17.watch,v17.asked,v17.votes,v17.wait⟩:Node))
def DY3t1:List DI:=[⟨[0],[],[(6,none)],false⟩,⟨[0],[0],[(17,some 0)],false⟩,⟨[0],[0,1],[(18,some 1)],false⟩,⟨[0],[0,1,2],[(2,none),(19,some 2)],false⟩,⟨[0],[0,1,2,3],[(19,some 2),(20,some 3)],false⟩,⟨[0],[0,1,2],[(5,none),(19,some 2)],false⟩,⟨[0],[0,1,2,3,4,5],[(19,some 2),(21,some 4),(22,some 5)],false⟩,⟨[0],[0,1,2,3,4,5,6],[(19,some 2),(23,some 6)],false⟩,⟨[0],[0,1,2,3,4,5,6,7],[(19,some 2),(24,some 7)],false⟩,⟨[0],[0,1,2,3,4,5,6,7,8],[(19,some 2),(25,some 8)],false⟩,⟨[0],[0,1,2,3,4,5,6,7,8,9],[(19,some 2),(26,some 9)],false⟩,⟨[0],[0,1,2,3,4,5,6,7,8,9,10],[(27,some 10)],false⟩,⟨[0],[0,1,2,3,4,5,6,7,8,9,10,11],[(2,none),(28,some 11)],false⟩,⟨[0],[0,1,2,3,4,5,6,7,8,9,10,11,12],[(28,some 11),(29,some 12)],false⟩,⟨[0],[0,1,2,3,4,5,6,7,8,9,10,11],[(5,none),(28,some 11)],false⟩,⟨[0],[0,1,2,3,4,5,6,7,8,9,10,11,12,13,14],[(28,some 11),(30,some 13),(31,some 14)],false⟩,⟨[0],[0,1,2,3,4,5,6,7,8,9,10,11,12,13,14,15],[(28,some 11),(32,some 15)],false⟩,⟨[0],[0,1,2,3,4,5,6,7,8,9,10,11,12,13,14,15,16],[(28,some 11),(33,some 16)],false⟩,⟨[0],[0,1,2,3,4,5,6,7,8,9,10,11],[(3,none),(28,some 11)],false⟩,⟨[0],[0,1,2,3,4,5,6,7,8,9,10,11,18],[(28,some 11),(35,some 18)],false⟩,⟨[0],[0,1,2,3,4,5,6,7,8,9,10,11,12,13,14,15,16,17,18,19],[(28,some 11),(34,some 17),(36,some 19)],false⟩,⟨[0],[0,1,2,3,4,5,6,7,8,9,10,11,12,13,14,15,16,17,18,19,20],[(28,some 11),(37,some 20)],false⟩,⟨[0],[0,1,2,3,4,5,6,7,8,9,10,11,12,13,14,15,16,17,18,19,20,21],[(38,some 21)],false⟩,⟨[0],[0,1,2,3,4,5,6,7,8,9,10,11,12,13,14,15,16,17,18,19,20,21,22],[(2,none),(39,some 22)],false⟩,⟨[0],[0,1,2,3,4,5,6,7,8,9,10,11,12,13,14,15,16,17,18,19,20,21,22,23],[(39,some 22),(40,some 23)],false⟩,⟨[0],[0,1,2,3,4,5,6,7,8,9,10,11,12,13,14,15,16,17,18,19,20,21,22],[(5,none),(39,some 22)],false⟩,⟨[0],[0,1,2,3,4,5,6,7,8,9,10,11,12,13,14,15,16,17,18,19,20,21,22,23,24,25],[(39,some 22),(41,some 24),(42,some 25)],false⟩,⟨[0],[0,1,2,3,4,5,6,7,8,9,10,11,12,13,14,15,16,17,18,19,20,21,22,23,24,25,26],[(39,some 22),(43,some 26)],false⟩,⟨[0],[0,1,2,3,4,5,6,7,8,9,10,11,12,13,14,15,16,17,18,19,20,21,22,23,24,25,26,27],[(39,some 22),(44,some 27)],false⟩,⟨[0],[0,1,2,3,4,5,6,7,8,9,10,11,12,13,14,15,16,17,18,19,20,21,22],[(3,none),(39,some 22)],false⟩,⟨[0],[0,1,2,3,4,5,6,7,8,9,10,11,12,13,14,15,16,17,18,19,20,21,22,29],[(39,some 22),(46,some 29)],false⟩,⟨[],[0,1,2,3,4,5,6,7,8,9,10,11,12,13,14,15,16,17,18,19,20,21,22,23,24,25,26,27,28,29,30],[],false⟩,⟨[],[0,1,2,3,4,5,6,7,8,9,10,11,12,13,14,15,16,17,18,19,20,21,22,23,24,25,26,27,28,29,30,31],[],false⟩]
theorem EP {n:Nat} {a0:Node} {a1:Msg} {r:Node} (h:A8 n a0 a1=some r):Sound Tryz.prog 13 [.g [.s (.int .i64 a0.count),.s (.int .i64 a0.id),.s (.int .i64 a0.master),.s (.int .i64 a0.epoch),.s (.int .i64 a0.voted),.d false 4 (encClaim a0.claims),.d false 6 (encPair a0.db),.d false 4 (encMove a0.moves),.s (.int .i64 a0.last),.d false 3 (encSeen a0.seen),.s (.int .i64 a0.feed.rid.node),.s (.int .i64 a0.feed.rid.epoch),.s (.int .i64 a0.feed.off),.d false 7 (encEffect a0.feed.back),.s (.int .i64 a0.feed.prev.node),.s (.int .i64 a0.feed.prev.epoch),.s (.int .i64 a0.feed.upto),.d false 1 (encI a0.watch.heard),.d false 1 (encLI a0.watch.says),.s (.int .i64 a0.asked),.d false 1 (encI a0.votes),.s (.int .i64 a0.wait)],.g [.s (.int .i64 a1.kind),.s (.int .i64 a1.frm),.s (.int .i64 a1.to),.s (.int .i64 a1.epoch),.d false 4 (encClaim a1.claims),.d false 1 (encI a1.nodes),.s (.int .i64 a1.node),.s (.int .i64 a1.slot),.s (.int .i64 a1.num),.s (.int .i64 a1.rid.node),.s (.int .i64 a1.rid.epoch),.s (.int .i64 a1.prev.node),.s (.int .i64 a1.prev.epoch),.s (.int .i64 a1.off),.d false 7 (encEffect a1.effects)]] [] (.g [.s (.int .i64 r.count),.s (.int .i64 r.id),.s (.int .i64 r.master),.s (.int .i64 r.epoch),.s (.int .i64 r.voted),.d false 4 (encClaim r.claims),.d false 6 (encPair r.db),.d false 4 (encMove r.moves),.s (.int .i64 r.last),.d false 3 (encSeen r.seen),.s (.int .i64 r.feed.rid.node),.s (.int .i64 r.feed.rid.epoch),.s (.int .i64 r.feed.off),.d false 7 (encEffect r.feed.back),.s (.int .i64 r.feed.prev.node),.s (.int .i64 r.feed.prev.epoch),.s (.int .i64 r.feed.upto),.d false 1 (encI r.watch.heard),.d false 1 (encLI r.watch.says),.s (.int .i64 r.asked),.d false 1 (encI r.votes),.s (.int .i64 r.wait)]) []:=by
 unfold A8 at h
 refine Sound.of_aw (fn:=Tryz.f13) (c:=_) Tryz.func13 rfl (by simp[Tryz.f13]) fun cx hG hnb=>?_
 rw[show Tryz.f13.ntmps=72 from rfl]
 have hn0:cx.nb=0:=hnb
 simp only[An,initTm,List.map_cons,List.map_nil]
 apply AW.step
 ·simp
  intros;rfl
 replace h:=bnE h;obtain⟨v1,e1,h⟩:=h
 apply AW.step
 ·simp[outR]
  intros
  refine AB Eo (EL e1) rfl (by simp) ⟨.same rfl,trivial⟩ ?_
  try simp[outR]
  intros;rfl
 replace h:=chkE h;obtain⟨e2,h⟩:=h
 replace h:=bnE h;obtain⟨v3,e3,h⟩:=h
 apply AW.step
 ·simp
  intros
  refine Ad Gc (GK e3) rfl ⟨.rowd (by simp) rfl (by omega) (Az _) (by simp) (by first|exact (Ah e2).2|simpa using (Ah e2).2|simp),.same rfl,trivial⟩ ?_
  try simp
  intros;rfl
 refine AW.seq ?_
 replace h:=bnE h;obtain⟨y4,g4,h⟩:=h
 refine AW.flow (p:=fun gh ls=>(nP (cx:=cx) (fun q=>(⟨[(2,.l (.p 0 0)),(4,.l (.p 1 0)),(5,.l (.s (.int .i64 v3.1))),(49,.l (.s (.bool q)))],[some ⟨38,22,false,none,[.s (.int .i64 v1.count),.s (.int .i64 v1.id),.s (.int .i64 v1.master),.s (.int .i64 v1.epoch),.s (.int .i64 v1.voted),.d false 4 (encClaim v1.claims),.d false 6 (encPair v1.db),.r 2 4 0 v1.moves.length,.s (.int .i64 v1.last),.d false 3 (encSeen v1.seen),.s (.int .i64 v1.feed.rid.node),.s (.int .i64 v1.feed.rid.epoch),.s (.int .i64 v1.feed.off),.d false 7 (encEffect v1.feed.back),.s (.int .i64 v1.feed.prev.node),.s (.int .i64 v1.feed.prev.epoch),.s (.int .i64 v1.feed.upto),.d false 1 (encI v1.watch.heard),.d false 1 (encLI v1.watch.says),.s (.int .i64 v1.asked),.d false 1 (encI v1.votes),.s (.int .i64 v1.wait)]⟩,some ⟨38,22,false,none,[.s (.int .i64 0),.s (.int .i64 0),.s (.int .i64 0),.s (.int .i64 0),.s (.int .i64 0),.s (.slice none 0 0),.s (.slice none 0 0),.s (.slice none 0 0),.s (.int .i64 0),.s (.slice none 0 0),.s (.int .i64 0),.s (.int .i64 0),.s (.int .i64 0),.s (.slice none 0 0),.s (.int .i64 0),.s (.int .i64 0),.s (.int .i64 0),.s (.slice none 0 0),.s (.slice none 0 0),.s (.int .i64 0),.s (.slice none 0 0),.s (.int .i64 0)]⟩,some ⟨92,4,true,none,lvs (encMove v1.moves)⟩],72,gh,ls⟩:St))) y4) ?_ ?_
 ·replace h:=g4;clear g4
  replace h:=ltE h;obtain⟨v5,e5,h⟩:=h
  cases v5 with
  |true =>
   replace h:=iteT rfl h
   apply AW.drawnR (V:=[_,_,_,_,_,_,_,_,_,_,_,_,_,_,_,_,_,_,_,_,_,_,_,_,_,_,_,_,_,_,_]) mixed DY3t1 31 (by kernel_rfl) (by kernel_rfl)
   ·refine⟨?_,?_,?_,?_,?_,?_,?_,?_,?_,?_,?_,?_,?_,?_,?_,?_,?_,?_,?_,?_,?_,?_,?_,?_,?_,?_,?_,?_,?_,?_,?_,trivial⟩
    iterate 31 (· intro tm hr;simp[AllL,rdV] at hr;simp[hr,← e5];intros;first|exact KD.mk|exact KD.mkN)
   ·rfl
   ·simp[tmD,putD,← e5];rfl
   ·simp[← e5]
    intros;rfl
   obtain rfl:=oi h
   refine nP_i ?_
   refine Weak.mixN [some 0,some 2,some 3] hn0 (by decide) ?_ ?_ rfl
   all_goals first|(simp[Aa,Ab,pickOb];done)|rfl
  |false =>
   replace h:=iteF rfl h
   replace h:=bnE h;obtain⟨v6,e6,h⟩:=h
   have f7:=AL e6
   try simp[← e5,Ac e6] at f7
   replace h:=ltE h;obtain⟨v8,e8,h⟩:=h
   cases v8 with
   |true =>
    replace h:=iteT rfl h
    apply AW.drawnR (V:=[_,_,_,_,_,_,_,_,_,_,_,_,_,_,_,_,_,_,_,_,_,_,_,_,_,_,_,_,_,_,_]) mixed DY3t1 31 (by kernel_rfl) (by kernel_rfl)
    ·refine⟨?_,?_,?_,?_,?_,?_,?_,?_,?_,?_,?_,?_,?_,?_,?_,?_,?_,?_,?_,?_,?_,?_,?_,?_,?_,?_,?_,?_,?_,?_,?_,trivial⟩
     iterate 31 (· intro tm hr;simp[AllL,rdV] at hr;simp[hr,← e5,Ac e6,f7,AE (Ac e6).2 (j:=2) (by decide),lvs1,← e8];intros;first|exact KD.mk|exact KD.mkN)
    ·rfl
    ·simp[tmD,putD,← e5,Ac e6,f7,AE (Ac e6).2 (j:=2) (by decide),lvs1,← e8];rfl
    ·simp[← e5,Ac e6,f7,AE (Ac e6).2 (j:=2) (by decide),lvs1,← e8]
     intros;rfl
    obtain rfl:=oi h
    refine nP_i ?_
    refine Weak.mixN [some 0,some 2,some 3] hn0 (by decide) ?_ ?_ rfl
    all_goals first|(simp[Aa,Ab,pickOb];done)|rfl
   |false =>
    replace h:=iteF rfl h
    have f9:=AL e6
    try simp[← e5,Ac e6,f7,AE (Ac e6).2 (j:=2) (by decide),lvs1,← e8] at f9
    replace h:=ltE h;obtain⟨v10,e10,h⟩:=h
    cases v10 with
    |true =>
     replace h:=iteT rfl h
     apply AW.drawnR (V:=[_,_,_,_,_,_,_,_,_,_,_,_,_,_,_,_,_,_,_,_,_,_,_,_,_,_,_,_,_,_,_]) mixed DY3t1 31 (by kernel_rfl) (by kernel_rfl)
     ·refine⟨?_,?_,?_,?_,?_,?_,?_,?_,?_,?_,?_,?_,?_,?_,?_,?_,?_,?_,?_,?_,?_,?_,?_,?_,?_,?_,?_,?_,?_,?_,?_,trivial⟩
      iterate 31 (· intro tm hr;simp[AllL,rdV] at hr;simp[hr,← e5,Ac e6,f7,AE (Ac e6).2 (j:=2) (by decide),lvs1,← e8,f9,← e10];intros;first|exact KD.mk|exact KD.mkN)
     ·rfl
     ·simp[tmD,putD,← e5,Ac e6,f7,AE (Ac e6).2 (j:=2) (by decide),lvs1,← e8,f9,← e10];rfl
     ·simp[← e5,Ac e6,f7,AE (Ac e6).2 (j:=2) (by decide),lvs1,← e8,f9,← e10]
      intros;rfl
     obtain rfl:=oi h
     refine nP_i ?_
     refine Weak.mixN [some 0,some 2,some 3] hn0 (by decide) ?_ ?_ rfl
     all_goals first|(simp[Aa,Ab,pickOb];done)|rfl
    |false =>
     replace h:=iteF rfl h
     have f11:=AL e6
     try simp[← e5,Ac e6,f7,AE (Ac e6).2 (j:=2) (by decide),lvs1,← e8,f9,← e10] at f11
     replace h:=ltE h;obtain⟨v12,e12,h⟩:=h
     apply AW.drawnR (V:=[_,_,_,_,_,_,_,_,_,_,_,_,_,_,_,_,_,_,_,_,_,_,_,_,_,_,_,_,_,_,_]) mixed DY3t1 31 (by kernel_rfl) (by kernel_rfl)
     ·refine⟨?_,?_,?_,?_,?_,?_,?_,?_,?_,?_,?_,?_,?_,?_,?_,?_,?_,?_,?_,?_,?_,?_,?_,?_,?_,?_,?_,?_,?_,?_,?_,trivial⟩
      iterate 31 (· intro tm hr;simp[AllL,rdV] at hr;simp[hr,← e5,Ac e6,f7,AE (Ac e6).2 (j:=2) (by decide),lvs1,← e8,f9,← e10,f11,AE (Ac e6).2 (j:=1) (by decide),← e12];intros;first|exact KD.mk|exact KD.mkN)
     ·rfl
     ·simp[tmD,putD,← e5,Ac e6,f7,AE (Ac e6).2 (j:=2) (by decide),lvs1,← e8,f9,← e10,f11,AE (Ac e6).2 (j:=1) (by decide),← e12];rfl
     ·simp[← e5,Ac e6,f7,AE (Ac e6).2 (j:=2) (by decide),lvs1,← e8,f9,← e10,f11,AE (Ac e6).2 (j:=1) (by decide),← e12]
      intros;rfl
     obtain rfl:=oi h
     refine nP_i ?_
     refine Weak.mixN [some 0,some 2,some 3] hn0 (by decide) ?_ ?_ rfl
     all_goals first|(simp[Aa,Ab,pickOb];done)|rfl
 ·rintro e s hp
  obtain⟨rfl,hw⟩:=hp
  refine⟨_,hw,?_⟩
  try simp only[nm]
  replace h:=ltE h;obtain⟨v13,e13,h⟩:=h
  rw[← e13]
  cases v13 with
  |true =>
   replace h:=iteT rfl h
   refine AW.cond_true (by simp) ?_
   apply AW.step
   ·simp
    intros;rfl
   replace h:=chkE h;obtain⟨e14,h⟩:=h
   refine AW.frzRow 2 (ty:=92) (cap:=none) (sz:=4) (es:=encMove v1.moves) (by simp) (by omega) (Az _) (by first|exact (Ah e14).2|simpa using (Ah e14).2|simp) (by simp[Tm.frz,AV.frz,LV.frz];rfl) (by simp[Ob.frz,LV.frz];rfl) rfl ?_
   obtain rfl:=oi h
   refine AW.ret ?_
   refine Left.plain hnb (by simp[Tryz.f13,resV,resC,comp];rfl) rfl rfl ?_
   simp
  |false =>
   replace h:=iteF rfl h
   refine AW.cond_false (by simp) ?_
   refine AW.skip ?_
   try simp only[nm]
   replace h:=bnE h;obtain⟨v15,e15,h⟩:=h
   have f16:=AL e15
   try simp[Ac e15] at f16
   replace h:=bnE h;obtain⟨v17,e17,h⟩:=h
   apply AW.drawnP (V:=[_,_,_,_,_,_,_,_,_]) mixed [⟨[0],[],[(2,none)],false⟩,⟨[0],[],[(2,none)],false⟩,⟨[0],[1],[(52,some 1)],false⟩,⟨[0],[],[(5,none)],false⟩,⟨[0],[1,2,3],[(53,some 2),(54,some 3)],false⟩,⟨[0],[1,2,3,4],[(55,some 4)],false⟩,⟨[0],[1,2,3,4,5],[(56,some 5)],false⟩,⟨[0],[1,2,3,4,5,6],[(57,some 6)],false⟩,⟨[0],[1,2,3,4,5,6,7],[(58,some 7)],false⟩,⟨[],[0,1,2,3,4,5,6,7,8],[],false⟩,⟨[],[0,1,2,3,4,5,6,7,8,9],[],false⟩] 9 (by kernel_rfl) (by kernel_rfl)
   ·refine⟨?_,?_,?_,?_,?_,?_,?_,?_,?_,trivial⟩
    iterate 8 (· intro tm hr;simp[AllL,rdV] at hr;simp[hr,Ac e15,f16,AE (Ac e15).2 (j:=3) (by decide),lvs1,obAfter,outR,keptR,Aa,Ab];intros;first|exact KD.mk|exact KD.mkN)
    ·intro tm hr
     simp[AllL,rdV] at hr
     simp[hr,Ac e15,f16,AE (Ac e15).2 (j:=3) (by decide),lvs1,obAfter,outR,keptR,Aa,Ab]
     intros
     refine Is (es:=encEffect [(⟨v15.key,true,(⟨0,⟨#[]⟩,[],[],0⟩:Item)⟩:Effect)]) (by simp[encEffect,lvs,All2]) (Bk _) (by omega) (by simp) ?_
     try simp[Ac e15,f16,AE (Ac e15).2 (j:=3) (by decide),lvs1,obAfter,outR,keptR,Aa,Ab]
     intros;first|exact KD.mk|exact KD.mkN
   ·rfl
   ·simp[tmD,putD,Ac e15,f16,AE (Ac e15).2 (j:=3) (by decide),lvs1,obAfter,outR,keptR,Aa,Ab];rfl
   ·simp[Ac e15,f16,AE (Ac e15).2 (j:=3) (by decide),lvs1,obAfter,outR,keptR,Aa,Ab]
    intros
    refine CS [2] HE (H5 e17) (by decide) (by simp[pickOb,Aa,Ab]) rfl rfl (by simp) ⟨.g ⟨.s _,.s _,.s _,.s _,.s _,.e _ _,.e _ _,(.own' (by simp[Aa,Ab]) (by simp)),.s _,.e _ _,.s _,.s _,.s _,.e _ _,.s _,.s _,.s _,.e _ _,.e _ _,.s _,.e _ _,.s _,trivial⟩,.l (.e _ _),trivial⟩ ?_
    try simp[Ac e15,f16,AE (Ac e15).2 (j:=3) (by decide),lvs1,obAfter,outR,keptR,Aa,Ab]
    intros;rfl
   replace h:=bnE h;obtain⟨v18,e18,h⟩:=h
   have f19:=AL e18
   try simp[Ac e18] at f19
   replace h:=ltE h;obtain⟨v20,e20,h⟩:=h
   have f21:=GF (Ac e18).2 e20 (j:=2) (cs:=[.s (.int .i64 0)]) (by simp) rfl
   try simp at f21
   have f22:=f19
   try simp only[Aq e20] at f22
   replace h:=bnE h;obtain⟨v23,e23,h⟩:=h
   have f24:=AL e23
   try simp[Ac e18,f19,BV (Ac e18).2 (j:=2) (m:=1) (by decide),f21,f22,Ac e23] at f24
   replace h:=ltE h;obtain⟨v25,e25,h⟩:=h
   have f26:=GF (Ac e23).2 e25 (j:=3) (cs:=[.s (.string ⟨#[]⟩)]) (by simp) rfl
   try simp at f26
   have f27:=f19
   try simp only[Aq e25] at f27
   have f28:=f22
   try simp only[Aq e25] at f28
   have f29:=f24
   try simp only[Aq e25] at f29
   apply AW.drawnE (V:=[_,_,_,_,_,_,_,_,_]) (M:=[[some ⟨38,22,false,none,[.s (.int .i64 v17.count),.s (.int .i64 v17.id),.s (.int .i64 v17.master),.s (.int .i64 v17.epoch),.s (.int .i64 v17.voted),.d false 4 (encClaim v17.claims),.d false 6 (encPair v17.db),.r 2 4 0 v17.moves.length,.s (.int .i64 v17.last),.d false 3 (encSeen v17.seen),.s (.int .i64 v17.feed.rid.node),.s (.int .i64 v17.feed.rid.epoch),.s (.int .i64 v17.feed.off),.d false 7 (encEffect v17.feed.back),.s (.int .i64 v17.feed.prev.node),.s (.int .i64 v17.feed.prev.epoch),.s (.int .i64 v17.feed.upto),.d false 1 (encI v17.watch.heard),.d false 1 (encLI v17.watch.says),.s (.int .i64 v17.asked),.d false 1 (encI v17.votes),.s (.int .i64 v17.wait)]⟩,some ⟨38,22,false,none,[.s (.int .i64 0),.s (.int .i64 0),.s (.int .i64 0),.s (.int .i64 0),.s (.int .i64 0),.s (.slice none 0 0),.s (.slice none 0 0),.s (.slice none 0 0),.s (.int .i64 0),.s (.slice none 0 0),.s (.int .i64 0),.s (.int .i64 0),.s (.int .i64 0),.s (.slice none 0 0),.s (.int .i64 0),.s (.int .i64 0),.s (.int .i64 0),.s (.slice none 0 0),.s (.slice none 0 0),.s (.int .i64 0),.s (.slice none 0 0),.s (.int .i64 0)]⟩,some ⟨92,4,true,none,lvs (encMove v17.moves)⟩],[some ⟨38,22,false,none,[.s (.int .i64 v17.count),.s (.int .i64 v17.id),.s (.int .i64 v17.master),.s (.int .i64 v17.epoch),.s (.int .i64 v17.voted),.d false 4 (encClaim v17.claims),.d false 6 (encPair v17.db),.r 2 4 0 v17.moves.length,.s (.int .i64 v17.last),.d false 3 (encSeen v17.seen),.s (.int .i64 v17.feed.rid.node),.s (.int .i64 v17.feed.rid.epoch),.s (.int .i64 v17.feed.off),.d false 7 (encEffect v17.feed.back),.s (.int .i64 v17.feed.prev.node),.s (.int .i64 v17.feed.prev.epoch),.s (.int .i64 v17.feed.upto),.d false 1 (encI v17.watch.heard),.d false 1 (encLI v17.watch.says),.s (.int .i64 v17.asked),.d false 1 (encI v17.votes),.s (.int .i64 v17.wait)]⟩,some ⟨38,22,false,none,[.s (.int .i64 0),.s (.int .i64 0),.s (.int .i64 0),.s (.int .i64 0),.s (.int .i64 0),.s (.slice none 0 0),.s (.slice none 0 0),.s (.slice none 0 0),.s (.int .i64 0),.s (.slice none 0 0),.s (.int .i64 0),.s (.int .i64 0),.s (.int .i64 0),.s (.slice none 0 0),.s (.int .i64 0),.s (.int .i64 0),.s (.int .i64 0),.s (.slice none 0 0),.s (.slice none 0 0),.s (.int .i64 0),.s (.slice none 0 0),.s (.int .i64 0)]⟩,some ⟨92,4,true,none,lvs (encMove v20)⟩]]) mixed [⟨[0],[],[(2,none)],false⟩,⟨[0],[0],[(61,some 0)],false⟩,⟨[0],[],[(5,none)],false⟩,⟨[0,1],[],[(2,none)],false⟩,⟨[0,1],[3],[(64,some 3)],false⟩,⟨[0,1],[],[(5,none)],false⟩,⟨[0],[0,1,2],[(62,some 1),(63,some 2)],false⟩,⟨[0],[0,1,2,6],[(67,some 6)],false⟩,⟨[0],[0,1,2,6,7],[(68,some 7)],true⟩,⟨[],[0,1,2,3,4,5,6,7,8],[],false⟩,⟨[],[0,1,2,3,4,5,6,7,8,9],[],false⟩,⟨[],[0,1,2,3,4,5,6,7,8,9,10],[],false⟩] 9 1 (by kernel_rfl) (by kernel_rfl)
   ·rfl
   ·refine⟨?_,?_,?_,⟨?_,?_⟩,⟨?_,?_⟩,⟨?_,?_⟩,?_,?_,?_,trivial⟩
    iterate 12 (· intro tm hr;simp[AllL,rdV] at hr;simp[hr,Ac e18,f19,BV (Ac e18).2 (j:=2) (m:=1) (by decide),f21,f22,Ac e23,f24,Aq e20,BV (Ac e23).2 (j:=3) (m:=1) (by decide),f26,f27,f28,f29];intros;first|exact KD.mk|exact KD.mkN)
   ·rfl
   ·simp[tmD,putD,Ac e18,f19,BV (Ac e18).2 (j:=2) (m:=1) (by decide),f21,f22,Ac e23,f24,Aq e20,BV (Ac e23).2 (j:=3) (m:=1) (by decide),f26,f27,f28,f29];rfl
   ·simp[Ac e18,f19,BV (Ac e18).2 (j:=2) (m:=1) (by decide),f21,f22,Ac e23,f24,Aq e20,BV (Ac e23).2 (j:=3) (m:=1) (by decide),f26,f27,f28,f29]
    intros;rfl
   apply AW.step
   ·simp
    intros;rfl
   replace h:=chkE h;obtain⟨e30,h⟩:=h
   refine AW.frzRow 2 (ty:=92) (cap:=none) (sz:=4) (es:=encMove v25) (by simp) (by omega) (Az _) (by first|exact (Ah e30).2|simpa using (Ah e30).2|simp) (by simp[Tm.frz,AV.frz,LV.frz,Aq e20,Aq e25];rfl) (by simp[Ob.frz,LV.frz,Aq e20,Aq e25];rfl) rfl ?_
   obtain rfl:=oi h
   refine AW.ret ?_
   refine Left.plain hnb (by simp[Tryz.f13,resV,resC,comp];rfl) rfl rfl ?_
   simp
theorem El:Enters Tryz.prog 13:=enters Tryz.func13 (by kernel_rfl) rfl
end Go.Proofs.YtlbdhlbbkibgpaaGreat
namespace Go.Proofs.YtlbdhlbbkibgpaaGreat
open Go Go.RowKit
def Ed (n:Nat) (a0:Node) (a1:List Effect):Option Node :=
bn (BP n a0.db a1) fun v1 =>
bn (CH n a0.feed a1) fun v2 =>
some (⟨a0.count,a0.id,a0.master,a0.epoch,a0.voted,a0.claims,v1,a0.moves,a0.last,a0.seen,v2,a0.watch,a0.asked,a0.votes,a0.wait⟩:Node)
end Go.Proofs.YtlbdhlbbkibgpaaGreat
namespace Go.Proofs.YtlbdhlbbkibgpaaGreat
open Go Go.RowKit
def BZ (n:Nat) (a0:List Field) (a1:List Field):Option Bool :=
lt (lenI a0) fun v1 =>
lt (lenI a1) fun v2 =>
lt (neI v1 v2) fun v3 =>
ite' v3 (some false) (bn (iter n (fun (y4:Int) =>
lt (lenI a0) fun v7 =>
lt (ltI y4 v7) fun v8 =>
ite' v8 (bn (nth a0 y4) fun v9 =>
bn (nth a1 y4) fun v10 =>
lt (notB (andB (eqS v9.name v10.name) (andB (eqS v9.val v10.val) true))) fun v11 =>
ite' v11 (some (.inr (.inr false))) (lt (addI .i64 y4 1) fun v12 =>
some (.inl v12))) (some (.inr (.inl ())))) 0) fun (y5:Unit ⊕ Bool) =>
sm y5 (fun y13=>some true) (fun y14=>some y14))
def DY5t1:List DI:=[⟨[0],[],[(0,none)],false⟩,⟨[0],[],[(5,none)],false⟩,⟨[0],[0,1],[(17,some 0),(18,some 1)],false⟩,⟨[0],[0,1,2],[(19,some 2)],false⟩,⟨[0],[],[(1,none)],false⟩,⟨[0],[],[(5,none)],false⟩,⟨[0],[4,5],[(21,some 4),(22,some 5)],false⟩,⟨[0],[4,5,6],[(23,some 6)],false⟩,⟨[],[0,1,2,3,4,5,6,7],[],false⟩]
theorem E1 {n:Nat} {a0:List Field} {a1:List Field} {r:Bool} (h:BZ n a0 a1=some r):Sound Tryz.prog 54 [.l (.d false 2 (encField a0)),.l (.d false 2 (encField a1))] [] (.l (.s (.bool r))) []:=by
 unfold BZ at h
 refine Sound.of_aw (fn:=Tryz.f54) (c:=_) Tryz.func54 rfl (by simp[Tryz.f54]) fun cx hG hnb=>?_
 rw[show Tryz.f54.ntmps=26 from rfl]
 have hn0:cx.nb=0:=hnb
 simp only[An,initTm,List.map_cons,List.map_nil]
 apply AW.step
 ·simp
  intros;rfl
 refine AW.seq ?_
 replace h:=ltE h;obtain⟨v1,e1,h⟩:=h
 replace h:=ltE h;obtain⟨v2,e2,h⟩:=h
 replace h:=ltE h;obtain⟨v3,e3,h⟩:=h
 apply AW.step
 ·simp[Af e1,Af e2,← e3]
  intros;rfl
 cases v3 with
 |true =>
  replace h:=iteT rfl h
  refine AW.cond_true (by simp) ?_
  apply AW.step
  ·simp
   intros;rfl
  obtain rfl:=oi h
  refine AW.ret ?_
  refine Left.plain hnb (by simp[Tryz.f54,resV,resC,comp];rfl) rfl rfl ?_
  simp
 |false =>
  replace h:=iteF rfl h
  refine AW.cond_false (by simp) ?_
  refine AW.skip ?_
  try simp only[nm]
  refine AW.seq ?_
  apply AW.step
  ·simp
   intros;rfl
  refine AW.block ?_
  replace h:=bnE h;obtain⟨y5,g5,h⟩:=h
  refine AW.iterP g5 (mk:=fun gh ls q=>(⟨[(0,.l (.d false 2 (encField a0))),(1,.l (.d false 2 (encField a1))),(5,.l (.s (.int .i64 q)))],[],26,gh,ls⟩:St)) (N:=fun gh ls=>(sp (xP 0 (cx:=cx) (fun _=>(⟨[],[],26,gh,ls⟩:St))) (rP (cx:=cx) (P:=Tryz.prog) Tryz.f54 (fun q=>.l (.s (.bool q))) (fun q=>[])))) ?_ (noS noX noR) ?_ ?_
  ·refine Weak.mixN [] hn0 (by decide) ?_ ?_ rfl
   all_goals first|(simp[Aa,Ab,pickOb];done)|rfl
  ·clear h;intro y4 y6 h
   refine AW.seq ?_
   replace h:=ltE h;obtain⟨v7,e7,h⟩:=h
   replace h:=ltE h;obtain⟨v8,e8,h⟩:=h
   apply AW.step
   ·simp[Af e7,← e8]
    intros;rfl
   cases v8 with
   |true =>
    replace h:=iteT rfl h
    refine AW.cond_true (by simp) ?_
    refine AW.skip ?_
    try simp only[nm]
    refine AW.seq ?_
    refine AW.block ?_
    replace h:=bnE h;obtain⟨v9,e9,h⟩:=h
    replace h:=bnE h;obtain⟨v10,e10,h⟩:=h
    replace h:=ltE h;obtain⟨v11,e11,h⟩:=h
    apply AW.drawnP (V:=[_,_,_,_,_,_,_,_]) mixed DY5t1 8 (by kernel_rfl) (by kernel_rfl)
    ·refine⟨?_,?_,?_,?_,?_,?_,?_,?_,trivial⟩
     iterate 8 (· intro tm hr;simp[AllL,rdV] at hr;simp[hr,Ac e9,Ac e10,← e11];intros;first|exact KD.mk|exact KD.mkN)
    ·rfl
    ·simp[tmD,putD,Ac e9,Ac e10,← e11];rfl
    ·simp[Ac e9,Ac e10,← e11]
     intros;rfl
    cases v11 with
    |true =>
     replace h:=iteT rfl h
     refine AW.cond_true (by simp) ?_
     apply AW.step
     ·simp
      intros;rfl
     obtain rfl:=oi h
     refine AW.ret ?_
     try simp only[nm]
     refine rP_i ?_
     refine Left.plain hnb (by simp[Tryz.f54,resV,resC,comp];rfl) rfl rfl ?_
     simp
    |false =>
     replace h:=iteF rfl h
     refine AW.cond_false (by simp) ?_
     refine AW.skip ?_
     try simp only[nm]
     replace h:=ltE h;obtain⟨v12,e12,h⟩:=h
     apply AW.last
     ·simp[← e12]
      intros;rfl
     obtain rfl:=oi h
     refine nP_i ?_
     refine Weak.mixN [] hn0 (by decide) ?_ ?_ rfl
     all_goals first|(simp[Aa,Ab,pickOb];done)|rfl
   |false =>
    replace h:=iteF rfl h
    refine AW.cond_false (by simp) ?_
    refine AW.exit ?_
    try simp only[nm]
    obtain rfl:=oi h
    try simp only[sp_l,sp_r]
    refine xP_i ?_
    refine Weak.mixN [] hn0 (by decide) ?_ ?_ rfl
    all_goals first|(simp[Aa,Ab,pickOb];done)|rfl
  ·rintro e s hp
   rcases y5 with y13|y14
   ·replace h:=smL h
    obtain⟨rfl,hw⟩:=hp
    refine⟨_,hw,?_⟩
    try simp only[nm]
    apply AW.step
    ·simp
     intros;rfl
    obtain rfl:=oi h
    refine AW.ret ?_
    refine Left.plain hnb (by simp[Tryz.f54,resV,resC,comp];rfl) rfl rfl ?_
    simp
   ·replace h:=smR h
    obtain⟨rfl,hl⟩:=hp
    refine⟨_,Weak.refl _,?_⟩
    obtain rfl:=oi h
    exact hl
theorem EQ:Enters Tryz.prog 54:=enters Tryz.func54 (by kernel_rfl) rfl
def Di (n:Nat) (a0:List ByteArray) (a1:List ByteArray):Option Bool :=
lt (lenI a0) fun v1 =>
lt (lenI a1) fun v2 =>
lt (neI v1 v2) fun v3 =>
ite' v3 (some false) (bn (iter n (fun (y4:Int) =>
lt (lenI a0) fun v7 =>
lt (ltI y4 v7) fun v8 =>
ite' v8 (bn (nth a0 y4) fun v9 =>
bn (nth a1 y4) fun v10 =>
lt (neS v9 v10) fun v11 =>
ite' v11 (some (.inr (.inr false))) (lt (addI .i64 y4 1) fun v12 =>
some (.inl v12))) (some (.inr (.inl ())))) 0) fun (y5:Unit ⊕ Bool) =>
sm y5 (fun y13=>some true) (fun y14=>some y14))
theorem Lz {n:Nat} {a0:List ByteArray} {a1:List ByteArray} {r:Bool} (h:Di n a0 a1=some r):Sound Tryz.prog 55 [.l (.d false 1 (encS a0)),.l (.d false 1 (encS a1))] [] (.l (.s (.bool r))) []:=by
 unfold Di at h
 refine Sound.of_aw (fn:=Tryz.f55) (c:=_) Tryz.func55 rfl (by simp[Tryz.f55]) fun cx hG hnb=>?_
 rw[show Tryz.f55.ntmps=26 from rfl]
 have hn0:cx.nb=0:=hnb
 simp only[An,initTm,List.map_cons,List.map_nil]
 apply AW.step
 ·simp
  intros;rfl
 refine AW.seq ?_
 replace h:=ltE h;obtain⟨v1,e1,h⟩:=h
 replace h:=ltE h;obtain⟨v2,e2,h⟩:=h
 replace h:=ltE h;obtain⟨v3,e3,h⟩:=h
 apply AW.step
 ·simp[Af e1,Af e2,← e3]
  intros;rfl
 cases v3 with
 |true =>
  replace h:=iteT rfl h
  refine AW.cond_true (by simp) ?_
  apply AW.step
  ·simp
   intros;rfl
  obtain rfl:=oi h
  refine AW.ret ?_
  refine Left.plain hnb (by simp[Tryz.f55,resV,resC,comp];rfl) rfl rfl ?_
  simp
 |false =>
  replace h:=iteF rfl h
  refine AW.cond_false (by simp) ?_
  refine AW.skip ?_
  try simp only[nm]
  refine AW.seq ?_
  apply AW.step
  ·simp
   intros;rfl
  refine AW.block ?_
  replace h:=bnE h;obtain⟨y5,g5,h⟩:=h
  refine AW.iterP g5 (mk:=fun gh ls q=>(⟨[(0,.l (.d false 1 (encS a0))),(1,.l (.d false 1 (encS a1))),(5,.l (.s (.int .i64 q)))],[],26,gh,ls⟩:St)) (N:=fun gh ls=>(sp (xP 0 (cx:=cx) (fun _=>(⟨[],[],26,gh,ls⟩:St))) (rP (cx:=cx) (P:=Tryz.prog) Tryz.f55 (fun q=>.l (.s (.bool q))) (fun q=>[])))) ?_ (noS noX noR) ?_ ?_
  ·refine Weak.mixN [] hn0 (by decide) ?_ ?_ rfl
   all_goals first|(simp[Aa,Ab,pickOb];done)|rfl
  ·clear h;intro y4 y6 h
   refine AW.seq ?_
   replace h:=ltE h;obtain⟨v7,e7,h⟩:=h
   replace h:=ltE h;obtain⟨v8,e8,h⟩:=h
   apply AW.step
   ·simp[Af e7,← e8]
    intros;rfl
   cases v8 with
   |true =>
    replace h:=iteT rfl h
    refine AW.cond_true (by simp) ?_
    refine AW.skip ?_
    try simp only[nm]
    refine AW.seq ?_
    refine AW.block ?_
    replace h:=bnE h;obtain⟨v9,e9,h⟩:=h
    replace h:=bnE h;obtain⟨v10,e10,h⟩:=h
    replace h:=ltE h;obtain⟨v11,e11,h⟩:=h
    apply AW.drawnP (V:=[_,_,_,_,_,_,_,_]) mixed DY5t1 8 (by kernel_rfl) (by kernel_rfl)
    ·refine⟨?_,?_,?_,?_,?_,?_,?_,?_,trivial⟩
     iterate 8 (· intro tm hr;simp[AllL,rdV] at hr;simp[hr,Ac e9,Ac e10,← e11];intros;first|exact KD.mk|exact KD.mkN)
    ·rfl
    ·simp[tmD,putD,Ac e9,Ac e10,← e11];rfl
    ·simp[Ac e9,Ac e10,← e11]
     intros;rfl
    cases v11 with
    |true =>
     replace h:=iteT rfl h
     refine AW.cond_true (by simp) ?_
     apply AW.step
     ·simp
      intros;rfl
     obtain rfl:=oi h
     refine AW.ret ?_
     try simp only[nm]
     refine rP_i ?_
     refine Left.plain hnb (by simp[Tryz.f55,resV,resC,comp];rfl) rfl rfl ?_
     simp
    |false =>
     replace h:=iteF rfl h
     refine AW.cond_false (by simp) ?_
     refine AW.skip ?_
     try simp only[nm]
     replace h:=ltE h;obtain⟨v12,e12,h⟩:=h
     apply AW.last
     ·simp[← e12]
      intros;rfl
     obtain rfl:=oi h
     refine nP_i ?_
     refine Weak.mixN [] hn0 (by decide) ?_ ?_ rfl
     all_goals first|(simp[Aa,Ab,pickOb];done)|rfl
   |false =>
    replace h:=iteF rfl h
    refine AW.cond_false (by simp) ?_
    refine AW.exit ?_
    try simp only[nm]
    obtain rfl:=oi h
    try simp only[sp_l,sp_r]
    refine xP_i ?_
    refine Weak.mixN [] hn0 (by decide) ?_ ?_ rfl
    all_goals first|(simp[Aa,Ab,pickOb];done)|rfl
  ·rintro e s hp
   rcases y5 with y13|y14
   ·replace h:=smL h
    obtain⟨rfl,hw⟩:=hp
    refine⟨_,hw,?_⟩
    try simp only[nm]
    apply AW.step
    ·simp
     intros;rfl
    obtain rfl:=oi h
    refine AW.ret ?_
    refine Left.plain hnb (by simp[Tryz.f55,resV,resC,comp];rfl) rfl rfl ?_
    simp
   ·replace h:=smR h
    obtain⟨rfl,hl⟩:=hp
    refine⟨_,Weak.refl _,?_⟩
    obtain rfl:=oi h
    exact hl
theorem Kq:Enters Tryz.prog 55:=enters Tryz.func55 (by kernel_rfl) rfl
def BS (n:Nat) (a0:Item) (a1:Item):Option Bool :=
bn (lt (eqI a0.kind a1.kind) fun v2 =>
ite' v2 (lt (eqS a0.s a1.s) fun v3 =>
ite' v3 (lt (eqI a0.exp a1.exp) fun v4 =>
ite' v4 (bn (BZ n a0.f a1.f) fun v5 =>
ite' v5 (bn (Di n a0.l a1.l) fun v6 =>
some (v6)) (some (false))) (some (false))) (some (false))) (some (false))) fun (y1:Bool) =>
some y1
theorem FL {n:Nat} {a0:Item} {a1:Item} {r:Bool} (h:BS n a0 a1=some r):Sound Tryz.prog 18 [.g [.s (.int .i64 a0.kind),.s (.string a0.s),.d false 2 (encField a0.f),.d false 1 (encS a0.l),.s (.int .i64 a0.exp)],.g [.s (.int .i64 a1.kind),.s (.string a1.s),.d false 2 (encField a1.f),.d false 1 (encS a1.l),.s (.int .i64 a1.exp)]] [] (.l (.s (.bool r))) []:=by
 unfold BS at h
 refine Sound.of_aw (fn:=Tryz.f18) (c:=_) Tryz.func18 rfl (by simp[Tryz.f18]) fun cx hG hnb=>?_
 rw[show Tryz.f18.ntmps=38 from rfl]
 have hn0:cx.nb=0:=hnb
 simp only[An,initTm,List.map_cons,List.map_nil]
 apply AW.step
 ·simp
  intros;rfl
 replace h:=bnE h;obtain⟨y1,g1,h⟩:=h
 refine AW.flow (p:=fun gh ls=>(nP (cx:=cx) (fun q=>(⟨[(4,.l (.s (.bool q)))],[],38,gh,ls⟩:St))) y1) ?_ ?_
 ·replace h:=g1;clear g1
  replace h:=ltE h;obtain⟨v2,e2,h⟩:=h
  cases v2 with
  |true =>
   replace h:=iteT rfl h
   replace h:=ltE h;obtain⟨v3,e3,h⟩:=h
   cases v3 with
   |true =>
    replace h:=iteT rfl h
    replace h:=ltE h;obtain⟨v4,e4,h⟩:=h
    cases v4 with
    |true =>
     replace h:=iteT rfl h
     replace h:=bnE h;obtain⟨v5,e5,h⟩:=h
     cases v5 with
     |true =>
      replace h:=iteT rfl h
      replace h:=bnE h;obtain⟨v6,e6,h⟩:=h
      apply AW.last
      ·simp[← e2,← e3,← e4]
       intros
       refine Ad EQ (E1 e5) rfl ⟨.same rfl,.same rfl,trivial⟩ ?_
       try simp[← e2,← e3,← e4]
       intros
       refine Ad Kq (Lz e6) rfl ⟨.same rfl,.same rfl,trivial⟩ ?_
       try simp[← e2,← e3,← e4]
       intros;rfl
      obtain rfl:=oi h
      refine nP_i ?_
      refine Weak.mixN [] hn0 (by decide) ?_ ?_ rfl
      all_goals first|(simp[Aa,Ab,pickOb];done)|rfl
     |false =>
      replace h:=iteF rfl h
      apply AW.last
      ·simp[← e2,← e3,← e4]
       intros
       refine Ad EQ (E1 e5) rfl ⟨.same rfl,.same rfl,trivial⟩ ?_
       try simp[← e2,← e3,← e4]
       intros;rfl
      obtain rfl:=oi h
      refine nP_i ?_
      refine Weak.mixN [] hn0 (by decide) ?_ ?_ rfl
      all_goals first|(simp[Aa,Ab,pickOb];done)|rfl
    |false =>
     replace h:=iteF rfl h
     apply AW.last
     ·simp[← e2,← e3,← e4]
      intros;rfl
     obtain rfl:=oi h
     refine nP_i ?_
     refine Weak.mixN [] hn0 (by decide) ?_ ?_ rfl
     all_goals first|(simp[Aa,Ab,pickOb];done)|rfl
   |false =>
    replace h:=iteF rfl h
    apply AW.last
    ·simp[← e2,← e3]
     intros;rfl
    obtain rfl:=oi h
    refine nP_i ?_
    refine Weak.mixN [] hn0 (by decide) ?_ ?_ rfl
    all_goals first|(simp[Aa,Ab,pickOb];done)|rfl
  |false =>
   replace h:=iteF rfl h
   apply AW.last
   ·simp[← e2]
    intros;rfl
   obtain rfl:=oi h
   refine nP_i ?_
   refine Weak.mixN [] hn0 (by decide) ?_ ?_ rfl
   all_goals first|(simp[Aa,Ab,pickOb];done)|rfl
 ·rintro e s hp
  obtain⟨rfl,hw⟩:=hp
  refine⟨_,hw,?_⟩
  try simp only[nm]
  obtain rfl:=oi h
  refine AW.ret ?_
  refine Left.plain hnb (by simp[Tryz.f18,resV,resC,comp];rfl) rfl rfl ?_
  simp
theorem Fo:Enters Tryz.prog 18:=enters Tryz.func18 (by kernel_rfl) rfl
def B9 (n:Nat) (a0:List Pair) (a1:List Pair):Option Bool :=
lt (lenI a0) fun v1 =>
lt (lenI a1) fun v2 =>
lt (neI v1 v2) fun v3 =>
ite' v3 (some false) (bn (iter n (fun (y4:Int) =>
lt (lenI a0) fun v7 =>
lt (ltI y4 v7) fun v8 =>
ite' v8 (bn (bn (nth a0 y4) fun v10 =>
bn (nth a1 y4) fun v11 =>
lt (neS v10.key v11.key) fun v12 =>
ite' v12 (some (true)) (bn (BS n v10.item v11.item) fun v13 =>
lt (notB v13) fun v14 =>
some (v14))) fun (y9:Bool) =>
lt (y9) fun v15 =>
ite' v15 (some (.inr (.inr false))) (lt (addI .i64 y4 1) fun v16 =>
some (.inl v16))) (some (.inr (.inl ())))) 0) fun (y5:Unit ⊕ Bool) =>
sm y5 (fun y17=>some true) (fun y18=>some y18))
def DY5t2:List DI:=[⟨[0],[],[(0,none)],false⟩,⟨[0],[],[(5,none)],false⟩,⟨[0],[0,1],[(17,some 0),(18,some 1)],false⟩,⟨[0],[0,1,2],[(19,some 2)],false⟩,⟨[0],[0,1,2,3],[(20,some 3)],false⟩,⟨[0],[],[(1,none)],false⟩,⟨[0],[],[(5,none)],false⟩,⟨[0],[5,6],[(22,some 5),(23,some 6)],false⟩,⟨[0],[5,6,7],[(24,some 7)],false⟩,⟨[0],[5,6,7,8],[(25,some 8)],false⟩,⟨[0],[0,1,2,3,4,5,6,7,8,9],[(21,some 4),(26,some 9)],false⟩,⟨[0],[0,1,2,3,4,5,6,7,8,9,10],[(27,some 10)],false⟩,⟨[0],[0,1,2,3,4,5,6,7,8,9,10,11],[(0,none),(28,some 11)],false⟩,⟨[0],[0,1,2,3,4,5,6,7,8,9,10,11],[(5,none),(28,some 11)],false⟩,⟨[0],[0,1,2,3,4,5,6,7,8,9,10,11,12,13],[(28,some 11),(29,some 12),(30,some 13)],false⟩,⟨[0],[0,1,2,3,4,5,6,7,8,9,10,11,12,13,14],[(28,some 11),(31,some 14)],false⟩,⟨[0],[0,1,2,3,4,5,6,7,8,9,10,11,12,13,14,15],[(28,some 11),(32,some 15)],false⟩,⟨[0],[0,1,2,3,4,5,6,7,8,9,10,11],[(1,none),(28,some 11)],false⟩,⟨[0],[0,1,2,3,4,5,6,7,8,9,10,11],[(5,none),(28,some 11)],false⟩,⟨[0],[0,1,2,3,4,5,6,7,8,9,10,11,17,18],[(28,some 11),(34,some 17),(35,some 18)],false⟩,⟨[0],[0,1,2,3,4,5,6,7,8,9,10,11,17,18,19],[(28,some 11),(36,some 19)],false⟩,⟨[0],[0,1,2,3,4,5,6,7,8,9,10,11,17,18,19,20],[(28,some 11),(37,some 20)],false⟩,⟨[],[0,1,2,3,4,5,6,7,8,9,10,11,12,13,14,15,16,17,18,19,20,21],[],false⟩,⟨[],[0,1,2,3,4,5,6,7,8,9,10,11,12,13,14,15,16,17,18,19,20,21,22],[],false⟩,⟨[],[0,1,2,3,4,5,6,7,8,9,10,11,12,13,14,15,16,17,18,19,20,21,22,23],[],false⟩]
theorem C7 {n:Nat} {a0:List Pair} {a1:List Pair} {r:Bool} (h:B9 n a0 a1=some r):Sound Tryz.prog 43 [.l (.d false 6 (encPair a0)),.l (.d false 6 (encPair a1))] [] (.l (.s (.bool r))) []:=by
 unfold B9 at h
 refine Sound.of_aw (fn:=Tryz.f43) (c:=_) Tryz.func43 rfl (by simp[Tryz.f43]) fun cx hG hnb=>?_
 rw[show Tryz.f43.ntmps=42 from rfl]
 have hn0:cx.nb=0:=hnb
 simp only[An,initTm,List.map_cons,List.map_nil]
 apply AW.step
 ·simp
  intros;rfl
 refine AW.seq ?_
 replace h:=ltE h;obtain⟨v1,e1,h⟩:=h
 replace h:=ltE h;obtain⟨v2,e2,h⟩:=h
 replace h:=ltE h;obtain⟨v3,e3,h⟩:=h
 apply AW.step
 ·simp[Af e1,Af e2,← e3]
  intros;rfl
 cases v3 with
 |true =>
  replace h:=iteT rfl h
  refine AW.cond_true (by simp) ?_
  apply AW.step
  ·simp
   intros;rfl
  obtain rfl:=oi h
  refine AW.ret ?_
  refine Left.plain hnb (by simp[Tryz.f43,resV,resC,comp];rfl) rfl rfl ?_
  simp
 |false =>
  replace h:=iteF rfl h
  refine AW.cond_false (by simp) ?_
  refine AW.skip ?_
  try simp only[nm]
  refine AW.seq ?_
  apply AW.step
  ·simp
   intros;rfl
  refine AW.block ?_
  replace h:=bnE h;obtain⟨y5,g5,h⟩:=h
  refine AW.iterP g5 (mk:=fun gh ls q=>(⟨[(0,.l (.d false 6 (encPair a0))),(1,.l (.d false 6 (encPair a1))),(5,.l (.s (.int .i64 q)))],[],42,gh,ls⟩:St)) (N:=fun gh ls=>(sp (xP 0 (cx:=cx) (fun _=>(⟨[],[],42,gh,ls⟩:St))) (rP (cx:=cx) (P:=Tryz.prog) Tryz.f43 (fun q=>.l (.s (.bool q))) (fun q=>[])))) ?_ (noS noX noR) ?_ ?_
  ·refine Weak.mixN [] hn0 (by decide) ?_ ?_ rfl
   all_goals first|(simp[Aa,Ab,pickOb];done)|rfl
  ·clear h;intro y4 y6 h
   refine AW.seq ?_
   replace h:=ltE h;obtain⟨v7,e7,h⟩:=h
   replace h:=ltE h;obtain⟨v8,e8,h⟩:=h
   apply AW.step
   ·simp[Af e7,← e8]
    intros;rfl
   cases v8 with
   |true =>
    replace h:=iteT rfl h
    refine AW.cond_true (by simp) ?_
    refine AW.skip ?_
    try simp only[nm]
    refine AW.seq ?_
    refine AW.block ?_
    replace h:=bnE h;obtain⟨y9,g9,h⟩:=h
    refine AW.flow (p:=fun gh ls=>(nP (cx:=cx) (fun q=>(⟨[(0,.l (.d false 6 (encPair a0))),(1,.l (.d false 6 (encPair a1))),(5,.l (.s (.int .i64 y4))),(41,.l (.s (.bool q)))],[],42,gh,ls⟩:St))) y9) ?_ ?_
    ·replace h:=g9;clear g9
     replace h:=bnE h;obtain⟨v10,e10,h⟩:=h
     replace h:=bnE h;obtain⟨v11,e11,h⟩:=h
     replace h:=ltE h;obtain⟨v12,e12,h⟩:=h
     cases v12 with
     |true =>
      replace h:=iteT rfl h
      apply AW.drawnR (V:=[_,_,_,_,_,_,_,_,_,_,_,_,_,_,_,_,_,_,_,_,_,_]) mixed DY5t2 22 (by kernel_rfl) (by kernel_rfl)
      ·refine⟨?_,?_,?_,?_,?_,?_,?_,?_,?_,?_,?_,?_,?_,?_,?_,?_,?_,?_,?_,?_,?_,?_,trivial⟩
       iterate 22 (· intro tm hr;simp[AllL,rdV] at hr;simp[hr,Ac e10,Ac e11,← e12];intros;first|exact KD.mk|exact KD.mkN)
      ·rfl
      ·simp[tmD,putD,Ac e10,Ac e11,← e12];rfl
      ·simp[Ac e10,Ac e11,← e12]
       intros;rfl
      obtain rfl:=oi h
      refine nP_i ?_
      refine Weak.mixN [] hn0 (by decide) ?_ ?_ rfl
      all_goals first|(simp[Aa,Ab,pickOb];done)|rfl
     |false =>
      replace h:=iteF rfl h
      replace h:=bnE h;obtain⟨v13,e13,h⟩:=h
      replace h:=ltE h;obtain⟨v14,e14,h⟩:=h
      apply AW.drawnR (V:=[_,_,_,_,_,_,_,_,_,_,_,_,_,_,_,_,_,_,_,_,_,_]) mixed DY5t2 22 (by kernel_rfl) (by kernel_rfl)
      ·refine⟨?_,?_,?_,?_,?_,?_,?_,?_,?_,?_,?_,?_,?_,?_,?_,?_,?_,?_,?_,?_,?_,?_,trivial⟩
       iterate 22 (· intro tm hr;simp[AllL,rdV] at hr;simp[hr,Ac e10,Ac e11,← e12,← e14];intros;first|exact KD.mk|exact KD.mkN)
      ·rfl
      ·simp[tmD,putD,Ac e10,Ac e11,← e12,← e14];rfl
      ·simp[Ac e10,Ac e11,← e12,← e14]
       intros
       refine Ad Fo (FL e13) rfl ⟨.same rfl,.same rfl,trivial⟩ ?_
       try simp[Ac e10,Ac e11,← e12,← e14]
       intros;rfl
      obtain rfl:=oi h
      refine nP_i ?_
      refine Weak.mixN [] hn0 (by decide) ?_ ?_ rfl
      all_goals first|(simp[Aa,Ab,pickOb];done)|rfl
    ·rintro e s hp
     obtain⟨rfl,hw⟩:=hp
     refine⟨_,hw,?_⟩
     try simp only[nm]
     replace h:=ltE h;obtain⟨v15,e15,h⟩:=h
     rw[← e15]
     cases v15 with
     |true =>
      replace h:=iteT rfl h
      refine AW.cond_true (by simp) ?_
      apply AW.step
      ·simp
       intros;rfl
      obtain rfl:=oi h
      refine AW.ret ?_
      try simp only[nm]
      refine rP_i ?_
      refine Left.plain hnb (by simp[Tryz.f43,resV,resC,comp];rfl) rfl rfl ?_
      simp
     |false =>
      replace h:=iteF rfl h
      refine AW.cond_false (by simp) ?_
      refine AW.skip ?_
      try simp only[nm]
      replace h:=ltE h;obtain⟨v16,e16,h⟩:=h
      apply AW.last
      ·simp[← e16]
       intros;rfl
      obtain rfl:=oi h
      refine nP_i ?_
      refine Weak.mixN [] hn0 (by decide) ?_ ?_ rfl
      all_goals first|(simp[Aa,Ab,pickOb];done)|rfl
   |false =>
    replace h:=iteF rfl h
    refine AW.cond_false (by simp) ?_
    refine AW.exit ?_
    try simp only[nm]
    obtain rfl:=oi h
    try simp only[sp_l,sp_r]
    refine xP_i ?_
    refine Weak.mixN [] hn0 (by decide) ?_ ?_ rfl
    all_goals first|(simp[Aa,Ab,pickOb];done)|rfl
  ·rintro e s hp
   rcases y5 with y17|y18
   ·replace h:=smL h
    obtain⟨rfl,hw⟩:=hp
    refine⟨_,hw,?_⟩
    try simp only[nm]
    apply AW.step
    ·simp
     intros;rfl
    obtain rfl:=oi h
    refine AW.ret ?_
    refine Left.plain hnb (by simp[Tryz.f43,resV,resC,comp];rfl) rfl rfl ?_
    simp
   ·replace h:=smR h
    obtain⟨rfl,hl⟩:=hp
    refine⟨_,Weak.refl _,?_⟩
    obtain rfl:=oi h
    exact hl
theorem CO:Enters Tryz.prog 43:=enters Tryz.func43 (by kernel_rfl) rfl
def BJ (n:Nat) (a0:List Effect) (a1:List Effect):Option Bool :=
lt (lenI a0) fun v1 =>
lt (lenI a1) fun v2 =>
lt (neI v1 v2) fun v3 =>
ite' v3 (some false) (bn (iter n (fun (y4:Int) =>
lt (lenI a0) fun v7 =>
lt (ltI y4 v7) fun v8 =>
ite' v8 (bn (bn (nth a0 y4) fun v10 =>
bn (nth a1 y4) fun v11 =>
lt (neS v10.key v11.key) fun v12 =>
ite' v12 (some (true)) (lt (neB v10.gone v11.gone) fun v13 =>
ite' v13 (some (true)) (bn (BS n v10.item v11.item) fun v14 =>
lt (notB v14) fun v15 =>
some (v15)))) fun (y9:Bool) =>
lt (y9) fun v16 =>
ite' v16 (some (.inr (.inr false))) (lt (addI .i64 y4 1) fun v17 =>
some (.inl v17))) (some (.inr (.inl ())))) 0) fun (y5:Unit ⊕ Bool) =>
sm y5 (fun y18=>some true) (fun y19=>some y19))
def DY5t3:List DI:=[⟨[0],[],[(0,none)],false⟩,⟨[0],[],[(5,none)],false⟩,⟨[0],[0,1],[(17,some 0),(18,some 1)],false⟩,⟨[0],[0,1,2],[(19,some 2)],false⟩,⟨[0],[0,1,2,3],[(20,some 3)],false⟩,⟨[0],[],[(1,none)],false⟩,⟨[0],[],[(5,none)],false⟩,⟨[0],[5,6],[(22,some 5),(23,some 6)],false⟩,⟨[0],[5,6,7],[(24,some 7)],false⟩,⟨[0],[5,6,7,8],[(25,some 8)],false⟩,⟨[0],[0,1,2,3,4,5,6,7,8,9],[(21,some 4),(26,some 9)],false⟩,⟨[0],[0,1,2,3,4,5,6,7,8,9,10],[(27,some 10)],false⟩,⟨[0],[0,1,2,3,4,5,6,7,8,9,10,11],[(0,none),(28,some 11)],false⟩,⟨[0],[0,1,2,3,4,5,6,7,8,9,10,11],[(5,none),(28,some 11)],false⟩,⟨[0],[0,1,2,3,4,5,6,7,8,9,10,11,12,13],[(28,some 11),(29,some 12),(30,some 13)],false⟩,⟨[0],[0,1,2,3,4,5,6,7,8,9,10,11,12,13,14],[(28,some 11),(31,some 14)],false⟩,⟨[0],[0,1,2,3,4,5,6,7,8,9,10,11,12,13,14,15],[(28,some 11),(32,some 15)],false⟩,⟨[0],[0,1,2,3,4,5,6,7,8,9,10,11],[(1,none),(28,some 11)],false⟩,⟨[0],[0,1,2,3,4,5,6,7,8,9,10,11],[(5,none),(28,some 11)],false⟩,⟨[0],[0,1,2,3,4,5,6,7,8,9,10,11,17,18],[(28,some 11),(34,some 17),(35,some 18)],false⟩,⟨[0],[0,1,2,3,4,5,6,7,8,9,10,11,17,18,19],[(28,some 11),(36,some 19)],false⟩,⟨[0],[0,1,2,3,4,5,6,7,8,9,10,11,17,18,19,20],[(28,some 11),(37,some 20)],false⟩,⟨[0],[0,1,2,3,4,5,6,7,8,9,10,11,12,13,14,15,16,17,18,19,20,21],[(28,some 11),(33,some 16),(38,some 21)],false⟩,⟨[0],[0,1,2,3,4,5,6,7,8,9,10,11,12,13,14,15,16,17,18,19,20,21,22],[(28,some 11),(39,some 22)],false⟩,⟨[0],[0,1,2,3,4,5,6,7,8,9,10,11,12,13,14,15,16,17,18,19,20,21,22,23],[(40,some 23)],false⟩,⟨[0],[0,1,2,3,4,5,6,7,8,9,10,11,12,13,14,15,16,17,18,19,20,21,22,23,24],[(0,none),(41,some 24)],false⟩,⟨[0],[0,1,2,3,4,5,6,7,8,9,10,11,12,13,14,15,16,17,18,19,20,21,22,23,24],[(5,none),(41,some 24)],false⟩,⟨[0],[0,1,2,3,4,5,6,7,8,9,10,11,12,13,14,15,16,17,18,19,20,21,22,23,24,25,26],[(41,some 24),(42,some 25),(43,some 26)],false⟩,⟨[0],[0,1,2,3,4,5,6,7,8,9,10,11,12,13,14,15,16,17,18,19,20,21,22,23,24,25,26,27],[(41,some 24),(44,some 27)],false⟩,⟨[0],[0,1,2,3,4,5,6,7,8,9,10,11,12,13,14,15,16,17,18,19,20,21,22,23,24,25,26,27,28],[(41,some 24),(45,some 28)],false⟩,⟨[0],[0,1,2,3,4,5,6,7,8,9,10,11,12,13,14,15,16,17,18,19,20,21,22,23,24],[(1,none),(41,some 24)],false⟩,⟨[0],[0,1,2,3,4,5,6,7,8,9,10,11,12,13,14,15,16,17,18,19,20,21,22,23,24],[(5,none),(41,some 24)],false⟩,⟨[0],[0,1,2,3,4,5,6,7,8,9,10,11,12,13,14,15,16,17,18,19,20,21,22,23,24,30,31],[(41,some 24),(47,some 30),(48,some 31)],false⟩,⟨[0],[0,1,2,3,4,5,6,7,8,9,10,11,12,13,14,15,16,17,18,19,20,21,22,23,24,30,31,32],[(41,some 24),(49,some 32)],false⟩,⟨[0],[0,1,2,3,4,5,6,7,8,9,10,11,12,13,14,15,16,17,18,19,20,21,22,23,24,30,31,32,33],[(41,some 24),(50,some 33)],false⟩,⟨[],[0,1,2,3,4,5,6,7,8,9,10,11,12,13,14,15,16,17,18,19,20,21,22,23,24,25,26,27,28,29,30,31,32,33,34],[],false⟩,⟨[],[0,1,2,3,4,5,6,7,8,9,10,11,12,13,14,15,16,17,18,19,20,21,22,23,24,25,26,27,28,29,30,31,32,33,34,35],[],false⟩,⟨[],[0,1,2,3,4,5,6,7,8,9,10,11,12,13,14,15,16,17,18,19,20,21,22,23,24,25,26,27,28,29,30,31,32,33,34,35,36],[],false⟩]
theorem G2 {n:Nat} {a0:List Effect} {a1:List Effect} {r:Bool} (h:BJ n a0 a1=some r):Sound Tryz.prog 83 [.l (.d false 7 (encEffect a0)),.l (.d false 7 (encEffect a1))] [] (.l (.s (.bool r))) []:=by
 unfold BJ at h
 refine Sound.of_aw (fn:=Tryz.f83) (c:=_) Tryz.func83 rfl (by simp[Tryz.f83]) fun cx hG hnb=>?_
 rw[show Tryz.f83.ntmps=55 from rfl]
 have hn0:cx.nb=0:=hnb
 simp only[An,initTm,List.map_cons,List.map_nil]
 apply AW.step
 ·simp
  intros;rfl
 refine AW.seq ?_
 replace h:=ltE h;obtain⟨v1,e1,h⟩:=h
 replace h:=ltE h;obtain⟨v2,e2,h⟩:=h
 replace h:=ltE h;obtain⟨v3,e3,h⟩:=h
 apply AW.step
 ·simp[Af e1,Af e2,← e3]
  intros;rfl
 cases v3 with
 |true =>
  replace h:=iteT rfl h
  refine AW.cond_true (by simp) ?_
  apply AW.step
  ·simp
   intros;rfl
  obtain rfl:=oi h
  refine AW.ret ?_
  refine Left.plain hnb (by simp[Tryz.f83,resV,resC,comp];rfl) rfl rfl ?_
  simp
 |false =>
  replace h:=iteF rfl h
  refine AW.cond_false (by simp) ?_
  refine AW.skip ?_
  try simp only[nm]
  refine AW.seq ?_
  apply AW.step
  ·simp
   intros;rfl
  refine AW.block ?_
  replace h:=bnE h;obtain⟨y5,g5,h⟩:=h
  refine AW.iterP g5 (mk:=fun gh ls q=>(⟨[(0,.l (.d false 7 (encEffect a0))),(1,.l (.d false 7 (encEffect a1))),(5,.l (.s (.int .i64 q)))],[],55,gh,ls⟩:St)) (N:=fun gh ls=>(sp (xP 0 (cx:=cx) (fun _=>(⟨[],[],55,gh,ls⟩:St))) (rP (cx:=cx) (P:=Tryz.prog) Tryz.f83 (fun q=>.l (.s (.bool q))) (fun q=>[])))) ?_ (noS noX noR) ?_ ?_
  ·refine Weak.mixN [] hn0 (by decide) ?_ ?_ rfl
   all_goals first|(simp[Aa,Ab,pickOb];done)|rfl
  ·clear h;intro y4 y6 h
   refine AW.seq ?_
   replace h:=ltE h;obtain⟨v7,e7,h⟩:=h
   replace h:=ltE h;obtain⟨v8,e8,h⟩:=h
   apply AW.step
   ·simp[Af e7,← e8]
    intros;rfl
   cases v8 with
   |true =>
    replace h:=iteT rfl h
    refine AW.cond_true (by simp) ?_
    refine AW.skip ?_
    try simp only[nm]
    refine AW.seq ?_
    refine AW.block ?_
    replace h:=bnE h;obtain⟨y9,g9,h⟩:=h
    refine AW.flow (p:=fun gh ls=>(nP (cx:=cx) (fun q=>(⟨[(0,.l (.d false 7 (encEffect a0))),(1,.l (.d false 7 (encEffect a1))),(5,.l (.s (.int .i64 y4))),(54,.l (.s (.bool q)))],[],55,gh,ls⟩:St))) y9) ?_ ?_
    ·replace h:=g9;clear g9
     replace h:=bnE h;obtain⟨v10,e10,h⟩:=h
     replace h:=bnE h;obtain⟨v11,e11,h⟩:=h
     replace h:=ltE h;obtain⟨v12,e12,h⟩:=h
     cases v12 with
     |true =>
      replace h:=iteT rfl h
      apply AW.drawnR (V:=[_,_,_,_,_,_,_,_,_,_,_,_,_,_,_,_,_,_,_,_,_,_,_,_,_,_,_,_,_,_,_,_,_,_,_]) mixed DY5t3 35 (by kernel_rfl) (by kernel_rfl)
      ·refine⟨?_,?_,?_,?_,?_,?_,?_,?_,?_,?_,?_,?_,?_,?_,?_,?_,?_,?_,?_,?_,?_,?_,?_,?_,?_,?_,?_,?_,?_,?_,?_,?_,?_,?_,?_,trivial⟩
       iterate 35 (· intro tm hr;simp[AllL,rdV] at hr;simp[hr,Ac e10,Ac e11,← e12];intros;first|exact KD.mk|exact KD.mkN)
      ·rfl
      ·simp[tmD,putD,Ac e10,Ac e11,← e12];rfl
      ·simp[Ac e10,Ac e11,← e12]
       intros;rfl
      obtain rfl:=oi h
      refine nP_i ?_
      refine Weak.mixN [] hn0 (by decide) ?_ ?_ rfl
      all_goals first|(simp[Aa,Ab,pickOb];done)|rfl
     |false =>
      replace h:=iteF rfl h
      replace h:=ltE h;obtain⟨v13,e13,h⟩:=h
      cases v13 with
      |true =>
       replace h:=iteT rfl h
       apply AW.drawnR (V:=[_,_,_,_,_,_,_,_,_,_,_,_,_,_,_,_,_,_,_,_,_,_,_,_,_,_,_,_,_,_,_,_,_,_,_]) mixed DY5t3 35 (by kernel_rfl) (by kernel_rfl)
       ·refine⟨?_,?_,?_,?_,?_,?_,?_,?_,?_,?_,?_,?_,?_,?_,?_,?_,?_,?_,?_,?_,?_,?_,?_,?_,?_,?_,?_,?_,?_,?_,?_,?_,?_,?_,?_,trivial⟩
        iterate 35 (· intro tm hr;simp[AllL,rdV] at hr;simp[hr,Ac e10,Ac e11,← e12,← e13];intros;first|exact KD.mk|exact KD.mkN)
       ·rfl
       ·simp[tmD,putD,Ac e10,Ac e11,← e12,← e13];rfl
       ·simp[Ac e10,Ac e11,← e12,← e13]
        intros;rfl
       obtain rfl:=oi h
       refine nP_i ?_
       refine Weak.mixN [] hn0 (by decide) ?_ ?_ rfl
       all_goals first|(simp[Aa,Ab,pickOb];done)|rfl
      |false =>
       replace h:=iteF rfl h
       replace h:=bnE h;obtain⟨v14,e14,h⟩:=h
       replace h:=ltE h;obtain⟨v15,e15,h⟩:=h
       apply AW.drawnR (V:=[_,_,_,_,_,_,_,_,_,_,_,_,_,_,_,_,_,_,_,_,_,_,_,_,_,_,_,_,_,_,_,_,_,_,_]) mixed DY5t3 35 (by kernel_rfl) (by kernel_rfl)
       ·refine⟨?_,?_,?_,?_,?_,?_,?_,?_,?_,?_,?_,?_,?_,?_,?_,?_,?_,?_,?_,?_,?_,?_,?_,?_,?_,?_,?_,?_,?_,?_,?_,?_,?_,?_,?_,trivial⟩
        iterate 35 (· intro tm hr;simp[AllL,rdV] at hr;simp[hr,Ac e10,Ac e11,← e12,← e13,← e15];intros;first|exact KD.mk|exact KD.mkN)
       ·rfl
       ·simp[tmD,putD,Ac e10,Ac e11,← e12,← e13,← e15];rfl
       ·simp[Ac e10,Ac e11,← e12,← e13,← e15]
        intros
        refine Ad Fo (FL e14) rfl ⟨.same rfl,.same rfl,trivial⟩ ?_
        try simp[Ac e10,Ac e11,← e12,← e13,← e15]
        intros;rfl
       obtain rfl:=oi h
       refine nP_i ?_
       refine Weak.mixN [] hn0 (by decide) ?_ ?_ rfl
       all_goals first|(simp[Aa,Ab,pickOb];done)|rfl
    ·rintro e s hp
     obtain⟨rfl,hw⟩:=hp
     refine⟨_,hw,?_⟩
     try simp only[nm]
     replace h:=ltE h;obtain⟨v16,e16,h⟩:=h
     rw[← e16]
     cases v16 with
     |true =>
      replace h:=iteT rfl h
      refine AW.cond_true (by simp) ?_
      apply AW.step
      ·simp
       intros;rfl
      obtain rfl:=oi h
      refine AW.ret ?_
      try simp only[nm]
      refine rP_i ?_
      refine Left.plain hnb (by simp[Tryz.f83,resV,resC,comp];rfl) rfl rfl ?_
      simp
     |false =>
      replace h:=iteF rfl h
      refine AW.cond_false (by simp) ?_
      refine AW.skip ?_
      try simp only[nm]
      replace h:=ltE h;obtain⟨v17,e17,h⟩:=h
      apply AW.last
      ·simp[← e17]
       intros;rfl
      obtain rfl:=oi h
      refine nP_i ?_
      refine Weak.mixN [] hn0 (by decide) ?_ ?_ rfl
      all_goals first|(simp[Aa,Ab,pickOb];done)|rfl
   |false =>
    replace h:=iteF rfl h
    refine AW.cond_false (by simp) ?_
    refine AW.exit ?_
    try simp only[nm]
    obtain rfl:=oi h
    try simp only[sp_l,sp_r]
    refine xP_i ?_
    refine Weak.mixN [] hn0 (by decide) ?_ ?_ rfl
    all_goals first|(simp[Aa,Ab,pickOb];done)|rfl
  ·rintro e s hp
   rcases y5 with y18|y19
   ·replace h:=smL h
    obtain⟨rfl,hw⟩:=hp
    refine⟨_,hw,?_⟩
    try simp only[nm]
    apply AW.step
    ·simp
     intros;rfl
    obtain rfl:=oi h
    refine AW.ret ?_
    refine Left.plain hnb (by simp[Tryz.f83,resV,resC,comp];rfl) rfl rfl ?_
    simp
   ·replace h:=smR h
    obtain⟨rfl,hl⟩:=hp
    refine⟨_,Weak.refl _,?_⟩
    obtain rfl:=oi h
    exact hl
theorem Gz:Enters Tryz.prog 83:=enters Tryz.func83 (by kernel_rfl) rfl
def Ca (n:Nat) (a0:Feed) (a1:Feed):Option Bool :=
bn (lt (andB (eqI a0.rid.node a1.rid.node) (andB (eqI a0.rid.epoch a1.rid.epoch) true)) fun v2 =>
ite' v2 (lt (eqI a0.off a1.off) fun v3 =>
ite' v3 (lt (andB (eqI a0.prev.node a1.prev.node) (andB (eqI a0.prev.epoch a1.prev.epoch) true)) fun v4 =>
ite' v4 (lt (eqI a0.upto a1.upto) fun v5 =>
ite' v5 (bn (BJ n a0.back a1.back) fun v6 =>
some (v6)) (some (false))) (some (false))) (some (false))) (some (false))) fun (y1:Bool) =>
some y1
theorem DZ {n:Nat} {a0:Feed} {a1:Feed} {r:Bool} (h:Ca n a0 a1=some r):Sound Tryz.prog 44 [.g [.s (.int .i64 a0.rid.node),.s (.int .i64 a0.rid.epoch),.s (.int .i64 a0.off),.d false 7 (encEffect a0.back),.s (.int .i64 a0.prev.node),.s (.int .i64 a0.prev.epoch),.s (.int .i64 a0.upto)],.g [.s (.int .i64 a1.rid.node),.s (.int .i64 a1.rid.epoch),.s (.int .i64 a1.off),.d false 7 (encEffect a1.back),.s (.int .i64 a1.prev.node),.s (.int .i64 a1.prev.epoch),.s (.int .i64 a1.upto)]] [] (.l (.s (.bool r))) []:=by
 unfold Ca at h
 refine Sound.of_aw (fn:=Tryz.f44) (c:=_) Tryz.func44 rfl (by simp[Tryz.f44]) fun cx hG hnb=>?_
 rw[show Tryz.f44.ntmps=38 from rfl]
 have hn0:cx.nb=0:=hnb
 simp only[An,initTm,List.map_cons,List.map_nil]
 apply AW.step
 ·simp
  intros;rfl
 replace h:=bnE h;obtain⟨y1,g1,h⟩:=h
 refine AW.flow (p:=fun gh ls=>(nP (cx:=cx) (fun q=>(⟨[(4,.l (.s (.bool q)))],[],38,gh,ls⟩:St))) y1) ?_ ?_
 ·replace h:=g1;clear g1
  replace h:=ltE h;obtain⟨v2,e2,h⟩:=h
  cases v2 with
  |true =>
   replace h:=iteT rfl h
   replace h:=ltE h;obtain⟨v3,e3,h⟩:=h
   cases v3 with
   |true =>
    replace h:=iteT rfl h
    replace h:=ltE h;obtain⟨v4,e4,h⟩:=h
    cases v4 with
    |true =>
     replace h:=iteT rfl h
     replace h:=ltE h;obtain⟨v5,e5,h⟩:=h
     cases v5 with
     |true =>
      replace h:=iteT rfl h
      replace h:=bnE h;obtain⟨v6,e6,h⟩:=h
      apply AW.last
      ·simp[← e2,← e3,← e4,← e5]
       intros
       refine Ad Gz (G2 e6) rfl ⟨.same rfl,.same rfl,trivial⟩ ?_
       try simp[← e2,← e3,← e4,← e5]
       intros;rfl
      obtain rfl:=oi h
      refine nP_i ?_
      refine Weak.mixN [] hn0 (by decide) ?_ ?_ rfl
      all_goals first|(simp[Aa,Ab,pickOb];done)|rfl
     |false =>
      replace h:=iteF rfl h
      apply AW.last
      ·simp[← e2,← e3,← e4,← e5]
       intros;rfl
      obtain rfl:=oi h
      refine nP_i ?_
      refine Weak.mixN [] hn0 (by decide) ?_ ?_ rfl
      all_goals first|(simp[Aa,Ab,pickOb];done)|rfl
    |false =>
     replace h:=iteF rfl h
     apply AW.last
     ·simp[← e2,← e3,← e4]
      intros;rfl
     obtain rfl:=oi h
     refine nP_i ?_
     refine Weak.mixN [] hn0 (by decide) ?_ ?_ rfl
     all_goals first|(simp[Aa,Ab,pickOb];done)|rfl
   |false =>
    replace h:=iteF rfl h
    apply AW.last
    ·simp[← e2,← e3]
     intros;rfl
    obtain rfl:=oi h
    refine nP_i ?_
    refine Weak.mixN [] hn0 (by decide) ?_ ?_ rfl
    all_goals first|(simp[Aa,Ab,pickOb];done)|rfl
  |false =>
   replace h:=iteF rfl h
   apply AW.last
   ·simp[← e2]
    intros;rfl
   obtain rfl:=oi h
   refine nP_i ?_
   refine Weak.mixN [] hn0 (by decide) ?_ ?_ rfl
   all_goals first|(simp[Aa,Ab,pickOb];done)|rfl
 ·rintro e s hp
  obtain⟨rfl,hw⟩:=hp
  refine⟨_,hw,?_⟩
  try simp only[nm]
  obtain rfl:=oi h
  refine AW.ret ?_
  refine Left.plain hnb (by simp[Tryz.f44,resV,resC,comp];rfl) rfl rfl ?_
  simp
theorem DO:Enters Tryz.prog 44:=enters Tryz.func44 (by kernel_rfl) rfl
def Cu (n:Nat) (a0:List Int) (a1:List Int):Option Bool :=
lt (lenI a0) fun v1 =>
lt (lenI a1) fun v2 =>
lt (neI v1 v2) fun v3 =>
ite' v3 (some false) (bn (iter n (fun (y4:Int) =>
lt (lenI a0) fun v7 =>
lt (ltI y4 v7) fun v8 =>
ite' v8 (bn (nth a0 y4) fun v9 =>
bn (nth a1 y4) fun v10 =>
lt (neI v9 v10) fun v11 =>
ite' v11 (some (.inr (.inr false))) (lt (addI .i64 y4 1) fun v12 =>
some (.inl v12))) (some (.inr (.inl ())))) 0) fun (y5:Unit ⊕ Bool) =>
sm y5 (fun y13=>some true) (fun y14=>some y14))
theorem E2 {n:Nat} {a0:List Int} {a1:List Int} {r:Bool} (h:Cu n a0 a1=some r):Sound Tryz.prog 46 [.l (.d false 1 (encI a0)),.l (.d false 1 (encI a1))] [] (.l (.s (.bool r))) []:=by
 unfold Cu at h
 refine Sound.of_aw (fn:=Tryz.f46) (c:=_) Tryz.func46 rfl (by simp[Tryz.f46]) fun cx hG hnb=>?_
 rw[show Tryz.f46.ntmps=26 from rfl]
 have hn0:cx.nb=0:=hnb
 simp only[An,initTm,List.map_cons,List.map_nil]
 apply AW.step
 ·simp
  intros;rfl
 refine AW.seq ?_
 replace h:=ltE h;obtain⟨v1,e1,h⟩:=h
 replace h:=ltE h;obtain⟨v2,e2,h⟩:=h
 replace h:=ltE h;obtain⟨v3,e3,h⟩:=h
 apply AW.step
 ·simp[Af e1,Af e2,← e3]
  intros;rfl
 cases v3 with
 |true =>
  replace h:=iteT rfl h
  refine AW.cond_true (by simp) ?_
  apply AW.step
  ·simp
   intros;rfl
  obtain rfl:=oi h
  refine AW.ret ?_
  refine Left.plain hnb (by simp[Tryz.f46,resV,resC,comp];rfl) rfl rfl ?_
  simp
 |false =>
  replace h:=iteF rfl h
  refine AW.cond_false (by simp) ?_
  refine AW.skip ?_
  try simp only[nm]
  refine AW.seq ?_
  apply AW.step
  ·simp
   intros;rfl
  refine AW.block ?_
  replace h:=bnE h;obtain⟨y5,g5,h⟩:=h
  refine AW.iterP g5 (mk:=fun gh ls q=>(⟨[(0,.l (.d false 1 (encI a0))),(1,.l (.d false 1 (encI a1))),(5,.l (.s (.int .i64 q)))],[],26,gh,ls⟩:St)) (N:=fun gh ls=>(sp (xP 0 (cx:=cx) (fun _=>(⟨[],[],26,gh,ls⟩:St))) (rP (cx:=cx) (P:=Tryz.prog) Tryz.f46 (fun q=>.l (.s (.bool q))) (fun q=>[])))) ?_ (noS noX noR) ?_ ?_
  ·refine Weak.mixN [] hn0 (by decide) ?_ ?_ rfl
   all_goals first|(simp[Aa,Ab,pickOb];done)|rfl
  ·clear h;intro y4 y6 h
   refine AW.seq ?_
   replace h:=ltE h;obtain⟨v7,e7,h⟩:=h
   replace h:=ltE h;obtain⟨v8,e8,h⟩:=h
   apply AW.step
   ·simp[Af e7,← e8]
    intros;rfl
   cases v8 with
   |true =>
    replace h:=iteT rfl h
    refine AW.cond_true (by simp) ?_
    refine AW.skip ?_
    try simp only[nm]
    refine AW.seq ?_
    refine AW.block ?_
    replace h:=bnE h;obtain⟨v9,e9,h⟩:=h
    replace h:=bnE h;obtain⟨v10,e10,h⟩:=h
    replace h:=ltE h;obtain⟨v11,e11,h⟩:=h
    apply AW.drawnP (V:=[_,_,_,_,_,_,_,_]) mixed DY5t1 8 (by kernel_rfl) (by kernel_rfl)
    ·refine⟨?_,?_,?_,?_,?_,?_,?_,?_,trivial⟩
     iterate 8 (· intro tm hr;simp[AllL,rdV] at hr;simp[hr,Ac e9,Ac e10,← e11];intros;first|exact KD.mk|exact KD.mkN)
    ·rfl
    ·simp[tmD,putD,Ac e9,Ac e10,← e11];rfl
    ·simp[Ac e9,Ac e10,← e11]
     intros;rfl
    cases v11 with
    |true =>
     replace h:=iteT rfl h
     refine AW.cond_true (by simp) ?_
     apply AW.step
     ·simp
      intros;rfl
     obtain rfl:=oi h
     refine AW.ret ?_
     try simp only[nm]
     refine rP_i ?_
     refine Left.plain hnb (by simp[Tryz.f46,resV,resC,comp];rfl) rfl rfl ?_
     simp
    |false =>
     replace h:=iteF rfl h
     refine AW.cond_false (by simp) ?_
     refine AW.skip ?_
     try simp only[nm]
     replace h:=ltE h;obtain⟨v12,e12,h⟩:=h
     apply AW.last
     ·simp[← e12]
      intros;rfl
     obtain rfl:=oi h
     refine nP_i ?_
     refine Weak.mixN [] hn0 (by decide) ?_ ?_ rfl
     all_goals first|(simp[Aa,Ab,pickOb];done)|rfl
   |false =>
    replace h:=iteF rfl h
    refine AW.cond_false (by simp) ?_
    refine AW.exit ?_
    try simp only[nm]
    obtain rfl:=oi h
    try simp only[sp_l,sp_r]
    refine xP_i ?_
    refine Weak.mixN [] hn0 (by decide) ?_ ?_ rfl
    all_goals first|(simp[Aa,Ab,pickOb];done)|rfl
  ·rintro e s hp
   rcases y5 with y13|y14
   ·replace h:=smL h
    obtain⟨rfl,hw⟩:=hp
    refine⟨_,hw,?_⟩
    try simp only[nm]
    apply AW.step
    ·simp
     intros;rfl
    obtain rfl:=oi h
    refine AW.ret ?_
    refine Left.plain hnb (by simp[Tryz.f46,resV,resC,comp];rfl) rfl rfl ?_
    simp
   ·replace h:=smR h
    obtain⟨rfl,hl⟩:=hp
    refine⟨_,Weak.refl _,?_⟩
    obtain rfl:=oi h
    exact hl
theorem Ev:Enters Tryz.prog 46:=enters Tryz.func46 (by kernel_rfl) rfl
def B0 (n:Nat) (a0:Watch) (a1:Watch):Option Bool :=
bn (bn (Cu n a0.heard a1.heard) fun v2 =>
lt (notB v2) fun v3 =>
ite' v3 (some (true)) (lt (lenI a0.says) fun v4 =>
lt (lenI a1.says) fun v5 =>
lt (neI v4 v5) fun v6 =>
some (v6))) fun (y1:Bool) =>
lt (y1) fun v7 =>
ite' v7 (some false) (bn (iter n (fun (y8:Int) =>
lt (lenI a0.says) fun v11 =>
lt (ltI y8 v11) fun v12 =>
ite' v12 (bn (nth a0.says y8) fun v13 =>
bn (nth a1.says y8) fun v14 =>
bn (Cu n v13 v14) fun v15 =>
lt (notB v15) fun v16 =>
ite' v16 (some (.inr (.inr false))) (lt (addI .i64 y8 1) fun v17 =>
some (.inl v17))) (some (.inr (.inl ())))) 0) fun (y9:Unit ⊕ Bool) =>
sm y9 (fun y18=>some true) (fun y19=>some y19))
theorem E3 {n:Nat} {a0:Watch} {a1:Watch} {r:Bool} (h:B0 n a0 a1=some r):Sound Tryz.prog 45 [.g [.d false 1 (encI a0.heard),.d false 1 (encLI a0.says)],.g [.d false 1 (encI a1.heard),.d false 1 (encLI a1.says)]] [] (.l (.s (.bool r))) []:=by
 unfold B0 at h
 refine Sound.of_aw (fn:=Tryz.f45) (c:=_) Tryz.func45 rfl (by simp[Tryz.f45]) fun cx hG hnb=>?_
 rw[show Tryz.f45.ntmps=40 from rfl]
 have hn0:cx.nb=0:=hnb
 simp only[An,initTm,List.map_cons,List.map_nil]
 apply AW.step
 ·simp
  intros;rfl
 refine AW.seq ?_
 replace h:=bnE h;obtain⟨y1,g1,h⟩:=h
 refine AW.flow (p:=fun gh ls=>(nP (cx:=cx) (fun q=>(⟨[(2,.l (.p 0 0)),(3,.l (.p 1 0)),(20,.l (.s (.bool q)))],[some ⟨36,2,false,none,[.d false 1 (encI a0.heard),.d false 1 (encLI a0.says)]⟩,some ⟨36,2,false,none,[.d false 1 (encI a1.heard),.d false 1 (encLI a1.says)]⟩],40,gh,ls⟩:St))) y1) ?_ ?_
 ·replace h:=g1;clear g1
  replace h:=bnE h;obtain⟨v2,e2,h⟩:=h
  replace h:=ltE h;obtain⟨v3,e3,h⟩:=h
  cases v3 with
  |true =>
   replace h:=iteT rfl h
   apply AW.last
   ·simp[← e3]
    intros
    refine Ad Ev (E2 e2) rfl ⟨.same rfl,.same rfl,trivial⟩ ?_
    try simp[← e3]
    intros;rfl
   obtain rfl:=oi h
   refine nP_i ?_
   refine Weak.mixN [some 0,some 1] hn0 (by decide) ?_ ?_ rfl
   all_goals first|(simp[Aa,Ab,pickOb];done)|rfl
  |false =>
   replace h:=iteF rfl h
   replace h:=ltE h;obtain⟨v4,e4,h⟩:=h
   replace h:=ltE h;obtain⟨v5,e5,h⟩:=h
   replace h:=ltE h;obtain⟨v6,e6,h⟩:=h
   apply AW.last
   ·simp[← e3,Af e4,Af e5,← e6]
    intros
    refine Ad Ev (E2 e2) rfl ⟨.same rfl,.same rfl,trivial⟩ ?_
    try simp[← e3,Af e4,Af e5,← e6]
    intros;rfl
   obtain rfl:=oi h
   refine nP_i ?_
   refine Weak.mixN [some 0,some 1] hn0 (by decide) ?_ ?_ rfl
   all_goals first|(simp[Aa,Ab,pickOb];done)|rfl
 ·rintro e s hp
  obtain⟨rfl,hw⟩:=hp
  refine⟨_,hw,?_⟩
  try simp only[nm]
  replace h:=ltE h;obtain⟨v7,e7,h⟩:=h
  rw[← e7]
  cases v7 with
  |true =>
   replace h:=iteT rfl h
   refine AW.cond_true (by simp) ?_
   apply AW.step
   ·simp
    intros;rfl
   obtain rfl:=oi h
   refine AW.ret ?_
   refine Left.plain hnb (by simp[Tryz.f45,resV,resC,comp];rfl) rfl rfl ?_
   simp
  |false =>
   replace h:=iteF rfl h
   refine AW.cond_false (by simp) ?_
   refine AW.skip ?_
   try simp only[nm]
   refine AW.seq ?_
   apply AW.step
   ·simp
    intros;rfl
   refine AW.block ?_
   replace h:=bnE h;obtain⟨y9,g9,h⟩:=h
   refine AW.iterP g9 (mk:=fun gh ls q=>(⟨[(2,.l (.p 0 0)),(3,.l (.p 1 0)),(5,.l (.s (.int .i64 q)))],[some ⟨36,2,false,none,[.d false 1 (encI a0.heard),.d false 1 (encLI a0.says)]⟩,some ⟨36,2,false,none,[.d false 1 (encI a1.heard),.d false 1 (encLI a1.says)]⟩],40,gh,ls⟩:St)) (N:=fun gh ls=>(sp (xP 0 (cx:=cx) (fun _=>(⟨[],[],40,gh,ls⟩:St))) (rP (cx:=cx) (P:=Tryz.prog) Tryz.f45 (fun q=>.l (.s (.bool q))) (fun q=>[])))) ?_ (noS noX noR) ?_ ?_
   ·refine Weak.mixN [some 0,some 1] hn0 (by decide) ?_ ?_ rfl
    all_goals first|(simp[Aa,Ab,pickOb];done)|rfl
   ·clear h;intro y8 y10 h
    refine AW.seq ?_
    replace h:=ltE h;obtain⟨v11,e11,h⟩:=h
    replace h:=ltE h;obtain⟨v12,e12,h⟩:=h
    apply AW.step
    ·simp[Af e11,← e12]
     intros;rfl
    cases v12 with
    |true =>
     replace h:=iteT rfl h
     refine AW.cond_true (by simp) ?_
     refine AW.skip ?_
     try simp only[nm]
     refine AW.seq ?_
     refine AW.block ?_
     replace h:=bnE h;obtain⟨v13,e13,h⟩:=h
     replace h:=bnE h;obtain⟨v14,e14,h⟩:=h
     replace h:=bnE h;obtain⟨v15,e15,h⟩:=h
     replace h:=ltE h;obtain⟨v16,e16,h⟩:=h
     apply AW.drawnP (V:=[_,_,_,_,_,_,_,_,_,_]) mixed [⟨[0],[],[(2,none)],false⟩,⟨[0],[0],[(28,some 0)],false⟩,⟨[0],[],[(5,none)],false⟩,⟨[0],[0,1,2],[(29,some 1),(30,some 2)],false⟩,⟨[0],[0,1,2,3],[(31,some 3)],false⟩,⟨[0],[],[(3,none)],false⟩,⟨[0],[5],[(33,some 5)],false⟩,⟨[0],[],[(5,none)],false⟩,⟨[0],[5,6,7],[(34,some 6),(35,some 7)],false⟩,⟨[0],[5,6,7,8],[(36,some 8)],false⟩,⟨[],[0,1,2,3,4,5,6,7,8,9],[],false⟩,⟨[],[0,1,2,3,4,5,6,7,8,9,10],[],false⟩] 10 (by kernel_rfl) (by kernel_rfl)
     ·refine⟨?_,?_,?_,?_,?_,?_,?_,?_,?_,?_,trivial⟩
      iterate 10 (· intro tm hr;simp[AllL,rdV] at hr;simp[hr,Ac e13,Ac e14,← e16];intros;first|exact KD.mk|exact KD.mkN)
     ·rfl
     ·simp[tmD,putD,Ac e13,Ac e14,← e16];rfl
     ·simp[Ac e13,Ac e14,← e16]
      intros
      refine Ad Ev (E2 e15) rfl ⟨.same rfl,.same rfl,trivial⟩ ?_
      try simp[Ac e13,Ac e14,← e16]
      intros;rfl
     cases v16 with
     |true =>
      replace h:=iteT rfl h
      refine AW.cond_true (by simp) ?_
      apply AW.step
      ·simp
       intros;rfl
      obtain rfl:=oi h
      refine AW.ret ?_
      try simp only[nm]
      refine rP_i ?_
      refine Left.plain hnb (by simp[Tryz.f45,resV,resC,comp];rfl) rfl rfl ?_
      simp
     |false =>
      replace h:=iteF rfl h
      refine AW.cond_false (by simp) ?_
      refine AW.skip ?_
      try simp only[nm]
      replace h:=ltE h;obtain⟨v17,e17,h⟩:=h
      apply AW.last
      ·simp[← e17]
       intros;rfl
      obtain rfl:=oi h
      refine nP_i ?_
      refine Weak.mixN [some 0,some 1] hn0 (by decide) ?_ ?_ rfl
      all_goals first|(simp[Aa,Ab,pickOb];done)|rfl
    |false =>
     replace h:=iteF rfl h
     refine AW.cond_false (by simp) ?_
     refine AW.exit ?_
     try simp only[nm]
     obtain rfl:=oi h
     try simp only[sp_l,sp_r]
     refine xP_i ?_
     refine Weak.mixN [] hn0 (by decide) ?_ ?_ rfl
     all_goals first|(simp[Aa,Ab,pickOb];done)|rfl
   ·rintro e s hp
    rcases y9 with y18|y19
    ·replace h:=smL h
     obtain⟨rfl,hw⟩:=hp
     refine⟨_,hw,?_⟩
     try simp only[nm]
     apply AW.step
     ·simp
      intros;rfl
     obtain rfl:=oi h
     refine AW.ret ?_
     refine Left.plain hnb (by simp[Tryz.f45,resV,resC,comp];rfl) rfl rfl ?_
     simp
    ·replace h:=smR h
     obtain⟨rfl,hl⟩:=hp
     refine⟨_,Weak.refl _,?_⟩
     obtain rfl:=oi h
     exact hl
theorem ES:Enters Tryz.prog 45:=enters Tryz.func45 (by kernel_rfl) rfl
def BC (n:Nat) (a0:Node) (a1:Node):Option Bool :=
bn (lt (neI a0.count a1.count) fun v2 =>
ite' v2 (some (true)) (lt (neI a0.id a1.id) fun v3 =>
ite' v3 (some (true)) (lt (neI a0.master a1.master) fun v4 =>
ite' v4 (some (true)) (lt (neI a0.epoch a1.epoch) fun v5 =>
ite' v5 (some (true)) (lt (neI a0.voted a1.voted) fun v6 =>
ite' v6 (some (true)) (lt (neI a0.last a1.last) fun v7 =>
ite' v7 (some (true)) (lt (neI a0.asked a1.asked) fun v8 =>
ite' v8 (some (true)) (lt (neI a0.wait a1.wait) fun v9 =>
ite' v9 (some (true)) (lt (lenI a0.moves) fun v10 =>
lt (lenI a1.moves) fun v11 =>
lt (neI v10 v11) fun v12 =>
ite' v12 (some (true)) (lt (lenI a0.seen) fun v13 =>
lt (lenI a1.seen) fun v14 =>
lt (neI v13 v14) fun v15 =>
some (v15))))))))))) fun (y1:Bool) =>
lt (y1) fun v16 =>
ite' v16 (some false) (bn (iter n (fun (y17:Int) =>
lt (lenI a0.moves) fun v20 =>
lt (ltI y17 v20) fun v21 =>
ite' v21 (bn (nth a0.moves y17) fun v22 =>
bn (nth a1.moves y17) fun v23 =>
lt (notB (andB (eqI v22.slot v23.slot) (andB (eqI v22.to v23.to) (andB (eqI v22.num v23.num) (andB (eqS v22.key v23.key) true))))) fun v24 =>
ite' v24 (some (.inr (.inr false))) (lt (addI .i64 y17 1) fun v25 =>
some (.inl v25))) (some (.inr (.inl ())))) 0) fun (y18:Unit ⊕ Bool) =>
sm y18 (fun y26=>bn (iter n (fun (y28:Int) =>
lt (lenI a0.seen) fun v31 =>
lt (ltI y28 v31) fun v32 =>
ite' v32 (bn (nth a0.seen y28) fun v33 =>
bn (nth a1.seen y28) fun v34 =>
lt (notB (andB (eqI v33.node v34.node) (andB (eqI v33.slot v34.slot) (andB (eqI v33.num v34.num) true)))) fun v35 =>
ite' v35 (some (.inr (.inr false))) (lt (addI .i64 y28 1) fun v36 =>
some (.inl v36))) (some (.inr (.inl ())))) 0) fun (y29:Unit ⊕ Bool) =>
sm y29 (fun y37=>bn (bn (BH n a0.claims a1.claims) fun v40 =>
ite' v40 (bn (B9 n a0.db a1.db) fun v41 =>
ite' v41 (bn (Ca n a0.feed a1.feed) fun v42 =>
ite' v42 (bn (B0 n a0.watch a1.watch) fun v43 =>
ite' v43 (bn (Cu n a0.votes a1.votes) fun v44 =>
some (v44)) (some (false))) (some (false))) (some (false))) (some (false))) fun (y39:Bool) =>
some y39) (fun y38=>some y38)) (fun y27=>some y27))
theorem BT {n:Nat} {a0:Node} {a1:Node} {r:Bool} (h:BC n a0 a1=some r):Sound Tryz.prog 14 [.g [.s (.int .i64 a0.count),.s (.int .i64 a0.id),.s (.int .i64 a0.master),.s (.int .i64 a0.epoch),.s (.int .i64 a0.voted),.d false 4 (encClaim a0.claims),.d false 6 (encPair a0.db),.d false 4 (encMove a0.moves),.s (.int .i64 a0.last),.d false 3 (encSeen a0.seen),.s (.int .i64 a0.feed.rid.node),.s (.int .i64 a0.feed.rid.epoch),.s (.int .i64 a0.feed.off),.d false 7 (encEffect a0.feed.back),.s (.int .i64 a0.feed.prev.node),.s (.int .i64 a0.feed.prev.epoch),.s (.int .i64 a0.feed.upto),.d false 1 (encI a0.watch.heard),.d false 1 (encLI a0.watch.says),.s (.int .i64 a0.asked),.d false 1 (encI a0.votes),.s (.int .i64 a0.wait)],.g [.s (.int .i64 a1.count),.s (.int .i64 a1.id),.s (.int .i64 a1.master),.s (.int .i64 a1.epoch),.s (.int .i64 a1.voted),.d false 4 (encClaim a1.claims),.d false 6 (encPair a1.db),.d false 4 (encMove a1.moves),.s (.int .i64 a1.last),.d false 3 (encSeen a1.seen),.s (.int .i64 a1.feed.rid.node),.s (.int .i64 a1.feed.rid.epoch),.s (.int .i64 a1.feed.off),.d false 7 (encEffect a1.feed.back),.s (.int .i64 a1.feed.prev.node),.s (.int .i64 a1.feed.prev.epoch),.s (.int .i64 a1.feed.upto),.d false 1 (encI a1.watch.heard),.d false 1 (encLI a1.watch.says),.s (.int .i64 a1.asked),.d false 1 (encI a1.votes),.s (.int .i64 a1.wait)]] [] (.l (.s (.bool r))) []:=by
 unfold BC at h
 refine Sound.of_aw (fn:=Tryz.f14) (c:=_) Tryz.func14 rfl (by simp[Tryz.f14]) fun cx hG hnb=>?_
 rw[show Tryz.f14.ntmps=148 from rfl]
 have hn0:cx.nb=0:=hnb
 simp only[An,initTm,List.map_cons,List.map_nil]
 apply AW.step
 ·simp
  intros;rfl
 refine AW.seq ?_
 replace h:=bnE h;obtain⟨y1,g1,h⟩:=h
 refine AW.flow (p:=fun gh ls=>(nP (cx:=cx) (fun q=>(⟨[(2,.l (.p 0 0)),(3,.l (.p 1 0)),(78,.l (.s (.bool q)))],[some ⟨38,22,false,none,[.s (.int .i64 a0.count),.s (.int .i64 a0.id),.s (.int .i64 a0.master),.s (.int .i64 a0.epoch),.s (.int .i64 a0.voted),.d false 4 (encClaim a0.claims),.d false 6 (encPair a0.db),.d false 4 (encMove a0.moves),.s (.int .i64 a0.last),.d false 3 (encSeen a0.seen),.s (.int .i64 a0.feed.rid.node),.s (.int .i64 a0.feed.rid.epoch),.s (.int .i64 a0.feed.off),.d false 7 (encEffect a0.feed.back),.s (.int .i64 a0.feed.prev.node),.s (.int .i64 a0.feed.prev.epoch),.s (.int .i64 a0.feed.upto),.d false 1 (encI a0.watch.heard),.d false 1 (encLI a0.watch.says),.s (.int .i64 a0.asked),.d false 1 (encI a0.votes),.s (.int .i64 a0.wait)]⟩,some ⟨38,22,false,none,[.s (.int .i64 a1.count),.s (.int .i64 a1.id),.s (.int .i64 a1.master),.s (.int .i64 a1.epoch),.s (.int .i64 a1.voted),.d false 4 (encClaim a1.claims),.d false 6 (encPair a1.db),.d false 4 (encMove a1.moves),.s (.int .i64 a1.last),.d false 3 (encSeen a1.seen),.s (.int .i64 a1.feed.rid.node),.s (.int .i64 a1.feed.rid.epoch),.s (.int .i64 a1.feed.off),.d false 7 (encEffect a1.feed.back),.s (.int .i64 a1.feed.prev.node),.s (.int .i64 a1.feed.prev.epoch),.s (.int .i64 a1.feed.upto),.d false 1 (encI a1.watch.heard),.d false 1 (encLI a1.watch.says),.s (.int .i64 a1.asked),.d false 1 (encI a1.votes),.s (.int .i64 a1.wait)]⟩],148,gh,ls⟩:St))) y1) ?_ ?_
 ·replace h:=g1;clear g1
  replace h:=ltE h;obtain⟨v2,e2,h⟩:=h
  cases v2 with
  |true =>
   replace h:=iteT rfl h
   apply AW.last
   ·simp[← e2]
    intros;rfl
   obtain rfl:=oi h
   refine nP_i ?_
   refine Weak.mixN [some 0,some 1] hn0 (by decide) ?_ ?_ rfl
   all_goals first|(simp[Aa,Ab,pickOb];done)|rfl
  |false =>
   replace h:=iteF rfl h
   replace h:=ltE h;obtain⟨v3,e3,h⟩:=h
   cases v3 with
   |true =>
    replace h:=iteT rfl h
    apply AW.last
    ·simp[← e2,← e3]
     intros;rfl
    obtain rfl:=oi h
    refine nP_i ?_
    refine Weak.mixN [some 0,some 1] hn0 (by decide) ?_ ?_ rfl
    all_goals first|(simp[Aa,Ab,pickOb];done)|rfl
   |false =>
    replace h:=iteF rfl h
    replace h:=ltE h;obtain⟨v4,e4,h⟩:=h
    cases v4 with
    |true =>
     replace h:=iteT rfl h
     apply AW.last
     ·simp[← e2,← e3,← e4]
      intros;rfl
     obtain rfl:=oi h
     refine nP_i ?_
     refine Weak.mixN [some 0,some 1] hn0 (by decide) ?_ ?_ rfl
     all_goals first|(simp[Aa,Ab,pickOb];done)|rfl
    |false =>
     replace h:=iteF rfl h
     replace h:=ltE h;obtain⟨v5,e5,h⟩:=h
     cases v5 with
     |true =>
      replace h:=iteT rfl h
      apply AW.last
      ·simp[← e2,← e3,← e4,← e5]
       intros;rfl
      obtain rfl:=oi h
      refine nP_i ?_
      refine Weak.mixN [some 0,some 1] hn0 (by decide) ?_ ?_ rfl
      all_goals first|(simp[Aa,Ab,pickOb];done)|rfl
     |false =>
      replace h:=iteF rfl h
      replace h:=ltE h;obtain⟨v6,e6,h⟩:=h
      cases v6 with
      |true =>
       replace h:=iteT rfl h
       apply AW.last
       ·simp[← e2,← e3,← e4,← e5,← e6]
        intros;rfl
       obtain rfl:=oi h
       refine nP_i ?_
       refine Weak.mixN [some 0,some 1] hn0 (by decide) ?_ ?_ rfl
       all_goals first|(simp[Aa,Ab,pickOb];done)|rfl
      |false =>
       replace h:=iteF rfl h
       replace h:=ltE h;obtain⟨v7,e7,h⟩:=h
       cases v7 with
       |true =>
        replace h:=iteT rfl h
        apply AW.last
        ·simp[← e2,← e3,← e4,← e5,← e6,← e7]
         intros;rfl
        obtain rfl:=oi h
        refine nP_i ?_
        refine Weak.mixN [some 0,some 1] hn0 (by decide) ?_ ?_ rfl
        all_goals first|(simp[Aa,Ab,pickOb];done)|rfl
       |false =>
        replace h:=iteF rfl h
        replace h:=ltE h;obtain⟨v8,e8,h⟩:=h
        cases v8 with
        |true =>
         replace h:=iteT rfl h
         apply AW.last
         ·simp[← e2,← e3,← e4,← e5,← e6,← e7,← e8]
          intros;rfl
         obtain rfl:=oi h
         refine nP_i ?_
         refine Weak.mixN [some 0,some 1] hn0 (by decide) ?_ ?_ rfl
         all_goals first|(simp[Aa,Ab,pickOb];done)|rfl
        |false =>
         replace h:=iteF rfl h
         replace h:=ltE h;obtain⟨v9,e9,h⟩:=h
         cases v9 with
         |true =>
          replace h:=iteT rfl h
          apply AW.last
          ·simp[← e2,← e3,← e4,← e5,← e6,← e7,← e8,← e9]
           intros;rfl
          obtain rfl:=oi h
          refine nP_i ?_
          refine Weak.mixN [some 0,some 1] hn0 (by decide) ?_ ?_ rfl
          all_goals first|(simp[Aa,Ab,pickOb];done)|rfl
         |false =>
          replace h:=iteF rfl h
          replace h:=ltE h;obtain⟨v10,e10,h⟩:=h
          replace h:=ltE h;obtain⟨v11,e11,h⟩:=h
          replace h:=ltE h;obtain⟨v12,e12,h⟩:=h
          cases v12 with
          |true =>
           replace h:=iteT rfl h
           apply AW.last
           ·simp[← e2,← e3,← e4,← e5,← e6,← e7,← e8,← e9,Af e10,Af e11,← e12]
            intros;rfl
           obtain rfl:=oi h
           refine nP_i ?_
           refine Weak.mixN [some 0,some 1] hn0 (by decide) ?_ ?_ rfl
           all_goals first|(simp[Aa,Ab,pickOb];done)|rfl
          |false =>
           replace h:=iteF rfl h
           replace h:=ltE h;obtain⟨v13,e13,h⟩:=h
           replace h:=ltE h;obtain⟨v14,e14,h⟩:=h
           replace h:=ltE h;obtain⟨v15,e15,h⟩:=h
           apply AW.last
           ·simp[← e2,← e3,← e4,← e5,← e6,← e7,← e8,← e9,Af e10,Af e11,← e12,Af e13,Af e14,← e15]
            intros;rfl
           obtain rfl:=oi h
           refine nP_i ?_
           refine Weak.mixN [some 0,some 1] hn0 (by decide) ?_ ?_ rfl
           all_goals first|(simp[Aa,Ab,pickOb];done)|rfl
 ·rintro e s hp
  obtain⟨rfl,hw⟩:=hp
  refine⟨_,hw,?_⟩
  try simp only[nm]
  replace h:=ltE h;obtain⟨v16,e16,h⟩:=h
  rw[← e16]
  cases v16 with
  |true =>
   replace h:=iteT rfl h
   refine AW.cond_true (by simp) ?_
   apply AW.step
   ·simp
    intros;rfl
   obtain rfl:=oi h
   refine AW.ret ?_
   refine Left.plain hnb (by simp[Tryz.f14,resV,resC,comp];rfl) rfl rfl ?_
   simp
  |false =>
   replace h:=iteF rfl h
   refine AW.cond_false (by simp) ?_
   refine AW.skip ?_
   try simp only[nm]
   refine AW.seq ?_
   apply AW.step
   ·simp
    intros;rfl
   refine AW.block ?_
   replace h:=bnE h;obtain⟨y18,g18,h⟩:=h
   refine AW.iterP g18 (mk:=fun gh ls q=>(⟨[(2,.l (.p 0 0)),(3,.l (.p 1 0)),(5,.l (.s (.int .i64 q)))],[some ⟨38,22,false,none,[.s (.int .i64 a0.count),.s (.int .i64 a0.id),.s (.int .i64 a0.master),.s (.int .i64 a0.epoch),.s (.int .i64 a0.voted),.d false 4 (encClaim a0.claims),.d false 6 (encPair a0.db),.d false 4 (encMove a0.moves),.s (.int .i64 a0.last),.d false 3 (encSeen a0.seen),.s (.int .i64 a0.feed.rid.node),.s (.int .i64 a0.feed.rid.epoch),.s (.int .i64 a0.feed.off),.d false 7 (encEffect a0.feed.back),.s (.int .i64 a0.feed.prev.node),.s (.int .i64 a0.feed.prev.epoch),.s (.int .i64 a0.feed.upto),.d false 1 (encI a0.watch.heard),.d false 1 (encLI a0.watch.says),.s (.int .i64 a0.asked),.d false 1 (encI a0.votes),.s (.int .i64 a0.wait)]⟩,some ⟨38,22,false,none,[.s (.int .i64 a1.count),.s (.int .i64 a1.id),.s (.int .i64 a1.master),.s (.int .i64 a1.epoch),.s (.int .i64 a1.voted),.d false 4 (encClaim a1.claims),.d false 6 (encPair a1.db),.d false 4 (encMove a1.moves),.s (.int .i64 a1.last),.d false 3 (encSeen a1.seen),.s (.int .i64 a1.feed.rid.node),.s (.int .i64 a1.feed.rid.epoch),.s (.int .i64 a1.feed.off),.d false 7 (encEffect a1.feed.back),.s (.int .i64 a1.feed.prev.node),.s (.int .i64 a1.feed.prev.epoch),.s (.int .i64 a1.feed.upto),.d false 1 (encI a1.watch.heard),.d false 1 (encLI a1.watch.says),.s (.int .i64 a1.asked),.d false 1 (encI a1.votes),.s (.int .i64 a1.wait)]⟩],148,gh,ls⟩:St)) (N:=fun gh ls=>(sp (xP 0 (cx:=cx) (fun _=>(⟨[(2,.l (.p 0 0)),(3,.l (.p 1 0))],[some ⟨38,22,false,none,[.s (.int .i64 a0.count),.s (.int .i64 a0.id),.s (.int .i64 a0.master),.s (.int .i64 a0.epoch),.s (.int .i64 a0.voted),.d false 4 (encClaim a0.claims),.d false 6 (encPair a0.db),.d false 4 (encMove a0.moves),.s (.int .i64 a0.last),.d false 3 (encSeen a0.seen),.s (.int .i64 a0.feed.rid.node),.s (.int .i64 a0.feed.rid.epoch),.s (.int .i64 a0.feed.off),.d false 7 (encEffect a0.feed.back),.s (.int .i64 a0.feed.prev.node),.s (.int .i64 a0.feed.prev.epoch),.s (.int .i64 a0.feed.upto),.d false 1 (encI a0.watch.heard),.d false 1 (encLI a0.watch.says),.s (.int .i64 a0.asked),.d false 1 (encI a0.votes),.s (.int .i64 a0.wait)]⟩,some ⟨38,22,false,none,[.s (.int .i64 a1.count),.s (.int .i64 a1.id),.s (.int .i64 a1.master),.s (.int .i64 a1.epoch),.s (.int .i64 a1.voted),.d false 4 (encClaim a1.claims),.d false 6 (encPair a1.db),.d false 4 (encMove a1.moves),.s (.int .i64 a1.last),.d false 3 (encSeen a1.seen),.s (.int .i64 a1.feed.rid.node),.s (.int .i64 a1.feed.rid.epoch),.s (.int .i64 a1.feed.off),.d false 7 (encEffect a1.feed.back),.s (.int .i64 a1.feed.prev.node),.s (.int .i64 a1.feed.prev.epoch),.s (.int .i64 a1.feed.upto),.d false 1 (encI a1.watch.heard),.d false 1 (encLI a1.watch.says),.s (.int .i64 a1.asked),.d false 1 (encI a1.votes),.s (.int .i64 a1.wait)]⟩],148,gh,ls⟩:St))) (rP (cx:=cx) (P:=Tryz.prog) Tryz.f14 (fun q=>.l (.s (.bool q))) (fun q=>[])))) ?_ (noS noX noR) ?_ ?_
   ·refine Weak.mixN [some 0,some 1] hn0 (by decide) ?_ ?_ rfl
    all_goals first|(simp[Aa,Ab,pickOb];done)|rfl
   ·clear h;intro y17 y19 h
    refine AW.seq ?_
    replace h:=ltE h;obtain⟨v20,e20,h⟩:=h
    replace h:=ltE h;obtain⟨v21,e21,h⟩:=h
    apply AW.step
    ·simp[Af e20,← e21]
     intros;rfl
    cases v21 with
    |true =>
     replace h:=iteT rfl h
     refine AW.cond_true (by simp) ?_
     refine AW.skip ?_
     try simp only[nm]
     refine AW.seq ?_
     refine AW.block ?_
     replace h:=bnE h;obtain⟨v22,e22,h⟩:=h
     replace h:=bnE h;obtain⟨v23,e23,h⟩:=h
     replace h:=ltE h;obtain⟨v24,e24,h⟩:=h
     apply AW.drawnP (V:=[_,_,_,_,_,_,_,_,_,_]) mixed [⟨[0],[],[(2,none)],false⟩,⟨[0],[0],[(86,some 0)],false⟩,⟨[0],[],[(5,none)],false⟩,⟨[0],[0,1,2],[(87,some 1),(88,some 2)],false⟩,⟨[0],[0,1,2,3],[(89,some 3)],false⟩,⟨[0],[],[(3,none)],false⟩,⟨[0],[5],[(91,some 5)],false⟩,⟨[0],[],[(5,none)],false⟩,⟨[0],[5,6,7],[(92,some 6),(93,some 7)],false⟩,⟨[0],[5,6,7,8],[(94,some 8)],false⟩,⟨[],[0,1,2,3,4,5,6,7,8,9],[],false⟩] 10 (by kernel_rfl) (by kernel_rfl)
     ·refine⟨?_,?_,?_,?_,?_,?_,?_,?_,?_,?_,trivial⟩
      iterate 10 (· intro tm hr;simp[AllL,rdV] at hr;simp[hr,Ac e22,Ac e23,← e24];intros;first|exact KD.mk|exact KD.mkN)
     ·rfl
     ·simp[tmD,putD,Ac e22,Ac e23,← e24];rfl
     ·simp[Ac e22,Ac e23,← e24]
      intros;rfl
     cases v24 with
     |true =>
      replace h:=iteT rfl h
      refine AW.cond_true (by simp) ?_
      apply AW.step
      ·simp
       intros;rfl
      obtain rfl:=oi h
      refine AW.ret ?_
      try simp only[nm]
      refine rP_i ?_
      refine Left.plain hnb (by simp[Tryz.f14,resV,resC,comp];rfl) rfl rfl ?_
      simp
     |false =>
      replace h:=iteF rfl h
      refine AW.cond_false (by simp) ?_
      refine AW.skip ?_
      try simp only[nm]
      replace h:=ltE h;obtain⟨v25,e25,h⟩:=h
      apply AW.last
      ·simp[← e25]
       intros;rfl
      obtain rfl:=oi h
      refine nP_i ?_
      refine Weak.mixN [some 0,some 1] hn0 (by decide) ?_ ?_ rfl
      all_goals first|(simp[Aa,Ab,pickOb];done)|rfl
    |false =>
     replace h:=iteF rfl h
     refine AW.cond_false (by simp) ?_
     refine AW.exit ?_
     try simp only[nm]
     obtain rfl:=oi h
     try simp only[sp_l,sp_r]
     refine xP_i ?_
     refine Weak.mixN [some 0,some 1] hn0 (by decide) ?_ ?_ rfl
     all_goals first|(simp[Aa,Ab,pickOb];done)|rfl
   ·rintro e s hp
    rcases y18 with y26|y27
    ·replace h:=smL h
     obtain⟨rfl,hw⟩:=hp
     refine⟨_,hw,?_⟩
     try simp only[nm]
     refine AW.seq ?_
     apply AW.step
     ·simp
      intros;rfl
     refine AW.block ?_
     replace h:=bnE h;obtain⟨y29,g29,h⟩:=h
     refine AW.iterP g29 (mk:=fun gh ls q=>(⟨[(2,.l (.p 0 0)),(3,.l (.p 1 0)),(6,.l (.s (.int .i64 q)))],[some ⟨38,22,false,none,[.s (.int .i64 a0.count),.s (.int .i64 a0.id),.s (.int .i64 a0.master),.s (.int .i64 a0.epoch),.s (.int .i64 a0.voted),.d false 4 (encClaim a0.claims),.d false 6 (encPair a0.db),.d false 4 (encMove a0.moves),.s (.int .i64 a0.last),.d false 3 (encSeen a0.seen),.s (.int .i64 a0.feed.rid.node),.s (.int .i64 a0.feed.rid.epoch),.s (.int .i64 a0.feed.off),.d false 7 (encEffect a0.feed.back),.s (.int .i64 a0.feed.prev.node),.s (.int .i64 a0.feed.prev.epoch),.s (.int .i64 a0.feed.upto),.d false 1 (encI a0.watch.heard),.d false 1 (encLI a0.watch.says),.s (.int .i64 a0.asked),.d false 1 (encI a0.votes),.s (.int .i64 a0.wait)]⟩,some ⟨38,22,false,none,[.s (.int .i64 a1.count),.s (.int .i64 a1.id),.s (.int .i64 a1.master),.s (.int .i64 a1.epoch),.s (.int .i64 a1.voted),.d false 4 (encClaim a1.claims),.d false 6 (encPair a1.db),.d false 4 (encMove a1.moves),.s (.int .i64 a1.last),.d false 3 (encSeen a1.seen),.s (.int .i64 a1.feed.rid.node),.s (.int .i64 a1.feed.rid.epoch),.s (.int .i64 a1.feed.off),.d false 7 (encEffect a1.feed.back),.s (.int .i64 a1.feed.prev.node),.s (.int .i64 a1.feed.prev.epoch),.s (.int .i64 a1.feed.upto),.d false 1 (encI a1.watch.heard),.d false 1 (encLI a1.watch.says),.s (.int .i64 a1.asked),.d false 1 (encI a1.votes),.s (.int .i64 a1.wait)]⟩],148,gh,ls⟩:St)) (N:=fun gh ls=>(sp (xP 2 (cx:=cx) (fun _=>(⟨[(2,.l (.p 0 0)),(3,.l (.p 1 0))],[some ⟨38,22,false,none,[.s (.int .i64 a0.count),.s (.int .i64 a0.id),.s (.int .i64 a0.master),.s (.int .i64 a0.epoch),.s (.int .i64 a0.voted),.d false 4 (encClaim a0.claims),.d false 6 (encPair a0.db),.d false 4 (encMove a0.moves),.s (.int .i64 a0.last),.d false 3 (encSeen a0.seen),.s (.int .i64 a0.feed.rid.node),.s (.int .i64 a0.feed.rid.epoch),.s (.int .i64 a0.feed.off),.d false 7 (encEffect a0.feed.back),.s (.int .i64 a0.feed.prev.node),.s (.int .i64 a0.feed.prev.epoch),.s (.int .i64 a0.feed.upto),.d false 1 (encI a0.watch.heard),.d false 1 (encLI a0.watch.says),.s (.int .i64 a0.asked),.d false 1 (encI a0.votes),.s (.int .i64 a0.wait)]⟩,some ⟨38,22,false,none,[.s (.int .i64 a1.count),.s (.int .i64 a1.id),.s (.int .i64 a1.master),.s (.int .i64 a1.epoch),.s (.int .i64 a1.voted),.d false 4 (encClaim a1.claims),.d false 6 (encPair a1.db),.d false 4 (encMove a1.moves),.s (.int .i64 a1.last),.d false 3 (encSeen a1.seen),.s (.int .i64 a1.feed.rid.node),.s (.int .i64 a1.feed.rid.epoch),.s (.int .i64 a1.feed.off),.d false 7 (encEffect a1.feed.back),.s (.int .i64 a1.feed.prev.node),.s (.int .i64 a1.feed.prev.epoch),.s (.int .i64 a1.feed.upto),.d false 1 (encI a1.watch.heard),.d false 1 (encLI a1.watch.says),.s (.int .i64 a1.asked),.d false 1 (encI a1.votes),.s (.int .i64 a1.wait)]⟩],148,gh,ls⟩:St))) (rP (cx:=cx) (P:=Tryz.prog) Tryz.f14 (fun q=>.l (.s (.bool q))) (fun q=>[])))) ?_ (noS noX noR) ?_ ?_
     ·refine Weak.mixN [some 0,some 1] hn0 (by decide) ?_ ?_ rfl
      all_goals first|(simp[Aa,Ab,pickOb];done)|rfl
     ·clear h;intro y28 y30 h
      refine AW.seq ?_
      replace h:=ltE h;obtain⟨v31,e31,h⟩:=h
      replace h:=ltE h;obtain⟨v32,e32,h⟩:=h
      apply AW.step
      ·simp[Af e31,← e32]
       intros;rfl
      cases v32 with
      |true =>
       replace h:=iteT rfl h
       refine AW.cond_true (by simp) ?_
       refine AW.skip ?_
       try simp only[nm]
       refine AW.seq ?_
       refine AW.block ?_
       replace h:=bnE h;obtain⟨v33,e33,h⟩:=h
       replace h:=bnE h;obtain⟨v34,e34,h⟩:=h
       replace h:=ltE h;obtain⟨v35,e35,h⟩:=h
       apply AW.drawnP (V:=[_,_,_,_,_,_,_,_,_,_]) mixed [⟨[0],[],[(2,none)],false⟩,⟨[0],[0],[(104,some 0)],false⟩,⟨[0],[],[(6,none)],false⟩,⟨[0],[0,1,2],[(105,some 1),(106,some 2)],false⟩,⟨[0],[0,1,2,3],[(107,some 3)],false⟩,⟨[0],[],[(3,none)],false⟩,⟨[0],[5],[(109,some 5)],false⟩,⟨[0],[],[(6,none)],false⟩,⟨[0],[5,6,7],[(110,some 6),(111,some 7)],false⟩,⟨[0],[5,6,7,8],[(112,some 8)],false⟩,⟨[],[0,1,2,3,4,5,6,7,8,9],[],false⟩] 10 (by kernel_rfl) (by kernel_rfl)
       ·refine⟨?_,?_,?_,?_,?_,?_,?_,?_,?_,?_,trivial⟩
        iterate 10 (· intro tm hr;simp[AllL,rdV] at hr;simp[hr,Ac e33,Ac e34,← e35];intros;first|exact KD.mk|exact KD.mkN)
       ·rfl
       ·simp[tmD,putD,Ac e33,Ac e34,← e35];rfl
       ·simp[Ac e33,Ac e34,← e35]
        intros;rfl
       cases v35 with
       |true =>
        replace h:=iteT rfl h
        refine AW.cond_true (by simp) ?_
        apply AW.step
        ·simp
         intros;rfl
        obtain rfl:=oi h
        refine AW.ret ?_
        try simp only[nm]
        refine rP_i ?_
        refine Left.plain hnb (by simp[Tryz.f14,resV,resC,comp];rfl) rfl rfl ?_
        simp
       |false =>
        replace h:=iteF rfl h
        refine AW.cond_false (by simp) ?_
        refine AW.skip ?_
        try simp only[nm]
        replace h:=ltE h;obtain⟨v36,e36,h⟩:=h
        apply AW.last
        ·simp[← e36]
         intros;rfl
        obtain rfl:=oi h
        refine nP_i ?_
        refine Weak.mixN [some 0,some 1] hn0 (by decide) ?_ ?_ rfl
        all_goals first|(simp[Aa,Ab,pickOb];done)|rfl
      |false =>
       replace h:=iteF rfl h
       refine AW.cond_false (by simp) ?_
       refine AW.exit ?_
       try simp only[nm]
       obtain rfl:=oi h
       try simp only[sp_l,sp_r]
       refine xP_i ?_
       refine Weak.mixN [some 0,some 1] hn0 (by decide) ?_ ?_ rfl
       all_goals first|(simp[Aa,Ab,pickOb];done)|rfl
     ·rintro e s hp
      rcases y29 with y37|y38
      ·replace h:=smL h
       obtain⟨rfl,hw⟩:=hp
       refine⟨_,hw,?_⟩
       try simp only[nm]
       replace h:=bnE h;obtain⟨y39,g39,h⟩:=h
       refine AW.flow (p:=fun gh ls=>(nP (cx:=cx) (fun q=>(⟨[(4,.l (.s (.bool q)))],[],148,gh,ls⟩:St))) y39) ?_ ?_
       ·replace h:=g39;clear g39
        replace h:=bnE h;obtain⟨v40,e40,h⟩:=h
        cases v40 with
        |true =>
         replace h:=iteT rfl h
         replace h:=bnE h;obtain⟨v41,e41,h⟩:=h
         cases v41 with
         |true =>
          replace h:=iteT rfl h
          replace h:=bnE h;obtain⟨v42,e42,h⟩:=h
          cases v42 with
          |true =>
           replace h:=iteT rfl h
           replace h:=bnE h;obtain⟨v43,e43,h⟩:=h
           cases v43 with
           |true =>
            replace h:=iteT rfl h
            replace h:=bnE h;obtain⟨v44,e44,h⟩:=h
            apply AW.last
            ·simp
             intros
             refine Ad BI (BX e40) rfl ⟨.same rfl,.same rfl,trivial⟩ ?_
             try simp
             intros
             refine Ad CO (C7 e41) rfl ⟨.same rfl,.same rfl,trivial⟩ ?_
             try simp
             intros
             refine Ad DO (DZ e42) rfl ⟨.same rfl,.same rfl,trivial⟩ ?_
             try simp
             intros
             refine Ad ES (E3 e43) rfl ⟨.same rfl,.same rfl,trivial⟩ ?_
             try simp
             intros
             refine Ad Ev (E2 e44) rfl ⟨.same rfl,.same rfl,trivial⟩ ?_
             try simp
             intros;rfl
            obtain rfl:=oi h
            refine nP_i ?_
            refine Weak.mixN [] hn0 (by decide) ?_ ?_ rfl
            all_goals first|(simp[Aa,Ab,pickOb];done)|rfl
           |false =>
            replace h:=iteF rfl h
            apply AW.last
            ·simp
             intros
             refine Ad BI (BX e40) rfl ⟨.same rfl,.same rfl,trivial⟩ ?_
             try simp
             intros
             refine Ad CO (C7 e41) rfl ⟨.same rfl,.same rfl,trivial⟩ ?_
             try simp
             intros
             refine Ad DO (DZ e42) rfl ⟨.same rfl,.same rfl,trivial⟩ ?_
             try simp
             intros
             refine Ad ES (E3 e43) rfl ⟨.same rfl,.same rfl,trivial⟩ ?_
             try simp
             intros;rfl
            obtain rfl:=oi h
            refine nP_i ?_
            refine Weak.mixN [] hn0 (by decide) ?_ ?_ rfl
            all_goals first|(simp[Aa,Ab,pickOb];done)|rfl
          |false =>
           replace h:=iteF rfl h
           apply AW.last
           ·simp
            intros
            refine Ad BI (BX e40) rfl ⟨.same rfl,.same rfl,trivial⟩ ?_
            try simp
            intros
            refine Ad CO (C7 e41) rfl ⟨.same rfl,.same rfl,trivial⟩ ?_
            try simp
            intros
            refine Ad DO (DZ e42) rfl ⟨.same rfl,.same rfl,trivial⟩ ?_
            try simp
            intros;rfl
           obtain rfl:=oi h
           refine nP_i ?_
           refine Weak.mixN [] hn0 (by decide) ?_ ?_ rfl
           all_goals first|(simp[Aa,Ab,pickOb];done)|rfl
         |false =>
          replace h:=iteF rfl h
          apply AW.last
          ·simp
           intros
           refine Ad BI (BX e40) rfl ⟨.same rfl,.same rfl,trivial⟩ ?_
           try simp
           intros
           refine Ad CO (C7 e41) rfl ⟨.same rfl,.same rfl,trivial⟩ ?_
           try simp
           intros;rfl
          obtain rfl:=oi h
          refine nP_i ?_
          refine Weak.mixN [] hn0 (by decide) ?_ ?_ rfl
          all_goals first|(simp[Aa,Ab,pickOb];done)|rfl
        |false =>
         replace h:=iteF rfl h
         apply AW.last
         ·simp
          intros
          refine Ad BI (BX e40) rfl ⟨.same rfl,.same rfl,trivial⟩ ?_
          try simp
          intros;rfl
         obtain rfl:=oi h
         refine nP_i ?_
         refine Weak.mixN [] hn0 (by decide) ?_ ?_ rfl
         all_goals first|(simp[Aa,Ab,pickOb];done)|rfl
       ·rintro e s hp
        obtain⟨rfl,hw⟩:=hp
        refine⟨_,hw,?_⟩
        try simp only[nm]
        obtain rfl:=oi h
        refine AW.ret ?_
        refine Left.plain hnb (by simp[Tryz.f14,resV,resC,comp];rfl) rfl rfl ?_
        simp
      ·replace h:=smR h
       obtain⟨rfl,hl⟩:=hp
       refine⟨_,Weak.refl _,?_⟩
       obtain rfl:=oi h
       exact hl
    ·replace h:=smR h
     obtain⟨rfl,hl⟩:=hp
     refine⟨_,Weak.refl _,?_⟩
     obtain rfl:=oi h
     exact hl
theorem BD:Enters Tryz.prog 14:=enters Tryz.func14 (by kernel_rfl) rfl
end Go.Proofs.YtlbdhlbbkibgpaaGreat

namespace Go.Proofs.YtlbdhlbbkibgpaaGreat
open Go Go.RowKit
def big:Nat:=281474976710656
section
variable {α β γ:Type}
theorem KV {f:α→Option (α ⊕ β)} (Q:β→Prop) (I:Nat→α→Prop) (N:Nat)
  (h:∀ k a,k≤N→I k a→(∃ a',k<N∧f a=some (.inl a')∧I (k+1) a')∨∃ b,f a=some (.inr b)∧Q b) :
  ∀ (d k:Nat) (a:α),k+d=N→I k a→∀ n,d<n→∃ b,iter n f a=some b∧Q b
 |d,k,a,hd,hI,0,hn=>by omega
 |d,k,a,hd,hI,n+1,hn=>by
  rcases h k a (by omega) hI with ⟨a',hk,h1,h2⟩|⟨b,h1,h2⟩
  ·rw[MQ h1]
   match d with
   |0=>omega
   |d+1=>exact KV Q I N h d (k+1) a' (by omega) h2 n (by omega)
  ·exact⟨b,MR h1,h2⟩
theorem JR {f:α→Option (α ⊕ β)} {a:α} (Q:β→Prop) (I:Nat→α→Prop) (N:Nat) (hN:N<big)
  (h0:I 0 a) (h:∀ k a,k≤N→I k a→(∃ a',k<N∧f a=some (.inl a')∧I (k+1) a')∨∃ b,f a=some (.inr b)∧Q b):∃ b,iter big f a=some b∧Q b :=
 KV Q I N h N 0 a (by omega) h0 big hN
theorem JS {f:α→Option (α ⊕ β)} {a:α} {b:β} (s:Nat→α) (N:Nat) (hN:N<big) (h0:a=s 0) (h:∀ i,i<N→f (s i)=some (.inl (s (i+1)))) (he:f (s N)=some (.inr b)):iter big f a=some b:=by
 obtain⟨b',h1,h2⟩:=JR (f:=f) (a:=a) (·=b) (fun k x=>x=s k) N hN h0 fun k x hk hx=>by
  subst hx
  by_cases hl:k<N
  ·exact .inl ⟨_,hl,h k hl,rfl⟩
  ·have:k=N:=by omega
   subst this
   exact .inr ⟨b,he,rfl⟩
 rw[h1,h2]
theorem A1 {f:α→Option (α ⊕ β)} {a:α} {k:β→Option γ} {r:Option γ} (b:β) (s:Nat→α) (N:Nat) (hN:N<big) (h0:a=s 0) (h:∀ i,i<N→f (s i)=some (.inl (s (i+1)))) (he:f (s N)=some (.inr b)) (hk:k b=r):bn (iter big f a) k=r:=by
 rw[JS s N hN h0 h he]
 exact hk
theorem Gt {b:Bool} {k:Option β} (h:b=true):chk b k=k:=by subst h;rfl
def Rn (m:Option α) (Q:α→Prop):Prop:=∃ v,m=some v∧Q v
theorem Rn.some {v:α} {Q:α→Prop} (h:Q v):Rn (some v) Q:=⟨v,rfl,h⟩
theorem Rn.mono {m:Option α} {Q R:α→Prop} (h:Rn m Q) (hk:∀ v,Q v→R v):Rn m R:=⟨h.choose,h.choose_spec.1,hk _ h.choose_spec.2⟩
theorem Rn.lt {a:α} {k:α→Option β} {Q:β→Prop} (h:Rn (k a) Q):Rn (lt a k) Q:=h
theorem Rn.bn {m:Option α} {k:α→Option β} {P:α→Prop} {Q:β→Prop} (h:Rn m P) (hk:∀ v,P v→Rn (k v) Q):Rn (bn m k) Q:=by
 obtain⟨v,rfl,hv⟩:=h
 exact hk v hv
theorem Rn.bnE {m:Option α} {k:α→Option β} {v:α} {Q:β→Prop} (h:m=Option.some v) (hk:Rn (k v) Q):Rn (Go.Proofs.YtlbdhlbbkibgpaaGreat.bn m k) Q:=by
 subst h
 exact hk
theorem Rn.chk {b:Bool} {k:Option β} {Q:β→Prop} (h:b=true) (hk:Rn k Q):Rn (chk b k) Q:=by
 subst h
 exact hk
theorem Rn.room {m c:Nat} {k:Option β} {Q:β→Prop} (h:m*c≤140737488355328) (h2:m≤140737488355328) (hk:Rn k Q):Rn (Go.Proofs.YtlbdhlbbkibgpaaGreat.chk (Go.Proofs.YtlbdhlbbkibgpaaGreat.room m c) k) Q:=Rn.chk (by simp[Go.Proofs.YtlbdhlbbkibgpaaGreat.room,h,h2]) hk
theorem Rn.ite {b:Bool} {x y:Option β} {Q:β→Prop} (h:b=true→Rn x Q) (h2:b=false→Rn y Q):Rn (ite' b x y) Q:=by
 cases b
 ·exact h2 rfl
 ·exact h rfl
theorem Rn.sm {s:α ⊕ β} {f:α→Option γ} {g:β→Option γ} {Q:γ→Prop} (h:∀ a,s=.inl a→Rn (f a) Q) (h2:∀ b,s=.inr b→Rn (g b) Q):Rn (sm s f g) Q:=by
 cases s with
 |inl a=>exact h a rfl
 |inr b=>exact h2 b rfl
theorem Rn.iter {f:α→Option (α ⊕ β)} {a:α} (Q:β→Prop) (I:Nat→α→Prop) (N:Nat) (hN:N<big) (h0:I 0 a)
  (h:∀ k a,k≤N→I k a→Rn (f a) fun x=>match x with|.inl a'=>k<N∧I (k+1) a'|.inr b=>Q b):Rn (iter big f a) Q:=by
 refine JR Q I N hN h0 fun k a hk hI=>?_
 obtain⟨x,h1,h2⟩:=h k a hk hI
 cases x with
 |inl a'=>exact .inl ⟨a',h2.1,h1,h2.2⟩
 |inr b=>exact .inr ⟨b,h1,h2⟩
theorem AS {m c:Nat} {k:Option β} (h:m*c≤140737488355328) (h2:m≤140737488355328):chk (room m c) k=k:=Gt (by simp[room,h,h2])
theorem CZ {c:Nat} {l:List α} {k:Option β} (h:l.length*c≤140737488355328) (h2:l.length≤140737488355328):chk (small c l) k=k:=Gt (by simp[small,h,h2])
theorem Ag (l:List α):lenI l=(l.length:Int):=rfl
theorem Ay {l:List α} {i:Nat} (h:i<l.length):nth l (i:Int)=some l[i]:=by rw[Gq,List.getElem?_eq_getElem h]
theorem G3 {l:List α} {i:Nat} (h:i≤l.length):segl l (i:Int)=some (l.drop i):=by simp[segl,h]
theorem MV {l:List α} {i:Nat} (h:i≤l.length):segh l (i:Int)=some (l.take i):=by simp[segh,h]
theorem Mm {l:List α} {i j:Nat} (h:i≤j) (h2:j≤l.length):seglh l (i:Int) (j:Int)=some ((l.drop i).take (j - i)):=by
 have h3:(i:Int)≤j:=by omega
 have h4:(j:Int)≤l.length:=by omega
 simp[seglh,seg,h3,h4]
end
theorem wrap64 {a:Int} (h:-9223372036854775808≤a) (h2:a≤9223372036854775807):IntKind.i64.wrap a=a:=by
 simp[IntKind.wrap,IntKind.bits,IntKind.signed]
 omega
theorem Ar {a b:Int} (h:-9223372036854775808≤a+b) (h2:a+b≤9223372036854775807):addI .i64 a b=a+b:=wrap64 h h2
theorem Fp {a b:Int} (h:-9223372036854775808≤a - b) (h2:a - b≤9223372036854775807):subI .i64 a b=a - b:=wrap64 h h2
theorem Dj {a:Int} (h:-9223372036854775808≤a) (h2:a≤9223372036854775807):cvI .i64 a=a:=wrap64 h h2
end Go.Proofs.YtlbdhlbbkibgpaaGreat
namespace Go.Proofs.YtlbdhlbbkibgpaaGreat
open Go Go.RowKit
@[simp] theorem FA (a:ByteArray):eqS a a=true:=by simp[eqS]
@[simp] theorem FB (a:ByteArray):neS a a=false:=by simp[neS]
@[simp] theorem ET (a:Int):eqI a a=true:=by simp[eqI]
@[simp] theorem BF (a:Int):neI a a=false:=by simp[neI]
@[simp] theorem MW (a:Bool):neB a a=false:=by simp[neB]
@[simp] theorem Fq:andB true true=true:=rfl
theorem B1 {a b:Int} (h:a<b):ltI a b=true:=by simp[ltI,h]
theorem By {a b:Int} (h:¬ a<b):ltI a b=false:=by simp[ltI];omega
def okI (i:Item):Prop:=i.f.length≤4398046511104∧i.l.length≤8796093022208
theorem C0 (i:Item) (h:okI i):Bl big i=some i:=by
 unfold Bl
 have h1:=h.1
 have h2:=h.2
 rw[CZ (by omega) (by omega),CZ (by omega) (by omega),AS (by omega) (by omega),AS (by omega) (by omega)]
theorem LA (l:List Field) (h:l.length≤10000000000000):BZ big l l=some true:=by
 unfold BZ
 simp only[Ai,Ae,Aj,Am,Ak,Al,Ag,Option.some.injEq,BF]
 refine A1 (.inl ()) (fun i=>(i:Int)) l.length (by unfold big;omega) rfl (fun i hi=>?_) ?_ ?_
 rotate_left 2
 ·rfl
 ·rw[B1 (by omega)]
  simp only[Ai,Ae,Aj,Am,Ak,Al,Ag,Option.some.injEq,Ay hi,FA,Fq,Cv]
  rw[Ar (by omega) (by omega)]
  rfl
 ·rw[By (by omega)];rfl
theorem LB (l:List ByteArray) (h:l.length≤10000000000000):Di big l l=some true:=by
 unfold Di
 simp only[Ai,Ae,Aj,Am,Ak,Al,Ag,Option.some.injEq,BF]
 refine A1 (.inl ()) (fun i=>(i:Int)) l.length (by unfold big;omega) rfl (fun i hi=>?_) ?_ ?_
 rotate_left 2
 ·rfl
 ·rw[B1 (by omega)]
  simp only[Ai,Ae,Aj,Am,Ak,Al,Ag,Option.some.injEq,Ay hi,FB]
  rw[Ar (by omega) (by omega)]
  rfl
 ·rw[By (by omega)];rfl
theorem E4 (i:Item) (h:okI i):BS big i i=some true:=by
 unfold BS
 simp only[Ai,Ae,Aj,Am,Ak,Al,Ag,Option.some.injEq,ET,FA,LA i.f (by have:=h.1;omega),LB i.l (by have:=h.2;omega)]
def okE (l:List Effect):Prop:=l.length≤1000000000∧∀ e∈l,okI e.item
theorem Gg (l:List Effect) (h:okE l):BJ big l l=some true:=by
 have hl:=h.1
 unfold BJ
 simp only[Ai,Ae,Aj,Am,Ak,Al,Ag,Option.some.injEq,BF]
 refine A1 (.inl ()) (fun i=>(i:Int)) l.length (by unfold big;omega) rfl (fun i hi=>?_) ?_ ?_
 rotate_left 2
 ·rfl
 ·rw[B1 (by omega)]
  simp only[Ai,Ae,Aj,Am,Ak,Al,Ag,Option.some.injEq,Ay hi,FB,MW,E4 _ (h.2 _ (List.getElem_mem hi)),Cv]
  rw[Ar (by omega) (by omega)]
  rfl
 ·rw[By (by omega)];rfl
theorem Mn (l:List Effect) (h:okE l):Cf big l=some l:=by
 have hl:=h.1
 unfold Cf
 rw[CZ (by omega) (by omega)]
 simp only[Ai,Ae,Aj,Am,Ak,Al,Ag,Option.some.injEq]
 refine A1 (l) (fun i=>((i:Int),l)) l.length (by unfold big;omega) rfl (fun i hi=>?_) ?_ ?_
 rotate_left 2
 ·rw[AS (by omega) (by omega)]
 ·rw[B1 (by simp;omega)]
  simp only[Ai,Ae,Aj,Am,Ak,Al,Ag,Option.some.injEq,Ay hi,C0 _ (h.2 _ (List.getElem_mem hi))]
  rw[Ar (by omega) (by omega)]
  have e:l.set i { key:=l[i].key,gone:=l[i].gone,item:=l[i].item }=l:=List.set_getElem_self hi
  simp[e]
 ·rw[By (by simp)];rfl
def lastN (l:List Effect):List Effect:=l.drop (l.length - 64)
theorem okE.drop {l:List Effect} (h:okE l) (k:Nat):okE (l.drop k):=⟨by have:=h.1;simp;omega,fun e he=>h.2 e (List.mem_of_mem_drop he)⟩
theorem okE.app {l m:List Effect} (h:okE l) (h2:okE m) (h3:l.length+m.length≤1000000000):okE (l++m):=⟨by simp;exact h3,fun e he=>by
 rcases List.mem_append.1 he with he|he
 ·exact h.2 e he
 ·exact h2.2 e he⟩
theorem JT (l:List Effect) (h:okE l):CY big l 64=some (lastN l):=by
 have hl:=h.1
 unfold CY
 simp only[Ai,Ae,Aj,Am,Ak,Al,Ag,Option.some.injEq]
 rw[Fp (by omega) (by omega)]
 have e:maxI 0 ((l.length:Int) - 64)=((l.length - 64:Nat):Int):=by simp only[maxI];omega
 rw[e,G3 (by omega)]
 simp only[Ai,Ae,Aj,Am,Ak,Al,Ag,Option.some.injEq]
 rw[Mn _ (h.drop _)]
 rfl
end Go.Proofs.YtlbdhlbbkibgpaaGreat
namespace Go.Proofs.YtlbdhlbbkibgpaaGreat
open Go Go.RowKit
theorem Bh {k:IntKind} {a b:Int} (h:0≤a) (hb:0<b):remI k a b=some (a % b):=by
 have:¬ b=0:=by omega
 simp only[remI,ne_eq,this,not_false_eq_true,if_true,Int.tmod_eq_emod_of_nonneg h]
theorem MX {a b:Int} (h:0≤a) (h2:a<18446744073709551616) (hb:0<b):quoI .u64 a b=some (a / b):=by
 have hne:¬ b=0:=by omega
 have h3:a / b≤a:=Int.ediv_le_self b h
 have h4:0≤a / b:=Int.ediv_nonneg h (by omega)
 simp only[quoI,ne_eq,hne,not_false_eq_true,if_true,Int.tdiv_eq_ediv_of_nonneg h,GU]
 rw[Int.emod_eq_of_lt h4 (by omega)]
theorem H6 {a b:Int} (h:0≤a) (h2:a<9223372036854775808) (hb:0<b):quoI .i64 a b=some (a / b):=by
 have hne:¬ b=0:=by omega
 have h3:a / b≤a:=Int.ediv_le_self b h
 have h4:0≤a / b:=Int.ediv_nonneg h (by omega)
 simp only[quoI,ne_eq,hne,not_false_eq_true,if_true,Int.tdiv_eq_ediv_of_nonneg h]
 rw[wrap64 (by omega) (by omega)]
theorem NR {a b:ByteArray} (h:a.size+b.size≤9223372036854775807):catS a b=some (a++b):=by simp[catS,h]
theorem strL1 (x:Int):(strL [x]).size=1:=rfl
theorem Rn.cat {β:Type} {a b:ByteArray} {k:ByteArray→Option β} {Q:β→Prop} (h:a.size+b.size≤9223372036854775807) (hk:Rn (k (a++b)) Q):Rn (Go.Proofs.YtlbdhlbbkibgpaaGreat.bn (catS a b) k) Q:=Rn.bnE (NR h) hk
theorem E5 (a:Int) (h:-9223372036854775808≤a) (h2:a≤9223372036854775807):Rn (BA big a) fun s=>s.size≤30:=by
 unfold BA
 refine Rn.lt (Rn.bn (P:=fun v:Int=>0≤v∧v<18446744073709551616) ?_ fun v hv=>?_)
 ·refine Rn.lt (Rn.ite (fun _=>Rn.lt (Rn.some ?_)) (fun _=>Rn.some ?_)) <;> simp only[negI,cvI,GU] <;> omega
 refine Rn.bn (P:=fun b:Int×ByteArray=>0≤b.1∧b.2.size≤20) (Rn.iter _ (fun k a=>0≤a.1∧a.1<18446744073709551616∧a.1<10 ^ (20 - k)∧a.2.size=k) 20 (by unfold big;omega) ⟨hv.1,hv.2,by simp only;omega,rfl⟩ fun k a hk hI=>?_) fun b hb=>?_
 ·obtain⟨i1,i2,i3,i4⟩:=hI
  refine Rn.lt (Rn.ite (fun hg=>?_) (fun hg=>Rn.some ⟨i1,by simp only;omega⟩))
  have hg:10≤a.1:=by simpa [geI] using hg
  have hk2:k<20:=by
   apply Nat.lt_of_not_le
   intro hk3
   have:20 - k=0:=by omega
   rw[this] at i3
   simp at i3
   omega
  refine Rn.bnE (Bh i1 (by omega)) (Rn.lt (Rn.lt (Rn.lt (Rn.cat ?_ (Rn.bnE (MX i1 i2 (by omega)) (Rn.some ⟨hk2,?_,?_,?_,?_⟩))))))
  ·rw[strL1];omega
  ·simp only;omega
  ·simp only;omega
  ·have e:20 - k=(20 - (k+1))+1:=by omega
   rw[e,Int.pow_succ] at i3
   simp only
   omega
  ·simp[strL1,i4];omega
 ·refine Rn.lt (Rn.lt (Rn.lt (Rn.cat ?_ (Rn.lt (Rn.ite (fun _=>Rn.cat ?_ (Rn.some ?_)) (fun _=>Rn.some ?_))))))
  ·rw[strL1];omega
  ·have e1:(⟨#[45]⟩:ByteArray).size=1:=rfl
   simp only[ByteArray.size_append,strL1,e1];omega
  ·have e1:(⟨#[45]⟩:ByteArray).size=1:=rfl
   simp only[ByteArray.size_append,strL1,e1];omega
  ·simp[strL1];omega
theorem OK (a:Int) (h:0≤a) (h2:a≤255):Rn (AZ big a) fun _=>True:=by
 unfold AZ
 refine Rn.bnE (Bh h (by omega)) (Rn.lt (Rn.lt (Rn.cat ?_ (Rn.cat ?_ (Rn.lt ?_)))))
 ·rw[strL1];decide
 ·rw[ByteArray.size_append,strL1];decide
 rw[Dj (by omega) (by omega)]
 refine Rn.bnE (H6 h (by omega) (by omega)) (Rn.bnE (Bh (by omega) (by omega)) (Rn.bn (E5 _ (by omega) (by omega)) fun s hs=>Rn.cat ?_ (Rn.some trivial)))
 have e1:(⟨#[123]⟩:ByteArray).size=1:=rfl
 have e2:(⟨#[125]⟩:ByteArray).size=1:=rfl
 simp only[ByteArray.size_append,strL1,e1,e2]
 omega
theorem NS (l:List Field) (x y:ByteArray) (h:l.length≤100):Rn (DH big l x y) fun m=>m.length≤l.length+1:=by
 unfold DH
 refine Rn.bn (P:=fun b:Bool×List Field=>b.2.length+(if b.1 then 0 else 1)≤l.length+1)
  (Rn.iter _ (fun k a=>a.2.1=(k:Int)∧a.2.2.length+(if a.1 then 0 else 1)≤k+1) l.length (by unfold big;omega) ⟨rfl,by simp⟩ fun k a hk hI=>?_) fun b hb=>?_
 ·obtain⟨d,i,m⟩:=a
  obtain⟨rfl,i2⟩:=hI
  simp only at i2
  refine Rn.lt (Rn.lt (Rn.ite (fun hg=>?_) (fun hg=>Rn.some ?_)))
  ·have hk2:k<l.length:=by
    have:((k:Int)<(l.length:Int)):=by simpa [ltI,lenI] using hg
    omega
   refine Rn.bn (P:=fun b:Bool×List Field=>b.2.length+(if b.1 then 0 else 1)≤k+2) ?_ fun b hb=>?_
   ·refine Rn.bn (P:=fun b:Bool×List Field=>b.2.length+(if b.1 then 0 else 1)≤k+1) ?_ fun b hb=>?_
    ·refine Rn.bn (P:=fun b:Bool=>b=true→d=false) ?_ fun b hb=>?_
     ·refine Rn.lt (Rn.ite (fun hd=>Rn.bnE (Ay hk2) (Rn.lt (Rn.some fun _=>?_))) (fun hd=>Rn.some (by simp)))
      simpa [notB] using hd
     ·refine Rn.lt (Rn.ite (fun hd=>Rn.room ?_ ?_ (Rn.lt (Rn.some ?_))) (fun hd=>Rn.some i2))
      ·simp only;split at i2 <;> omega
      ·simp only;split at i2 <;> omega
      ·rw[hb hd] at i2
       simpa using i2
    ·refine Rn.bnE (Ay hk2) (Rn.lt (Rn.ite (fun hd=>Rn.room ?_ ?_ (Rn.lt (Rn.some ?_))) (fun hd=>Rn.some ?_)))
     ·split at hb <;> omega
     ·split at hb <;> omega
     ·simp only[List.length_append,List.length_cons,List.length_nil]
      omega
     ·simp only;omega
   ·refine Rn.lt (Rn.some ⟨hk2,?_,?_⟩)
    ·simp only;rw[Ar (by omega) (by omega)];omega
    ·simpa using hb
  ·simp only
   split at i2 <;> simp_all <;> omega
 ·refine Rn.bn (P:=fun m:List Field=>m.length≤l.length+1) ?_ fun m hm=>Rn.room (by omega) (by omega) (Rn.some hm)
  refine Rn.lt (Rn.ite (fun hd=>Rn.room ?_ ?_ (Rn.lt (Rn.some ?_))) (fun hd=>Rn.some ?_))
  ·split at hb <;> omega
  ·split at hb <;> omega
  ·have:b.1=false:=by simpa [notB] using hd
   rw[this] at hb
   simpa using hb
  ·split at hb <;> omega
theorem NT (l:List ByteArray) (x:ByteArray) (h:l.length≤1000000000):Rn (Cz big l x) fun _=>True:=by
 unfold Cz
 refine Rn.bn (P:=fun _=>True) (Rn.iter _ (fun k a=>a=(k:Int)) l.length (by unfold big;omega) rfl fun k a hk hI=>?_) fun b _=>Rn.sm (fun _ _=>Rn.some trivial) (fun _ _=>Rn.some trivial)
 subst hI
 refine Rn.lt (Rn.lt (Rn.ite (fun hg=>?_) (fun hg=>Rn.some trivial)))
 have hk2:k<l.length:=by
  have:((k:Int)<(l.length:Int)):=by simpa [ltI,lenI] using hg
  omega
 refine Rn.bnE (Ay hk2) (Rn.lt (Rn.ite (fun _=>Rn.some trivial) (fun _=>Rn.lt (Rn.some ⟨hk2,?_⟩))))
 rw[Ar (by omega) (by omega)];omega
theorem NU (l:List ByteArray) (x:ByteArray) (h:l.length≤1000000000):Rn (CA big l x) fun m=>m.length≤l.length+1:=by
 unfold CA
 refine Rn.bn (NT l x h) fun v _=>Rn.ite (fun _=>Rn.room (by omega) (by omega) (Rn.some (by omega))) (fun _=>?_)
 refine Rn.bn (P:=fun i:Int=>∃ k:Nat,k≤l.length∧i=k) (Rn.iter _ (fun k a=>a=(k:Int)) l.length (by unfold big;omega) rfl fun k a hk hI=>?_) fun b hb=>?_
 ·subst hI
  refine Rn.bn (P:=fun b:Bool=>b=true→k<l.length) ?_ fun b hb=>Rn.lt (Rn.ite (fun hd=>Rn.lt (Rn.some ⟨hb hd,?_⟩)) (fun _=>Rn.some ⟨k,hk,rfl⟩))
  ·refine Rn.lt (Rn.lt (Rn.ite (fun hg=>?_) (fun _=>Rn.some (by simp))))
   have hk2:k<l.length:=by
    have:((k:Int)<(l.length:Int)):=by simpa [ltI,lenI] using hg
    omega
   exact Rn.bnE (Ay hk2) (Rn.lt (Rn.some fun _=>hk2))
  ·have:=hb hd
   rw[Ar (by omega) (by omega)];omega
 ·obtain⟨k,hk,rfl⟩:=hb
  refine Rn.bnE (MV hk) (Rn.room ?_ ?_ (Rn.room ?_ ?_ (Rn.lt (Rn.bnE (G3 hk) (Rn.room ?_ ?_ (Rn.lt (Rn.some ?_)))))))
  all_goals simp only[List.length_append,List.length_cons,List.length_nil,List.length_take,List.length_drop]
  all_goals omega
end Go.Proofs.YtlbdhlbbkibgpaaGreat
namespace Go.Proofs.YtlbdhlbbkibgpaaGreat
open Go Go.RowKit
def u8s (l:List Int):Prop:=∀ x∈l,0≤x∧x≤255
theorem D3 {a b:Int} (h:ltI a b=true):a<b:=by simpa [ltI] using h
theorem Ew {a b:Int} (h:ltI a b=false):b≤a:=by simpa [ltI] using h
theorem Nt {a b:Int} (h:eqI a b=false):a≠b:=by simpa [eqI] using h
theorem MY (l:List Int) (x:Int) (hl:u8s l) (hx:0≤x) (hx2:x≤255):Rn (C6 big l x) fun i=>i.f.length≤9∧i.l.length≤9:=by
 unfold C6
 refine Rn.lt (Rn.lt (Rn.ite (fun _=>Rn.some ⟨by simp,by simp⟩) (fun hne=>?_)))
 have h0:0<l.length:=by
  have:=Nt hne
  simp only[lenI] at this
  omega
 have hb0:=hl _ (List.getElem_mem h0)
 refine Rn.bnE (Ay (i:=0) h0) (Rn.lt ?_)
 rw[Dj (by omega) (by omega)]
 refine Rn.bnE (Bh hb0.1 (by omega)) (Rn.lt (Rn.bn (P:=fun _=>True) ?_ fun v _=>?_))
 ·refine Rn.bnE (Bh hx (by omega)) (Rn.lt (Rn.ite (fun _=>Rn.lt (Rn.some trivial)) (fun _=>Rn.some trivial)))
 generalize addI .i64 1 (l[0] % 4)=kd
 refine Rn.bn (P:=fun b:ByteArray×List Field×List ByteArray=>b.2.1.length≤9∧b.2.2.length≤9)
  (Rn.iter _ (fun k a=>a.1=((k+1:Nat):Int)∧a.2.1.size≤40*k∧a.2.2.1.length≤k∧a.2.2.2.length≤k) 8 (by unfold big;omega) ⟨rfl,Nat.le_refl _,by simp,by simp⟩ fun k a hk hI=>?_) fun b hb=>?_
 ·obtain⟨i,s,f,m⟩:=a
  obtain⟨rfl,i2,i3,i4⟩:=hI
  simp only at i2 i3 i4
  refine Rn.bn (P:=fun b:Bool=>b=true→k<8∧k+1<l.length) ?_ fun b hb=>Rn.lt (Rn.ite (fun hd=>?_) (fun _=>Rn.some ⟨by simp only;omega,by simp only;omega⟩))
  ·refine Rn.lt (Rn.lt (Rn.ite (fun hg=>Rn.lt (Rn.some fun hg2=>?_)) (fun _=>Rn.some (by simp))))
   have h1:=D3 hg
   have h2:=D3 hg2
   simp only[lenI] at h1 h2
   omega
  ·obtain⟨hk8,hkl⟩:=hb hd
   have hb1:=hl _ (List.getElem_mem hkl)
   refine Rn.bn (P:=fun b:ByteArray×List Field×List ByteArray=>b.1.size≤40*(k+1)∧b.2.1.length≤k+1∧b.2.2.length≤k+1) ?_ fun b hb=>Rn.lt (Rn.some ⟨hk8,?_,hb⟩)
   ·refine Rn.bnE (Ay hkl) (Rn.bnE (Bh hb1.1 (by omega)) (Rn.lt (Rn.lt (Rn.lt ?_))))
    rw[Dj (by omega) (by omega)]
    refine Rn.bnE (Bh hb1.1 (by omega)) ?_
    refine Rn.bn (E5 _ (by omega) (by omega)) fun d hd=>?_
    refine Rn.cat (by rw[strL1];omega) ?_
    have hw:∀ x:Int,(strL [x]++d).size≤31:=fun x=>by
     rw[ByteArray.size_append,strL1];omega
    have hw:=hw (addI .u8 97 (l[k+1] % 5))
    revert hw
    generalize strL [addI .u8 97 (l[k+1] % 5)]++d=w
    intro hw
    refine Rn.lt ?_
    refine Rn.ite (fun _=>?_) (fun _=>?_)
    ·refine Rn.cat (by simp only;omega) (Rn.some ⟨?_,?_,?_⟩)
     ·rw[ByteArray.size_append];simp only;omega
     ·simp only;omega
     ·simp only;omega
    refine Rn.lt ?_
    refine Rn.ite (fun _=>?_) (fun _=>?_)
    ·refine Rn.lt ?_
     rw[Fp (by omega) (by omega)]
     refine Rn.bn (E5 _ (by omega) (by omega)) fun e he=>?_
     refine Rn.bn (NS _ _ _ (by simp only;omega)) fun z hz=>?_
     refine Rn.some ⟨?_,?_,?_⟩
     ·simp only;omega
     ·simp only at hz ⊢;omega
     ·simp only;omega
    refine Rn.lt ?_
    refine Rn.ite (fun _=>?_) (fun _=>?_)
    ·refine Rn.room (by simp only;omega) (by simp only;omega) (Rn.lt (Rn.some ⟨?_,?_,?_⟩))
     ·simp only;omega
     ·simp only;omega
     ·simp only[List.length_append,List.length_cons,List.length_nil];omega
    ·refine Rn.room (by simp only;omega) (by simp only;omega) ?_
     refine Rn.bn (NU _ _ (by simp only;omega)) fun z hz=>?_
     refine Rn.some ⟨?_,?_,?_⟩
     ·simp only;omega
     ·simp only;omega
     ·simp only at hz ⊢;omega
   ·show addI .i64 ((k+1:Nat):Int) 1=_
    rw[Ar (by omega) (by omega)];omega
 ·refine Rn.bn (P:=fun _=>True) ?_ fun c _=>?_
  rotate_left
  ·refine Rn.lt (Rn.ite (fun _=>?_) (fun _=>Rn.room (by omega) (by omega) (Rn.some hb)))
   refine Rn.bnE (Ay (i:=0) h0) (Rn.lt ?_)
   rw[Dj (by omega) (by omega)]
   exact Rn.bn (E5 _ (by omega) (by omega)) fun d hd=>Rn.some ⟨by simp,by simp⟩
  ·exact Rn.lt (Rn.lt (Rn.ite (fun _=>Rn.lt (Rn.some trivial)) (fun _=>Rn.some trivial)))
theorem u8s.seg {l:List Int} (h:u8s l) (i j:Nat):u8s ((l.drop i).take j):=fun x hx=>h x (List.mem_of_mem_drop (List.mem_of_mem_take hx))
end Go.Proofs.YtlbdhlbbkibgpaaGreat
namespace Go.Proofs.YtlbdhlbbkibgpaaGreat
open Go Go.RowKit
theorem okE.lastN {l:List Effect} (h:okE l):okE (lastN l):=h.drop _
def allR (l:List Effect) (i:Nat):List Effect:=(List.replicate i l).flatten
def fdOf (off:Int) (b:List Effect):Feed:=⟨⟨0,0⟩,off,b,⟨0,0⟩,0⟩
end Go.Proofs.YtlbdhlbbkibgpaaGreat
namespace Go.Proofs.YtlbdhlbbkibgpaaGreat
open Go Go.RowKit
section
variable {α β γ σ:Type}
theorem Gu {f:α→Option (α ⊕ β)} {a0:α} {k:β→Option γ} {r:Option γ} {δ:Type} (l:List δ) (g:σ→δ→σ) (mk:Nat→σ→α) (s0:σ) (b:β) (hl:l.length≤140737488355328) (h0:a0=mk 0 s0)
  (h:∀ i (hi:i<l.length) a,a=(l.take i).foldl g s0→f (mk i a)=some (.inl (mk (i+1) (g a l[i])))) (he:f (mk l.length (l.foldl g s0))=some (.inr b)) (hk:k b=r):bn (iter big f a0) k=r:=by
 refine A1 b (fun i=>mk i ((l.take i).foldl g s0)) l.length (by unfold big;omega) h0 (fun i hi=>?_) ?_ hk
 ·rw[h i hi _ rfl,← List.take_append_getElem hi,List.foldl_append]
  rfl
 ·rw[List.take_length];exact he
theorem shapeG {key:α→ByteArray} (name:ByteArray):∀ l:List α,l.Pairwise (fun a b=>slt (key a) (key b)=true)→∃ A B C,l=A++B++C∧(∀ a∈A,slt (key a) name=true)∧(∀ c∈C,slt name (key c)=true)∧(B=[]∨∃ x,B=[x]∧key x=name)
 |[],_=>⟨[],[],[],rfl,by simp,by simp,.inl rfl⟩
 |a::l,h=>by
  obtain⟨h1,h2⟩:=List.pairwise_cons.1 h
  cases hs:slt (key a) name
  ·rcases (Ov _ _).1 hs with e|e
   ·exact⟨[],[a],l,rfl,by simp,fun c hc=>e ▸ h1 c hc,.inr ⟨a,rfl,e⟩⟩
   ·refine⟨[],[],a::l,rfl,by simp,fun c hc=>?_,.inl rfl⟩
    rcases List.mem_cons.1 hc with rfl|hc
    ·exact e
    ·exact F3 e (h1 c hc)
  ·obtain⟨A,B,C,rfl,h3,h4,h5⟩:=shapeG name l h2
   exact⟨a::A,B,C,rfl,fun x hx=>by rcases List.mem_cons.1 hx with rfl|hx;exact hs;exact h3 x hx,h4,h5⟩
theorem Rn.eq {m:Option α} {v:α} (h:Rn m (·=v)):m=Option.some v:=by
 obtain⟨w,h1,rfl⟩:=h
 exact h1
end
def SrtP (l:List Pair):Prop:=l.Pairwise (fun a b=>slt a.key b.key=true)
def newP (e:Effect):List Pair:=if e.gone then [] else [⟨e.key,e.item⟩]
def applyP (l:List Pair) (e:Effect):List Pair:=l.filter (fun p=>slt p.key e.key)++newP e++l.filter (fun p=>slt e.key p.key)
theorem Iz {α:Type} {p:α→Bool} {l:List α} (h:∀ a∈l,p a=true):l.filter p=l:=List.filter_eq_self.2 h
theorem FC {α:Type} {p:α→Bool} {l:List α} (h:∀ a∈l,p a=false):l.filter p=[]:=List.filter_eq_nil_iff.2 fun a ha=>by simp[h a ha]
theorem DP {A B C:List Pair} {e:Effect} (hA:∀ a∈A,slt a.key e.key=true) (hC:∀ c∈C,slt e.key c.key=true) (hB:B=[]∨∃ x,B=[x]∧x.key=e.key):applyP (A++B++C) e=A++newP e++C:=by
 have hB1:∀ b∈B,slt b.key e.key=false:=fun b hb=>by
  rcases hB with rfl|⟨x,rfl,hx⟩
  ·simp at hb
  ·simp at hb;subst hb;rw[hx];exact Cq _
 have hB2:∀ b∈B,slt e.key b.key=false:=fun b hb=>by
  rcases hB with rfl|⟨x,rfl,hx⟩
  ·simp at hb
  ·simp at hb;subst hb;rw[hx];exact Cq _
 unfold applyP
 rw[List.filter_append,List.filter_append,List.filter_append,List.filter_append,Iz hA,FC hB1,FC (fun c hc=>D8 (hC c hc)),FC (fun a ha=>D8 (hA a ha)),FC hB2,Iz hC]
 simp
theorem HF {l:List Pair} (h:SrtP l) (e:Effect):SrtP (applyP l e):=by
 unfold SrtP applyP newP
 have h1:SrtP (l.filter (fun p=>slt p.key e.key)):=List.Pairwise.filter _ h
 have h2:SrtP (l.filter (fun p=>slt e.key p.key)):=List.Pairwise.filter _ h
 refine List.pairwise_append.2 ⟨List.pairwise_append.2 ⟨h1,?_,fun a ha b hb=>?_⟩,h2,fun a ha b hb=>?_⟩
 ·split <;> simp
 ·split at hb
  ·simp at hb
  ·simp at hb;subst hb;exact (List.mem_filter.1 ha).2
 ·have hb2:=(List.mem_filter.1 hb).2
  rcases List.mem_append.1 ha with ha|ha
  ·exact F3 (List.mem_filter.1 ha).2 hb2
  ·split at ha
   ·simp at ha
   ·simp at ha;subst ha;exact hb2
theorem HG (l:List Pair) (e:Effect) (h:SrtP l):(applyP l e).length≤l.length+1:=by
 obtain⟨A,B,C,rfl,hA,hC,hB⟩:=shapeG (key:=Pair.key) e.key l h
 rw[DP hA hC hB]
 have:(newP e).length≤1:=by unfold newP;split <;> simp
 simp;omega
def okP (l:List Pair):Prop:=∀ p∈l,okI p.item
theorem IA {l:List Pair} {e:Effect} (h:okP l) (he:okI e.item):okP (applyP l e):=by
 intro p hp
 unfold applyP newP at hp
 rcases List.mem_append.1 hp with hp|hp
 ·rcases List.mem_append.1 hp with hp|hp
  ·exact h p (List.mem_filter.1 hp).1
  ·split at hp
   ·simp at hp
   ·simp at hp;subst hp;exact he
 ·exact h p (List.mem_filter.1 hp).1
def stepP (e:Effect) (a:Bool×List Pair) (x:Pair):Bool×List Pair :=
 let a1:=if a.1=false∧slt x.key e.key=false then (true,a.2++[⟨e.key,e.item⟩]) else a
 if x.key=e.key then a1 else (a1.1,a1.2++[x])
theorem Mo (e:Effect) (a:Bool×List Pair) (x:Pair):(stepP e a x).2.length≤a.2.length+2:=by
 unfold stepP
 dsimp only
 split <;> split <;> simp <;> omega
theorem Gh (e:Effect):∀ (l:List Pair) (a:Bool×List Pair),(l.foldl (stepP e) a).2.length≤a.2.length+2*l.length
 |[],a=>by simp
 |x::l,a=>by
  have h1:=Gh e l (stepP e a x)
  have h2:=Mo e a x
  simp only[List.foldl_cons,List.length_cons]
  omega
theorem IB {e:Effect}:∀ (A:List Pair) (d:Bool) (out:List Pair),(∀ a∈A,slt a.key e.key=true)→A.foldl (stepP e) (d,out)=(d,out++A)
 |[],d,out,_=>by simp
 |a::A,d,out,h=>by
  have h1:=h a (by simp)
  have e1:stepP e (d,out) a=(d,out++[a]):=by simp[stepP,h1,Fi h1]
  rw[List.foldl_cons,e1,IB A d (out++[a]) fun b hb=>h b (by simp[hb])]
  simp
theorem DQ {e:Effect}:∀ (A:List Pair) (out:List Pair),(∀ a∈A,slt e.key a.key=true)→A.foldl (stepP e) (true,out)=(true,out++A)
 |[],out,_=>by simp
 |a::A,out,h=>by
  have h1:=h a (by simp)
  have hne:¬ a.key=e.key:=fun h=>Fi h1 h.symm
  have e1:stepP e (true,out) a=(true,out++[a]):=by simp[stepP,hne]
  rw[List.foldl_cons,e1,DQ A (out++[a]) fun b hb=>h b (by simp[hb])]
  simp
theorem Mp {e:Effect} {l:List Pair} (h:SrtP l):(bif (l.foldl (stepP e) (e.gone,[])).1 then (l.foldl (stepP e) (e.gone,[])).2 else (l.foldl (stepP e) (e.gone,[])).2++[⟨e.key,e.item⟩])=applyP l e:=by
 obtain⟨A,B,C,rfl,hA,hC,hB⟩:=shapeG (key:=Pair.key) e.key l h
 rw[DP hA hC hB,List.foldl_append,List.foldl_append,IB A _ _ hA]
 cases hg:e.gone
 ·rcases hB with rfl|⟨x,rfl,hx⟩
  ·cases C with
   |nil=>simp[newP,hg]
   |cons c C =>
    have h1:=hC c (by simp)
    have hne:¬ c.key=e.key:=fun h=>Fi h1 h.symm
    have e1:stepP e (false,[]++A) c=(true,A++[⟨e.key,e.item⟩,c]):=by simp[stepP,D8 h1,hne]
    rw[List.foldl_nil,List.foldl_cons,e1,DQ C _ fun b hb=>hC b (by simp[hb])]
    simp[newP,hg]
  ·have e1:stepP e (false,[]++A) x=(true,A++[⟨e.key,e.item⟩]):=by simp[stepP,hx,Cq]
   rw[List.foldl_cons,List.foldl_nil,e1,DQ C _ hC]
   simp[newP,hg]
 ·rcases hB with rfl|⟨x,rfl,hx⟩
  ·rw[List.foldl_nil,DQ C _ hC]
   simp[newP,hg]
  ·have e1:stepP e (true,[]++A) x=(true,A):=by simp[stepP,hx]
   rw[List.foldl_cons,List.foldl_nil,e1,DQ C _ hC]
   simp[newP,hg]
theorem LC (l:List Pair) (e:Effect) (h:SrtP l) (hl:l.length≤100000000):Da big l e=some (applyP l e):=by
 unfold Da
 refine Gu l (stepP e) (fun i a=>(a.1,(i:Int),a.2)) (e.gone,[]) (l.foldl (stepP e) (e.gone,[])) (by omega) rfl (fun i hi a ha=>?_) ?_ ?_
 ·have hlen:a.2.length≤2*i:=by
   have:=Gh e (l.take i) (e.gone,[])
   rw[← ha] at this
   simp at this
   omega
  simp only[Ai,Ae,Aj,Am,Ak,Al,Ag,Option.some.injEq]
  rw[B1 (by omega)]
  simp only[Ai,Ae,Aj,Am,Ak,Al,Ag,Option.some.injEq,Ay hi]
  have e2:(ite' (ite' (notB a.1) (some (geS l[i].key e.key)) (some false)).get! (some (true,a.2++[(⟨e.key,e.item⟩:Pair)])) (some (a.1,a.2)))=some (if a.1=false∧slt l[i].key e.key=false then (true,a.2++[⟨e.key,e.item⟩]) else a):=by
   cases h1:a.1 <;> cases h2:slt l[i].key e.key <;> simp[notB,geS,h1,h2,ite'] <;> (rw[← h1])
  rw[AS (by omega) (by omega)]
  have e3:ite' (notB a.1) (some (geS l[i].key e.key)) (some false)=some (ite' (notB a.1) (some (geS l[i].key e.key)) (some false)).get!:=by
   cases a.1 <;> rfl
  rw[e3]
  simp only[Ai,Ae,Aj,Am,Ak,Al,Ag,Option.some.injEq]
  rw[e2]
  simp only[Ai,Ae,Aj,Am,Ak,Al,Ag,Option.some.injEq]
  rw[Ar (by omega) (by omega)]
  unfold stepP
  dsimp only
  generalize hq:(if a.1=false∧slt l[i].key e.key=false then (true,a.2++[(⟨e.key,e.item⟩:Pair)]) else a)=q
  have hq2:q.2.length≤2*i+1:=by
   rw[← hq]
   split
   ·simp only[List.length_append,List.length_cons,List.length_nil];omega
   ·omega
  by_cases hk:l[i].key=e.key
  ·rw[hk,FB]
   simp[Am,Ae]
  ·rw[show neS l[i].key e.key=true by simp[neS,hk],if_neg hk,Aj,AS (by omega) (by omega)]
   simp only[Ai,Ae,Aj,Am,Ak,Al,Ag,Option.some.injEq]
   simp
 ·simp only[Ai,Ae,Aj,Am,Ak,Al,Ag,Option.some.injEq]
  rw[By (by omega)]
  rfl
 ·have hlen:(l.foldl (stepP e) (e.gone,[])).2.length≤2*l.length:=by
   have:=Gh e l (e.gone,[])
   simp at this
   omega
  have hA:=Mp (e:=e) h
  have hn:=HG l e h
  simp only[Ai,Ae,Aj,Am,Ak,Al,Ag,Option.some.injEq]
  rw[AS (by omega) (by omega)]
  revert hA
  cases (l.foldl (stepP e) (e.gone,[])).1 <;> intro hA <;> simp at hA <;> rw[hA] <;> simp[notB,ite',Ae] <;> rw[AS (by omega) (by omega)]
end Go.Proofs.YtlbdhlbbkibgpaaGreat
namespace Go.Proofs.YtlbdhlbbkibgpaaGreat
open Go Go.RowKit
theorem shr1 {x:Int} (h:0≤x):shrI .u64 x 1=some (x / 2):=by
 simp[shrI,IntKind.bits,Int.fdiv_eq_ediv_of_nonneg]
theorem Mq {a:Int} (h:0≤a) (h2:a<18446744073709551616):cvI .u64 a=a:=by
 simp only[cvI,GU];omega
theorem KW (A B C:List Pair) (k:ByteArray) (hA:∀ a∈A,slt a.key k=true) (hC:∀ c∈C,slt k c.key=true) (hB:B=[]∨∃ x,B=[x]∧x.key=k) (hl:(A++B++C).length≤1000000000) :
  AH big (A++B++C) k=some ((A.length:Int),!B.isEmpty):=by
 have hget:∀ i x,(A++B++C)[i]?=some x→slt x.key k=decide (i<A.length):=fun i x hx=>by
  rw[List.append_assoc] at hx
  by_cases h:i<A.length
  ·rw[List.getElem?_append_left h] at hx
   simp only[h,decide_true]
   exact hA _ (List.mem_of_getElem? hx)
  ·rw[List.getElem?_append_right (by omega)] at hx
   simp only[h,decide_false]
   rcases List.mem_append.1 (List.mem_of_getElem? hx) with hm|hm
   ·rcases hB with rfl|⟨y,rfl,hy⟩
    ·simp at hm
    ·simp at hm;rw[hm,hy];exact Cq _
   ·exact D8 (hC _ hm)
 have hB2:(A++B++C)[A.length]?=(B++C)[0]?:=by rw[List.append_assoc,List.getElem?_append_right (Nat.le_refl _),Nat.sub_self]
 have hAL:A.length≤(A++B++C).length:=by simp
 generalize A++B++C=L at hget hB2 hl hAL ⊢
 refine Rn.eq ?_
 unfold AH
 refine Rn.lt (Rn.bn (P:=fun i=>i=(A.length:Int)) (Rn.iter _ (fun q a=>∃ lo hi:Nat,a=((lo:Int),(hi:Int))∧lo≤A.length∧A.length≤hi∧hi≤L.length∧hi - lo<2 ^ (48 - q)) 48 (by unfold big;omega) ⟨0,L.length,rfl,by omega,hAL,Nat.le_refl _,by omega⟩ fun q a hq hI=>?_) fun i hi=>?_)
 ·obtain⟨lo,hi,rfl,h1,h2,h3,h4⟩:=hI
  refine Rn.lt (Rn.ite (fun hg=>?_) (fun hg=>Rn.some ?_))
  ·have hg:=D3 hg
   simp only at hg
   have hq2:q<48:=by
    apply Nat.lt_of_not_le
    intro h
    have:48 - q=0:=by omega
    rw[this] at h4
    omega
   have e48:48 - q=(48 - (q+1))+1:=by omega
   rw[e48,Nat.pow_succ] at h4
   refine Rn.lt (Rn.lt ?_)
   rw[Ar (by simp only;omega) (by simp only;omega),Mq (by simp only;omega) (by simp only;omega)]
   refine Rn.bnE (shr1 (by simp only;omega)) (Rn.lt ?_)
   rw[Dj (by simp only;omega) (by simp only;omega)]
   have em:((lo:Int)+(hi:Int)) / 2=(((lo+hi) / 2:Nat):Int):=by omega
   simp only
   rw[em]
   have hm:(lo+hi) / 2<L.length:=by omega
   have hge:=hget _ _ (List.getElem?_eq_getElem hm)
   refine Rn.bnE (Ay hm) (Rn.bnE (v:=cmpB L[(lo+hi) / 2].key k) rfl (Rn.lt (Rn.ite (fun hc=>Rn.lt (Rn.some ⟨hq2,(lo+hi) / 2+1,hi,?_,?_⟩)) (fun hc=>Rn.some ⟨hq2,lo,(lo+hi) / 2,rfl,?_⟩))))
   ·rw[Ar (by omega) (by omega)]
    exact congrArg (·,(hi:Int)) (by omega)
   ·rw[(KJ _ _).1 (D3 hc)] at hge
    have:=of_decide_eq_true hge.symm
    refine⟨?_,h2,h3,?_⟩ <;> omega
   ·have hc2:slt L[(lo+hi) / 2].key k=false:=by
     cases h:slt L[(lo+hi) / 2].key k
     ·rfl
     ·have:=(KJ _ _).2 h
      have:=Ew hc
      omega
    rw[hc2] at hge
    have:=of_decide_eq_false hge.symm
    refine⟨h1,?_,?_,?_⟩ <;> omega
  ·have hg:=Ew hg
   simp only at hg ⊢
   omega
 ·subst hi
  refine Rn.bn (P:=fun b=>b=!B.isEmpty) ?_ fun b hb=>Rn.some (by rw[hb])
  refine Rn.lt (Rn.ite (fun hg=>?_) (fun hg=>Rn.some ?_))
  ·have hg:=D3 hg
   simp only[lenI] at hg
   have hm:A.length<L.length:=by omega
   refine Rn.bnE (Ay hm) (Rn.bnE (v:=cmpB L[A.length].key k) rfl (Rn.lt (Rn.some ?_)))
   rw[List.getElem?_eq_getElem hm] at hB2
   rcases hB with rfl|⟨y,rfl,hy⟩
   ·have hc:=hC L[A.length] (List.mem_of_getElem? (by simpa using hB2.symm))
    have hne:¬ cmpB L[A.length].key k=0:=fun h=>Fi hc ((KL _ _).1 h).symm
    simp[eqI,hne]
   ·simp at hB2
    rw[hB2,hy]
    simp[eqI,(KL k k).2 rfl]
  ·have hg:=Ew hg
   simp only[lenI] at hg
   have e:L[A.length]?=none:=List.getElem?_eq_none (by omega)
   rw[e] at hB2
   rcases hB with rfl|⟨y,rfl,hy⟩
   ·rfl
   ·simp at hB2
theorem MZ (A B C:List Pair) (k:ByteArray) (hA:∀ a∈A,slt a.key k=true) (hC:∀ c∈C,slt k c.key=true) (hB:B=[]∨∃ x,B=[x]∧x.key=k) (hl:(A++B++C).length≤1000000000) :
  Bs big (A++B++C) k=some ((A.length:Int),!B.isEmpty):=by
 have:=KW A B C k hA hC hB hl
 unfold Bs
 rw[show AP big (A++B++C) k=AH big (A++B++C) k from rfl,this]
 rfl
theorem M0 (A B C:List Pair) (k:ByteArray) (hA:∀ a∈A,slt a.key k=true) (hC:∀ c∈C,slt k c.key=true) (hB:B=[]∨∃ x,B=[x]∧x.key=k) (hl:(A++B++C).length≤1000000000) :
  Cw big (A++B++C) k=some ((A.length:Int),!B.isEmpty):=by
 unfold Cw
 rw[KW A B C k hA hC hB hl]
 rfl
theorem Ee:∀ (es:List Effect) (l:List Pair),SrtP l→okP l→(∀ e∈es,okI e.item)→SrtP (es.foldl applyP l)∧okP (es.foldl applyP l)∧(es.foldl applyP l).length≤l.length+es.length
 |[],l,h1,h2,_=>⟨h1,h2,by simp⟩
 |e::es,l,h1,h2,h3=>by
  obtain⟨g1,g2,g3⟩:=Ee es (applyP l e) (HF h1 e) (IA h2 (h3 e (by simp))) fun x hx=>h3 x (by simp[hx])
  have:=HG l e h1
  exact⟨g1,g2,by simp only[List.foldl_cons,List.length_cons];omega⟩
theorem H7 (l:List Pair) (es:List Effect) (h:SrtP l) (h2:okP l) (he:∀ e∈es,okI e.item) (hl:l.length+es.length≤100000000):BP big l es=some (es.foldl applyP l):=by
 unfold BP
 rw[CZ (by omega) (by omega)]
 simp only[Ai,Ae,Aj,Am,Ak,Al,Ag,Option.some.injEq]
 refine A1 l (fun i=>((i:Int),l)) l.length (by unfold big;omega) rfl (fun i hi=>?_) ?_ ?_
 ·simp only[Ai,Ae,Aj,Am,Ak,Al,Ag,Option.some.injEq]
  rw[B1 (by omega),Ay hi]
  simp only[Ai,Ae,Aj,Am,Ak,Al,Ag,Option.some.injEq]
  rw[C0 _ (h2 _ (List.getElem_mem hi))]
  simp only[Ai,Ae,Aj,Am,Ak,Al,Ag,Option.some.injEq]
  rw[Ar (by omega) (by omega)]
  have e:l.set i { key:=l[i].key,item:=l[i].item }=l:=List.set_getElem_self hi
  simp[e]
 ·simp only[Ai,Ae,Aj,Am,Ak,Al,Ag,Option.some.injEq]
  rw[By (by omega)]
  rfl
 refine Gu es applyP (fun i a=>((i:Int),a)) l (es.foldl applyP l) (by omega) rfl (fun i hi a ha=>?_) ?_ ?_
 ·obtain⟨g1,g2,g3⟩:=Ee (es.take i) l h h2 fun x hx=>he x (List.mem_of_mem_take hx)
  rw[← ha] at g1 g2 g3
  have hal:a.length≤100000000:=by rw[List.length_take] at g3;omega
  have hok:=he _ (List.getElem_mem hi)
  simp only[Ai,Ae,Aj,Am,Ak,Al,Ag,Option.some.injEq]
  rw[B1 (by omega),Ay hi]
  simp only[Ai,Ae,Aj,Am,Ak,Al,Ag,Option.some.injEq]
  rw[AS (by omega) (by omega)]
  obtain⟨A,B,C,e,hA,hC,hB⟩:=shapeG (key:=Pair.key) es[i].key a g1
  have hap:applyP a es[i]=A++newP es[i]++C:=by rw[e];exact DP hA hC hB
  have hf:Bs big a es[i].key=some ((A.length:Int),!B.isEmpty):=by rw[e];exact MZ A B C _ hA hC hB (by rw[← e];omega)
  rw[hf,hap]
  simp only[Ai,Ae,Aj,Am,Ak,Al,Ag,Option.some.injEq]
  rw[Ar (a:=(i:Int)) (by omega) (by omega)]
  have hlen:A.length+B.length+C.length=a.length:=by rw[e];simp;omega
  rcases hB with rfl|⟨x,rfl,hx⟩
  ·simp only[List.isEmpty_nil,Bool.not_true,Ai,Ae,Aj,Am,Ak,Al,Ag,Option.some.injEq]
   cases hg:es[i].gone
   ·simp only[Ox,Ai,Ae,Aj,Am,Ak,Al,Ag,Option.some.injEq]
    rw[C0 _ hok]
    simp only[Ai,Ae,Aj,Am,Ak,Al,Ag,Option.some.injEq]
    rw[Gt (by simp[insB];simp at hlen;omega)]
    have e1:insL a A.length ⟨es[i].key,es[i].item⟩=A++newP es[i]++C:=by rw[e];simp[insL,newP,hg]
    simp[e1,Ae]
   ·simp only[Cv,Ai,Ae,Aj,Am,Ak,Al,Ag,Option.some.injEq]
    rw[e]
    simp[newP,hg]
  ·simp only[List.isEmpty_cons,Bool.not_false,Ai,Ae,Aj,Am,Ak,Al,Ag,Option.some.injEq]
   have hn:(A++[x]++C)[A.length]?=some x:=by simp
   cases hg:es[i].gone
   ·simp only[Ai,Ae,Aj,Am,Ak,Al,Ag,Option.some.injEq]
    rw[C0 _ hok]
    simp only[Ai,Ae,Aj,Am,Ak,Al,Ag,Option.some.injEq]
    rw[Gq,e,hn]
    have e1:(A++[x]++C).set A.length ⟨x.key,es[i].item⟩=A++newP es[i]++C:=by simp[newP,hg,hx]
    simp[e1,Ae,Ai]
    simp[newP,hg,hx]
   ·simp only[Ai,Ae,Aj,Am,Ak,Al,Ag,Option.some.injEq]
    rw[Ar (by omega) (by omega),Gt (by simp[delB];simp at hlen;omega)]
    have e1:delL a A.length=A++newP es[i]++C:=by rw[e];simp[delL,newP,hg]
    simp[e1,Ae]
 ·simp only[Ai,Ae,Aj,Am,Ak,Al,Ag,Option.some.injEq]
  rw[By (by omega)]
  rfl
 ·obtain⟨g1,g2,g3⟩:=Ee es l h h2 he
  rw[AS (by omega) (by omega)]
theorem LD (l:List Pair) (es:List Effect) (h:SrtP l) (h2:okP l) (he:∀ e∈es,okI e.item) (hl:l.length+es.length≤100000000):Db big l es=some (es.foldl applyP l):=by
 unfold Db
 rw[AS (by omega) (by omega),AS (by omega) (by omega)]
 refine Gu es applyP (fun i a=>(a,(i:Int))) l (es.foldl applyP l) (by omega) rfl (fun i hi a ha=>?_) ?_ rfl
 ·obtain⟨g1,g2,g3⟩:=Ee (es.take i) l h h2 fun x hx=>he x (List.mem_of_mem_take hx)
  rw[← ha] at g1 g2 g3
  rw[List.length_take] at g3
  simp only[Ai,Ae,Aj,Am,Ak,Al,Ag,Option.some.injEq]
  rw[B1 (by omega),Ay hi]
  simp only[Ai,Ae,Aj,Am,Ak,Al,Ag,Option.some.injEq]
  rw[LC _ _ g1 (by omega)]
  simp only[Ai,Ae,Aj,Am,Ak,Al,Ag,Option.some.injEq]
  rw[Ar (by omega) (by omega)]
  rfl
 ·simp only[Ai,Ae,Aj,Am,Ak,Al,Ag,Option.some.injEq]
  rw[By (by omega)]
  rfl
end Go.Proofs.YtlbdhlbbkibgpaaGreat
namespace Go.Proofs.YtlbdhlbbkibgpaaGreat
open Go Go.RowKit
def addF (f:Feed) (l:List Effect):Feed:={ f with off:=addI .i64 f.off l.length,back:=lastN (f.back++l) }
theorem M1 (f:Feed) (l:List Effect) (h:okE f.back) (h2:okE l) (h3:f.back.length+l.length≤1000000000):CH big f l=some (addF f l):=by
 have hl:=h2.1
 unfold CH
 simp only[Ai,Ae,Aj,Am,Ak,Al,Ag,Option.some.injEq]
 rw[Gt (by simp[catB];omega)]
 simp only[Ai,Ae,Aj,Am,Ak,Al,Ag,Option.some.injEq,List.flatten_cons,List.flatten_nil,List.append_nil]
 rw[JT _ (h.app h2 h3)]
 rfl
def allP (l:List Pair):List Effect:=l.map fun p=>⟨p.key,false,p.item⟩
def goesF (f:Feed) (rid:Rid) (off:Int):Bool:=(decide (rid=f.rid) || (decide (rid=f.prev) && decide (off≤f.upto))) && (decide (off≤f.off) && decide (f.off - f.back.length≤off))
def ansF (f:Feed) (db:List Pair) (rid:Rid) (off:Int):Msg :=
 bif goesF f rid off then ⟨5,0,0,0,[],[],0,0,0,f.rid,rid,off,(f.back.drop (off - (f.off - f.back.length)).toNat).take 16⟩ else ⟨6,0,0,0,[],[],0,0,0,f.rid,⟨0,0⟩,f.off,allP db⟩
def okF (f:Feed):Prop:=okE f.back∧f.back.length≤64∧(f.back.length:Int)≤f.off∧f.off≤9223372036854775807
theorem okE.take {l:List Effect} (h:okE l) (k:Nat):okE (l.take k):=⟨by have:=h.1;simp;omega,fun e he=>h.2 e (List.mem_of_mem_take he)⟩
end Go.Proofs.YtlbdhlbbkibgpaaGreat
namespace Go.Proofs.YtlbdhlbbkibgpaaGreat
open Go Go.RowKit
def newerF (f:Feed) (m:Msg):Bool:=!decide (m.rid.node=f.rid.node) || (decide (f.rid.epoch<m.rid.epoch) || (decide (m.rid=f.rid) && decide (f.off<m.off)))
def nextF (f:Feed) (m:Msg):Bool:=decide (m.kind=5) && (decide (m.prev=f.rid) && decide (m.off=f.off))
def gotF (f:Feed) (db:List Pair) (m:Msg):Feed×List Pair×Bool :=
 bif nextF f m then (addF (bif decide (m.rid=f.rid) then f else { f with rid:=m.rid,prev:=f.rid,upto:=f.off }) m.effects,m.effects.foldl applyP db,true)
 else bif decide (m.kind=6) && newerF f m then (⟨m.rid,m.off,[],⟨0,0⟩,0⟩,m.effects.foldl applyP [],true) else (f,db,false)
theorem M2 (f:Feed) (h:f.back.length≤64) (h2:-9223372036854775808≤f.off) (h3:f.off≤9223372036854775807):addF f []=f:=by
 unfold addF lastN
 rw[Ar (by simp;omega) (by simp;omega),List.append_nil,show f.back.length - 64=0 by omega,List.drop_zero]
 simp
theorem G4 (l:List Pair) (h:okP l) (hl:l.length≤1000000000):B9 big l l=some true:=by
 unfold B9
 simp only[Ai,Ae,Aj,Am,Ak,Al,Ag,Option.some.injEq,BF]
 refine A1 (.inl ()) (fun i=>(i:Int)) l.length (by unfold big;omega) rfl (fun i hi=>?_) ?_ rfl
 ·rw[B1 (by omega)]
  simp only[Ai,Ae,Aj,Am,Ak,Al,Ag,Option.some.injEq,Ay hi,FB,E4 _ (h _ (List.getElem_mem hi)),Cv]
  rw[Ar (by omega) (by omega)]
  rfl
 ·rw[By (by omega)];rfl
theorem HH (f:Feed) (h:okE f.back):Ca big f f=some true:=by
 unfold Ca
 simp only[Ai,Ae,Aj,Am,Ak,Al,Ag,Option.some.injEq,ET,Fq,Gg _ h]
theorem I1 (l:List Claim) (hl:l.length≤1000000000):BH big l l=some true:=by
 unfold BH
 simp only[Ai,Ae,Aj,Am,Ak,Al,Ag,Option.some.injEq,BF]
 refine A1 (.inl ()) (fun i=>(i:Int)) l.length (by unfold big;omega) rfl (fun i hi=>?_) ?_ rfl
 ·rw[B1 (by omega)]
  simp only[Ai,Ae,Aj,Am,Ak,Al,Ag,Option.some.injEq,Ay hi,ET,Fq,Cv]
  rw[Ar (by omega) (by omega)]
  rfl
 ·rw[By (by omega)];rfl
theorem Fb (l:List Int) (hl:l.length≤1000000000):Cu big l l=some true:=by
 unfold Cu
 simp only[Ai,Ae,Aj,Am,Ak,Al,Ag,Option.some.injEq,BF]
 refine A1 (.inl ()) (fun i=>(i:Int)) l.length (by unfold big;omega) rfl (fun i hi=>?_) ?_ rfl
 ·rw[B1 (by omega)]
  simp only[Ai,Ae,Aj,Am,Ak,Al,Ag,Option.some.injEq,Ay hi,BF]
  rw[Ar (by omega) (by omega)]
  rfl
 ·rw[By (by omega)];rfl
end Go.Proofs.YtlbdhlbbkibgpaaGreat
namespace Go.Proofs.YtlbdhlbbkibgpaaGreat
open Go Go.RowKit
end Go.Proofs.YtlbdhlbbkibgpaaGreat
namespace Go.Proofs.YtlbdhlbbkibgpaaGreat
open Go Go.RowKit
def effAt (l:List Int) (i:Nat):Option Effect :=
 bn (nth l ((4*i:Nat):Int)) fun v11=>bn (AZ big v11) fun v12=>bn (nth l ((4*i+1:Nat):Int)) fun v14=>bn (remI .u8 v14 4) fun v15 =>
 bn (ite' (notB (eqI v15 0)) (bn (seglh l ((4*i+1:Nat):Int) ((4*i+4:Nat):Int)) fun v20=>bn (nth l ((4*i+2:Nat):Int)) fun v23=>bn (C6 big v20 v23) fun v24=>some ((⟨v12,eqI v15 0,v24⟩:Effect))) (some ((⟨v12,eqI v15 0,(⟨0,⟨#[]⟩,[],[],0⟩:Item)⟩:Effect)))) fun (y17:Effect) =>
 some y17
theorem M3 (l:List Int) (hl:u8s l) (i:Nat) (h:4*i+3<l.length) (hlen:l.length≤1000000000):Rn (effAt l i) fun e=>okI e.item:=by
 have hb0:=hl _ (List.getElem_mem (show 4*i<l.length by omega))
 have hb1:=hl _ (List.getElem_mem (show 4*i+1<l.length by omega))
 have hb2:=hl _ (List.getElem_mem (show 4*i+2<l.length by omega))
 unfold effAt
 refine Rn.bnE (Ay (show 4*i<l.length by omega)) (Rn.bn (OK _ hb0.1 hb0.2) fun key _=>Rn.bnE (Ay (show 4*i+1<l.length by omega)) (Rn.bnE (Bh hb1.1 (by omega)) (Rn.bn (P:=fun b:Effect=>b.item.f.length≤9∧b.item.l.length≤9) ?_ fun b hb=>Rn.some ?_)))
 ·refine Rn.ite (fun _=>?_) (fun _=>Rn.some ⟨by simp,by simp⟩)
  exact Rn.bnE (Mm (by omega) (by omega)) (Rn.bnE (Ay (show 4*i+2<l.length by omega)) (Rn.bn (MY _ _ (hl.seg _ _) hb2.1 hb2.2) fun it hit=>Rn.some hit))
 ·exact⟨by omega,by omega⟩
theorem JU (l:List Int) (hl:u8s l) (h:l.length≤1000000000):Rn (BQ big l) fun m=>m.length=min 40 (l.length / 4)∧(∀ i,i<m.length→effAt l i=m[i]?)∧∀ e∈m,okI e.item:=by
 unfold BQ
 refine Rn.bn (P:=fun m:List Effect=>m.length=min 40 (l.length / 4)∧(∀ i,i<m.length→effAt l i=m[i]?)∧∀ e∈m,okI e.item)
  (Rn.iter _ (fun k a=>a.1=((4*k:Nat):Int)∧a.2.length=k∧4*k≤l.length∧(∀ i,i<k→effAt l i=a.2[i]?)∧∀ e∈a.2,okI e.item) 40 (by unfold big;omega) ⟨rfl,rfl,by omega,by simp,by simp⟩ fun k a hk hI=>?_) fun m hm=>Rn.room (by omega) (by omega) (Rn.some hm)
 obtain⟨i,m⟩:=a
 obtain⟨rfl,i2,i5,i6,i3⟩:=hI
 simp only at i2 i3 i6
 refine Rn.bn (P:=fun b:Bool=>(b=true→k<40∧4*k+3<l.length)∧(b=false→k=min 40 (l.length / 4))) ?_ fun b hb=>Rn.lt (Rn.ite (fun hd=>?_) (fun hd=>Rn.some ⟨by simp only[i2];exact hb.2 hd,by simp only[i2];exact i6,i3⟩))
 ·refine Rn.lt ?_
  rw[Ar (by simp only;omega) (by simp only;omega)]
  refine Rn.lt (Rn.lt (Rn.ite (fun hg=>Rn.lt (Rn.lt (Rn.some ?_))) (fun hg=>Rn.some ?_)))
  ·have h1:=D3 hg
   simp only[lenI] at h1
   refine⟨fun h2=>?_,fun h2=>?_⟩
   ·have h2:=D3 h2
    simp only[lenI,i2] at h2
    omega
   ·have h2:=Ew h2
    simp only[lenI,i2] at h2
    omega
  ·have h1:=Ew hg
   simp only[lenI] at h1
   exact⟨fun h=>by simp at h,fun _=>by omega⟩
 ·obtain⟨h40,h4⟩:=hb.1 hd
  obtain⟨e,he,hok⟩:=M3 l hl k h4 h
  have he':=he
  unfold effAt at he
  rw[show addI .i64 ((4*k:Nat):Int) 1=((4*k+1:Nat):Int) by rw[Ar (by omega) (by omega)];omega,show addI .i64 ((4*k:Nat):Int) 4=((4*k+4:Nat):Int) by rw[Ar (by omega) (by omega)];omega,show addI .i64 ((4*k:Nat):Int) 2=((4*k+2:Nat):Int) by rw[Ar (by omega) (by omega)];omega]
  obtain⟨w1,e1,he⟩:=bnE he
  obtain⟨w2,e2,he⟩:=bnE he
  obtain⟨w3,e3,he⟩:=bnE he
  obtain⟨w4,e4,he⟩:=bnE he
  obtain⟨w5,e5,he⟩:=bnE he
  have heq:=Option.some.inj he
  clear he
  subst heq
  refine Rn.bnE e1 (Rn.bnE e2 (Rn.lt (Rn.bnE e3 (Rn.bnE e4 (Rn.lt (Rn.bnE (v:=w5) e5 (Rn.room ?_ ?_ (Rn.lt (Rn.lt (Rn.some ⟨h40,?_,?_,by omega,?_,?_⟩))))))))))
  ·simp only;omega
  ·simp only;omega
  ·simp only;omega
  ·simp[i2]
  ·intro i hi
   show effAt l i=(m++[_])[i]?
   by_cases hik:i<k
   ·rw[i6 i hik,List.getElem?_append_left (by omega)]
   ·have:i=k:=by omega
    subst this
    rw[he',List.getElem?_append_right (by omega),i2,Nat.sub_self]
    rfl
  ·intro x hx
   rcases List.mem_append.1 hx with hx|hx
   ·exact i3 x hx
   ·simp only[List.mem_singleton] at hx
    rw[hx]
    exact hok
end Go.Proofs.YtlbdhlbbkibgpaaGreat
namespace Go.Proofs.YtlbdhlbbkibgpaaGreat
open Go Go.RowKit
def mkF (r:Int) (l:List Effect):Feed:=⟨⟨r % 4,r / 64⟩,l.length,l,⟨0,0⟩,0⟩
def dbOf (l:List Effect):List Pair:=l.foldl applyP []
theorem NV {l:List Effect} (h:∀ e∈l,okI e.item):SrtP (dbOf l)∧okP (dbOf l)∧(dbOf l).length≤l.length:=by
 obtain⟨g1,g2,g3⟩:=Ee l [] .nil (by simp[okP]) h
 exact⟨g1,g2,by simp at g3;exact g3⟩
def harm (fr:Rid) (o:Nat) (m:Msg):Prop:=m.rid=fr∧okE m.effects∧m.effects.length≤100∧((m.kind=5∧(m.prev≠fr∨m.off<o∨m.effects=[]))∨(m.kind=6∧m.off≤o))
theorem harm.mono {fr:Rid} {o o':Nat} {m:Msg} (h:harm fr o m) (ho:o≤o'):harm fr o' m:=by
 obtain⟨h1,h2,h3,h4⟩:=h
 refine⟨h1,h2,h3,?_⟩
 rcases h4 with ⟨a,b|b|b⟩|⟨a,b⟩
 ·exact .inl ⟨a,.inl b⟩
 ·exact .inl ⟨a,.inr (.inl (by omega))⟩
 ·exact .inl ⟨a,.inr (.inr b)⟩
 ·exact .inr ⟨a,by omega⟩
theorem harm.got {g:Feed} {own:List Pair} {o:Nat} {m:Msg} (h:harm g.rid o m) (ho:g.off=o) (hb:g.back.length≤64) (hs:o≤1000000):(gotF g own m).1=g∧(gotF g own m).2.1=own:=by
 obtain⟨h1,h2,h3,h4⟩:=h
 unfold gotF
 cases hn:nextF g m
 ·have hw:(decide (m.kind=6) && newerF g m)=false:=by
   rcases h4 with ⟨a,b⟩|⟨a,b⟩
   ·simp[a]
   ·simp only[newerF,h1,ho]
    have:¬ (o:Int)<m.off:=by omega
    simp[this]
  rw[hw]
  exact⟨rfl,rfl⟩
 ·have he:m.effects=[]:=by
   simp only[nextF,Bool.and_eq_true,decide_eq_true_eq] at hn
   obtain⟨n1,n2,n3⟩:=hn
   rcases h4 with ⟨a,b|b|b⟩|⟨a,b⟩
   ·exact absurd n2 b
   ·omega
   ·exact b
   ·omega
  rw[he,show decide (m.rid=g.rid)=true by simp[h1]]
  exact⟨M2 g hb (by omega) (by omega),rfl⟩
def At (r other:Int) (l:List Effect) (k i:Nat) (g:Feed) (own:List Pair) (sent:List Msg):Prop :=
 sent.length=i∧okE g.back∧g.back.length≤64∧((i=0∧g.rid≠(mkF r l).rid∧g=mkF other (l.take k)∧own=dbOf (l.take k)) ∨
 ∃ o:Nat,g.rid=(mkF r l).rid∧g.off=o∧o≤l.length∧min l.length (16*i)≤o∧own=dbOf (l.take o)∧∀ m∈sent,harm (mkF r l).rid o m)
end Go.Proofs.YtlbdhlbbkibgpaaGreat
namespace Go.Proofs.YtlbdhlbbkibgpaaGreat
open Go Go.RowKit
theorem gtI_n {a b:Int} (h:gtI a b=false):a≤b:=by simpa [gtI] using h
end Go.Proofs.YtlbdhlbbkibgpaaGreat
namespace Go.Proofs.YtlbdhlbbkibgpaaGreat
open Go Go.RowKit
def rawP (l:List Pair) (k:ByteArray):Option Item:=(l.find? fun p=>decide (p.key=k)).map fun p=>p.item
def noI:Item:=⟨0,⟨#[]⟩,[],[],0⟩
theorem HI {A B C:List Pair} {k:ByteArray} (hA:∀ a∈A,slt a.key k=true) (hC:∀ c∈C,slt k c.key=true) (hB:B=[]∨∃ x,B=[x]∧x.key=k):rawP (A++B++C) k=(B.head?).map fun p=>p.item:=by
 have h1:A.find? (fun p=>decide (p.key=k))=none:=List.find?_eq_none.2 fun p hp=>by simpa using Fi (hA p hp)
 have h2:C.find? (fun p=>decide (p.key=k))=none:=List.find?_eq_none.2 fun p hp=>by simpa using fun e=>Fi (hC p hp) e.symm
 unfold rawP
 rw[List.find?_append,List.find?_append,h1,h2]
 rcases hB with rfl|⟨x,rfl,hx⟩
 ·rfl
 ·simp[hx]
theorem JV (l:List Pair) (k:ByteArray) (h:SrtP l) (ho:okP l) (hl:l.length≤1000000000):CW big l k=some ((rawP l k).getD noI,(rawP l k).isSome):=by
 obtain⟨A,B,C,rfl,hA,hC,hB⟩:=shapeG (key:=Pair.key) k l h
 unfold CW
 rw[M0 A B C k hA hC hB hl,HI hA hC hB]
 rcases hB with rfl|⟨x,rfl,hx⟩
 ·rfl
 ·have hn:(A++[x]++C)[A.length]?=some x:=by simp
  simp only[Ai,Ae,Aj,Am,Ak,Al,Ag,Option.some.injEq,List.isEmpty_cons,Bool.not_false,Cv,Gq,hn]
  rw[C0 _ (ho x (by simp))]
  rfl
def alive (i:Item) (now:Int):Bool:=decide (i.exp=0) || decide (now<i.exp)
def getP (l:List Pair) (k:ByteArray) (now:Int):Option Item:=bif alive ((rawP l k).getD noI) now then rawP l k else none
theorem Mr:okI noI:=⟨by simp[noI],by simp[noI]⟩
end Go.Proofs.YtlbdhlbbkibgpaaGreat
namespace Go.Proofs.YtlbdhlbbkibgpaaGreat
open Go Go.RowKit
theorem ltT {a b:Int} (h:a<b):ltI a b=true:=by simp[ltI,h]
theorem ltF {a b:Int} (h:¬ a<b):ltI a b=false:=by simp[ltI];omega
theorem Fr (c:UInt8):∀ l:List UInt8,(Lib.indexByte l c=-1∧∀ b∈l,b≠c)∨∃ i:Nat,Lib.indexByte l c=i∧∃ hi:i<l.length,l[i]=c∧∀ j (hj:j<i),l[j]≠c
 |[]=>.inl ⟨rfl,by simp⟩
 |b::l=>by
  by_cases h:b=c
  ·refine .inr ⟨0,?_,by simp,h,fun j hj=>by omega⟩
   unfold Lib.indexByte
   simp[h]
  ·rcases Fr c l with ⟨h1,h2⟩|⟨i,h1,hi,h2,h3⟩
   ·refine .inl ⟨?_,fun x hx=>?_⟩
    ·unfold Lib.indexByte
     simp[h,h1]
    ·rcases List.mem_cons.1 hx with rfl|hx
     ·exact h
     ·exact h2 x hx
   ·refine .inr ⟨i+1,?_,by simp;omega,by simpa using h2,fun j hj=>?_⟩
    ·unfold Lib.indexByte
     have:¬ ((i:Int)=-1):=by omega
     simp[h,h1,this]
    ·cases j with
     |zero=>exact h
     |succ j=>simpa using h3 j (by omega)
theorem FD {s:ByteArray} {i:Nat} (h:i<s.size):bAt s i=((s.data.toList[i]'(by simpa using h)).toNat:Int):=by
 unfold bAt
 rw[dif_pos h]
 rfl
theorem G5 {a:UInt8} {c:Nat} (hc:c<256):((a.toNat:Int)=(c:Int))↔a=(c:Int).toNat.toUInt8:=by
 have e:((c:Int).toNat.toUInt8).toNat=c:=by simp;omega
 constructor
 ·intro h
  apply UInt8.toNat_inj.1
  rw[e]
  omega
 ·rintro rfl
  rw[e]
theorem IC (s:ByteArray) (c:Int) (hc0:0≤c) (hc:c<256):(idxB s c=-1∧∀ i,i<s.size→bAt s i≠c)∨∃ i:Nat,idxB s c=i∧i<s.size∧bAt s i=c∧∀ j,j<i→bAt s j≠c:=by
 obtain⟨c,rfl⟩:∃ n:Nat,c=n:=⟨c.toNat,by omega⟩
 have hc:c<256:=by omega
 have hlen:s.data.toList.length=s.size:=by simp
 rcases Fr ((c:Int).toNat.toUInt8) s.data.toList with ⟨h1,h2⟩|⟨i,h1,hi,h2,h3⟩
 ·refine .inl ⟨h1,fun i hi=>?_⟩
  rw[FD hi,Ne,G5 hc]
  exact h2 _ (List.getElem_mem _)
 ·refine .inr ⟨i,h1,by omega,?_,fun j hj=>?_⟩
  ·rw[FD (by omega),G5 hc]
   exact h2
  ·rw[FD (by omega),Ne,G5 hc]
   exact h3 j hj
theorem JW (s:ByteArray):Bn big s=some (idxB s 123):=by
 unfold Bn
 by_cases h:(⟨#[123]⟩:ByteArray)=s
 ·subst h
  rfl
 ·simp only[Ai,eqS,decide_eq_false h,Am]
  rfl
theorem GM (s:ByteArray):Ba big s=some (idxB s 125):=by
 unfold Ba
 by_cases h:(⟨#[125]⟩:ByteArray)=s
 ·subst h
  rfl
 ·simp only[Ai,eqS,decide_eq_false h,Am]
  rfl
theorem geT {a b:Int} (h:b≤a):geI a b=true:=by simp[geI,h]
theorem geF {a b:Int} (h:¬ b≤a):geI a b=false:=by simp[geI];omega
theorem OL (s:ByteArray) (h:idxB s 123=-1):Bt big s=some (s,⟨#[]⟩,false):=by
 unfold Bt Bz
 rw[JW,h]
 rfl
theorem Ms (s:ByteArray) (h:idxB s 125=-1):Bb big s=some (s,⟨#[]⟩,false):=by
 unfold Bb Bi
 rw[GM,h]
 rfl
theorem Mt (s:ByteArray) (i:Nat) (h:idxB s 123=i) (hi:i<s.size) (hs:s.size≤1000000000000):Bt big s=some (s.extract 0 i,s.extract (i+1) s.size,true):=by
 unfold Bt Bz
 rw[JW,h]
 have e1:segSh s (i:Int)=some (s.extract 0 i):=by
  unfold segSh
  rw[if_pos (by omega)]
  rfl
 have e2:segSl s ((i:Int)+1)=some (s.extract (i+1) s.size):=by
  unfold segSl
  rw[if_pos (by omega)]
  rfl
 simp only[Ai,Ae,Aj,Am,Ak,Al,Ag,Option.some.injEq]
 rw[geT (by omega),Ar (by omega) (by omega),e1,e2]
 rfl
theorem Mu (s:ByteArray) (i:Nat) (h:idxB s 125=i) (hi:i<s.size) (hs:s.size≤1000000000000):Bb big s=some (s.extract 0 i,s.extract (i+1) s.size,true):=by
 unfold Bb Bi
 rw[GM,h]
 have e1:segSh s (i:Int)=some (s.extract 0 i):=by
  unfold segSh
  rw[if_pos (by omega)]
  rfl
 have e2:segSl s ((i:Int)+1)=some (s.extract (i+1) s.size):=by
  unfold segSl
  rw[if_pos (by omega)]
  rfl
 simp only[Ai,Ae,Aj,Am,Ak,Al,Ag,Option.some.injEq]
 rw[geT (by omega),Ar (by omega) (by omega),e1,e2]
 rfl
theorem Fc {s:ByteArray} {a j:Nat} (h:a+j<s.size):bAt (s.extract a s.size) j=bAt s (a+j):=by
 have h2:j<(s.extract a s.size).size:=by rw[ByteArray.size_extract];omega
 unfold bAt
 rw[dif_pos h2,dif_pos h,ByteArray.getElem_extract]
theorem Ef {s:ByteArray} {i:Nat} (h:i<s.size):atS s (i:Int)=some (bAt s i):=by
 unfold atS
 rw[if_pos (by omega)]
 rfl
theorem neT {a b:Int} (h:a≠b):neI a b=true:=by simp[neI,h]
theorem eqF' {a b:Int} (h:a≠b):eqI a b=false:=by simp[eqI,h]
theorem OM (s:ByteArray) (hs:s.size≤1000000000000):∃ t:ByteArray,Cn big s=some t∧BN big s=some t∧t.size≤s.size:=by
 rcases IC s 123 (by omega) (by omega) with ⟨h1,h2⟩|⟨i,h1,h2,h3,h4⟩
 ·refine⟨s,?_,?_,Nat.le_refl _⟩
  ·unfold Cn
   refine A1 (.inl ()) (fun i=>(i:Int)) s.size (by unfold big;omega) rfl (fun i hi=>?_) ?_ rfl
   ·simp only[Ai]
    rw[ltT (by simp only[lenS];omega),Ef hi]
    simp only[Ai,Ae,Aj,Am,Ak,Al,Ag,Option.some.injEq]
    rw[neT (h2 i hi),Aj,Ar (by omega) (by omega)]
    rfl
   ·simp only[Ai]
    rw[ltF (by simp only[lenS];omega)]
    rfl
  ·unfold BN
   rw[OL s h1]
   rfl
 have hstep:∀ q,q<i→∀ {γ:Type} (x:Option (Int ⊕ γ)) (y:Option (Int ⊕ γ)),ite' (ltI (q:Int) (lenS s)) (bn (atS s (q:Int)) fun v6=>ite' (neI v6 123) (some (.inl (addI .i64 (q:Int) 1))) x) y=some (.inl ((q+1:Nat):Int)):=fun q hq γ x y=>by
  rw[ltT (by simp only[lenS];omega),Ef (by omega)]
  simp only[Ai,Ae,Aj,Am,Ak,Al,Ag,Option.some.injEq]
  rw[neT (h4 q hq),Aj,Ar (by omega) (by omega)]
  rfl
 have hsz:(s.extract (i+1) s.size).size=s.size - (i+1):=by rw[ByteArray.size_extract];omega
 rcases IC (s.extract (i+1) s.size) 125 (by omega) (by omega) with ⟨k1,k2⟩|⟨j,k1,k2,k3,k4⟩
 ·have k2:∀ q,i+1+q<s.size→bAt s (i+1+q)≠125:=fun q hq=>by
   have:=k2 q (by omega)
   rwa [Fc hq] at this
  refine⟨s,?_,?_,Nat.le_refl _⟩
  ·unfold Cn
   refine A1 (.inr s) (fun i=>(i:Int)) i (by unfold big;omega) rfl (fun q hq=>hstep q hq _ _) ?_ rfl
   simp only[Ai]
   rw[ltT (by simp only[lenS];omega),Ef h2]
   simp only[Ai,Ae,Aj,Am,Ak,Al,Ag,Option.some.injEq,h3]
   rw[show neI (123:Int) 123=false by rfl,Am]
   refine A1 (.inl ()) (fun q=>((i+1+q:Nat):Int)) (s.size - (i+1)) (by unfold big;omega) (by rw[Ar (by omega) (by omega)];omega) (fun q hq=>?_) ?_ rfl
   ·rw[ltT (by simp only[lenS];omega),Ef (by omega)]
    simp only[Ai,Ae,Aj,Am,Ak,Al,Ag,Option.some.injEq]
    rw[eqF' (k2 q (by omega)),Am,Ar (by omega) (by omega)]
    rfl
   ·rw[ltF (by simp only[lenS];omega)]
    rfl
  ·unfold BN
   rw[Mt s i h1 h2 hs]
   simp only[Ai,Ae,Aj,Am,Ak,Al,Ag,Option.some.injEq]
   rw[Ms _ k1]
   rfl
 ·have hj:i+1+j<s.size:=by omega
  have k3:bAt s (i+1+j)=125:=by rwa [Fc hj] at k3
  have k4:∀ q,q<j→bAt s (i+1+q)≠125:=fun q hq=>by
   have:=k4 q hq
   rwa [Fc (by omega)] at this
  have hex:(s.extract (i+1) s.size).extract 0 j=s.extract (i+1) (i+1+j):=by
   rw[ByteArray.extract_extract]
   congr 1
   omega
  have hez:(s.extract (i+1) (i+1+j)).size=j:=by rw[ByteArray.size_extract];omega
  have hslot:BN big s=some (bif decide (j=0) then s else s.extract (i+1) (i+1+j)):=by
   unfold BN
   rw[Mt s i h1 h2 hs]
   simp only[Ai,Ae,Aj,Am,Ak,Al,Ag,Option.some.injEq]
   rw[Mu _ j k1 k2 (by omega)]
   simp only[Ai,Ae,Aj,Am,Ak,Al,Ag,Option.some.injEq,hex]
   by_cases h0:j=0
   ·have:s.extract (i+1) (i+1+j)=⟨#[]⟩:=by
     apply ByteArray.ext
     apply Array.eq_empty_of_size_eq_zero
     exact hez.trans h0
    rw[this,show neS (⟨#[]⟩:ByteArray) ⟨#[]⟩=false by rfl,decide_eq_true h0]
    rfl
   ·have:s.extract (i+1) (i+1+j)≠⟨#[]⟩:=fun h=>by
     rw[h] at hez
     exact h0 hez.symm
    rw[show neS (s.extract (i+1) (i+1+j)) ⟨#[]⟩=true by simp[neS,this],decide_eq_false h0]
    rfl
  have hr1:Cn big s=some (bif decide (j=0) then s else s.extract (i+1) (i+1+j)):=by
   unfold Cn
   refine A1 (.inr (bif decide (j=0) then s else s.extract (i+1) (i+1+j))) (fun i=>(i:Int)) i (by unfold big;omega) rfl (fun q hq=>hstep q hq _ _) ?_ rfl
   simp only[Ai]
   rw[ltT (by simp only[lenS];omega),Ef h2]
   simp only[Ai,Ae,Aj,Am,Ak,Al,Ag,Option.some.injEq,h3]
   rw[show neI (123:Int) 123=false by rfl,Am]
   refine A1 (.inr (bif decide (j=0) then s else s.extract (i+1) (i+1+j))) (fun q=>((i+1+q:Nat):Int)) j (by unfold big;omega) (by rw[Ar (by omega) (by omega)];omega) (fun q hq=>?_) ?_ rfl
   ·rw[ltT (by simp only[lenS];omega),Ef (by omega)]
    simp only[Ai,Ae,Aj,Am,Ak,Al,Ag,Option.some.injEq]
    rw[eqF' (k4 q hq),Am,Ar (by omega) (by omega)]
    rfl
   ·rw[ltT (by simp only[lenS];omega),Ef hj]
    simp only[Ai,Ae,Aj,Am,Ak,Al,Ag,Option.some.injEq,k3]
    rw[show eqI (125:Int) 125=true by rfl,Aj,Ar (by omega) (by omega)]
    by_cases h0:j=0
    ·rw[show eqI ((i+1+j:Nat):Int) ((i:Int)+1)=true by simp[eqI];omega,decide_eq_true h0]
     rfl
    ·rw[eqF' (by omega),decide_eq_false h0,Am]
     have:segSlh s ((i:Int)+1) ((i+1+j:Nat):Int)=some (s.extract (i+1) (i+1+j)):=by
      unfold segSlh segS
      rw[if_pos (by omega)]
      rfl
     rw[this]
     rfl
  refine⟨_,hr1,hslot,?_⟩
  cases decide (j=0)
  ·simp only[cond_false];omega
  ·exact Nat.le_refl _
theorem KX {x y:Nat} (hx:x<2 ^ 62) (hy:y<2 ^ 62):xorI .i64 (x:Int) (y:Int)=((x ^^^ y:Nat):Int):=by
 have h:=Nat.xor_lt_two_pow hx hy
 show IntKind.i64.wrap ((BitVec.ofInt 64 (x:Int) ^^^ BitVec.ofInt 64 (y:Int)).toNat:Int)=_
 simp only[BitVec.ofInt_natCast,BitVec.toNat_xor,BitVec.toNat_ofNat]
 rw[Nat.mod_eq_of_lt (show x<2 ^ 64 by omega),Nat.mod_eq_of_lt (show y<2 ^ 64 by omega),wrap64 (by omega) (by omega)]
theorem wrapU16 (a:Int):IntKind.u16.wrap a=a % 65536:=by simp[IntKind.wrap,IntKind.bits,IntKind.signed]
theorem KY {x y:Nat} (hx:x<2 ^ 16) (hy:y<2 ^ 16):xorI .u16 (x:Int) (y:Int)=((x ^^^ y:Nat):Int):=by
 have h:=Nat.xor_lt_two_pow hx hy
 show IntKind.u16.wrap ((BitVec.ofInt 16 (x:Int) ^^^ BitVec.ofInt 16 (y:Int)).toNat:Int)=_
 simp only[BitVec.ofInt_natCast,BitVec.toNat_xor,BitVec.toNat_ofNat]
 rw[Nat.mod_eq_of_lt hx,Nat.mod_eq_of_lt hy,wrapU16]
 omega
theorem NW {x:Nat} (hx:x<2 ^ 62):andI .i64 (x:Int) 65535=((x % 65536:Nat):Int):=by
 have e:(65535:Int)=((65535:Nat):Int):=rfl
 rw[e]
 show IntKind.i64.wrap ((BitVec.ofInt 64 (x:Int) &&& BitVec.ofInt 64 ((65535:Nat):Int)).toNat:Int)=_
 simp only[BitVec.ofInt_natCast,BitVec.toNat_and,BitVec.toNat_ofNat]
 rw[Nat.mod_eq_of_lt (show x<2 ^ 64 by omega),show 65535 % 2 ^ 64=2 ^ 16 - 1 by rfl,Nat.and_two_pow_sub_one_eq_mod,wrap64 (by omega) (by omega)]
def bit1 (c:Nat):Nat:=if 32768≤c then (2*c ^^^ 4129) % 65536 else 2*c
theorem NX {c:Nat} (h:c<65536):bit1 c<65536:=by unfold bit1;split <;> omega
def bits:Nat→Nat→Nat
 |0,c=>c
 |k+1,c=>bit1 (bits k c)
theorem Gv {c:Nat} (h:c<65536):∀ k,bits k c<65536
 |0=>h
 |k+1=>NX (Gv h k)
def byteN (s:ByteArray) (i:Nat):Nat:=(bAt s i).toNat
theorem G6 (s:ByteArray) (i:Nat):bAt s i=(byteN s i:Int)∧byteN s i<256:=by
 unfold byteN bAt
 split
 ·rename_i h
  have:=(s[i]'h).toNat_lt
  omega
 ·exact⟨rfl,by simp⟩
def crcN (s:ByteArray):Nat→Nat
 |0=>0
 |i+1=>bits 8 (crcN s i ^^^ byteN s i*256)
theorem Fs (s:ByteArray):∀ i,crcN s i<65536
 |0=>by simp[crcN]
 |i+1=>by
  have h1:=Fs s i
  have h2:=(G6 s i).2
  exact Gv (Nat.xor_lt_two_pow (n:=16) (by omega) (by omega)) 8
theorem Mv (s:ByteArray) (hs:s.size≤1000000000000):D9 big s=some (crcN s s.size:Int):=by
 unfold D9
 refine A1 (crcN s s.size:Int) (fun i=>((crcN s i:Int),(i:Int))) s.size (by unfold big;omega) rfl (fun i hi=>?_) ?_ rfl
 ·simp only[Ai]
  rw[ltT (by simp only[lenS];omega),Ef hi]
  obtain⟨b1,b2⟩:=G6 s i
  have hc:=Fs s i
  rw[b1]
  simp only[Ai,Ae,Aj,Am,Ak,Al,Ag,Option.some.injEq]
  rw[Dj (by omega) (by omega)]
  have e1:shlI .i64 (byteN s i:Int) 8=some ((byteN s i*256:Nat):Int):=by
   unfold shlI
   rw[if_pos (by omega)]
   simp only[IntKind.bits,show min (8:Int).toNat 64=8 by rfl]
   rw[wrap64 (by omega) (by omega)]
   congr 1
  rw[e1]
  simp only[Ae]
  rw[KX (by omega) (by omega)]
  have hx:crcN s i ^^^ byteN s i*256<65536:=Nat.xor_lt_two_pow (n:=16) (by omega) (by omega)
  have hcs:crcN s (i+1)=bits 8 (crcN s i ^^^ byteN s i*256):=rfl
  rw[hcs]
  clear hcs
  generalize crcN s i ^^^ byteN s i*256=x at hx ⊢
  refine A1 (bits 8 x:Int) (fun k=>((bits k x:Int),(k:Int))) 8 (by unfold big;omega) rfl (fun k hk=>?_) ?_ ?_
  ·simp only
   rw[ltT (by omega),Aj]
   have hb:=Gv hx k
   have e2:shlI .i64 (bits k x:Int) 1=some ((2*bits k x:Nat):Int):=by
    unfold shlI
    rw[if_pos (by omega)]
    simp only[IntKind.bits,show min (1:Int).toNat 64=1 by rfl]
    rw[wrap64 (by omega) (by omega)]
    congr 1
    omega
   rw[e2]
   simp only[Ae]
   have e3:ite' (geI ((2*bits k x:Nat):Int) 65536) (some (andI .i64 (xorI .i64 ((2*bits k x:Nat):Int) 4129) 65535)) (some ((2*bits k x:Nat):Int))=some (bit1 (bits k x):Int):=by
    unfold bit1
    by_cases h:32768≤bits k x
    ·rw[geT (by omega),if_pos h,Aj,show (4129:Int)=((4129:Nat):Int) by rfl,KX (by omega) (by omega)]
     have h2:2*bits k x ^^^ 4129<2 ^ 17:=Nat.xor_lt_two_pow (by omega) (by omega)
     rw[NW (by omega)]
    ·rw[geF (by omega),if_neg h,Am]
   rw[e3]
   simp only[Ae]
   rw[Ar (by omega) (by omega)]
   rfl
  ·simp only
   rw[ltF (by omega)]
   rfl
  ·rw[Ar (by omega) (by omega)]
   rfl
 ·simp only[Ai]
  rw[ltF (by simp only[lenS];omega)]
  rfl
theorem HJ (s:ByteArray):(bytesI s).length=s.size:=by simp[bytesI]
theorem LE (s:ByteArray) (i:Nat) (h:i<(bytesI s).length):(bytesI s)[i]=bAt s i:=by
 rw[FD (by rw[HJ] at h;exact h)]
 simp[bytesI]
theorem Kr (s:ByteArray) (hs:s.size≤1000000000000):De big (bytesI s)=some (crcN s s.size:Int):=by
 unfold De
 have hl:=HJ s
 simp only[Ai]
 refine A1 (crcN s s.size:Int) (fun i=>((crcN s i:Int),(i:Int))) s.size (by unfold big;omega) rfl (fun i hi=>?_) ?_ ?_
 ·simp only
  rw[ltT (by simp only[lenI];omega),Ay (by omega),LE]
  obtain⟨b1,b2⟩:=G6 s i
  have hc:=Fs s i
  rw[b1]
  simp only[Ai,Ae,Aj,Am,Ak,Al,Ag,Option.some.injEq]
  have e0:cvI .u16 (byteN s i:Int)=(byteN s i:Int):=by unfold cvI;rw[wrapU16];omega
  rw[e0]
  have e1:shlI .u16 (byteN s i:Int) 8=some ((byteN s i*256:Nat):Int):=by
   unfold shlI
   rw[if_pos (by omega)]
   simp only[IntKind.bits,show min (8:Int).toNat 16=8 by rfl]
   rw[wrapU16]
   congr 1
   omega
  rw[e1]
  simp only[Ae]
  rw[KY (by omega) (by omega)]
  have hx:crcN s i ^^^ byteN s i*256<65536:=Nat.xor_lt_two_pow (n:=16) (by omega) (by omega)
  have hcs:crcN s (i+1)=bits 8 (crcN s i ^^^ byteN s i*256):=rfl
  rw[hcs]
  clear hcs
  generalize crcN s i ^^^ byteN s i*256=x at hx ⊢
  refine A1 (bits 8 x:Int) (fun k=>((bits k x:Int),(k:Int))) 8 (by unfold big;omega) rfl (fun k hk=>?_) ?_ ?_
  ·simp only
   rw[ltT (by omega),Aj]
   have hb:=Gv hx k
   have e2:shlI .u16 (bits k x:Int) 1=some ((2*bits k x % 65536:Nat):Int):=by
    unfold shlI
    rw[if_pos (by omega)]
    simp only[IntKind.bits,show min (1:Int).toNat 16=1 by rfl]
    rw[wrapU16]
    congr 1
    omega
   have e4:shrI .u16 (bits k x:Int) 15=some ((bits k x / 32768:Nat):Int):=by
    unfold shrI
    rw[if_pos (by omega)]
    simp only[IntKind.bits,show min (15:Int).toNat 16=15 by rfl]
    rw[Int.fdiv_eq_ediv_of_nonneg _ (by omega)]
    rfl
   rw[e2,e4]
   simp only[Ae]
   have e5:mulI .u16 4129 ((bits k x / 32768:Nat):Int)=((4129*(bits k x / 32768):Nat):Int):=by
    unfold mulI
    rw[wrapU16]
    omega
   rw[e5,KY (by omega) (by omega)]
   have e3:(2*bits k x % 65536) ^^^ (4129*(bits k x / 32768))=bit1 (bits k x):=by
    unfold bit1
    by_cases h:32768≤bits k x
    ·rw[if_pos h,show bits k x / 32768=1 by omega]
     have:=@Nat.xor_mod_two_pow (2*bits k x) 4129 16
     rw[show (2:Nat) ^ 16=65536 by rfl] at this
     rw[this]
    ·rw[if_neg h,show bits k x / 32768=0 by omega,Nat.mod_eq_of_lt (by omega),Nat.mul_zero,Nat.xor_zero]
   rw[e3,Ar (by omega) (by omega)]
   rfl
  ·simp only
   rw[ltF (by omega)]
   rfl
  ·rw[Ar (by omega) (by omega)]
   rfl
 ·simp only
  rw[ltF (by simp only[lenI];omega)]
  rfl
 ·have hc:=Fs s s.size
  rw[Dj (by omega) (by omega)]
def slotOf (k:ByteArray):Int:=(Cs big k).getD 0
theorem KZ (k:ByteArray) (h:k.size≤1000000000000):Cs big k=some (slotOf k)∧C5 big k=some (slotOf k):=by
 obtain⟨t,h1,h2,h3⟩:=OM k h
 have hc:=Fs t t.size
 have e:remI .i64 (crcN t t.size:Int) 16384=some (((crcN t t.size) % 16384:Nat):Int):=by
  simp[remI,Int.tmod_eq_emod_of_nonneg]
 have e1:Cs big k=some (((crcN t t.size) % 16384:Nat):Int):=by
  unfold Cs
  rw[h1]
  simp only[Ae]
  rw[Mv t (by omega)]
  simp only[Ae]
  rw[e]
  rfl
 have e2:C5 big k=some (((crcN t t.size) % 16384:Nat):Int):=by
  unfold C5
  rw[h2]
  simp only[Ae]
  rw[AS (by omega) (by omega)]
  simp only[Ai]
  rw[Kr t (by omega)]
  simp only[Ae]
  rw[e]
  rfl
 unfold slotOf
 rw[e1,e2]
 exact⟨rfl,rfl⟩
def inP (l:List Pair) (s:Int):List ByteArray:=(l.filter fun p=>decide (slotOf p.key=s)).map fun p=>p.key
theorem M4 (l:List Pair) (s:Int) (i:Nat) (hi:i<l.length):inP (l.take (i+1)) s=bif decide (slotOf l[i].key=s) then inP (l.take i) s++[l[i].key] else inP (l.take i) s:=by
 rw[← List.take_append_getElem hi]
 unfold inP
 rw[List.filter_append,List.map_append]
 by_cases h:slotOf l[i].key=s
 ·simp[h]
 ·simp[h]
theorem K0 (l:List Pair) (s:Int):(inP l s).length≤l.length:=by
 unfold inP
 rw[List.length_map]
 exact List.length_filter_le _ _
theorem Ks (l:List Pair) (s:Int) (hl:l.length≤1000000000) (hk:∀ p∈l,p.key.size≤1000000000000):Df big l s=some (inP l s):=by
 unfold Df Dn Bo Bg
 have hlen:=K0 l s
 simp only[Ai,Ae,Aj,Am,Ak,Al,Ag,Option.some.injEq]
 have e:∀ x:Option (List ByteArray),x=some (inP l s)→(bn (bn (bn x fun y4=>some y4) fun y1=>chk (room y1.length 1) (some y1)) fun v1=>some v1)=some (inP l s):=by
  rintro x rfl
  simp only[Ai,Ae,Aj,Am,Ak,Al,Ag,Option.some.injEq]
  rw[AS (by omega) (by omega)]
  rfl
 refine (congrArg (fun x=>bn x fun v2=>some v2) (e _ ?_)).trans rfl
 refine JS (fun i=>((i:Int),inP (l.take i) s)) l.length (by unfold big;omega) rfl (fun i hi=>?_) ?_
 ·have hn:=K0 (l.take i) s
  rw[List.length_take] at hn
  simp only[Ai,Ae,Aj,Am,Ak,Al,Ag,Option.some.injEq]
  rw[ltT (by omega),Ay hi]
  simp only[Ai,Ae,Aj,Am,Ak,Al,Ag,Option.some.injEq]
  rw[(KZ _ (hk _ (List.getElem_mem hi))).2]
  simp only[Ai,Ae,Aj,Am,Ak,Al,Ag,Option.some.injEq]
  rw[AS (by omega) (by omega),Ar (by omega) (by omega),M4 l s i hi]
  unfold eqI
  cases decide (slotOf l[i].key=s) <;> rfl
 ·simp only[Ai,Ae,Aj,Am,Ak,Al,Ag,Option.some.injEq]
  rw[ltF (by omega),List.take_length]
  rfl
end Go.Proofs.YtlbdhlbbkibgpaaGreat
namespace Go.Proofs.YtlbdhlbbkibgpaaGreat
open Go Go.RowKit
def keyT (j:Nat):ByteArray:=(AZ big (j:Int)).getD ⟨#[]⟩
theorem NY (n:Int) (h:0≤n) (h2:n≤255):AZ big n=AZ big (n % 20):=by
 unfold AZ
 rw[Bh h (by omega),Bh (show 0≤n % 20 by omega) (by omega),Dj (by omega) (by omega),Dj (show -9223372036854775808≤n % 20 by omega) (by omega)]
 simp only[Ae,Ai]
 rw[H6 h (by omega) (by omega),H6 (show 0≤n % 20 by omega) (by omega) (by omega)]
 simp only[Ae]
 rw[Bh (by omega) (by omega),Bh (show 0≤n % 20 / 4 by omega) (by omega),show n % 20 % 4=n % 4 by omega,show n % 20 / 4 % 5=n / 4 % 5 by omega]
def keysB:Bool:=(List.range 20).all fun j=>(AZ big (j:Int)).isSome && decide ((keyT j).size=4) && decide (slotOf (keyT j)=slotOf (keyT (j % 4)))
theorem M5:keysB=true:=by kernel_rfl
def slotsB:Bool:=(List.range 4).all fun a=>(List.range 4).all fun b=>decide (a=b) || !decide (slotOf (keyT a)=slotOf (keyT b))
theorem H8 {j:Nat} (h:j<20):AZ big (j:Int)=some (keyT j)∧(keyT j).size=4∧slotOf (keyT j)=slotOf (keyT (j % 4)):=by
 have h1:=List.all_eq_true.1 M5 j (List.mem_range.2 h)
 simp only[Bool.and_eq_true,decide_eq_true_eq] at h1
 refine⟨?_,h1.1.2,h1.2⟩
 unfold keyT
 cases h2:AZ big (j:Int) with
 |none=>rw[h2] at h1;simp at h1
 |some v=>rfl
theorem JX (n:Int) (h:0≤n) (h2:n≤255):∃ j:Nat,j<20∧(j:Int)=n % 20∧AZ big n=some (keyT j):=by
 refine⟨(n % 20).toNat,by omega,by omega,?_⟩
 rw[NY n h h2,← (H8 (show (n % 20).toNat<20 by omega)).1]
 congr 1
 omega
def keyed (k:ByteArray):Prop:=∃ j,j<20∧k=keyT j
theorem Mw (l:List Int) (hl:u8s l) (i:Nat) (h:4*i+3<l.length) (e:Effect) (he:effAt l i=some e):keyed e.key∧(e.gone=true→e.item=noI):=by
 have hb0:=hl _ (List.getElem_mem (show 4*i<l.length by omega))
 have hb1:=hl _ (List.getElem_mem (show 4*i+1<l.length by omega))
 unfold effAt at he
 rw[Ay (show 4*i<l.length by omega),Ay (show 4*i+1<l.length by omega)] at he
 simp only[Ae] at he
 obtain⟨j,hj,-,hk⟩:=JX _ hb0.1 hb0.2
 rw[hk,Bh hb1.1 (by omega)] at he
 simp only[Ae] at he
 cases hg:eqI (l[4*i+1] % 4) 0
 ·rw[hg] at he
  obtain⟨y,hy,he⟩:=bnE he
  have he:=Option.some.inj he
  subst he
  rw[show notB false=true from rfl,Aj] at hy
  obtain⟨_,-,hy⟩:=bnE hy
  obtain⟨_,-,hy⟩:=bnE hy
  obtain⟨_,-,hy⟩:=bnE hy
  have hy:=Option.some.inj hy
  subst hy
  exact⟨⟨j,hj,rfl⟩,fun h=>by cases h⟩
 ·rw[hg] at he
  simp only[Cv,Am,Ae,Option.some.injEq] at he
  subst he
  exact⟨⟨j,hj,rfl⟩,fun _=>rfl⟩
def okM (m:List Effect):Prop:=m.length≤40∧∀ e∈m,okI e.item∧keyed e.key∧(e.gone=true→e.item=noI)
theorem JY (l:List Int) (hl:u8s l) (h:l.length≤1000000000):Rn (BQ big l) okM:=by
 refine (JU l hl h).mono fun m hm=>?_
 obtain⟨h1,h2,h3⟩:=hm
 refine⟨by omega,fun e he=>⟨h3 e he,?_⟩⟩
 obtain⟨i,hi,rfl⟩:=List.getElem_of_mem he
 exact Mw l hl i (by omega) _ (by rw[h2 i hi,List.getElem?_eq_getElem hi])
theorem HK (Q:ByteArray→Prop):∀ (es:List Effect) (l:List Pair),(∀ p∈l,Q p.key)→(∀ e∈es,Q e.key)→∀ p∈es.foldl applyP l,Q p.key
 |[],l,h1,_=>h1
 |e::es,l,h1,h2=>by
  refine HK Q es (applyP l e) (fun p hp=>?_) fun x hx=>h2 x (by simp[hx])
  unfold applyP newP at hp
  rcases List.mem_append.1 hp with hp|hp
  ·rcases List.mem_append.1 hp with hp|hp
   ·exact h1 p (List.mem_filter.1 hp).1
   ·split at hp
    ·simp at hp
    ·simp at hp;subst hp;exact h2 e (by simp)
  ·exact h1 p (List.mem_filter.1 hp).1
def setO (k:ByteArray) (o:Option Item) (e:Effect):Option Item:=if e.key=k then (if e.gone then none else some e.item) else o
theorem JZ {l:List Pair} {k:ByteArray}:(rawP l k).isSome=true↔∃ p∈l,p.key=k:=by
 unfold rawP
 rw[Option.isSome_map,List.find?_isSome]
 simp
theorem NZ {l:List Pair} {s:Int} {k:ByteArray}:k∈inP l s↔slotOf k=s∧∃ p∈l,p.key=k:=by
 unfold inP
 simp only[List.mem_map,List.mem_filter,decide_eq_true_eq]
 constructor
 ·rintro⟨p,⟨h1,h2⟩,rfl⟩
  exact⟨h2,p,h1,rfl⟩
 ·rintro⟨h1,p,h2,rfl⟩
  exact⟨p,⟨h2,h1⟩,rfl⟩
def okDB (db:List Pair):Prop:=SrtP db∧okP db∧db.length≤40∧∀ p∈db,keyed p.key
theorem Mx (ns:List Int) (hu:u8s ns) (h:ns.length≤1000000000):Rn (CJ big ns) okDB:=by
 unfold CJ
 refine Rn.bn (JY ns hu h) fun m hm=>?_
 obtain⟨h1,h2⟩:=hm
 have ho:∀ e∈m,okI e.item:=fun e he=>(h2 e he).1
 refine Rn.bnE (LD [] m .nil (by simp[okP]) ho (by simp;omega)) (Rn.some ?_)
 obtain⟨g1,g2,g3⟩:=NV ho
 exact⟨g1,g2,by have:=g3;unfold dbOf at this;omega,HK keyed m [] (by simp) fun e he=>(h2 e he).2.1⟩
theorem LF {k:ByteArray} (h:keyed k):k.size=4:=by
 obtain⟨j,hj,rfl⟩:=h
 exact (H8 hj).2.1
def cntS (f:Nat→Nat):Nat→Nat
 |0=>0
 |k+1=>cntS f k+f k
def hasS (l:List ByteArray) (x:ByteArray):Bool:=l.any fun y=>decide (y=x)
theorem Kt {l:List Pair} {k:ByteArray} {it:Item} (h:SrtP l) (hk:(rawP l k).isSome=true):(applyP l ⟨k,true,it⟩).length+1=l.length:=by
 obtain⟨A,B,C,rfl,hA,hC,hB⟩:=shapeG (key:=Pair.key) k l h
 rw[DP (e:=⟨k,true,it⟩) hA hC hB]
 rw[HI hA hC hB] at hk
 rcases hB with rfl|⟨x,rfl,hx⟩
 ·simp at hk
 ·simp[newP];omega
end Go.Proofs.YtlbdhlbbkibgpaaGreat
namespace Go.Proofs.YtlbdhlbbkibgpaaGreat
open Go Go.RowKit
end Go.Proofs.YtlbdhlbbkibgpaaGreat
namespace Go.Proofs.YtlbdhlbbkibgpaaGreat
open Go Go.RowKit
def risesAt {α:Type} (key:α→ByteArray) (l:List α) (i:Nat):Prop:=∀ (h:0<i) (hi:i<l.length),slt (key l[i - 1]) (key l[i])=true
def rises {α:Type} (key:α→ByteArray) (l:List α):Prop:=l.Pairwise fun a b=>slt (key a) (key b)=true
def okFld (x:Field):Prop:=x.name.size≤300∧x.val.size≤300
def shapeI (it:Item):Prop:=(it.kind=1∧it.f=[]∧it.l=[])∨(it.kind=2∧it.s=⟨#[]⟩∧it.l=[]∧it.f≠[])∨((it.kind=3∨it.kind=4)∧it.s=⟨#[]⟩∧it.f=[]∧it.l≠[])
def sizesI (it:Item):Prop:=it.s.size≤300∧(∀ x∈it.f,okFld x)∧∀ x∈it.l,x.size≤300
def mayI (it:Item):Prop:=shapeI it∧sizesI it∧it.f.length≤40∧it.l.length≤40∧0≤it.exp∧it.exp≤9007199254740992∧rises (fun x:Field=>x.name) it.f∧(it.kind=4→rises (fun x=>x) it.l)
theorem len0 {α:Type} (l:List α):eqI (lenI l) 0=decide (l=[]):=by
 cases l with
 |nil=>rfl
 |cons x l=>rw[decide_eq_false (by simp)];exact decide_eq_false (by simp only[lenI,List.length_cons];omega)
def shapeP (it:Item):Prop:=shapeI it∧it.f.length≤40∧it.l.length≤40∧rises (fun x:Field=>x.name) it.f∧(it.kind=4→rises (fun x=>x) it.l)
def mayP (p:Pair):Prop:=p.key.size≤40∧mayI p.item
def mayS (l:List Pair):Prop:=(∀ p∈l,mayP p)∧SrtP l
end Go.Proofs.YtlbdhlbbkibgpaaGreat
namespace Go.Proofs.YtlbdhlbbkibgpaaGreat
open Go Go.RowKit
def SrtH (l:List Field):Prop:=rises (fun x:Field=>x.name) l
def applyH (l:List Field) (e:Field):List Field:=l.filter (fun p=>slt p.name e.name)++[e]++l.filter (fun p=>slt e.name p.name)
def stepH (e:Field) (a:Bool×List Field) (x:Field):Bool×List Field :=
 let a1:=if a.1=false∧slt x.name e.name=false then (true,a.2++[e]) else a
 if x.name=e.name then a1 else (a1.1,a1.2++[x])
def keepM (kind:Int) (q:Nat) (s:ByteArray) (f:List Field) (l:List ByteArray):Prop :=
 s.size≤40*q∧f.length≤q∧l.length≤q∧(∀ x∈f,okFld x)∧SrtH f∧(∀ x∈l,x.size≤300)∧(kind=4→rises (fun x=>x) l) ∧
 ((kind=1∧f=[]∧l=[])∨(kind=2∧s=⟨#[]⟩∧l=[]∧(0<q→f≠[]))∨((kind=3∨kind=4)∧s=⟨#[]⟩∧f=[]∧(0<q→l≠[])))
def okM2 (m:List Effect):Prop:=okM m∧∀ e∈m,e.gone=false→mayI e.item
end Go.Proofs.YtlbdhlbbkibgpaaGreat
namespace Go.Proofs.YtlbdhlbbkibgpaaGreat
open Go Go.RowKit
structure OkN (n:Node):Prop where
 srt:SrtP n.db
 okd:okP n.db
 dl:n.db.length≤1000
 key:∀ p∈n.db,keyed p.key
 bk:okE n.feed.back
 bl:n.feed.back.length≤64
 cl:n.claims.length≤1000
 mv:n.moves.length≤1000
 sn:n.seen.length≤1000
 vt:n.votes.length≤1000
 hd:n.watch.heard.length≤1000
 sy:n.watch.says.length≤1000
 sz:∀ x∈n.watch.says,x.length≤1000
theorem J0 (i:Item) (h:okI i):A7 big i=some i:=by
 unfold A7
 have h1:=h.1
 have h2:=h.2
 rw[CZ (by omega) (by omega),CZ (by omega) (by omega),AS (by omega) (by omega),AS (by omega) (by omega)]
theorem Gi {α γ:Type} [Inhabited α] (l:List α) (hl:l.length≤1000000000) (f:Int×List α→Option ((Int×List α) ⊕ List α)) (k:List α→Option γ) (r:Option γ)
  (h:∀ i (hi:i<l.length),f ((i:Int),l)=some (.inl ((i:Int)+1,l.set i l[i]))) (he:f ((l.length:Int),l)=some (.inr l)) (hk:k l=r):bn (iter big f (0,l)) k=r:=by
 refine A1 l (fun i=>((i:Int),l)) l.length (by unfold big;omega) rfl (fun i hi=>?_) he hk
 rw[h i hi,List.set_getElem_self]
 exact congrArg (fun z=>some (Sum.inl (z,l))) (by omega)
theorem A6 {α:Type} {c:Nat} {l:List α} {γ:Type} {k:Option γ} (h:l.length≤1000000000) (hc:c≤1000:=by omega):chk (small c l) k=k:=by
 have h3:l.length*c≤1000000000*1000:=Nat.mul_le_mul h hc
 exact CZ (by omega) (by omega)
theorem AX {α:Type} {l:List α} {γ:Type} {k:Option γ} (h:l.length≤1000000000):chk (room l.length 1) k=k:=AS (by omega) (by omega)
theorem My {γ:Type} (l:List Pair) (hl:l.length≤1000000000) (ho:okP l) (k:List Pair→Option γ):bn (iter big (fun (y8:Int×List Pair) =>
  lt (ltI y8.1 (lenI l)) fun v11 =>
  ite' v11 (bn (nth y8.2 y8.1) fun v12 =>
  bn (A7 big v12.item) fun v14 =>
  lt (y8.2.set y8.1.toNat (⟨v12.key,v14⟩:Pair)) fun v16 =>
  lt (addI .i64 y8.1 1) fun v20 =>
  some (.inl (v20,v16))) (some (.inr y8.2))) (0,l)) k=k l:=by
 have:Inhabited Pair:=⟨⟨⟨#[]⟩,noI⟩⟩
 refine Gi l hl _ k _ (fun i hi=>?_) ?_ rfl
 ·simp only[Ai,Ae,Aj,Am,Ak,Al,Ag,Option.some.injEq]
  rw[B1 (by omega),Aj,Ay hi,Ae,J0 _ (ho _ (List.getElem_mem hi)),Ae,Ar (by omega) (by omega)]
  rfl
 ·simp only[Ai,Ae,Aj,Am,Ak,Al,Ag,Option.some.injEq]
  rw[By (by omega),Am]
theorem Mz {γ:Type} (l:List Effect) (ho:okE l) (k:List Effect→Option γ):bn (iter big (fun (y22:Int×List Effect) =>
  lt (ltI y22.1 (lenI l)) fun v25 =>
  ite' v25 (bn (nth y22.2 y22.1) fun v26 =>
  bn (A7 big v26.item) fun v28 =>
  lt (y22.2.set y22.1.toNat (⟨v26.key,v26.gone,v28⟩:Effect)) fun v30 =>
  lt (addI .i64 y22.1 1) fun v34 =>
  some (.inl (v34,v30))) (some (.inr y22.2))) (0,l)) k=k l:=by
 have hl:=ho.1
 have:Inhabited Effect:=⟨⟨⟨#[]⟩,false,noI⟩⟩
 refine Gi l hl _ k _ (fun i hi=>?_) ?_ rfl
 ·simp only[Ai,Ae,Aj,Am,Ak,Al,Ag,Option.some.injEq]
  rw[B1 (by omega),Aj,Ay hi,Ae,J0 _ (ho.2 _ (List.getElem_mem hi)),Ae,Ar (by omega) (by omega)]
  rfl
 ·simp only[Ai,Ae,Aj,Am,Ak,Al,Ag,Option.some.injEq]
  rw[By (by omega),Am]
theorem J1 {γ:Type} (l:List (List Int)) (hl:l.length≤1000000000) (ho:∀ x∈l,x.length≤1000) (k:List (List Int)→Option γ):bn (iter big (fun (y38:Int×List (List Int)) =>
  lt (ltI y38.1 (lenI l)) fun v41 =>
  ite' v41 (bn (nth y38.2 y38.1) fun v42 =>
  chk (small 8 v42) <|
  lt (y38.2.set y38.1.toNat v42) fun v46 =>
  lt (addI .i64 y38.1 1) fun v49 =>
  some (.inl (v49,v46))) (some (.inr y38.2))) (0,l)) k=k l:=by
 refine Gi l hl _ k _ (fun i hi=>?_) ?_ rfl
 ·have h2:=ho _ (List.getElem_mem hi)
  simp only[Ai,Ae,Aj,Am,Ak,Al,Ag,Option.some.injEq]
  rw[B1 (by omega),Aj,Ay hi,Ae,A6 (by omega),Ar (by omega) (by omega)]
  rfl
 ·simp only[Ai,Ae,Aj,Am,Ak,Al,Ag,Option.some.injEq]
  rw[By (by omega),Am]
theorem ON (n:Node) (h:OkN n):CB big n=some n:=by
 have h1:=h.cl
 have h2:=h.mv
 have h3:=h.sn
 have h4:=h.vt
 have h5:=h.dl
 have h6:=h.bl
 have h7:=h.hd
 have h8:=h.sy
 unfold CB
 rw[A6 (by omega),A6 (by omega),A6 (by omega),A6 (by omega),A6 (by omega),A6 (by omega),Ai,My _ (by omega) h.okd,Ai,Mz _ h.bk,A6 (by omega),A6 (by omega),Ai,J1 _ (by omega) h.sz]
 rw[AX (by omega),AX (by omega),AX (by omega),AX (by omega),AX (by omega),AX (by omega),AX (by omega),AX (by omega)]
theorem H9 (n:Node) (h:OkN n):Bp big n=some n:=by
 have h1:=h.cl
 have h2:=h.mv
 have h3:=h.sn
 have h4:=h.vt
 have h5:=h.dl
 have h6:=h.bl
 have h7:=h.hd
 have h8:=h.sy
 unfold Bp
 rw[A6 (by omega),A6 (by omega),A6 (by omega),A6 (by omega),A6 (by omega),A6 (by omega),Ai,My _ (by omega) h.okd,Ai,Mz _ h.bk,A6 (by omega),A6 (by omega),Ai,J1 _ (by omega) h.sz]
 rw[AX (by omega),AX (by omega),AX (by omega),AX (by omega),AX (by omega),AX (by omega),AX (by omega)]
theorem LG (w:Watch) (h:w.heard.length≤1000) (h2:w.says.length≤1000) (h3:∀ x∈w.says,x.length≤1000):B0 big w w=some true:=by
 unfold B0
 simp only[Ai,Ae,Aj,Am,Ak,Al,Ag,Option.some.injEq,Fb _ (show w.heard.length≤1000000000 by omega),Cv,BF]
 refine A1 (.inl ()) (fun i=>(i:Int)) w.says.length (by unfold big;omega) rfl (fun i hi=>?_) ?_ rfl
 ·have h4:=h3 _ (List.getElem_mem hi)
  rw[B1 (by omega)]
  simp only[Ai,Ae,Aj,Am,Ak,Al,Ag,Option.some.injEq,Ay hi,Fb _ (show (w.says[i]).length≤1000000000 by omega),Cv]
  rw[Ar (by omega) (by omega)]
  rfl
 ·rw[By (by omega)];rfl
theorem FM (n:Node) (h:OkN n):BC big n n=some true:=by
 have h1:=h.mv
 have h2:=h.sn
 have h3:=h.cl
 have h4:=h.dl
 have h5:=h.vt
 unfold BC
 simp only[Ai,Ae,Aj,Am,Ak,Al,Ag,Option.some.injEq,BF,I1 _ (show n.claims.length≤1000000000 by omega),G4 _ h.okd (by omega),HH _ h.bk,LG _ h.hd h.sy h.sz,Fb _ (show n.votes.length≤1000000000 by omega)]
 refine A1 (.inl ()) (fun i=>(i:Int)) n.moves.length (by unfold big;omega) rfl (fun i hi=>?_) ?_ ?_
 ·rw[B1 (by omega)]
  simp only[Ai,Ae,Aj,Am,Ak,Al,Ag,Option.some.injEq,Ay hi,ET,FA,Fq,Cv]
  rw[Ar (by omega) (by omega)]
  rfl
 ·rw[By (by omega)];rfl
 simp only[Ai,Ae,Aj,Am,Ak,Al,Ag,Option.some.injEq]
 refine A1 (.inl ()) (fun i=>(i:Int)) n.seen.length (by unfold big;omega) rfl (fun i hi=>?_) ?_ rfl
 ·rw[B1 (by omega)]
  simp only[Ai,Ae,Aj,Am,Ak,Al,Ag,Option.some.injEq,Ay hi,ET,FA,Fq,Cv]
  rw[Ar (by omega) (by omega)]
  rfl
 ·rw[By (by omega)];rfl
def cmpI (a b:Int):Int:=if a<b then -1 else if b<a then 1 else 0
theorem M6 (x:Int):Bu big x=some false:=by
 unfold Bu
 simp[neI,Ai]
theorem LH (a b:Int):Bj big a b=some (cmpI a b):=by
 unfold Bj cmpI
 simp only[M6,Ai,Ae,Aj,Am,Ak,Al,Ag,Option.some.injEq]
 by_cases h:a<b
 ·simp[h,ltI,ite',Ai,Ae,Aj,Am,Ak,Al,Ag,Option.some.injEq]
 ·by_cases h2:b<a <;> simp[h,h2,ltI,gtI,ite',Ai,Ae,Aj,Am,Ak,Al,Ag,Option.some.injEq]
theorem N0 {a b:Int}:cmpI a b<0↔a<b:=by unfold cmpI;split <;> (try split) <;> omega
theorem N1 {a b:Int}:0<cmpI a b↔b<a:=by unfold cmpI;split <;> (try split) <;> omega
theorem N2 {a b:Int}:cmpI a b=0↔a=b:=by unfold cmpI;split <;> (try split) <;> omega
def bsG {α:Type} (cmp:α→Option Int) (a0:List α):Option (Int×Bool) :=
lt (lenI a0) fun v1 =>
bn (iter big (fun (y2:Int×Int) =>
lt (ltI y2.1 y2.2) fun v5 =>
ite' v5 (lt (addI .i64 y2.1 y2.2) fun v6 =>
lt (cvI .u64 v6) fun v7 =>
bn (shrI .u64 v7 1) fun v8 =>
lt (cvI .i64 v8) fun v9 =>
bn (nth a0 v9) fun v10 =>
bn (cmp v10) fun v11 =>
lt (ltI v11 0) fun v12 =>
ite' v12 (lt (addI .i64 v9 1) fun v13 =>
some (.inl (v13,y2.2))) (some (.inl (y2.1,v9)))) (some (.inr y2.1))) (0,v1)) fun (y3:Int) =>
bn (lt (ltI y3 v1) fun v15 =>
ite' v15 (bn (nth a0 y3) fun v16 =>
bn (cmp v16) fun v17 =>
lt (eqI v17 0) fun v18 =>
some (v18)) (some (false))) fun (y14:Bool) =>
some (y3,y14)
theorem OO {α:Type} (cmp:α→Option Int) (c:α→Int) (hc:∀ x,cmp x=some (c x)) (A B C:List α) (hA:∀ a∈A,c a<0) (hC:∀ x∈C,0<c x) (hB:B=[]∨∃ x,B=[x]∧c x=0) (hl:(A++B++C).length≤1000000000) :
  bsG cmp (A++B++C)=some ((A.length:Int),!B.isEmpty):=by
 have hget:∀ i x,(A++B++C)[i]?=some x→decide (c x<0)=decide (i<A.length):=fun i x hx=>by
  rw[List.append_assoc] at hx
  by_cases h:i<A.length
  ·rw[List.getElem?_append_left h] at hx
   simp only[h,decide_true,decide_eq_true_eq]
   exact hA _ (List.mem_of_getElem? hx)
  ·rw[List.getElem?_append_right (by omega)] at hx
   simp only[h,decide_false,decide_eq_false_iff_not]
   rcases List.mem_append.1 (List.mem_of_getElem? hx) with hm|hm
   ·rcases hB with rfl|⟨y,rfl,hy⟩
    ·simp at hm
    ·simp at hm;rw[hm,hy];omega
   ·have:=hC _ hm;omega
 have hB2:(A++B++C)[A.length]?=(B++C)[0]?:=by rw[List.append_assoc,List.getElem?_append_right (Nat.le_refl _),Nat.sub_self]
 have hAL:A.length≤(A++B++C).length:=by simp
 generalize A++B++C=L at hget hB2 hl hAL ⊢
 refine Rn.eq ?_
 unfold bsG
 refine Rn.lt (Rn.bn (P:=fun i=>i=(A.length:Int)) (Rn.iter _ (fun q a=>∃ lo hi:Nat,a=((lo:Int),(hi:Int))∧lo≤A.length∧A.length≤hi∧hi≤L.length∧hi - lo<2 ^ (48 - q)) 48 (by unfold big;omega) ⟨0,L.length,rfl,by omega,hAL,Nat.le_refl _,by omega⟩ fun q a hq hI=>?_) fun i hi=>?_)
 ·obtain⟨lo,hi,rfl,h1,h2,h3,h4⟩:=hI
  refine Rn.lt (Rn.ite (fun hg=>?_) (fun hg=>Rn.some ?_))
  ·have hg:=D3 hg
   simp only at hg
   have hq2:q<48:=by
    apply Nat.lt_of_not_le
    intro h
    have:48 - q=0:=by omega
    rw[this] at h4
    omega
   have e48:48 - q=(48 - (q+1))+1:=by omega
   rw[e48,Nat.pow_succ] at h4
   refine Rn.lt (Rn.lt ?_)
   rw[Ar (by simp only;omega) (by simp only;omega),Mq (by simp only;omega) (by simp only;omega)]
   refine Rn.bnE (shr1 (by simp only;omega)) (Rn.lt ?_)
   rw[Dj (by simp only;omega) (by simp only;omega)]
   have em:((lo:Int)+(hi:Int)) / 2=(((lo+hi) / 2:Nat):Int):=by omega
   simp only
   rw[em]
   have hm:(lo+hi) / 2<L.length:=by omega
   have hge:=hget _ _ (List.getElem?_eq_getElem hm)
   refine Rn.bnE (Ay hm) (Rn.bnE (hc _) (Rn.lt (Rn.ite (fun hc=>Rn.lt (Rn.some ⟨hq2,(lo+hi) / 2+1,hi,?_,?_⟩)) (fun hc=>Rn.some ⟨hq2,lo,(lo+hi) / 2,rfl,?_⟩))))
   ·rw[Ar (by omega) (by omega)]
    exact congrArg (·,(hi:Int)) (by omega)
   ·rw[decide_eq_true (D3 hc)] at hge
    have:=of_decide_eq_true hge.symm
    refine⟨?_,h2,h3,?_⟩ <;> omega
   ·rw[decide_eq_false (show ¬ _ by have:=Ew hc;omega)] at hge
    have:=of_decide_eq_false hge.symm
    refine⟨h1,?_,?_,?_⟩ <;> omega
  ·have hg:=Ew hg
   simp only at hg ⊢
   omega
 ·subst hi
  refine Rn.bn (P:=fun b=>b=!B.isEmpty) ?_ fun b hb=>Rn.some (by rw[hb])
  refine Rn.lt (Rn.ite (fun hg=>?_) (fun hg=>Rn.some ?_))
  ·have hg:=D3 hg
   simp only[lenI] at hg
   have hm:A.length<L.length:=by omega
   refine Rn.bnE (Ay hm) (Rn.bnE (hc _) (Rn.lt (Rn.some ?_)))
   rw[List.getElem?_eq_getElem hm] at hB2
   rcases hB with rfl|⟨y,rfl,hy⟩
   ·have hc:=hC L[A.length] (List.mem_of_getElem? (by simpa using hB2.symm))
    have hne:¬ c L[A.length]=0:=by omega
    simp[eqI,hne]
   ·simp at hB2
    rw[hB2,hy]
    simp[eqI]
  ·have hg:=Ew hg
   simp only[lenI] at hg
   have e:L[A.length]?=none:=List.getElem?_eq_none (by omega)
   rw[e] at hB2
   rcases hB with rfl|⟨y,rfl,hy⟩
   ·rfl
   ·simp at hB2
theorem G7 (A B C:List Move) (s:Int) (hA:∀ a∈A,a.slot<s) (hC:∀ x∈C,s<x.slot) (hB:B=[]∨∃ x,B=[x]∧x.slot=s) (hl:(A++B++C).length≤1000) :
  Ch big (A++B++C) s=some ((A.length:Int),!B.isEmpty):=by
 have h:=OO (fun m:Move=>Bv big m s) (fun m=>cmpI m.slot s) (fun x=>by unfold Bv;rw[LH];rfl) A B C (fun a ha=>N0.2 (hA a ha)) (fun a ha=>N1.2 (hC a ha)) (hB.imp id fun ⟨x,h1,h2⟩=>⟨x,h1,N2.2 h2⟩) (by omega)
 unfold Ch
 rw[show A5 big (A++B++C) s=bsG (fun m:Move=>Bv big m s) (A++B++C) from rfl,h]
 rfl
end Go.Proofs.YtlbdhlbbkibgpaaGreat
namespace Go.Proofs.YtlbdhlbbkibgpaaGreat
open Go Go.RowKit
def nd (id:Int) (db:List Pair):Node:=⟨4,id,-1,1,0,[⟨0,16383,id,1⟩],db,[],0,[],⟨⟨id,0⟩,0,[],⟨0,0⟩,0⟩,⟨[0,0,0,0],[[],[],[],[]]⟩,0,[],0⟩
def newB (id:Int):Bool:=(DK big 4 id 4).any fun v=>decide ({ v with claims:=(nd id []).claims,db:=[] }=nd id [])
theorem N3:(newB 0 && newB 1 && newB 2 && newB 3)=true:=by kernel_rfl
theorem N4 (id:Int) (hid:0≤id∧id≤3) (ns:List Int) (db:List Pair) (hdb:CJ big ns=some db):CK big id ns=some (nd id db):=by
 have h4:newB id=true∧cvI .i64 id=id∧remI .i64 id 4=some id:=by
  have h:=N3
  simp only[Bool.and_eq_true] at h
  have h5:id=0∨id=1∨id=2∨id=3:=by omega
  rcases h5 with rfl|rfl|rfl|rfl
  ·exact⟨h.1.1.1,rfl,rfl⟩
  ·exact⟨h.1.1.2,rfl,rfl⟩
  ·exact⟨h.1.2,rfl,rfl⟩
  ·exact⟨h.2,rfl,rfl⟩
 obtain⟨h1,h2,h3⟩:=h4
 unfold newB at h1
 cases hv:DK big 4 id 4 with
 |none=>rw[hv] at h1;cases h1
 |some v =>
  rw[hv] at h1
  have e:{ v with claims:=(nd id []).claims,db:=[] }=nd id []:=of_decide_eq_true h1
  unfold CK
  rw[h2,Ai,h3,Ae,hv,Ae,hdb,Ae,AS (by omega) (by omega)]
  exact congrArg (fun n:Node=>some (⟨n.count,n.id,n.master,n.epoch,n.voted,[⟨0,16383,n.id,1⟩],db,n.moves,n.last,n.seen,n.feed,n.watch,n.asked,n.votes,n.wait⟩:Node)) e
theorem LI {id:Int} {db:List Pair} (h:okDB db):OkN (nd id db) where
 srt:=h.1
 okd:=h.2.1
 dl:=Nat.le_trans h.2.2.1 (by omega)
 key:=h.2.2.2
 bk:=⟨Nat.zero_le _,fun e he=>absurd he List.not_mem_nil⟩
 bl:=Nat.zero_le _
 cl:=by show 1≤1000;omega
 mv:=Nat.zero_le _
 sn:=Nat.zero_le _
 vt:=Nat.zero_le _
 hd:=by show 4≤1000;omega
 sy:=by show 4≤1000;omega
 sz:=fun x hx=>by
  have:x∈([[],[],[],[]]:List (List Int)):=hx
  simp at this
  subst this
  exact Nat.zero_le _
def slotKB:Bool:=(List.range 20).all fun j=>decide (0≤slotOf (keyT j)) && decide (slotOf (keyT j)<16384)
theorem MA:slotKB=true:=by kernel_rfl
theorem N5 {k:ByteArray} (h:keyed k):0≤slotOf k∧slotOf k<16384:=by
 obtain⟨j,hj,rfl⟩:=h
 have:=List.all_eq_true.1 MA j (List.mem_range.2 hj)
 simp only[Bool.and_eq_true,decide_eq_true_eq] at this
 exact this
theorem OP (n e slot:Int) (h1:0≤slot) (h2:slot<16384):Ce big [⟨0,16383,n,e⟩] slot=some (n,e,true):=by
 unfold Ce
 simp only[Ai,Ae,Aj,Am,Ak,Al,Ag,Option.some.injEq]
 refine A1 (.inr (n,e,true)) (fun i=>(i:Int)) 0 (by unfold big;omega) rfl (fun i hi=>by omega) ?_ rfl
 rw[show ltI ((0:Nat):Int) (([⟨0,16383,n,e⟩]:List Claim).length:Int)=true from rfl,Aj,show nth ([⟨0,16383,n,e⟩]:List Claim) ((0:Nat):Int)=some ⟨0,16383,n,e⟩ from rfl,Ae]
 rw[show leI 0 slot=true from decide_eq_true h1,Aj,Ae,show leI slot 16383=true from decide_eq_true (by omega),Aj]
theorem N6 {α:Type} (A C:List α) (x:α):insL (A++[]++C) A.length x=A++[x]++C:=by
 unfold insL
 rw[List.append_nil,List.take_left',List.drop_left'] <;> simp
theorem M7 (n:Node) (h:OkN n) (hm:n.master=-1) (hc:n.count=4) (slot tt e:Int) (h1:0≤slot) (h2:slot<16384) (h3:0≤tt) (h4:tt<4) (h5:tt≠n.id)
  (hOf:Ce big n.claims slot=some (n.id,e,true)) (A B C:List Move) (hmv:n.moves=A++B++C) (hA:∀ a∈A,a.slot<slot) (hC:∀ x∈C,slot<x.slot) (hB:B=[]∨∃ x,B=[x]∧x.slot=slot) :
  B2 big n slot tt=some (if B=[] then ({ n with moves:=A++[⟨slot,tt,0,⟨#[]⟩⟩]++C },0) else (n,3)):=by
 have hmvl:=h.mv
 have f1:ltI slot 0=false:=By (by omega)
 have f2:geI slot 16384=false:=geF (by omega)
 have f3:ltI tt 0=false:=By (by omega)
 have f4:geI tt n.count=false:=geF (by omega)
 have f5:eqI tt n.id=false:=eqF' h5
 have f6:neI n.master (-1)=false:=by rw[hm];rfl
 unfold B2
 rw[show (⟨n.count,n.id,n.master,n.epoch,n.voted,n.claims,n.db,n.moves,n.last,n.seen,n.feed,n.watch,n.asked,n.votes,n.wait⟩:Node)=n from rfl,H9 n h,Ae]
 simp only[Ai,Ae,Aj,Am,Ak,Al,Ag,Option.some.injEq,f1,f2,f3,f4,f5,f6,hOf,Cv,BF,AX (show n.moves.length≤1000000000 by omega)]
 have hf:=G7 A B C slot hA hC hB (by rw[← hmv];exact hmvl)
 rw[← hmv] at hf
 simp only[hf,Ai,Ae,Aj,Am,Ak,Al,Ag,Option.some.injEq]
 rcases hB with rfl|⟨x,rfl,hx⟩
 ·rw[if_pos rfl]
  have hl:n.moves.length=A.length+C.length:=by rw[hmv];simp
  rw[show (!([]:List Move).isEmpty)=false from rfl,Am,Gt (show insB n.moves (A.length:Int)=true from decide_eq_true (by omega)),show ((A.length:Int)).toNat=A.length from rfl]
  rw[show insL n.moves A.length (⟨slot,tt,0,⟨#[]⟩⟩:Move)=A++[⟨slot,tt,0,⟨#[]⟩⟩]++C by rw[hmv];exact N6 A C _]
  rw[AX (by simp;omega)]
 ·rw[if_neg (by simp)]
  rfl
def giveP (cl:List Claim) (s tt ep:Int):List Claim:=(A9 big cl [⟨s,s⟩] tt ep).getD []
def msgP (n:Node) (m:Move):Msg:=⟨2,n.id,m.to,0,[],[],0,m.slot,m.num,⟨0,0⟩,⟨0,0⟩,0,[⟨m.key,false,(rawP n.db m.key).getD noI⟩]⟩
def relT (n:Node) (m:Move):Node:={ n with epoch:=n.epoch+1,claims:=giveP n.claims m.slot m.to (n.epoch+1) }
def lockT (n:Node):Node:={ n with last:=n.last+1 }
def lockM (n:Node) (m:Move):Move:=⟨m.slot,m.to,n.last+1,(inP n.db m.slot).headD ⟨#[]⟩⟩
def stepT (a:Node×List Move×List Msg) (m:Move):Node×List Move×List Msg :=
 if m.num=0 then
  if inP a.1.db m.slot=[] then (relT a.1 m,a.2.1,a.2.2)
  else (lockT a.1,a.2.1++[lockM a.1 m],a.2.2++[msgP (lockT a.1) (lockM a.1 m)])
 else (a.1,a.2.1++[m],a.2.2++[msgP a.1 m])
def TickP (n:Node):Node×List Msg:=({ (n.moves.foldl stepT (n,[],[])).1 with moves:=(n.moves.foldl stepT (n,[],[])).2.1 },(n.moves.foldl stepT (n,[],[])).2.2)
structure InT (G:Nat→List Claim→Prop) (n:Node) (i:Nat) (a:Node×List Move×List Msg):Prop where
 db:a.1.db=n.db
 l0:n.last≤a.1.last
 l1:a.1.last≤n.last+i
 e0:n.epoch≤a.1.epoch
 e1:a.1.epoch≤n.epoch+i
 g:G i a.1.claims
 m1:a.2.1.length≤i
 m2:a.2.2.length≤i
 same:a.1={ n with last:=a.1.last,epoch:=a.1.epoch,claims:=a.1.claims }
def GiveOk (G:Nat→List Claim→Prop) (l:List Move):Prop:=(∀ i cl,G i cl→G (i+1) cl)∧∀ i cl ep (hi:i<l.length),G i cl→1≤ep→ep≤2000000→A9 big cl [⟨l[i].slot,l[i].slot⟩] l[i].to ep=some (giveP cl l[i].slot l[i].to ep)∧G (i+1) (giveP cl l[i].slot l[i].to ep)
theorem M8 {G:Nat→List Claim→Prop} {n:Node} {i:Nat} {a:Node×List Move×List Msg} (h:InT G n i a) (m:Move) (he:0≤n.epoch∧n.epoch+i≤1500000) (hG0:G (i+1) a.1.claims) (hG:∀ ep,1≤ep→ep≤2000000→G (i+1) (giveP a.1.claims m.slot m.to ep)):InT G n (i+1) (stepT a m):=by
 obtain⟨h1,h2,h3,h4,h5,h6,h7,h8,h9⟩:=h
 unfold stepT
 split
 ·split
  ·refine⟨h1,h2,by show a.1.last≤_;omega,by show n.epoch≤a.1.epoch+1;omega,by show a.1.epoch+1≤_;omega,hG _ (by omega) (by omega),by show a.2.1.length≤_;omega,by show a.2.2.length≤_;omega,?_⟩
   conv=>lhs;unfold relT;rw[h9]
   rfl
  ·refine⟨h1,by show n.last≤a.1.last+1;omega,by show a.1.last+1≤_;omega,h4,by show a.1.epoch≤_;omega,hG0,by simp;omega,by simp;omega,?_⟩
   conv=>lhs;unfold lockT;rw[h9]
   rfl
 ·exact⟨h1,h2,by show a.1.last≤_;omega,h4,by show a.1.epoch≤_;omega,hG0,by simp;omega,by simp;omega,h9⟩
theorem G8 {G:Nat→List Claim→Prop} {n:Node} (he:0≤n.epoch∧n.epoch≤1000000) (hl:n.moves.length≤1000) (g0:G 0 n.claims) (hG:GiveOk G n.moves):∀ i,i≤n.moves.length→InT G n i ((n.moves.take i).foldl stepT (n,[],[]))
 |0,_=>⟨rfl,Int.le_refl _,by show n.last≤_;omega,Int.le_refl _,by show n.epoch≤_;omega,g0,Nat.le_refl _,Nat.le_refl _,rfl⟩
 |i+1,hi=>by
  have ih:=G8 he hl g0 hG i (by omega)
  rw[← List.take_append_getElem (show i<n.moves.length by omega),List.foldl_append]
  exact M8 ih _ (by omega) (hG.1 _ _ ih.g) fun ep h1 h2=>(hG.2 _ _ ep (by omega) ih.g h1 h2).2
theorem MB (n:Node) (m:Move) (h1:SrtP n.db) (h2:okP n.db) (h3:n.db.length≤1000):Dh big n m=some (msgP n m):=by
 unfold Dh
 rw[JV _ _ h1 h2 (by omega),Ae,AS (by omega) (by omega)]
 rfl
theorem N7 (G:Nat→List Claim→Prop) (n:Node) (h:OkN n) (hm:n.master=-1) (hl:0≤n.last∧n.last≤1000000) (he:0≤n.epoch∧n.epoch≤1000000) (g0:G 0 n.claims) (hG:GiveOk G n.moves):Ci big n=some (TickP n):=by
 have hmv:=h.mv
 have hdl:=h.dl
 unfold Ci
 rw[ON n h,Ae,Ai,show neI n.master (-1)=false by rw[hm];rfl,Am]
 rw[show Dp big n.moves=some n.moves from rfl]
 have hfin:=G8 he hmv g0 hG n.moves.length (Nat.le_refl _)
 rw[List.take_length] at hfin
 simp only[Ai,Ae,Aj,Am,Ak,Al,Ag,Option.some.injEq]
 refine congrArg (fun x=>bn x _) (?_:_=some (n.moves.foldl stepT (n,[],[]))) |>.trans ?_
 ·refine Gu n.moves stepT (fun i a=>((i:Int),a.1,a.2.1,a.2.2)) (n,[],[]) (n.moves.foldl stepT (n,[],[])) (by omega) rfl (fun i hi a ha=>?_) ?_ rfl
  ·have hI:=G8 he hmv g0 hG i (by omega)
   rw[← ha] at hI
   obtain⟨h1,h2,h3,h4,h5,h6,h7,h8,h9⟩:=hI
   have hL0:0≤a.1.last:=by omega
   simp only[Ai,Ae,Aj,Am,Ak,Al,Ag,Option.some.injEq]
   rw[B1 (by omega),Aj,Ay hi,Ae,Ar (show -9223372036854775808≤(i:Int)+1 by omega) (by omega),show (i:Int)+1=((i+1:Nat):Int) by omega]
   have hsrt:SrtP a.1.db:=by rw[h1];exact h.srt
   have hok:okP a.1.db:=by rw[h1];exact h.okd
   have hdb:a.1.db.length≤1000:=by rw[h1];exact hdl
   have hky:∀ p∈a.1.db,p.key.size≤1000000000000:=fun p hp=>by
    rw[h1] at hp
    have:=LF (h.key p hp)
    omega
   have hr1:∀ {γ:Type} {k:Option γ},chk (room (a.2.1.length+1) 40) k=k:=AS (by omega) (by omega)
   have hr2:∀ {γ:Type} {k:Option γ},chk (room (a.2.2.length+1) 168) k=k:=AS (by omega) (by omega)
   by_cases hz:(n.moves[i]).num=0
   ·rw[show eqI (n.moves[i]).num 0=true by rw[hz];rfl,Aj,Ks _ _ (by omega) hky,Ae,show eqI ((inP a.1.db (n.moves[i]).slot).length:Int) 0=decide (inP a.1.db (n.moves[i]).slot=[]) from len0 _]
    by_cases hin:inP a.1.db (n.moves[i]).slot=[]
    ·rw[decide_eq_true hin,Aj]
     have hg:=hG.2 i a.1.claims (a.1.epoch+1) hi h6 (by omega) (by omega)
     rw[show BY big a.1 n.moves[i]=some (relT a.1 n.moves[i]) from ?_]
     ·simp only[Ai,Ae,Aj,Am,Ak,Al,Ag,Option.some.injEq,Al]
      rw[stepT,if_pos hz,if_pos hin]
     ·unfold BY
      rw[Ar (by omega) (by omega),Ai,AS (by omega) (by omega),hg.1]
      rfl
    ·rw[decide_eq_false hin,Am,Ar (by omega) (by omega)]
     obtain⟨k,ks,hks⟩:=List.exists_cons_of_ne_nil hin
     rw[hks,show nth (k::ks) 0=some k from rfl]
     simp only[Ai,Ae,Aj,Am,Ak,Al,Ag,Option.some.injEq,Ak,hr1,hr2]
     have hmsg:=MB (lockT a.1) ⟨(n.moves[i]).slot,(n.moves[i]).to,a.1.last+1,k⟩ hsrt hok hdb
     unfold lockT at hmsg
     rw[hmsg]
     rw[stepT,if_pos hz,if_neg hin]
     simp only[Ai,Ae,Aj,Am,Ak,Al,Ag,Option.some.injEq,hr2]
     unfold lockM
     rw[hks]
     rfl
   ·rw[eqF' hz,Am]
    simp only[Ai,Ae,Aj,Am,Ak,Al,Ag,Option.some.injEq,Ak,hr1,hr2]
    rw[MB _ _ hsrt hok hdb]
    rw[stepT,if_neg hz]
    simp only[Ai,Ae,Aj,Am,Ak,Al,Ag,Option.some.injEq,hr2]
  ·simp only[Ai,Ae,Aj,Am,Ak,Al,Ag,Option.some.injEq]
   rw[By (by omega),Am]
 ·have m1:=hfin.m1
  have m2:=hfin.m2
  rw[Ae,AX (by omega),AX (by omega)]
  rfl
def goneE (k:ByteArray):Effect:=⟨k,true,noI⟩
theorem M9 (k:ByteArray):okI (goneE k).item:=Mr
theorem LJ (n:Node) (h:OkN n) (e:Effect) (he:okI e.item) (f:Node→List Effect→Option Node) (hf:f=B8 big∨f=Ed big):f n [e]=some { n with db:=applyP n.db e,feed:=addF n.feed [e] }:=by
 have h1:=h.dl
 have h2:=h.bl
 have ha:=H7 n.db [e] h.srt h.okd (fun x hx=>by simp at hx;subst hx;exact he) (by simp;omega)
 have hb:=M1 n.feed [e] h.bk ⟨by simp,fun x hx=>by simp at hx;subst hx;exact he⟩ (by simp;omega)
 rcases hf with rfl|rfl
 ·unfold B8
  rw[ha,Ae,hb,Ae]
  rfl
 ·unfold Ed
  rw[ha,Ae,hb,Ae]
  rfl
def AckedP (n:Node) (A:List Move) (x:Move) (C:List Move):Node:={ n with db:=applyP n.db (goneE x.key),feed:=addF n.feed [goneE x.key],moves:=A++[⟨x.slot,x.to,0,⟨#[]⟩⟩]++C }
theorem K1 {α:Type} (A C:List α) (x y:α):(A++[x]++C).set A.length y=A++[y]++C:=by
 rw[List.append_assoc,List.append_assoc,List.set_append_right _ _ (Nat.le_refl _),Nat.sub_self]
 rfl
theorem Gw {α:Type} (A C:List α) (x:α):nth (A++[x]++C) (A.length:Int)=some x:=by
 rw[Gq,List.append_assoc,List.getElem?_append_right (Nat.le_refl _),Nat.sub_self]
 rfl
theorem FE (n:Node) (h:OkN n) (m:Msg) (A B C:List Move) (hmv:n.moves=A++B++C) (hA:∀ a∈A,a.slot<m.slot) (hC:∀ x∈C,m.slot<x.slot) (hB:B=[]∨∃ x,B=[x]∧x.slot=m.slot∧(x.num<1∨x.num≠m.num∨x.to≠m.frm)) :
  A8 big n m=some n:=by
 have hl:=h.mv
 have hf:=G7 A B C m.slot hA hC (hB.imp id fun ⟨x,h1,h2,_⟩=>⟨x,h1,h2⟩) (by rw[← hmv];exact hl)
 unfold A8
 rw[H9 n h,Ae,AX (by omega),hmv,hf,← hmv,Ae]
 rcases hB with rfl|⟨x,rfl,hx,hx2⟩
 ·simp only[Ai,Ae,Aj,Am,Ak,Al,Ag,Option.some.injEq]
  rw[show notB (!([]:List Move).isEmpty)=true from rfl]
  simp only[Ai,Ae,Aj,Am,Ak,Al,Ag,Option.some.injEq]
  exact AX (by omega)
 ·rw[show notB (!([x]:List Move).isEmpty)=false from rfl]
  simp only[Ai,Ae,Aj,Am,Ak,Al,Ag,Option.some.injEq]
  rw[show nth n.moves (A.length:Int)=some x by rw[hmv];exact Gw A C x]
  simp only[Ai,Ae,Aj,Am,Ak,Al,Ag,Option.some.injEq]
  refine Rn.eq (Rn.bn (P:=fun b=>b=true) ?_ fun b hb=>?_)
  ·refine Rn.ite (fun _=>Rn.some rfl) fun h1=>Rn.ite (fun _=>Rn.some rfl) fun h2=>Rn.some ?_
   have h1:=Ew h1
   have h2:x.num=m.num:=by
    apply Classical.byContradiction
    intro hne
    rw[neT hne] at h2
    cases h2
   rcases hx2 with h3|h3|h3
   ·omega
   ·exact absurd h2 h3
   ·exact neT h3
  ·subst hb
   rw[Aj,AX (by omega)]
   exact Rn.some rfl
theorem MC (n:Node) (h:OkN n) (m:Msg) (A C:List Move) (x:Move) (hmv:n.moves=A++[x]++C) (hA:∀ a∈A,a.slot<m.slot) (hC:∀ y∈C,m.slot<y.slot) (h1:x.slot=m.slot) (h2:1≤x.num) (h3:x.num=m.num) (h4:x.to=m.frm) :
  A8 big n m=some (AckedP n A x C):=by
 have hl:=h.mv
 have hf:=G7 A [x] C m.slot hA hC (.inr ⟨x,rfl,h1⟩) (by rw[← hmv];exact hl)
 have hl2:(A++[x]++C).length≤1000:=by rw[← hmv];exact hl
 unfold A8
 rw[H9 n h,Ae,AX (by omega),hmv,hf,Ae]
 rw[show notB (!([x]:List Move).isEmpty)=false from rfl]
 simp only[Ai,Ae,Aj,Am,Ak,Al,Ag,Option.some.injEq]
 rw[Gw A C x]
 simp only[Ai,Ae,Aj,Am,Ak,Al,Ag,Option.some.injEq]
 rw[By (by omega),Am,h3,BF,Am,h4,BF]
 simp only[Ai,Ae,Aj,Am,Ak,Al,Ag,Option.some.injEq]
 rw[show (⟨x.key,true,(⟨0,⟨#[]⟩,[],[],0⟩:Item)⟩:Effect)=goneE x.key from rfl,LJ n h _ (M9 _) _ (.inl rfl)]
 simp only[Ai,Ae,Aj,Am,Ak,Al,Ag,Option.some.injEq]
 rw[hmv,Gw A C x]
 simp only[Ai,Ae,Aj,Am,Ak,Al,Ag,Option.some.injEq]
 rw[show ((A.length:Int)).toNat=A.length from rfl,K1,Gw]
 simp only[Ai,Ae,Aj,Am,Ak,Al,Ag,Option.some.injEq]
 rw[K1,AX (by simp at hl2 ⊢;omega)]
 rfl
end Go.Proofs.YtlbdhlbbkibgpaaGreat
namespace Go.Proofs.YtlbdhlbbkibgpaaGreat
open Go Go.RowKit
section
variable {β:Type}
def fnP:List (Int×Int×β)→Int→Option β
 |[],_=>none
 |p::l,s=>if p.1≤s∧s≤p.2.1 then some p.2.2 else fnP l s
def canP:List (Int×Int×β)→Prop
 |[]=>True
 |[p]=>p.1≤p.2.1
 |p::q::l=>p.1≤p.2.1∧p.2.1<q.1∧¬ (p.2.1+1=q.1∧p.2.2=q.2.2)∧canP (q::l)
theorem canP.head {p:Int×Int×β} {l:List (Int×Int×β)} (h:canP (p::l)):p.1≤p.2.1:=by
 cases l with
 |nil=>exact h
 |cons q l=>exact h.1
theorem canP.tail {p:Int×Int×β} {l:List (Int×Int×β)} (h:canP (p::l)):canP l:=by
 cases l with
 |nil=>trivial
 |cons q l=>exact h.2.2.2
theorem canP.lt {p:Int×Int×β}:∀ {l:List (Int×Int×β)},canP (p::l)→∀ q∈l,p.2.1<q.1
 |[],_,q,hq=>by simp at hq
 |r::l,h,q,hq=>by
  rcases List.mem_cons.1 hq with rfl|hq
  ·exact h.2.1
  ·have h1:=canP.lt h.2.2.2 q hq
   have h2:=canP.head h.2.2.2
   have h3:=h.2.1
   omega
theorem C1 {l:List (Int×Int×β)} {s:Int} (h:∀ p∈l,¬ (p.1≤s∧s≤p.2.1)):fnP l s=none:=by
 induction l with
 |nil=>rfl
 |cons p l ih =>
  simp only[fnP]
  rw[if_neg (h p (by simp)),ih fun q hq=>h q (by simp[hq])]
theorem Dz {p:Int×Int×β} {l:List (Int×Int×β)} (h:canP (p::l)) {s:Int} (hs:s≤p.2.1):fnP l s=none :=
 C1 fun q hq hc=>by have:=h.lt q hq;omega
theorem BG {p:Int×Int×β} {l:List (Int×Int×β)} {s:Int} (h1:p.1≤s) (h2:s≤p.2.1):fnP (p::l) s=some p.2.2:=by
 simp only[fnP]
 rw[if_pos ⟨h1,h2⟩]
theorem Ck {p:Int×Int×β} {l:List (Int×Int×β)} {s:Int} (h:¬ (p.1≤s∧s≤p.2.1)):fnP (p::l) s=fnP l s:=by
 simp only[fnP]
 rw[if_neg h]
theorem G9:∀ {l m:List (Int×Int×β)},canP l→canP m→(∀ s,fnP l s=fnP m s)→l=m
 |[],[],_,_,_=>rfl
 |[],q::m,_,hm,h=>by
  have:=h q.1
  rw[BG (Int.le_refl _) hm.head] at this
  simp[fnP] at this
 |p::l,[],hl,_,h=>by
  have:=h p.1
  rw[BG (Int.le_refl _) hl.head] at this
  simp[fnP] at this
 |p::l,q::m,hl,hm,h=>by
  have hp:=hl.head
  have hq:=hm.head
  have e1:p.1=q.1:=by
   rcases Int.lt_trichotomy p.1 q.1 with hlt|he|hgt
   ·exfalso
    have:=h p.1
    rw[BG (Int.le_refl _) hp,Ck (by omega),Dz hm (by omega)] at this
    simp at this
   ·exact he
   ·exfalso
    have:=h q.1
    rw[BG (p:=q) (Int.le_refl _) hq,Ck (by omega),Dz hl (by omega)] at this
    simp at this
  have e2:p.2.2=q.2.2:=by
   have:=h p.1
   rw[BG (Int.le_refl _) hp,BG (by omega) (by omega)] at this
   exact Option.some.inj this
  have key:∀ {p q:Int×Int×β} {l m:List (Int×Int×β)},canP (p::l)→canP (q::m)→(∀ s,fnP (p::l) s=fnP (q::m) s)→p.1=q.1→p.2.2=q.2.2→¬ p.2.1<q.2.1:=by
   intro p q l m hl hm h e1 e2 hlt
   have hp:=hl.head
   have:=h (p.2.1+1)
   rw[Ck (by omega),BG (p:=q) (by omega) (by omega)] at this
   cases l with
   |nil=>simp[fnP] at this
   |cons r l =>
    have hr:=hl.2.1
    have hr2:=canP.head hl.2.2.2
    rcases Decidable.em (p.2.1+1=r.1) with e|e
    ·rw[BG (by omega) (by omega)] at this
     have:=Option.some.inj this
     exact hl.2.2.1 ⟨e,by rw[e2,this]⟩
    ·rw[Ck (by omega),Dz hl.2.2.2 (by omega)] at this
     simp at this
  have e3:p.2.1=q.2.1:=by
   have a:=key hl hm h e1 e2
   have b:=key hm hl (fun s=>(h s).symm) e1.symm e2.symm
   omega
  have e4:p=q:=Prod.ext e1 (Prod.ext e3 e2)
  subst e4
  rw[G9 hl.tail hm.tail fun s=>?_]
  rcases Decidable.em (s≤p.2.1) with hs|hs
  ·rw[Dz hl hs,Dz hm hs]
  ·have:=h s
   rwa [Ck (by omega),Ck (by omega)] at this
theorem FF (l m:List (Int×Int×β)) (s:Int):fnP (l++m) s=match fnP l s with|some v=>some v|none=>fnP m s:=by
 induction l with
 |nil=>rfl
 |cons p l ih =>
  simp only[List.cons_append,fnP]
  split
  ·rfl
  ·exact ih
theorem Gj:∀ {l:List (Int×Int×β)} {p:Int×Int×β},canP l→p.1≤p.2.1→(∀ q,l.getLast?=some q→q.2.1<p.1∧¬ (q.2.1+1=p.1∧q.2.2=p.2.2))→canP (l++[p])
 |[],p,_,hp,_=>hp
 |[q],p,hq,hp,h=>by
  obtain⟨h1,h2⟩:=h q rfl
  exact⟨hq,h1,h2,hp⟩
 |q::r::l,p,hl,hp,h=>by
  refine⟨hl.1,hl.2.1,hl.2.2.1,?_⟩
  exact Gj (l:=r::l) hl.2.2.2 hp fun x hx=>h x (by rw[List.getLast?_cons_cons];exact hx)
theorem ID:∀ {l:List (Int×Int×β)} {p:Int×Int×β},canP (l++[p])→canP l∧p.1≤p.2.1∧(∀ q,l.getLast?=some q→q.2.1<p.1∧¬ (q.2.1+1=p.1∧q.2.2=p.2.2))
 |[],p,h=>⟨trivial,h,fun q hq=>by simp at hq⟩
 |[q],p,h=>by
  refine⟨h.1,h.2.2.2,fun x hx=>?_⟩
  simp at hx
  subst hx
  exact⟨h.2.1,h.2.2.1⟩
 |q::r::l,p,h=>by
  have h':canP ((r::l)++[p]):=h.2.2.2
  obtain⟨a,b,c⟩:=ID h'
  exact⟨⟨h.1,h.2.1,h.2.2.1,a⟩,b,fun x hx=>c x (by rw[List.getLast?_cons_cons] at hx;exact hx)⟩
structure BdP (at_:Int) (out:List (Int×Int×β)) (f:Int→Option β):Prop where
 can:canP out
 pos:∀ p∈out,p.2.1<at_
 fn:∀ s,s<at_→fnP out s=f s
def putP [DecidableEq β] (l:List (Int×Int×β)) (p:Int×Int×β):List (Int×Int×β) :=
 match l.getLast? with
 |some q=>if q.2.1+1=p.1∧q.2.2=p.2.2 then l.dropLast++[(q.1,p.2.1,q.2.2)] else l++[p]
 |none=>[p]
theorem BdP.skip {a b:Int} {out:List (Int×Int×β)} {f:Int→Option β} (h:BdP a out f) (hab:a≤b) (hf:∀ s,a≤s→s<b→f s=none):BdP b out f:=by
 refine⟨h.can,fun p hp=>by have:=h.pos p hp;omega,fun s hs=>?_⟩
 rcases Decidable.em (s<a) with h1|h1
 ·exact h.fn s h1
 ·rw[hf s (by omega) hs]
  exact C1 fun p hp hc=>by have:=h.pos p hp;omega
theorem BdP.put [DecidableEq β] {a b:Int} {v:β} {out:List (Int×Int×β)} {f:Int→Option β} (h:BdP a out f) (hab:a≤b) (hf:∀ s,a≤s→s≤b→f s=some v):BdP (b+1) (putP out (a,b,v)) f:=by
 have hcan:=h.can
 unfold putP
 split
 ·rename_i q hq
  obtain⟨l,hl⟩:=List.getLast?_eq_some_iff.1 hq
  subst hl
  have hqp:=h.pos q (by simp)
  obtain⟨c1,c2,c3⟩:=ID hcan
  split
  ·rename_i hc
   obtain⟨g1,g2⟩:=hc
   rw[List.dropLast_concat]
   refine⟨Gj c1 (by simp only at g1 ⊢;omega) (fun x hx=>?_),?_,?_⟩
   ·exact c3 x hx
   ·intro p hp
    rcases List.mem_append.1 hp with hp|hp
    ·have:=h.pos p (by simp[hp])
     omega
    ·simp at hp
     subst hp
     simp only
     omega
   ·intro s hs
    rw[FF]
    rcases Decidable.em (s<a) with h1|h1
    ·have:=h.fn s h1
     rw[← this,FF]
     cases fnP l s with
     |some w=>rfl
     |none =>
      simp only[fnP]
      simp only at g1
      rcases Decidable.em (q.1≤s∧s≤q.2.1) with h2|h2
      ·rw[if_pos h2,if_pos ⟨h2.1,by omega⟩]
      ·rw[if_neg h2,if_neg (by omega)]
    ·rw[hf s (by omega) (by omega)]
     have:fnP l s=none:=C1 fun p hp hc=>by have:=h.pos p (by simp[hp]);omega
     rw[this]
     simp only[fnP]
     simp only at g1 g2
     rw[if_pos ⟨by omega,by omega⟩,g2]
  ·rename_i hc
   refine⟨Gj hcan hab fun x hx=>?_,?_,?_⟩
   ·rw[hq] at hx
    have:=Option.some.inj hx
    subst this
    exact⟨hqp,hc⟩
   ·intro p hp
    rcases List.mem_append.1 hp with hp|hp
    ·have:=h.pos p hp
     omega
    ·simp at hp
     subst hp
     simp only
     omega
   ·intro s hs
    rw[FF]
    rcases Decidable.em (s<a) with h1|h1
    ·rw[h.fn s h1]
     cases f s with
     |some w=>rfl
     |none =>
      simp only[fnP]
      rw[if_neg (by omega)]
    ·rw[hf s (by omega) (by omega)]
     have:fnP (l++[q]) s=none:=C1 fun p hp hc=>by have:=h.pos p hp;omega
     rw[this]
     simp only[fnP]
     rw[if_pos ⟨by omega,by omega⟩]
 ·rename_i hn
  have:out=[]:=List.getLast?_eq_none_iff.1 hn
  subst this
  refine⟨hab,?_,?_⟩
  ·intro p hp
   simp at hp
   subst hp
   simp only
   omega
  ·intro s hs
   simp only[fnP]
   rcases Decidable.em (s<a) with h1|h1
   ·have:=h.fn s h1
    rw[if_neg (by omega),← this]
    rfl
   ·rw[if_pos ⟨by omega,by omega⟩,hf s (by omega) (by omega)]
theorem BdP.nil {a:Int} {f:Int→Option β} (hf:∀ s,s<a→f s=none):BdP a [] f:=⟨trivial,fun p hp=>by simp at hp,fun s hs=>by rw[hf s hs];rfl⟩
theorem BdP.ext {a b:Int} {l m:List (Int×Int×β)} {f:Int→Option β} (hl:BdP a l f) (hm:BdP b m f) (hf:∀ s,a≤s∨b≤s→f s=none):l=m:=by
 refine G9 hl.can hm.can fun s=>?_
 have h1:fnP l s=f s:=by
  rcases Decidable.em (s<a) with h|h
  ·exact hl.fn s h
  ·rw[hf s (.inl (by omega))]
   exact C1 fun p hp hc=>by have:=hl.pos p hp;omega
 have h2:fnP m s=f s:=by
  rcases Decidable.em (s<b) with h|h
  ·exact hm.fn s h
  ·rw[hf s (.inr (by omega))]
   exact C1 fun p hp hc=>by have:=hm.pos p hp;omega
 rw[h1,h2]
theorem Ha {s:Int}:∀ {l:List (Int×Int×β)},(∀ p∈l,s+1≠p.1∧s+1≠p.2.1+1)→fnP l (s+1)=fnP l s
 |[],_=>rfl
 |p::l,h=>by
  have h1:=h p (by simp)
  have ih:=Ha (l:=l) fun q hq=>h q (by simp[hq])
  simp only[fnP]
  rcases Decidable.em (p.1≤s∧s≤p.2.1) with h2|h2
  ·rw[if_pos h2,if_pos (by omega)]
  ·rw[if_neg h2,ih]
   rcases Decidable.em (p.1≤s+1∧s+1≤p.2.1) with h3|h3
   ·omega
   ·rw[if_neg h3]
end
end Go.Proofs.YtlbdhlbbkibgpaaGreat
namespace Go.Proofs.YtlbdhlbbkibgpaaGreat
open Go Go.RowKit
theorem Rn.eqv {α:Type} {m:Option α} {v:α} (h:Rn m (·=v)):m=Option.some v:=by
 obtain⟨w,h1,rfl⟩:=h
 exact h1
theorem le_t {a b:Int} (h:a≤b):leI a b=true:=decide_eq_true h
theorem le_f {a b:Int} (h:b<a):leI a b=false:=decide_eq_false (by omega)
theorem gt_t {a b:Int} (h:b<a):gtI a b=true:=decide_eq_true h
theorem eq_t {a b:Int} (h:a=b):eqI a b=true:=decide_eq_true h
theorem eq_f {a b:Int} (h:a≠b):eqI a b=false:=decide_eq_false h
def SM (m:List Int):Prop:=m.Pairwise (·<·)∧∀ x∈m,0≤x∧x≤16384
theorem SM.nil:SM []:=⟨List.Pairwise.nil,fun x hx=>by simp at hx⟩
def cP (c:Claim):Int×Int×(Int×Int):=(c.frm,c.to,(c.node,c.epoch))
def fC (l:List Claim) (s:Int):Option (Int×Int):=fnP (l.map cP) s
def inB (x:Int):Prop:=-1000000≤x∧x≤1000000
end Go.Proofs.YtlbdhlbbkibgpaaGreat
namespace Go.Proofs.YtlbdhlbbkibgpaaGreat
open Go Go.RowKit
section
variable {β:Type}
def FinP (out:List (Int×Int×β)) (f:Int→Option β):Prop:=canP out∧∀ s,fnP out s=f s
theorem FinP.ext {l m:List (Int×Int×β)} {f g:Int→Option β} (hl:FinP l f) (hm:FinP m g) (h:∀ s,f s=g s):l=m:=G9 hl.1 hm.1 fun s=>by rw[hl.2,hm.2,h]
def Stp (m:List Int) (f:Int→Option β):Prop:=(∀ s,s+1 ∉ m→f (s+1)=f s)∧∀ s,s<0∨16384≤s→f s=none
theorem Stp.const {m:List Int} {f:Int→Option β} (h:Stp m f) {a s:Int} (h1:a≤s) (h2:∀ x∈m,¬ (a<x∧x≤s)):f s=f a:=by
 obtain⟨n,hn⟩:=Int.eq_ofNat_of_zero_le (show 0≤s - a by omega)
 have key:∀ k:Nat,k≤n→f (a+k)=f a:=by
  intro k
  induction k with
  |zero=>intro _;simp
  |succ k ih =>
   intro hk
   have e:a+((k+1:Nat):Int)=(a+k)+1:=by omega
   rw[e,h.1 (a+k) (fun hmem=>h2 _ hmem (by omega)),ih (by omega)]
 have:=key n (Nat.le_refl _)
 rwa [← hn,show a+(s - a)=s by omega] at this
theorem Stp.first {m:List Int} {f:Int→Option β} (h:Stp m f) (hm:SM m) (hl:0<m.length):BdP m[0] [] f:=by
 refine BdP.nil fun s hs=>?_
 rcases Decidable.em (s<0) with h0|h0
 ·exact h.2 s (.inl h0)
 ·rw[h.const (a:=-1) (by omega) fun x hx hc=>?_]
  ·exact h.2 _ (.inl (by omega))
  ·obtain⟨i,hi,rfl⟩:=List.mem_iff_getElem.1 hx
   rcases Nat.eq_zero_or_pos i with rfl|hp
   ·omega
   ·have:=List.pairwise_iff_getElem.1 hm.1 0 i hl hi hp
    omega
theorem Stp.next [DecidableEq β] {m:List Int} {f:Int→Option β} (h:Stp m f) (hm:SM m) {j:Nat} (hj:j+1<m.length) {out:List (Int×Int×β)} (hb:BdP m[j] out f) :
  (f m[j]=none→BdP m[j+1] out f)∧∀ v,f m[j]=some v→BdP m[j+1] (putP out (m[j],m[j+1] - 1,v)) f:=by
 have hlt:=List.pairwise_iff_getElem.1 hm.1 j (j+1) (by omega) hj (by omega)
 have hc:∀ s,m[j]≤s→s<m[j+1]→f s=f m[j]:=by
  intro s h1 h2
  refine h.const h1 fun x hx hc=>?_
  obtain⟨i,hi,rfl⟩:=List.mem_iff_getElem.1 hx
  rcases Nat.lt_trichotomy i j with h3|rfl|h3
  ·have:=List.pairwise_iff_getElem.1 hm.1 i j hi (by omega) h3
   omega
  ·omega
  ·rcases Nat.eq_or_lt_of_le h3 with h4|h4
   ·subst h4
    have h5:m[j.succ]=m[j+1]:=rfl
    omega
   ·have:=List.pairwise_iff_getElem.1 hm.1 (j+1) i hj hi h4
    omega
 refine⟨fun hn=>hb.skip (by omega) fun s h1 h2=>by rw[hc s h1 h2,hn],fun v hv=>?_⟩
 have:=hb.put (b:=m[j+1] - 1) (v:=v) (by omega) fun s h1 h2=>by rw[hc s h1 (by omega),hv]
 rwa [show m[j+1] - 1+1=m[j+1] by omega] at this
theorem Stp.last {m:List Int} {f:Int→Option β} (h:Stp m f) (hm:SM m) {j:Nat} (hj:j<m.length) (hl:m.length≤j+1) {out:List (Int×Int×β)} (hb:BdP m[j] out f):FinP out f:=by
 refine⟨hb.can,fun s=>?_⟩
 rcases Decidable.em (s<m[j]) with h1|h1
 ·exact hb.fn s h1
 ·have e:f s=none:=by
   rcases Decidable.em (16384≤s) with h2|h2
   ·exact h.2 s (.inr h2)
   ·have:=h.const (a:=s) (s:=16384) (by omega) fun x hx hc=>by
     obtain⟨i,hi,rfl⟩:=List.mem_iff_getElem.1 hx
     rcases Nat.eq_or_lt_of_le (show i≤j by omega) with h3|h3
     ·subst h3
      omega
     ·have:=List.pairwise_iff_getElem.1 hm.1 i j hi hj h3
      omega
    rw[← this]
    exact h.2 _ (.inr (Int.le_refl _))
  rw[e]
  exact C1 fun p hp hc=>by have:=hb.pos p hp;omega
theorem Stp.none {f:Int→Option β} (h:Stp [] f):FinP ([]:List (Int×Int×β)) f:=by
 refine⟨trivial,fun s=>?_⟩
 rcases Decidable.em (s<0) with h0|h0
 ·rw[h.2 s (.inl h0)];rfl
 ·rw[h.const (a:=-1) (by omega) (fun x hx=>by simp at hx),h.2 _ (.inl (by omega))];rfl
end
def sP (x:Span):Int×Int×Unit:=(x.frm,x.to,())
def inS (l:List Span) (s:Int):Prop:=(0≤s∧s<16384)∧∃ x∈l,x.frm≤s∧s≤x.to
instance (l:List Span) (s:Int):Decidable (inS l s):=by unfold inS;infer_instance
def fS (p:Int→Prop) [DecidablePred p] (s:Int):Option Unit:=if p s then some () else none
theorem Stp.inS {m:List Int} {l:List Span} (h0:(0:Int)∈m) (h1:(16384:Int)∈m) (h:∀ x∈l,x.frm≤x.to→(0≤x.frm∧x.frm≤16384→x.frm∈m)∧(x.to<16384→0≤x.to+1→x.to+1∈m)):∀ s,s+1 ∉ m→(Go.Proofs.YtlbdhlbbkibgpaaGreat.inS l (s+1)↔Go.Proofs.YtlbdhlbbkibgpaaGreat.inS l s):=by
 intro s hs
 have n0:s+1≠0:=fun e=>hs (e ▸ h0)
 have n1:s+1≠16384:=fun e=>hs (e ▸ h1)
 unfold Go.Proofs.YtlbdhlbbkibgpaaGreat.inS
 constructor
 ·rintro⟨a,x,hx,b,c⟩
  refine⟨by omega,x,hx,?_,by omega⟩
  rcases Decidable.em (x.frm≤s) with h2|h2
  ·exact h2
  ·exfalso
   have e:x.frm=s+1:=by omega
   have:=(h x hx (by omega)).1 (by omega)
   rw[e] at this
   exact hs this
 ·rintro⟨a,x,hx,b,c⟩
  refine⟨by omega,x,hx,by omega,?_⟩
  rcases Decidable.em (s+1≤x.to) with h2|h2
  ·exact h2
  ·exfalso
   have e:x.to=s:=by omega
   have:=(h x hx (by omega)).2 (by omega) (by omega)
   rw[e] at this
   exact hs this
end Go.Proofs.YtlbdhlbbkibgpaaGreat
namespace Go.Proofs.YtlbdhlbbkibgpaaGreat
open Go Go.RowKit
theorem N8 {p:Int→Prop} [DecidablePred p] {s:Int} (h:¬ p s):fS p s=none:=if_neg h
theorem N9 {p:Int→Prop} [DecidablePred p] {s:Int} (h:p s):fS p s=some ():=if_pos h
end Go.Proofs.YtlbdhlbbkibgpaaGreat
namespace Go.Proofs.YtlbdhlbbkibgpaaGreat
open Go Go.RowKit
section
variable {β:Type}
theorem FG:∀ {l:List (Int×Int×β)} {p:Int×Int×β},canP l→p∈l→(p.1≤p.2.1∧∀ s,p.1≤s→s≤p.2.1→fnP l s=some p.2.2)
 |[],p,_,hp=>by simp at hp
 |q::l,p,h,hp=>by
  rcases List.mem_cons.1 hp with rfl|hp
  ·exact⟨h.head,fun s h1 h2=>BG h1 h2⟩
  ·obtain⟨h1,h2⟩:=FG h.tail hp
   have h3:=h.lt p hp
   exact⟨h1,fun s g1 g2=>by rw[Ck (by omega),h2 s g1 g2]⟩
theorem Hb:∀ {l:List (Int×Int×β)} {a b:Int},canP l→(∀ p∈l,a≤p.1∧p.2.1≤b)→a≤b+1→(l.length:Int)≤b+1 - a
 |[],a,b,_,_,h=>by simp;omega
 |p::l,a,b,hc,hp,h=>by
  have h1:=hp p (by simp)
  have h2:=hc.head
  have:=Hb (a:=p.2.1+1) (b:=b) hc.tail (fun q hq=>⟨by have:=hc.lt q hq;omega,(hp q (by simp[hq])).2⟩) (by omega)
  simp
  omega
end
def RngC (l:List Claim):Prop:=∀ c∈l,0≤c.frm∧c.frm≤c.to∧c.to≤16383∧0≤c.node∧1≤c.epoch
def GoodC (l:List Claim):Prop:=canP (l.map cP)∧RngC l
def Tells (f:Int→Option (Int×Int)):Prop:=∀ s v,f s=some v→(0≤s∧s≤16383)∧0≤v.1∧1≤v.2
theorem FinP.good {l:List Claim} {f:Int→Option (Int×Int)} (h:FinP (l.map cP) f) (ht:Tells f):GoodC l:=by
 refine⟨h.1,fun c hc=>?_⟩
 obtain⟨h1,h2⟩:=FG h.1 (List.mem_map_of_mem hc)
 have a:=ht c.frm _ ((h.2 _).symm.trans (h2 c.frm (Int.le_refl _) h1))
 have b:=ht c.to _ ((h.2 _).symm.trans (h2 c.to h1 (Int.le_refl _)))
 have h1':c.frm≤c.to:=h1
 have e1:(cP c).2.2.1=c.node:=rfl
 have e2:(cP c).2.2.2=c.epoch:=rfl
 rw[e1,e2] at a
 exact⟨a.1.1,h1',b.1.2,a.2.1,a.2.2⟩
theorem GoodC.tells {l:List Claim} (h:GoodC l):Tells (fC l):=by
 intro s v hv
 have key:∀ l:List Claim,RngC l→fC l s=some v→(0≤s∧s≤16383)∧0≤v.1∧1≤v.2:=by
  intro l
  induction l with
  |nil=>intro _ h;simp[fC,fnP] at h
  |cons c l ih =>
   intro hr hf
   have hc:=hr c (by simp)
   rcases Decidable.em (c.frm≤s∧s≤c.to) with h1|h1
   ·have:fC (c::l) s=some (c.node,c.epoch):=BG (p:=cP c) h1.1 h1.2
    rw[this] at hf
    have:=Option.some.inj hf
    subst this
    exact⟨by omega,hc.2.2.2.1,hc.2.2.2.2⟩
   ·have:fC (c::l) s=fC l s:=Ck (p:=cP c) h1
    rw[this] at hf
    exact ih (fun x hx=>hr x (by simp[hx])) hf
 exact key l h.2 hv
theorem GoodC.len {l:List Claim} (h:GoodC l):l.length≤16384:=by
 have:=Hb (a:=0) (b:=16383) h.1 (fun p hp=>by
  obtain⟨c,hc,rfl⟩:=List.mem_map.1 hp
  have:=h.2 c hc
  exact⟨this.1,this.2.2.1⟩) (by omega)
 simp at this
 omega
theorem GoodC.fin {l:List Claim} (h:GoodC l):FinP (l.map cP) (fC l):=⟨h.1,fun _=>rfl⟩
theorem GoodC.step {l:List Claim} (h:GoodC l) {m:List Int} (hm:∀ c∈l,c.frm∈m∧c.to+1∈m):∀ s,s+1 ∉ m→fC l (s+1)=fC l s:=by
 intro s hs
 refine Ha fun p hp=>?_
 obtain⟨c,hc,rfl⟩:=List.mem_map.1 hp
 obtain⟨h1,h2⟩:=hm c hc
 exact⟨fun e=>hs (by rw[e];exact h1),fun e=>hs (by rw[e];exact h2)⟩
def giveF (f:Int→Option (Int×Int)) (p:Int→Prop) [DecidablePred p] (v:Int×Int) (s:Int):Option (Int×Int):=if p s then some v else f s
theorem Nu {l:List Span} {s:Int}:fnP (l.map sP) s=fS (fun s=>∃ x∈l,x.frm≤s∧s≤x.to) s:=by
 induction l with
 |nil=>rw[N8 (by simp)];rfl
 |cons x l ih =>
  rcases Decidable.em (x.frm≤s∧s≤x.to) with h|h
  ·rw[N9 ⟨x,by simp,h⟩]
   exact BG (p:=sP x) h.1 h.2
  ·have:fnP ((x::l).map sP) s=fnP (l.map sP) s:=Ck (p:=sP x) h
   rw[this,ih]
   unfold fS
   have:(∃ y∈x::l,y.frm≤s∧s≤y.to)↔(∃ y∈l,y.frm≤s∧s≤y.to):=by
    constructor
    ·rintro⟨y,hy,h2⟩
     rcases List.mem_cons.1 hy with rfl|hy
     ·exact absurd h2 h
     ·exact⟨y,hy,h2⟩
    ·rintro⟨y,hy,h2⟩
     exact⟨y,by simp[hy],h2⟩
   simp only[this]
def SaysS (l:List Span) (p:Int→Prop) [DecidablePred p]:Prop:=FinP (l.map sP) (fS p)
theorem SaysS.iff {l:List Span} {p:Int→Prop} [DecidablePred p] (h:SaysS l p) (s:Int):(∃ x∈l,x.frm≤s∧s≤x.to)↔p s:=by
 have:=h.2 s
 rw[Nu] at this
 unfold fS at this
 constructor
 ·intro h1
  rw[if_pos h1] at this
  rcases Decidable.em (p s) with h2|h2
  ·exact h2
  ·rw[if_neg h2] at this
   simp at this
 ·intro h1
  rw[if_pos h1] at this
  rcases Decidable.em (∃ x∈l,x.frm≤s∧s≤x.to) with h2|h2
  ·exact h2
  ·rw[if_neg h2] at this
   simp at this
theorem SaysS.rng {l:List Span} {p:Int→Prop} [DecidablePred p] (h:SaysS l p) (hp:∀ s,p s→0≤s∧s≤16383):∀ x∈l,0≤x.frm∧x.frm≤x.to∧x.to≤16383:=by
 intro x hx
 obtain⟨h1,-⟩:=FG h.1 (List.mem_map_of_mem hx)
 have h1':x.frm≤x.to:=h1
 have a:=hp x.frm ((h.iff _).1 ⟨x,hx,Int.le_refl _,h1'⟩)
 have b:=hp x.to ((h.iff _).1 ⟨x,hx,h1',Int.le_refl _⟩)
 omega
theorem SaysS.len {l:List Span} {p:Int→Prop} [DecidablePred p] (h:SaysS l p) (hp:∀ s,p s→0≤s∧s≤16383):l.length≤16384:=by
 have:=Hb (a:=0) (b:=16383) h.1 (fun q hq=>by
  obtain⟨c,hc,rfl⟩:=List.mem_map.1 hq
  have:=h.rng hp c hc
  exact⟨this.1,this.2.2⟩) (by omega)
 simp at this
 omega
theorem Ia {l:List Span}:∀ s,inS l s→0≤s∧s≤16383:=fun s h=>by have:=h.1;omega
theorem SaysS.inS {l:List Span} {p:Int→Prop} [DecidablePred p] (h:SaysS l p) (hp:∀ s,p s→0≤s∧s≤16383) (s:Int):Go.Proofs.YtlbdhlbbkibgpaaGreat.inS l s↔p s:=by
 unfold Go.Proofs.YtlbdhlbbkibgpaaGreat.inS
 rw[h.iff]
 constructor
 ·exact fun h=>h.2
 ·intro h1
  have:=hp s h1
  exact⟨by omega,h1⟩
theorem SaysS.step {l:List Span} {p:Int→Prop} [DecidablePred p] (h:SaysS l p) {m:List Int} (hm:∀ x∈l,x.frm∈m∧x.to+1∈m):∀ s,s+1 ∉ m→(p (s+1)↔p s):=by
 intro s hs
 have:fnP (l.map sP) (s+1)=fnP (l.map sP) s:=Ha fun q hq=>by
  obtain⟨c,hc,rfl⟩:=List.mem_map.1 hq
  obtain⟨h1,h2⟩:=hm c hc
  exact⟨fun e=>hs (by rw[e];exact h1),fun e=>hs (by rw[e];exact h2)⟩
 rw[h.2,h.2] at this
 unfold fS at this
 constructor
 ·intro h1
  rw[if_pos h1] at this
  rcases Decidable.em (p s) with h2|h2
  ·exact h2
  ·rw[if_neg h2] at this
   simp at this
 ·intro h1
  rw[if_pos h1] at this
  rcases Decidable.em (p (s+1)) with h2|h2
  ·exact h2
  ·rw[if_neg h2] at this
   simp at this
end Go.Proofs.YtlbdhlbbkibgpaaGreat
namespace Go.Proofs.YtlbdhlbbkibgpaaGreat
open Go Go.RowKit
theorem BdP.fin {β:Type} {a:Int} {out:List (Int×Int×β)} {f:Int→Option β} (h:BdP a out f) (hf:∀ s,a≤s→f s=none):FinP out f:=by
 refine⟨h.can,fun s=>?_⟩
 rcases Decidable.em (s<a) with h1|h1
 ·exact h.fn s h1
 ·rw[hf s (by omega)]
  exact C1 fun p hp hc=>by have:=h.pos p hp;omega
theorem BdP.rng {a:Int} {out:List Claim} {f:Int→Option (Int×Int)} (h:BdP a (out.map cP) f) (hf:∀ s,s<0→f s=none):∀ x∈out,0≤x.frm∧x.frm≤x.to∧x.to<a:=by
 intro x hx
 have a1:x.to<a:=h.pos _ (List.mem_map_of_mem hx)
 obtain⟨a2,a3⟩:=FG h.can (List.mem_map_of_mem hx)
 have a5:x.frm≤x.to:=a2
 have a6:=h.fn x.frm (by omega)
 rw[a3 x.frm (Int.le_refl _) a5] at a6
 refine⟨?_,a5,a1⟩
 rcases Decidable.em (x.frm<0) with h1|h1
 ·rw[hf x.frm h1] at a6
  simp at a6
 ·omega
def valC (c:Claim):Option (Int×Int):=if c.epoch=0 then none else some (c.node,c.epoch)
theorem GoodC.tail {c:Claim} {l:List Claim} (h:GoodC (c::l)):GoodC l:=⟨canP.tail (p:=cP c) h.1,fun x hx=>h.2 x (by simp[hx])⟩
structure NextC (l:List Claim) (at_:Int) (c:Claim) (r:List Claim):Prop where
 frm:c.frm=at_
 le:at_≤c.to
 last:c.to≤16383
 val:∀ s,at_≤s→s≤c.to→fC l s=valC c
 good:GoodC r
 rest:∀ s,at_≤s→fC r s=fC l s
 num:0≤c.node∧0≤c.epoch∧(c.epoch=0→c.node=0)
theorem K2 {l:List Claim} {at_:Int} (hl:GoodC l) (h0:0≤at_∧at_≤16383):Rn (BR big l at_) fun r=>NextC l at_ r.1 r.2:=by
 unfold BR
 have hlen:=hl.len
 refine Rn.bn (P:=fun r=>GoodC r∧(∀ s,at_≤s→fC r s=fC l s)∧∀ c t,r=c::t→at_≤c.to) (Rn.iter _ (fun j r=>r=l.drop j∧GoodC r∧∀ s,at_≤s→fC r s=fC l s) l.length (by unfold big;omega) ⟨by simp,hl,fun s _=>rfl⟩ fun j r hj hI=>?_) fun r hr=>?_
 ·obtain⟨hd,hg,hf⟩:=hI
  cases r with
  |nil=>exact Rn.bnE (v:=false) rfl (Rn.lt (Rn.ite (fun h=>by simp at h) fun _=>Rn.some ⟨hg,hf,fun c t h=>by simp at h⟩))
  |cons c t =>
   have hjl:j<l.length:=by
    rcases Nat.lt_or_ge j l.length with h|h
    ·exact h
    ·rw[List.drop_eq_nil_of_le h] at hd
     simp at hd
   have ht:t=l.drop (j+1):=by
    rw[List.drop_eq_getElem_cons hjl] at hd
    exact (List.cons.inj hd).2
   refine Rn.bnE (v:=ltI c.to at_) ?_ (Rn.lt (Rn.ite (fun h=>?_) fun h=>?_))
   ·simp only[Ai]
    rw[gt_t (by rw[Ag];simp),Aj]
    rfl
   ·have h1:c.to<at_:=of_decide_eq_true h
    refine Rn.bnE (v:=t) ?_ (Rn.some ⟨hjl,ht,hg.tail,fun s hs=>?_⟩)
    ·have:=G3 (l:=c::t) (i:=1) (by simp)
     exact this
    ·rw[← hf s hs]
     exact (Ck (p:=cP c) fun hc=>by have h2:s≤c.to:=hc.2;omega).symm
   ·have h1:=of_decide_eq_false (p:=c.to<at_) h
    refine Rn.some ⟨hg,hf,fun c' t' he=>?_⟩
    rw[← (List.cons.inj he).1]
    omega
 ·obtain⟨hg,hf,hh⟩:=hr
  cases r with
  |nil =>
   refine Rn.bnE (v:=⟨at_,16383,0,0⟩) rfl (Rn.some ⟨rfl,h0.2,Int.le_refl _,fun s h1 h2=>?_,hg,hf,by simp⟩)
   rw[← hf s h1]
   rfl
  |cons c t =>
   have hc:=hg.2 c (by simp)
   have ht:=hh c t rfl
   have hn:nth (c::t) 0=some c:=rfl
   rcases Decidable.em (c.frm≤at_) with h1|h1
   ·refine Rn.bnE (v:=⟨at_,c.to,c.node,c.epoch⟩) ?_ (Rn.some ⟨rfl,ht,hc.2.2.1,fun s g1 g2=>?_,hg,hf,?_⟩)
    ·refine Rn.eqv (Rn.bnE (v:=true) ?_ (Rn.lt (Rn.ite (fun _=>Rn.bnE hn (Rn.some rfl)) fun h=>by simp at h)))
     simp only[Ai]
     rw[gt_t (by rw[Ag];simp),Aj,hn]
     simp only[Ae]
     rw[le_t h1]
    ·rw[← hf s g1]
     have g2':s≤c.to:=g2
     have:fC (c::t) s=some (c.node,c.epoch):=BG (p:=cP c) (show c.frm≤s by omega) g2'
     rw[this]
     unfold valC
     rw[if_neg (show ¬ c.epoch=0 by omega)]
    ·exact⟨hc.2.2.2.1,by have:=hc.2.2.2.2;show (0:Int)≤c.epoch;omega,fun h=>by have:=hc.2.2.2.2;have h':c.epoch=0:=h;omega⟩
   ·refine Rn.bnE (v:=⟨at_,c.frm - 1,0,0⟩) ?_ (Rn.some ⟨rfl,by show at_≤c.frm - 1;omega,by show c.frm - 1≤16383;omega,fun s g1 g2=>?_,hg,hf,by simp⟩)
    ·refine Rn.eqv (Rn.bnE (v:=false) ?_ (Rn.lt (Rn.ite (fun h=>by simp at h) fun _=>Rn.lt (Rn.lt (Rn.ite (fun _=>Rn.bnE hn (Rn.lt (Rn.some ?_))) fun h=>?_)))))
     ·simp only[Ai]
      rw[gt_t (by rw[Ag];simp),Aj,hn]
      simp only[Ae]
      rw[le_f (by omega)]
     ·rw[Fp (by omega) (by omega)]
     ·have:gtI (lenI (c::t)) 0=true:=gt_t (by rw[Ag];simp)
      rw[this] at h
      simp at h
    ·rw[← hf s g1]
     have g2':s≤c.frm - 1:=g2
     have e1:fC (c::t) s=fC t s:=Ck (p:=cP c) fun hc2=>by have h2:c.frm≤s:=hc2.1;omega
     rw[e1]
     exact Dz (p:=cP c) hg.1 (show s≤c.to by omega)
theorem OQ {l:List Claim} {c:Claim} (hl:l.length≤1000000) (hb:∀ x∈l,inB x.to) (hc:inB c.frm):Rn (Bw big l c) fun m=>m.map cP=(if c.epoch=0 then l.map cP else putP (l.map cP) (cP c))∧m.length≤l.length+1:=by
 unfold Bw
 refine Rn.bn (P:=fun m=>m.map cP=(if c.epoch=0 then l.map cP else putP (l.map cP) (cP c))∧m.length≤l.length+1) (Rn.lt (Rn.lt (Rn.ite (fun h=>?_) fun h=>?_))) fun m hm=>Rn.some hm
 ·have he:c.epoch=0:=of_decide_eq_true h
  exact Rn.some ⟨by rw[if_pos he],by omega⟩
 ·have he:c.epoch≠0:=of_decide_eq_false h
  rw[if_neg he]
  rcases Decidable.em (l=[]) with rfl|hne
  ·refine Rn.bnE (v:=false) rfl (Rn.lt (Rn.ite (fun h=>by simp at h) fun _=>Rn.chk rfl (Rn.lt (Rn.some ⟨rfl,by simp⟩))))
  ·obtain⟨k,x,rfl⟩:∃ k x,l=k++[x]:=⟨l.dropLast,l.getLast hne,(List.dropLast_concat_getLast hne).symm⟩
   have hx:=hb x (by simp)
   unfold inB at hx hc
   have e1:subI .i64 (lenI (k++[x])) 1=((k.length:Nat):Int):=by
    rw[Ag,Fp (by omega) (by omega)]
    simp
   have hk:k.length<(k++[x]).length:=by simp
   have hn:nth (k++[x]) ((k.length:Nat):Int)=some x:=by rw[Ay hk];simp
   have hm:putP ((k++[x]).map cP) (cP c)=if x.to+1=c.frm∧(x.node,x.epoch)=(c.node,c.epoch) then k.map cP++[(x.frm,c.to,(x.node,x.epoch))] else (k++[x]).map cP++[cP c]:=by
    unfold putP
    rw[List.map_append,show [x].map cP=[cP x] from rfl,List.getLast?_concat]
    simp only[List.dropLast_concat]
    rfl
   rw[hm]
   have ht:B7 big x c=some (decide (x.to+1=c.frm∧(x.node,x.epoch)=(c.node,c.epoch))):=by
    unfold B7
    simp only[Ai]
    rw[Ar (by omega) (by omega)]
    rcases Decidable.em (x.to+1=c.frm) with h1|h1
    ·rw[eq_t h1,Aj]
     rcases Decidable.em (x.node=c.node) with h2|h2
     ·rw[eq_t h2,Aj]
      simp[eqI,h1,h2,Ae]
     ·rw[eq_f h2,Am]
      simp[h2,Ae]
    ·rw[eq_f h1,Am]
     simp[h1,Ae]
   refine Rn.bnE (v:=decide (x.to+1=c.frm∧(x.node,x.epoch)=(c.node,c.epoch))) ?_ (Rn.lt (Rn.ite (fun h=>?_) fun h=>?_))
   ·simp only[Ai]
    rw[gt_t (by rw[Ag];simp),Aj,e1,hn]
    simp only[Ae]
    rw[ht]
    rfl
   ·have hq:=of_decide_eq_true h
    rw[if_pos hq]
    refine Rn.lt ?_
    rw[e1]
    refine Rn.bnE hn (Rn.lt (Rn.some ⟨?_,by simp⟩))
    rw[Int.toNat_natCast,List.set_append_right _ _ (by omega),Nat.sub_self]
    simp[cP]
   ·have hq:=of_decide_eq_false h
    rw[if_neg hq]
    exact Rn.chk (by simp[room];simp at hl;omega) (Rn.lt (Rn.some ⟨by simp,by simp⟩))
def epo:Option (Int×Int)→Int
 |some v=>v.2
 |none=>0
def nod:Option (Int×Int)→Int
 |some v=>v.1
 |none=>0
def joinV (x y:Option (Int×Int)):Option (Int×Int):=if epo y<epo x∨(epo x=epo y∧nod y<nod x) then x else y
def joinF (f g:Int→Option (Int×Int)) (s:Int):Option (Int×Int):=joinV (f s) (g s)
theorem Tells.none {f:Int→Option (Int×Int)} (h:Tells f) {s:Int} (hs:s<0∨16384≤s):f s=Option.none:=by
 cases hf:f s with
 |none=>rfl
 |some v=>exact absurd (h s v hf).1 (by omega)
theorem Na {out:List Claim} {f:Int→Option (Int×Int)} {a b:Int} {c:Claim} (h:BdP a (out.map cP) f) (ht:Tells f) (ho:out.length≤1000000) (ha:0≤a∧a≤16384) (h1:c.frm=a) (h2:c.to=b) (h3:a≤b)
  (hv:∀ s,a≤s→s≤b→f s=valC c):Rn (Bw big out c) fun m=>BdP (b+1) (m.map cP) f∧m.length≤out.length+1:=by
 have hr:=h.rng fun s hs=>ht.none (.inl hs)
 refine (OQ ho (fun x hx=>by have:=hr x hx;unfold inB;omega) (by unfold inB;omega)).mono fun m hm=>⟨?_,hm.2⟩
 rw[hm.1]
 split
 ·rename_i he
  exact h.skip (by omega) fun s g1 g2=>by rw[hv s g1 (by omega),valC,if_pos he]
 ·rename_i he
  have:=h.put (b:=b) (v:=(c.node,c.epoch)) h3 fun s g1 g2=>by rw[hv s g1 g2,valC,if_neg he]
  rwa [show cP c=(a,b,(c.node,c.epoch)) by rw[← h1,← h2];rfl]
end Go.Proofs.YtlbdhlbbkibgpaaGreat
namespace Go.Proofs.YtlbdhlbbkibgpaaGreat
open Go Go.RowKit
def SortableS (l:List Span):Prop:=∃ s:Int,l=[⟨s,s⟩]∧0≤s∧s≤16383
theorem SaysS.of {l:List Span} {p:Int→Prop} [DecidablePred p] (h:canP (l.map sP)) (hp:∀ t,(∃ x∈l,x.frm≤t∧t≤x.to)↔p t):SaysS l p:=by
 refine⟨h,fun s=>?_⟩
 rw[Nu]
 unfold fS
 simp only[hp s]
theorem Nb (x:Span):AY big [x]=some [x]:=by
 unfold AY
 rw[Ai,Ai,show D2 big (cvI .u64 (lenI [x]))=some 1 by
  rw[show lenI [x]=1 from rfl]
  kernel_rfl,Ae]
 rfl
theorem Nc (s:Int) (h1:0≤s) (h2:s≤16383):CD big [⟨s,s⟩]=some [⟨s,s⟩]:=by
 unfold CD
 rw[Ai]
 refine A1 [⟨s,s⟩] (fun i=>((i:Int),([⟨s,s⟩]:List Span).take i)) 1 (by unfold big;omega) rfl (fun i hi=>?_) ?_ ?_
 ·obtain rfl:i=0:=by omega
  simp only[Ai,Ae,Aj,Am,Ak,Al,Ag,Option.some.injEq]
  rw[show ltI ((0:Nat):Int) (([⟨s,s⟩]:List Span).length:Int)=true from rfl,Aj,show nth ([⟨s,s⟩]:List Span) ((0:Nat):Int)=some ⟨s,s⟩ from rfl,Ae]
  rw[show maxI s 0=s by show max s 0=s;omega,show minI s 16383=s by show min s 16383=s;omega,show leI s s=true from decide_eq_true (Int.le_refl _),Aj]
  rfl
 ·rfl
 ·rw[Nb,Ae]
  rfl
theorem Nd (s:Int) (h1:0≤s) (h2:s≤16383):B3 big [⟨s,s⟩]=some [⟨s,s⟩]:=by
 unfold B3
 rw[Nc s h1 h2,Ae,Ai]
 refine A1 [⟨s,s⟩] (fun i=>((i:Int),([⟨s,s⟩]:List Span).take i)) 1 (by unfold big;omega) rfl (fun i hi=>?_) rfl rfl
 obtain rfl:i=0:=by omega
 rfl
theorem Nf {l:List Span} (hl:SortableS l):Rn (B3 big l) fun r=>SaysS r (inS l)∧r.length≤l.length:=by
 obtain⟨s,rfl,h1,h2⟩:=hl
 refine⟨_,Nd s h1 h2,SaysS.of (Int.le_refl s) (fun t=>?_),Nat.le_refl _⟩
 unfold inS
 constructor
 ·rintro⟨x,hx,h3,h4⟩
  simp at hx
  subst hx
  simp only at h3 h4
  exact⟨⟨by omega,by omega⟩,_,List.mem_singleton.2 rfl,h3,h4⟩
 ·exact fun h=>h.2
theorem GN {f:Int→Option (Int×Int)} {p:Int→Prop} [DecidablePred p] {v:Int×Int} (hf:Tells f) (hp:∀ s,p s→0≤s∧s≤16383) (h1:0≤v.1) (h2:1≤v.2):Tells (giveF f p v):=by
 intro s w h
 unfold giveF at h
 split at h
 ·rename_i hps
  have:=Option.some.inj h
  subst this
  exact⟨hp s hps,h1,h2⟩
 ·exact hf s w h
theorem Ng {l:List Span} {v:Int×Int} (s:Int):fnP (l.map fun x=>(x.frm,x.to,v)) s=(fnP (l.map sP) s).map fun _=>v:=by
 induction l with
 |nil=>rfl
 |cons x l ih =>
  simp only[List.map_cons,fnP,sP]
  split
  ·rfl
  ·exact ih
theorem IE {v:Int×Int}:∀ {l:List Span},canP (l.map sP)→canP (l.map fun x=>(x.frm,x.to,v))
 |[],_=>trivial
 |[x],h=>h
 |x::y::l,h=>⟨h.1,h.2.1,fun hc=>h.2.2.1 ⟨hc.1,rfl⟩,IE (l:=y::l) h.2.2.2⟩
theorem MD {l:List Span} {nd ep:Int}:(l.map fun x=>(⟨x.frm,x.to,nd,ep⟩:Claim)).map cP=l.map fun x=>(x.frm,x.to,(nd,ep)):=by
 rw[List.map_map]
 rfl
theorem LK {l:List Span} {p:Int→Prop} [DecidablePred p] (h:SaysS l p) (hp:∀ s,p s→0≤s∧s≤16383) {nd ep:Int} (h1:0≤nd) (h2:1≤ep) :
  GoodC (l.map fun x=>(⟨x.frm,x.to,nd,ep⟩:Claim))∧∀ s,fC (l.map fun x=>(⟨x.frm,x.to,nd,ep⟩:Claim)) s=if p s then some (nd,ep) else none:=by
 have hr:=h.rng hp
 refine⟨⟨by rw[MD];exact IE h.1,fun c hc=>?_⟩,fun s=>?_⟩
 ·obtain⟨x,hx,rfl⟩:=List.mem_map.1 hc
  have:=hr x hx
  exact⟨this.1,this.2.1,this.2.2,h1,h2⟩
 ·unfold fC
  rw[MD,Ng,h.2 s]
  unfold fS
  split <;> rfl
theorem Nh {a:List Claim} {l:List Span} {nd ep:Int} (ha:GoodC a) (hl:SortableS l) (h1:0≤nd) (h2:1≤ep) :
  Rn (A9 big a l nd ep) fun r=>FinP (r.map cP) (giveF (fC a) (inS l) (nd,ep)):=by
 have hl12:l.length≤1000000:=by obtain⟨s,rfl,_⟩:=hl;simp
 have ht:Tells (giveF (fC a) (inS l) (nd,ep)):=GN ha.tells Ia h1 h2
 unfold A9
 refine Rn.bn (Nf hl) fun v hv=>Rn.lt ?_
 obtain⟨v1,v2⟩:=hv
 refine Rn.bn (P:=fun g=>g=v.map fun x=>(⟨x.frm,x.to,nd,ep⟩:Claim)) (Rn.iter _ (fun j y=>y=((j:Int),(v.take j).map fun x=>(⟨x.frm,x.to,nd,ep⟩:Claim))) v.length (by unfold big;omega) rfl fun j y hj hI=>?_) fun g hg=>?_
 ·subst hI
  refine Rn.lt (Rn.ite (fun hd=>?_) fun hd=>?_)
  ·have hjl:j<v.length:=by
    have:=of_decide_eq_true (p:=((j:Int)<(v.length:Int))) hd
    omega
   refine Rn.bnE (Ay hjl) (Rn.chk (by simp[room];omega) (Rn.lt (Rn.lt (Rn.some ⟨hjl,?_⟩))))
   rw[Ar (by first|omega|(simp only;omega)) (by first|omega|(simp only;omega)),← List.take_append_getElem hjl,List.map_append]
   rfl
  ·have hjl:j=v.length:=by
    have:=of_decide_eq_false (p:=((j:Int)<(v.length:Int))) hd
    omega
   subst hjl
   exact Rn.some (by show _=_;rw[List.take_length])
 subst hg
 obtain⟨hgg,hgf⟩:=LK v1 Ia h1 h2
 have hglen:(v.map fun x=>(⟨x.frm,x.to,nd,ep⟩:Claim)).length≤16384:=hgg.len
 generalize (v.map fun x=>(⟨x.frm,x.to,nd,ep⟩:Claim))=b at hgg hgf hglen
 have hFb:∀ s,giveF (fC a) (inS l) (nd,ep) s=match fC b s with|some w=>some w|none=>fC a s:=by
  intro s
  rw[hgf s]
  unfold giveF
  split <;> rfl
 refine Rn.bn (P:=fun r=>FinP (r.map cP) (giveF (fC a) (inS l) (nd,ep))∧r.length≤16384) (Rn.chk (by simp[room];omega) (Rn.bnE (v:=(a,b)) rfl (Rn.bn (P:=fun y=>FinP (y.2.2.map cP) (giveF (fC a) (inS l) (nd,ep))∧y.2.2.length≤16384) (Rn.iter _ (fun j y=>∃ at_ a' b' p out,y=(at_,a',b',p,out)∧(j:Int)≤at_∧at_≤16384∧GoodC a'∧GoodC b'∧(∀ s,at_≤s→fC a' s=fC a s)∧(∀ s,at_≤s→fC b' s=fC b s)∧BdP at_ (out.map cP) (giveF (fC a) (inS l) (nd,ep))∧out.length≤j) 16384 (by unfold big;omega)
  ⟨0,a,b,_,[],rfl,Int.le_refl _,by omega,ha,hgg,fun s _=>rfl,fun s _=>rfl,BdP.nil fun s hs=>ht.none (.inl hs),by simp⟩ fun j y hj hI=>?_) fun y hy=>Rn.some hy))) fun r hr=>Rn.chk (by have:=hr.2;simp[room];omega) (Rn.some hr.1)
 obtain⟨at_,a',b',p,out,rfl,i1,i2,i3,i4,i5,i6,i7,i8⟩:=hI
 refine Rn.lt (Rn.ite (fun hd=>?_) fun hd=>?_)
 ·have hat:at_≤16383:=of_decide_eq_true hd
  refine Rn.bn (K2 i3 ⟨by omega,hat⟩) fun x hx=>Rn.bn (K2 i4 ⟨by omega,hat⟩) fun z hz=>Rn.lt ?_
  obtain⟨x1,x2⟩:=x
  obtain⟨z1,z2⟩:=z
  have hmin:minI x1.to z1.to=min x1.to z1.to:=rfl
  have hto:at_≤minI x1.to z1.to∧minI x1.to z1.to≤16383∧minI x1.to z1.to≤x1.to∧minI x1.to z1.to≤z1.to:=by
   have q1:=hx.le
   have q2:=hz.le
   have q3:=hx.last
   have q4:=hz.last
   simp only at q1 q2 q3 q4
   rw[hmin]
   omega
  simp only
  generalize minI x1.to z1.to=to_ at hto
  obtain⟨p1,p2,p3,p4⟩:=hto
  have hz6:=hz.num
  simp only at hz6
  have hF:∀ s,at_≤s→s≤to_→giveF (fC a) (inS l) (nd,ep) s=match valC z1 with|some w=>some w|none=>valC x1:=by
   intro s g1 g2
   rw[hFb s,← i5 s g1,← i6 s g1,hx.val s g1 (by simp only;omega),hz.val s g1 (by simp only;omega)]
  have hzf:=hz.frm
  have hxf:=hx.frm
  simp only at hzf hxf
  refine Rn.bn (P:=fun c=>(valC c.a=match valC z1 with|some w=>some w|none=>valC x1)∧c.a.frm=at_∧c.a.to=to_) ?_ fun c hc=>?_
  ·refine Rn.lt (Rn.ite (fun h=>Rn.some ⟨?_,hzf,rfl⟩) fun h=>Rn.some ⟨?_,hxf,rfl⟩)
   ·have he:0<z1.epoch:=of_decide_eq_true h
    unfold valC
    simp only
    rw[if_neg (by omega)]
   ·have he:¬ 0<z1.epoch:=of_decide_eq_false h
    have he0:z1.epoch=0:=by omega
    have:valC z1=none:=if_pos he0
    rw[this]
    rfl
  ·refine Rn.bn (Na i7 ht (by omega) ⟨by omega,i2⟩ hc.2.1 hc.2.2 p1 fun s g1 g2=>by rw[hF s g1 g2,hc.1]) fun m hm=>Rn.lt (Rn.some ⟨by omega,to_+1,x2,z2,⟨⟨x1.frm,to_,x1.node,x1.epoch⟩,⟨z1.frm,to_,z1.node,z1.epoch⟩⟩,m,?_,by omega,by omega,hx.good,hz.good,fun s hs=>?_,fun s hs=>?_,hm.1,by omega⟩)
   ·rw[Ar (by omega) (by omega)]
   ·rw[hx.rest s (by omega),i5 s (by omega)]
   ·rw[hz.rest s (by omega),i6 s (by omega)]
 ·have hat:at_=16384:=by
   have:=of_decide_eq_false (p:=at_≤16383) hd
   omega
  subst hat
  exact Rn.some ⟨i7.fin fun s hs=>ht.none (.inr hs),show out.length≤16384 by omega⟩
theorem LL {a:List Claim} {l:List Span} {nd ep:Int} (ha:GoodC a) (hl:SortableS l) (h1:0≤nd) (h2:1≤ep) :
  Rn (A9 big a l nd ep) fun r=>GoodC r∧∀ s,fC r s=giveF (fC a) (inS l) (nd,ep) s :=
 (Nh ha hl h1 h2).mono fun r hr=>⟨hr.good (GN ha.tells Ia h1 h2),fun s=>hr.2 s⟩
end Go.Proofs.YtlbdhlbbkibgpaaGreat
namespace Go.Proofs.YtlbdhlbbkibgpaaGreat
open Go Go.RowKit
def CP (n:Nat) (a0:List Int) (a1:Int) (a2:Int):Option Bool :=
lt (lenI a0) fun v1 =>
lt (gtI v1 100) fun v2 =>
ite' v2 (bn (Cj n) fun v3 =>
some v3) (bn (CK n 0 a0) fun v4 =>
bn (AZ n a1) fun v5 =>
bn (Cs n v5) fun v6 =>
bn (B2 n v4 v6 1) fun v7 =>
bn (Ci n v7.1) fun v8 =>
lt (lenI v8.2) fun v9 =>
lt (eqI v9 0) fun v10 =>
ite' v10 (bn (Cj n) fun v11 =>
some v11) (bn (nth v8.2 0) fun v12 =>
bn (bn (remI .u8 a2 4) fun v14 =>
lt (eqI v14 0) fun v15 =>
ite' v15 (lt (addI .i64 v12.num 1) fun v16 =>
some ((1,v6,v16))) (lt (eqI v14 1) fun v17 =>
ite' v17 (lt (addI .i64 v6 1) fun v18 =>
bn (remI .i64 v18 16384) fun v19 =>
some ((1,v19,v12.num))) (lt (eqI v14 2) fun v20 =>
ite' v20 (some ((2,v6,v12.num))) (some ((1,v6,0)))))) fun (y13:Int×Int×Int) =>
bn (A8 n v8.1 (⟨3,y13.1,0,0,[],[],0,y13.2.1,y13.2.2,(⟨0,0⟩:Rid),(⟨0,0⟩:Rid),0,[]⟩:Msg)) fun v21 =>
bn (nth v8.2 0) fun v22 =>
bn (A8 n v8.1 (⟨3,1,0,0,[],[],0,v6,v22.num,(⟨0,0⟩:Rid),(⟨0,0⟩:Rid),0,[]⟩:Msg)) fun v23 =>
bn (A8 n v23 (⟨3,1,0,0,[],[],0,v6,v22.num,(⟨0,0⟩:Rid),(⟨0,0⟩:Rid),0,[]⟩:Msg)) fun v24 =>
bn (bn (BC n v21 v8.1) fun v26 =>
ite' v26 (lt (lenI v23.db) fun v27 =>
lt (lenI v8.1.db) fun v28 =>
lt (subI .i64 v28 1) fun v29 =>
lt (eqI v27 v29) fun v30 =>
ite' v30 (bn (BC n v23 v24) fun v31 =>
ite' v31 (bn (Cj n) fun v32 =>
some (v32)) (some (false))) (some (false))) (some (false))) fun (y25:Bool) =>
some y25))
theorem Ib {n:Nat} {a0:List Int} {a1:Int} {a2:Int} {r:Bool} (h:CP n a0 a1 a2=some r):Sound Tryz.prog 3 [.l (.d false 1 (encU a0)),.l (.s (.int .u8 a1)),.l (.s (.int .u8 a2))] [] (.l (.s (.bool r))) []:=by
 unfold CP at h
 refine Sound.of_aw (fn:=Tryz.f3) (c:=_) Tryz.func3 rfl (by simp[Tryz.f3]) fun cx hG hnb=>?_
 rw[show Tryz.f3.ntmps=98 from rfl]
 have hn0:cx.nb=0:=hnb
 simp only[An,initTm,List.map_cons,List.map_nil]
 apply AW.step
 ·simp
  intros;rfl
 refine AW.seq ?_
 replace h:=ltE h;obtain⟨v1,e1,h⟩:=h
 replace h:=ltE h;obtain⟨v2,e2,h⟩:=h
 apply AW.step
 ·simp[Af e1,← e2]
  intros;rfl
 cases v2 with
 |true =>
  replace h:=iteT rfl h
  refine AW.cond_true (by simp) ?_
  replace h:=bnE h;obtain⟨v3,e3,h⟩:=h
  apply AW.step
  ·simp
   intros
   refine Ad EO (Fa e3) rfl trivial ?_
   try simp
   intros;rfl
  obtain rfl:=oi h
  refine AW.ret ?_
  refine Left.plain hnb (by simp[Tryz.f3,resV,resC,comp];rfl) rfl rfl ?_
  simp
 |false =>
  replace h:=iteF rfl h
  refine AW.cond_false (by simp) ?_
  refine AW.skip ?_
  try simp only[nm]
  replace h:=bnE h;obtain⟨v4,e4,h⟩:=h
  apply AW.step
  ·simp
   intros
   refine Ad GJ (Hy e4) rfl ⟨.same rfl,.same rfl,trivial⟩ ?_
   try simp
   intros;rfl
  replace h:=bnE h;obtain⟨v5,e5,h⟩:=h
  replace h:=bnE h;obtain⟨v6,e6,h⟩:=h
  apply AW.step
  ·simp
   intros
   refine Ad Fz (Gb e5) rfl ⟨.same rfl,trivial⟩ ?_
   try simp
   intros
   refine Ad Ln (Mi e6) rfl ⟨.same rfl,trivial⟩ ?_
   try simp
   intros;rfl
  replace h:=bnE h;obtain⟨v7,e7,h⟩:=h
  apply AW.step
  ·simp
   intros
   refine Ad FJ (Gd e7) rfl ⟨.same rfl,.same rfl,.same rfl,trivial⟩ ?_
   try simp
   intros;rfl
  replace h:=bnE h;obtain⟨v8,e8,h⟩:=h
  apply AW.step
  ·simp
   intros
   refine Ad Ge (GL e8) rfl ⟨.same rfl,trivial⟩ ?_
   try simp
   intros;rfl
  refine AW.seq ?_
  replace h:=ltE h;obtain⟨v9,e9,h⟩:=h
  replace h:=ltE h;obtain⟨v10,e10,h⟩:=h
  apply AW.step
  ·simp[Af e9,← e10]
   intros;rfl
  cases v10 with
  |true =>
   replace h:=iteT rfl h
   refine AW.cond_true (by simp) ?_
   replace h:=bnE h;obtain⟨v11,e11,h⟩:=h
   apply AW.step
   ·simp
    intros
    refine Ad EO (Fa e11) rfl trivial ?_
    try simp
    intros;rfl
   obtain rfl:=oi h
   refine AW.ret ?_
   refine Left.plain hnb (by simp[Tryz.f3,resV,resC,comp];rfl) rfl rfl ?_
   simp
  |false =>
   replace h:=iteF rfl h
   refine AW.cond_false (by simp) ?_
   refine AW.skip ?_
   try simp only[nm]
   replace h:=bnE h;obtain⟨v12,e12,h⟩:=h
   apply AW.step
   ·simp[(show v8.2[0]?=some v12 from (Ac e12).2)]
    intros;rfl
   replace h:=bnE h;obtain⟨y13,g13,h⟩:=h
   refine AW.flow (p:=fun gh ls=>(nP (cx:=cx) (fun q=>(⟨[(7,.l (.p 0 0)),(8,.l (.s (.int .i64 v6))),(9,.l (.d false 15 (encMsg v8.2))),(10,.l (.p 1 0))],[some ⟨38,22,false,none,[.s (.int .i64 v8.1.count),.s (.int .i64 v8.1.id),.s (.int .i64 v8.1.master),.s (.int .i64 v8.1.epoch),.s (.int .i64 v8.1.voted),.d false 4 (encClaim v8.1.claims),.d false 6 (encPair v8.1.db),.d false 4 (encMove v8.1.moves),.s (.int .i64 v8.1.last),.d false 3 (encSeen v8.1.seen),.s (.int .i64 v8.1.feed.rid.node),.s (.int .i64 v8.1.feed.rid.epoch),.s (.int .i64 v8.1.feed.off),.d false 7 (encEffect v8.1.feed.back),.s (.int .i64 v8.1.feed.prev.node),.s (.int .i64 v8.1.feed.prev.epoch),.s (.int .i64 v8.1.feed.upto),.d false 1 (encI v8.1.watch.heard),.d false 1 (encLI v8.1.watch.says),.s (.int .i64 v8.1.asked),.d false 1 (encI v8.1.votes),.s (.int .i64 v8.1.wait)]⟩,some ⟨49,15,false,none,[.s (.int .i64 3),.s (.int .i64 q.1),.s (.int .i64 0),.s (.int .i64 0),.s (.slice none 0 0),.s (.slice none 0 0),.s (.int .i64 0),.s (.int .i64 q.2.1),.s (.int .i64 q.2.2),.s (.int .i64 0),.s (.int .i64 0),.s (.int .i64 0),.s (.int .i64 0),.s (.int .i64 0),.s (.slice none 0 0)]⟩],98,gh,ls⟩:St))) y13) ?_ ?_
   ·replace h:=g13;clear g13
    replace h:=bnE h;obtain⟨v14,e14,h⟩:=h
    apply AW.step
    ·simp[e14]
     intros;rfl
    refine AW.block ?_
    replace h:=ltE h;obtain⟨v15,e15,h⟩:=h
    apply AW.step
    ·simp[← e15]
     intros;rfl
    cases v15 with
    |true =>
     replace h:=iteT rfl h
     refine AW.cond_true (by simp) ?_
     replace h:=ltE h;obtain⟨v16,e16,h⟩:=h
     apply AW.last
     ·simp[← e16]
      intros;rfl
     obtain rfl:=oi h
     refine nP_i ?_
     refine Weak.mixN [some 0,some 1] hn0 (by decide) ?_ ?_ rfl
     all_goals first|(simp[Aa,Ab,pickOb];done)|rfl
    |false =>
     replace h:=iteF rfl h
     refine AW.cond_false (by simp) ?_
     replace h:=ltE h;obtain⟨v17,e17,h⟩:=h
     apply AW.step
     ·simp[← e17]
      intros;rfl
     cases v17 with
     |true =>
      replace h:=iteT rfl h
      refine AW.cond_true (by simp) ?_
      replace h:=ltE h;obtain⟨v18,e18,h⟩:=h
      replace h:=bnE h;obtain⟨v19,e19,h⟩:=h
      apply AW.last
      ·simp[← e18,e19]
       intros;rfl
      obtain rfl:=oi h
      refine nP_i ?_
      refine Weak.mixN [some 0,some 1] hn0 (by decide) ?_ ?_ rfl
      all_goals first|(simp[Aa,Ab,pickOb];done)|rfl
     |false =>
      replace h:=iteF rfl h
      refine AW.cond_false (by simp) ?_
      replace h:=ltE h;obtain⟨v20,e20,h⟩:=h
      apply AW.step
      ·simp[← e20]
       intros;rfl
      cases v20 with
      |true =>
       replace h:=iteT rfl h
       refine AW.cond_true (by simp) ?_
       apply AW.last
       ·simp
        intros;rfl
       obtain rfl:=oi h
       refine nP_i ?_
       refine Weak.mixN [some 0,some 1] hn0 (by decide) ?_ ?_ rfl
       all_goals first|(simp[Aa,Ab,pickOb];done)|rfl
      |false =>
       replace h:=iteF rfl h
       refine AW.cond_false (by simp) ?_
       apply AW.last
       ·simp
        intros;rfl
       obtain rfl:=oi h
       refine nP_i ?_
       refine Weak.mixN [some 0,some 1] hn0 (by decide) ?_ ?_ rfl
       all_goals first|(simp[Aa,Ab,pickOb];done)|rfl
   ·rintro e s hp
    obtain⟨rfl,hw⟩:=hp
    refine⟨_,hw,?_⟩
    try simp only[nm]
    replace h:=bnE h;obtain⟨v21,e21,h⟩:=h
    apply AW.step
    ·simp
     intros
     refine Ad El (EP e21) rfl ⟨.same rfl,.g ⟨.s _,.s _,.s _,.s _,.nil _ _,.nil _ _,.s _,.s _,.s _,.s _,.s _,.s _,.s _,.s _,.nil _ _,trivial⟩,trivial⟩ ?_
     try simp
     intros;rfl
    replace h:=bnE h;obtain⟨v22,e22,h⟩:=h
    apply AW.step
    ·simp[(show v8.2[0]?=some v22 from (Ac e22).2)]
     intros;rfl
    replace h:=bnE h;obtain⟨v23,e23,h⟩:=h
    apply AW.step
    ·simp
     intros
     refine Ad El (EP e23) rfl ⟨.same rfl,.g ⟨.s _,.s _,.s _,.s _,.nil _ _,.nil _ _,.s _,.s _,.s _,.s _,.s _,.s _,.s _,.s _,.nil _ _,trivial⟩,trivial⟩ ?_
     try simp
     intros;rfl
    replace h:=bnE h;obtain⟨v24,e24,h⟩:=h
    apply AW.step
    ·simp
     intros
     refine Ad El (EP e24) rfl ⟨.same rfl,.g ⟨.s _,.s _,.s _,.s _,.nil _ _,.nil _ _,.s _,.s _,.s _,.s _,.s _,.s _,.s _,.s _,.nil _ _,trivial⟩,trivial⟩ ?_
     try simp
     intros;rfl
    replace h:=bnE h;obtain⟨y25,g25,h⟩:=h
    refine AW.flow (p:=fun gh ls=>(nP (cx:=cx) (fun q=>(⟨[(6,.l (.s (.bool q)))],[],98,gh,ls⟩:St))) y25) ?_ ?_
    ·replace h:=g25;clear g25
     replace h:=bnE h;obtain⟨v26,e26,h⟩:=h
     cases v26 with
     |true =>
      replace h:=iteT rfl h
      replace h:=ltE h;obtain⟨v27,e27,h⟩:=h
      replace h:=ltE h;obtain⟨v28,e28,h⟩:=h
      replace h:=ltE h;obtain⟨v29,e29,h⟩:=h
      replace h:=ltE h;obtain⟨v30,e30,h⟩:=h
      cases v30 with
      |true =>
       replace h:=iteT rfl h
       replace h:=bnE h;obtain⟨v31,e31,h⟩:=h
       cases v31 with
       |true =>
        replace h:=iteT rfl h
        replace h:=bnE h;obtain⟨v32,e32,h⟩:=h
        apply AW.last
        ·simp[Af e27,Af e28,← e29,← e30]
         intros
         refine Ad BD (BT e26) rfl ⟨.same rfl,.same rfl,trivial⟩ ?_
         try simp[Af e27,Af e28,← e29,← e30]
         intros
         refine Ad BD (BT e31) rfl ⟨.same rfl,.same rfl,trivial⟩ ?_
         try simp[Af e27,Af e28,← e29,← e30]
         intros
         refine Ad EO (Fa e32) rfl trivial ?_
         try simp[Af e27,Af e28,← e29,← e30]
         intros;rfl
        obtain rfl:=oi h
        refine nP_i ?_
        refine Weak.mixN [] hn0 (by decide) ?_ ?_ rfl
        all_goals first|(simp[Aa,Ab,pickOb];done)|rfl
       |false =>
        replace h:=iteF rfl h
        apply AW.last
        ·simp[Af e27,Af e28,← e29,← e30]
         intros
         refine Ad BD (BT e26) rfl ⟨.same rfl,.same rfl,trivial⟩ ?_
         try simp[Af e27,Af e28,← e29,← e30]
         intros
         refine Ad BD (BT e31) rfl ⟨.same rfl,.same rfl,trivial⟩ ?_
         try simp[Af e27,Af e28,← e29,← e30]
         intros;rfl
        obtain rfl:=oi h
        refine nP_i ?_
        refine Weak.mixN [] hn0 (by decide) ?_ ?_ rfl
        all_goals first|(simp[Aa,Ab,pickOb];done)|rfl
      |false =>
       replace h:=iteF rfl h
       apply AW.last
       ·simp[Af e27,Af e28,← e29,← e30]
        intros
        refine Ad BD (BT e26) rfl ⟨.same rfl,.same rfl,trivial⟩ ?_
        try simp[Af e27,Af e28,← e29,← e30]
        intros;rfl
       obtain rfl:=oi h
       refine nP_i ?_
       refine Weak.mixN [] hn0 (by decide) ?_ ?_ rfl
       all_goals first|(simp[Aa,Ab,pickOb];done)|rfl
     |false =>
      replace h:=iteF rfl h
      apply AW.last
      ·simp
       intros
       refine Ad BD (BT e26) rfl ⟨.same rfl,.same rfl,trivial⟩ ?_
       try simp
       intros;rfl
      obtain rfl:=oi h
      refine nP_i ?_
      refine Weak.mixN [] hn0 (by decide) ?_ ?_ rfl
      all_goals first|(simp[Aa,Ab,pickOb];done)|rfl
    ·rintro e s hp
     obtain⟨rfl,hw⟩:=hp
     refine⟨_,hw,?_⟩
     try simp only[nm]
     obtain rfl:=oi h
     refine AW.ret ?_
     refine Left.plain hnb (by simp[Tryz.f3,resV,resC,comp];rfl) rfl rfl ?_
     simp
end Go.Proofs.YtlbdhlbbkibgpaaGreat
namespace Go.Proofs.YtlbdhlbbkibgpaaGreat
open Go Go.RowKit
theorem give1 {cl:List Claim} (h:GoodC cl) (s tt ep:Int) (hs:0≤s∧s≤16383) (h1:0≤tt) (h2:1≤ep):A9 big cl [⟨s,s⟩] tt ep=some (giveP cl s tt ep)∧GoodC (giveP cl s tt ep)∧∀ x,fC (giveP cl s tt ep) x=giveF (fC cl) (inS [⟨s,s⟩]) (tt,ep) x:=by
 obtain⟨r,hr,h3,h4⟩:=LL h (l:=[⟨s,s⟩]) ⟨s,rfl,hs.1,hs.2⟩ h1 h2
 have e:giveP cl s tt ep=r:=by unfold giveP;rw[hr];rfl
 rw[e]
 exact⟨hr,h3,h4⟩
theorem Ni (id:Int) (h:0≤id):GoodC [⟨0,16383,id,1⟩]:=⟨by show (0:Int)≤16383;omega,fun c hc=>by
 simp at hc
 subst hc
 exact⟨by simp,by simp,by simp,h,by simp⟩⟩
theorem Nj {l:List Move} (h:∀ m∈l,(0≤m.slot∧m.slot<16384)∧0≤m.to):GiveOk (fun _ cl=>GoodC cl) l:=⟨fun _ _ h=>h,fun i cl ep hi hc h1 _=>by
 have h2:=h _ (List.getElem_mem hi)
 have:=give1 hc (l[i]).slot (l[i]).to ep (by omega) h2.2 h1
 exact⟨this.1,this.2.1⟩⟩
theorem OkN.app {n:Node} (h:OkN n) {e:Effect} (hk:keyed e.key) (he:okI e.item) (hl:(applyP n.db e).length≤1000) {mv:List Move} {sn:List Seen} (hm:mv.length≤1000) (hs:sn.length≤1000):OkN { n with db:=applyP n.db e,feed:=addF n.feed [e],moves:=mv,seen:=sn } where
 srt:=HF h.srt e
 okd:=IA h.okd he
 dl:=hl
 key:=fun p hp=>by
  have hp:p∈applyP n.db e:=hp
  unfold applyP newP at hp
  simp only[List.mem_append,List.mem_filter] at hp
  rcases hp with (h1|h1)|h1
  ·exact h.key p h1.1
  ·split at h1
   ·cases h1
   ·simp at h1;subst h1;exact hk
  ·exact h.key p h1.1
 bk:=by
  refine okE.drop ?_ _
  exact okE.app h.bk ⟨by simp,fun x hx=>by simp at hx;subst hx;exact he⟩ (by have:=h.bl;simp;omega)
 bl:=by
  show (lastN _).length≤64
  unfold lastN
  simp
  omega
 cl:=h.cl
 mv:=hm
 sn:=hs
 vt:=h.vt
 hd:=h.hd
 sy:=h.sy
 sz:=h.sz
theorem OkN.mvs {n:Node} (h:OkN n) {mv:List Move} (hm:mv.length≤1000) (l:Int):OkN { n with moves:=mv,last:=l }:=⟨h.srt,h.okd,h.dl,h.key,h.bk,h.bl,h.cl,hm,h.sn,h.vt,h.hd,h.sy,h.sz⟩
theorem Nk {db:List Pair} {s:Int} (h:inP db s≠[]):(rawP db ((inP db s).headD ⟨#[]⟩)).isSome=true∧slotOf ((inP db s).headD ⟨#[]⟩)=s:=by
 obtain⟨k,ks,hks⟩:=List.exists_cons_of_ne_nil h
 have hm:k∈inP db s:=by rw[hks];exact List.mem_cons_self
 have:=NZ.1 hm
 rw[hks]
 exact⟨JZ.2 this.2,this.1⟩
theorem LM (n:Node) (s tt:Int) (hmv:n.moves=[⟨s,tt,0,⟨#[]⟩⟩]) (h:inP n.db s=[]):TickP n=({ relT n ⟨s,tt,0,⟨#[]⟩⟩ with moves:=[] },[]):=by
 have e:stepT (n,[],[]) ⟨s,tt,0,⟨#[]⟩⟩=(relT n ⟨s,tt,0,⟨#[]⟩⟩,[],[]):=(if_pos rfl).trans (if_pos h)
 unfold TickP
 rw[hmv]
 simp only[List.foldl_cons,List.foldl_nil]
 rw[e]
theorem LN (n:Node) (s tt:Int) (hmv:n.moves=[⟨s,tt,0,⟨#[]⟩⟩]) (h:inP n.db s≠[]):TickP n=({ n with last:=n.last+1,moves:=[⟨s,tt,n.last+1,(inP n.db s).headD ⟨#[]⟩⟩] },[msgP n ⟨s,tt,n.last+1,(inP n.db s).headD ⟨#[]⟩⟩]):=by
 have e:stepT (n,[],[]) ⟨s,tt,0,⟨#[]⟩⟩=(lockT n,[lockM n ⟨s,tt,0,⟨#[]⟩⟩],[msgP (lockT n) (lockM n ⟨s,tt,0,⟨#[]⟩⟩)]):=(if_pos rfl).trans (if_neg h)
 unfold TickP
 rw[hmv]
 simp only[List.foldl_cons,List.foldl_nil]
 rw[e]
 rfl
theorem Hc:Cj big=some true:=by kernel_rfl
theorem Ku (ns:List Int) (which how:Int) (hu:u8s ns) (hw:0≤which∧which≤255) (hh:0≤how∧how≤255):CP big ns which how=some true:=by
 refine Rn.eqv ?_
 unfold CP
 refine Rn.lt (Rn.lt (Rn.ite (fun _=>Rn.bnE Hc (Rn.some rfl)) fun hlen=>?_))
 have hlen:=gtI_n hlen
 simp only[lenI] at hlen
 obtain⟨db,hdb,hok⟩:=Mx ns hu (by omega)
 refine Rn.bnE (N4 0 (by omega) ns db hdb) ?_
 obtain⟨j,hj,-,hk⟩:=JX which hw.1 hw.2
 refine Rn.bnE hk (Rn.bnE (KZ _ (by rw[(H8 hj).2.1];omega)).1 ?_)
 have hs:=N5 ⟨j,hj,rfl⟩
 generalize slotOf (keyT j)=s at hs ⊢
 refine Rn.bnE (M7 (nd 0 db) (LI hok) rfl rfl s 1 1 hs.1 hs.2 (by omega) (by omega) (by show (1:Int)≠0;omega) (OP 0 1 s hs.1 hs.2) [] [] [] rfl (by simp) (by simp) (.inl rfl)) ?_
 rw[if_pos rfl]
 have hn1:OkN { nd 0 db with moves:=[⟨s,1,0,⟨#[]⟩⟩] }:=OkN.mvs (LI hok) (by simp) 0
 refine Rn.bnE (N7 (fun _ cl=>GoodC cl) { nd 0 db with moves:=[⟨s,1,0,⟨#[]⟩⟩] } hn1 rfl (by show (0:Int)≤0∧(0:Int)≤_;omega) (by show (0:Int)≤1∧(1:Int)≤_;omega) (Ni 0 (by omega)) (Nj (fun m hm=>by simp at hm;subst hm;exact⟨hs,by simp⟩))) ?_
 by_cases hin:inP db s=[]
 ·rw[LM _ s 1 rfl hin]
  exact Rn.lt (Rn.lt (Rn.ite (fun _=>Rn.bnE Hc (Rn.some rfl)) fun h=>by cases h))
 ·obtain⟨hr,hsl⟩:=Nk hin
  have hkk:keyed ((inP db s).headD ⟨#[]⟩):=by
   obtain⟨p,hp,e⟩:=JZ.1 hr
   rw[← e]
   exact hok.2.2.2 p hp
  have hT:TickP { nd 0 db with moves:=[⟨s,1,0,⟨#[]⟩⟩] }=({ nd 0 db with last:=1,moves:=[⟨s,1,1,(inP db s).headD ⟨#[]⟩⟩] },[msgP (nd 0 db) ⟨s,1,1,(inP db s).headD ⟨#[]⟩⟩]):=LN _ s 1 rfl hin
  rw[hT]
  generalize (inP db s).headD ⟨#[]⟩=k0 at hr hsl hkk ⊢
  have hn2:OkN { nd 0 db with last:=1,moves:=[⟨s,1,1,k0⟩] }:=OkN.mvs (LI hok) (by simp) 1
  have hdl:=hok.2.2.1
  refine Rn.lt (Rn.lt (Rn.ite (fun h=>by cases h) fun _=>?_))
  refine Rn.bnE (v:=msgP (nd 0 db) ⟨s,1,1,k0⟩) rfl ?_
  rw[show (msgP (nd 0 db) ⟨s,1,1,k0⟩).num=1 from rfl]
  refine Rn.bn (P:=fun y:Int×Int×Int=>y.2.1≠s∨y.2.2≠1∨y.1≠1) ?_ fun y hy=>?_
  ·refine Rn.bnE (Bh hh.1 (by omega)) (Rn.lt (Rn.ite (fun _=>Rn.lt (Rn.some (.inr (.inl ?_)))) fun _=>Rn.lt (Rn.ite (fun _=>Rn.lt ?_) fun _=>Rn.lt (Rn.ite (fun _=>Rn.some (.inr (.inr ?_))) fun _=>Rn.some (.inr (.inl ?_))))))
   ·show addI .i64 1 1≠1
    rw[Ar (by omega) (by omega)];omega
   ·rw[Ar (by omega) (by omega)]
    refine Rn.bnE (Bh (by omega) (by omega)) (Rn.some (.inl ?_))
    show (s+1) % 16384≠s
    omega
   ·show (2:Int)≠1
    omega
   ·show (0:Int)≠1
    omega
  ·have hno:A8 big { nd 0 db with last:=1,moves:=[⟨s,1,1,k0⟩] } (⟨3,y.1,0,0,[],[],0,y.2.1,y.2.2,(⟨0,0⟩:Rid),(⟨0,0⟩:Rid),0,[]⟩:Msg)=some { nd 0 db with last:=1,moves:=[⟨s,1,1,k0⟩] }:=by
    by_cases h1:y.2.1=s
    ·refine FE _ hn2 _ [] [⟨s,1,1,k0⟩] [] rfl (by simp) (by simp) (.inr ⟨_,rfl,h1.symm,.inr ?_⟩)
     rcases hy with h2|h2|h2
     ·exact absurd h1 h2
     ·exact .inl (Ne.symm h2)
     ·exact .inr (Ne.symm h2)
    ·by_cases h2:s<y.2.1
     ·exact FE _ hn2 _ [⟨s,1,1,k0⟩] [] [] rfl (by simp;exact h2) (by simp) (.inl rfl)
     ·exact FE _ hn2 _ [] [] [⟨s,1,1,k0⟩] rfl (by simp) (by simp;omega) (.inl rfl)
   refine Rn.bnE hno ?_
   refine Rn.bnE (v:=msgP (nd 0 db) ⟨s,1,1,k0⟩) rfl ?_
   rw[show (msgP (nd 0 db) ⟨s,1,1,k0⟩).num=1 from rfl]
   refine Rn.bnE (MC _ hn2 _ [] [] ⟨s,1,1,k0⟩ rfl (by simp) (by simp) rfl (by simp) rfl rfl) ?_
   have hless:=Kt (it:=noI) hok.1 hr
   have hn3:OkN (AckedP { nd 0 db with last:=1,moves:=[⟨s,1,1,k0⟩] } [] ⟨s,1,1,k0⟩ []):=OkN.app hn2 (e:=goneE k0) hkk Mr (by show (applyP db (goneE k0)).length≤1000;unfold goneE;omega) (by simp) (by exact hn2.sn)
   refine Rn.bnE (FE _ hn3 _ [] [⟨s,1,0,⟨#[]⟩⟩] [] rfl (by simp) (by simp) (.inr ⟨_,rfl,rfl,.inl (by simp)⟩)) ?_
   refine Rn.bn (P:=fun b=>b=true) ?_ fun b hb=>Rn.some hb
   refine Rn.bnE (FM _ hn2) (Rn.ite (fun _=>?_) fun h=>by cases h)
   refine Rn.lt (Rn.lt (Rn.lt (Rn.lt (Rn.ite (fun _=>?_) fun h=>?_))))
   ·exact Rn.bnE (FM _ hn3) (Rn.ite (fun _=>Rn.bnE Hc (Rn.some rfl)) fun h=>by cases h)
   ·exfalso
    have h:=Nt h
    apply h
    show ((applyP db (goneE k0)).length:Int)=subI .i64 (db.length:Int) 1
    rw[Fp (by omega) (by omega)]
    unfold goneE
    omega
end Go.Proofs.YtlbdhlbbkibgpaaGreat
namespace Go.Proofs.YtlbdhlbbkibgpaaGreat
open Go Go.RowKit
set_option maxRecDepth 100000
section
variable {P:Program} {n t:Nat} {ts:List T}
theorem WfT.bool (hu:P.underlying t=some .bool) (h:WfT P (n+1) t ts):∃ b,ts=[.v (.bool b)]:=by rw[WfT,hu] at h;exact h
theorem WfT.int {k:IntKind} (hu:P.underlying t=some (.int k)) (h:WfT P (n+1) t ts):∃ i,ts=[.v (.int k i)]∧(Lit.int k i).wf=true:=by rw[WfT,hu] at h;exact h
theorem WfT.slice {e:Nat} (hu:P.underlying t=some (.slice e)) (h:WfT P (n+1) t ts):∃ es,ts=[.sl (P.cellsOf e) es]∧es.length*P.bytesOf e≤reachBytes∧∀ x∈es,WfT P n e x:=by rw[WfT,hu] at h;exact h
theorem WfT.struct {fs:Array Go.Field} (hu:P.underlying t=some (.struct fs)) (h:WfT P (n+1) t ts):∃ ps:List (List T),ts=ps.flatten∧All2 (fun p f=>WfT P n f p) ps (fs.toList.map (·.type)):=by rw[WfT,hu] at h;exact h
end
theorem All2.cons_r {α β:Type} {R:α→β→Prop} {l:List α} {b:β} {bs:List β} (h:All2 R l (b::bs)):∃ x xs,l=x::xs∧R x b∧All2 R xs bs:=by
 cases l with
 |nil=>exact h.elim
 |cons x xs=>exact⟨x,xs,rfl,h⟩
theorem All2.nil_r {α β:Type} {R:α→β→Prop} {l:List α} (h:All2 R l ([]:List β)):l=[]:=by
 cases l with
 |nil=>rfl
 |cons x xs=>exact h.elim
def rngI (i:Int):Prop:=-9223372036854775808≤i∧i≤9223372036854775807
theorem K3 {α:Type} {enc:List α→List (List T)} {R:List T→Prop} {rng:α→Prop} (hn:enc []=[]) (hc:∀ x l,enc (x::l)=enc [x]++enc l) (h1:∀ e,R e→∃ x,enc [x]=[e]∧rng x) :
  ∀ es,(∀ x∈es,R x)→∃ l,es=enc l∧∀ x∈l,rng x
 |[],_=>⟨[],hn.symm,fun x h=>by cases h⟩
 |e::es,h=>by
  obtain⟨x,hx,rx⟩:=h1 e (h e (by simp))
  obtain⟨l,rfl,rl⟩:=K3 hn hc h1 es fun y hy=>h y (by simp[hy])
  refine⟨x::l,by rw[hc,hx];rfl,?_⟩
  intro y hy
  rcases List.mem_cons.1 hy with rfl|hy
  ·exact rx
  ·exact rl y hy
def rngU (i:Int):Prop:=0≤i∧i≤255
theorem K4 {i:Int} (h:(Lit.int .u8 i).wf=true):rngU i:=by
 have h':=(Bool.and_eq_true _ _ ▸ h:_∧_)
 exact⟨of_decide_eq_true h'.1,of_decide_eq_true h'.2⟩
theorem wf_U (n:Nat) (e:List T) (h:WfT Tryz.prog (n+1) 5 e):∃ x:Int,encU [x]=[e]∧rngU x:=by
 obtain⟨f,rfl,h2⟩:=WfT.int (t:=5) Tryz.underlying5 h
 have h':=(Bool.and_eq_true _ _ ▸ h2:_∧_)
 have h1:=of_decide_eq_true h'.1
 have h2:=of_decide_eq_true h'.2
 exact⟨f,rfl,h1,h2⟩
theorem wf_Us {n:Nat} {es:List (List T)} (h:∀ x∈es,WfT Tryz.prog (n+1) 5 x):∃ l:List Int,es=encU l∧∀ x∈l,rngU x :=
 K3 (enc:=encU) (R:=fun e=>WfT Tryz.prog (n+1) 5 e) (rng:=rngU) rfl (fun _ _=>rfl) (@wf_U n) es h
def rngField (x:Field):Prop:=True
def rngItem (x:Item):Prop:=(rngI x.kind)∧(x.f.length≤4398046510976∧∀ y∈x.f,rngField y)∧(x.l.length≤8796093021952)∧(rngI x.exp)
def rngPair (x:Pair):Prop:=(rngItem x.item)
def rngEffect (x:Effect):Prop:=(rngItem x.item)
def rngRid (x:Rid):Prop:=(rngI x.node)∧(rngI x.epoch)
def rngFeed (x:Feed):Prop:=(rngRid x.rid)∧(rngI x.off)∧(x.back.length≤1353245080300∧∀ y∈x.back,rngEffect y)∧(rngRid x.prev)∧(rngI x.upto)
def rngClaim (x:Claim):Prop:=(rngI x.frm)∧(rngI x.to)∧(rngI x.node)∧(rngI x.epoch)
def rngMsg (x:Msg):Prop:=(rngI x.kind)∧(rngI x.frm)∧(rngI x.to)∧(rngI x.epoch)∧(x.claims.length≤4398046510976∧∀ y∈x.claims,rngClaim y)∧(x.nodes.length≤17592186043904∧∀ y∈x.nodes,rngI y)∧(rngI x.node)∧(rngI x.slot)∧(rngI x.num)∧(rngRid x.rid)∧(rngRid x.prev)∧(rngI x.off)∧(x.effects.length≤1353245080300∧∀ y∈x.effects,rngEffect y)
end Go.Proofs.YtlbdhlbbkibgpaaGreat
namespace Go.Proofs.YtlbdhlbbkibgpaaGreat
open Go Go.RowKit
open Go.ChangeShapes Go.WideShapes Go.ChangeAt Go.RowKit
theorem Tryz.own:ownKnob Tryz.prog.godebug=none:=by kernel_rfl
theorem Tryz.laidOut:laidOutB Tryz.prog=true:=by kernel_rfl
end Go.Proofs.YtlbdhlbbkibgpaaGreat
