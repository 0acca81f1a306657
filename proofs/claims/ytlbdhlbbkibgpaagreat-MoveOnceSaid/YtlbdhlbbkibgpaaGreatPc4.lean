/- Part 4 of the proof. -/
import Derived.Test.YtlbdhlbbkibgpaaGreatPc3
set_option linter.unusedVariables false
set_option linter.unusedSimpArgs false
set_option linter.constructorNameAsVariable false
set_option maxRecDepth 8000
set_option maxHeartbeats 8000000
namespace Go.Proofs.YtlbdhlbbkibgpaaGreat
open Go Go.RowKit
def D6 (n:Nat) (a0:Int):Option Watch :=
lt (minI a0 8) fun v1 =>
lt (maxI 0 v1) fun v2 =>
chk (mkB v2 8) <|
lt (List.replicate v2.toNat 0) fun v4 =>
chk (mkB v2 24) <|
lt (List.replicate v2.toNat []) fun v6 =>
chk (room v4.length 1) <|
some (⟨v4,v6⟩:Watch)
theorem IG {n:Nat} {a0:Int} {r:Watch} (h:D6 n a0=some r):Sound Tryz.prog 63 [.l (.s (.int .i64 a0))] [] (.g [.d false 1 (encI r.heard),.d false 1 (encLI r.says)]) []:=by
 unfold D6 at h
 refine Sound.of_aw (fn:=Tryz.f63) (c:=_) Tryz.func63 rfl (by simp[Tryz.f63]) fun cx hG hnb=>?_
 rw[show Tryz.f63.ntmps=12 from rfl]
 have hn0:cx.nb=0:=hnb
 simp only[An,initTm,List.map_cons,List.map_nil]
 apply AW.step
 ·simp
  intros;rfl
 replace h:=ltE h;obtain⟨v1,e1,h⟩:=h
 replace h:=ltE h;obtain⟨v2,e2,h⟩:=h
 apply AW.step
 ·simp[← e1,← e2]
  intros;rfl
 replace h:=chkE h;obtain⟨e3,h⟩:=h
 replace h:=ltE h;obtain⟨v4,e4,h⟩:=h
 replace h:=chkE h;obtain⟨e5,h⟩:=h
 replace h:=ltE h;obtain⟨v6,e6,h⟩:=h
 apply AW.drawnE (V:=[_,_,_,_]) (M:=[[some ⟨36,2,false,none,[.s (.slice none 0 0),.s (.slice none 0 0)]⟩],[some ⟨36,2,false,none,[.s (.slice none 0 0),.s (.slice none 0 0)]⟩,some ⟨3,1,true,none,lvs (encI v4)⟩]]) mixed [⟨[0],[],[(3,none)],false⟩,⟨[0],[0],[(7,some 0)],true⟩,⟨[0,1],[],[(3,none)],false⟩,⟨[0,1],[2],[(9,some 2)],false⟩,⟨[],[0,1,2,3],[],false⟩,⟨[],[0,1,2,3,4],[],false⟩] 4 1 (by kernel_rfl) (by kernel_rfl)
 ·rfl
 ·refine⟨?_,?_,⟨?_,?_⟩,⟨?_,?_⟩,trivial⟩
  ·intro tm hr;simp[AllL,rdV] at hr;simp[hr];intros;first|exact KD.mk|exact KD.mkN
  ·intro tm hr
   simp[AllL,rdV] at hr
   simp[hr]
   intros
   refine Ox (enc:=encI) (fun _=>rfl) e4 Lu MM ⟨rfl,rfl,by decide⟩ (L0 e3) rfl ?_
   try simp[]
   intros;first|exact KD.mk|exact KD.mkN
  iterate 2 (· intro tm hr;simp[AllL,rdV] at hr;simp[hr];intros;first|exact KD.mk|exact KD.mkN)
  ·intro tm hr
   simp[AllL,rdV] at hr
   simp[hr]
   intros
   refine J7 (enc:=encLI) (fun _=>rfl) e6 Iu Ir ⟨rfl,rfl,by decide⟩ (L0 e5) (by simp[All2,lvs]) rfl ?_
   try simp[]
   intros;first|exact KD.mk|exact KD.mkN
  ·intro tm hr
   simp[AllL,rdV] at hr
   simp[hr]
   intros
   refine J7 (enc:=encLI) (fun _=>rfl) e6 Iu Ir ⟨rfl,rfl,by decide⟩ (L0 e5) (by simp[All2,lvs]) rfl ?_
   try simp[]
   intros;first|exact KD.mk|exact KD.mkN
 ·rfl
 ·simp[tmD,putD];rfl
 ·simp
  intros;rfl
 replace h:=chkE h;obtain⟨e7,h⟩:=h
 refine AW.frzRow 1 (ty:=3) (cap:=none) (sz:=1) (es:=encI v4) (by simp) (by omega) (FQ _) (by first|exact (Ah e7).2|simpa using (Ah e7).2|simp) (by simp[Tm.frz,AV.frz,LV.frz];rfl) (by simp[Ob.frz,LV.frz];rfl) rfl ?_
 obtain rfl:=oi h
 refine AW.ret ?_
 refine Left.plain hnb (by simp[Tryz.f63,resV,resC,comp];rfl) rfl rfl ?_
 simp
theorem H5:Enters Tryz.prog 63:=enters Tryz.func63 (by kernel_rfl) rfl
def D7 (n:Nat) (a0:Int) (a1:Int) (a2:Int):Option Node :=
lt (minI a0 8) fun v1 =>
lt (maxI 1 v1) fun v2 =>
lt (minI a2 v2) fun v3 =>
lt (maxI 1 v3) fun v4 =>
lt (subI .i64 v2 1) fun v5 =>
lt (minI a1 v5) fun v6 =>
lt (maxI 0 v6) fun v7 =>
bn (D6 n v2) fun v8 =>
bn (lt (geI v7 v4) fun v10 =>
ite' v10 (bn (remI .i64 v7 v4) fun v11 =>
some (v11)) (some (-1))) fun (y9:Int) =>
bn (lt (geI y9 0) fun v13 =>
ite' v13 (some (y9)) (some (v7))) fun (y12:Int) =>
bn (iter n (fun (y14:Int×List Claim) =>
lt (ltI y14.1 v4) fun v17 =>
ite' v17 (lt (mulI .i64 y14.1 16384) fun v18 =>
bn (quoI .i64 v18 v4) fun v19 =>
lt (addI .i64 y14.1 1) fun v20 =>
lt (mulI .i64 v20 16384) fun v21 =>
bn (quoI .i64 v21 v4) fun v22 =>
lt (subI .i64 v22 1) fun v23 =>
chk (room (y14.2.length+1) 32) <|
lt (y14.2++[(⟨v19,v23,y14.1,1⟩:Claim)]) fun v25 =>
some (.inl (v20,v25))) (some (.inr y14.2))) (0,[])) fun (y15:List Claim) =>
chk (room y15.length 1) <|
some (⟨v2,v7,y9,1,0,y15,[],[],0,[],(⟨(⟨y12,0⟩:Rid),0,[],(⟨0,0⟩:Rid),0⟩:Feed),v8,0,[],0⟩:Node)
theorem Nf {n:Nat} {a0:Int} {a1:Int} {a2:Int} {r:Node} (h:D7 n a0 a1 a2=some r):Sound Tryz.prog 28 [.l (.s (.int .i64 a0)),.l (.s (.int .i64 a1)),.l (.s (.int .i64 a2))] [] (.g [.s (.int .i64 r.count),.s (.int .i64 r.id),.s (.int .i64 r.master),.s (.int .i64 r.epoch),.s (.int .i64 r.voted),.d false 4 (encClaim r.claims),.d false 6 (encPair r.db),.d false 4 (encMove r.moves),.s (.int .i64 r.last),.d false 3 (encSeen r.seen),.s (.int .i64 r.feed.rid.node),.s (.int .i64 r.feed.rid.epoch),.s (.int .i64 r.feed.off),.d false 7 (encEffect r.feed.back),.s (.int .i64 r.feed.prev.node),.s (.int .i64 r.feed.prev.epoch),.s (.int .i64 r.feed.upto),.d false 1 (encI r.watch.heard),.d false 1 (encLI r.watch.says),.s (.int .i64 r.asked),.d false 1 (encI r.votes),.s (.int .i64 r.wait)]) []:=by
 unfold D7 at h
 refine Sound.of_aw (fn:=Tryz.f28) (c:=_) Tryz.func28 rfl (by simp[Tryz.f28]) fun cx hG hnb=>?_
 rw[show Tryz.f28.ntmps=72 from rfl]
 have hn0:cx.nb=0:=hnb
 simp only[An,initTm,List.map_cons,List.map_nil]
 apply AW.step
 ·simp
  intros;rfl
 replace h:=ltE h;obtain⟨v1,e1,h⟩:=h
 replace h:=ltE h;obtain⟨v2,e2,h⟩:=h
 apply AW.step
 ·simp[← e1,← e2]
  intros;rfl
 replace h:=ltE h;obtain⟨v3,e3,h⟩:=h
 replace h:=ltE h;obtain⟨v4,e4,h⟩:=h
 apply AW.step
 ·simp[← e3,← e4]
  intros;rfl
 replace h:=ltE h;obtain⟨v5,e5,h⟩:=h
 replace h:=ltE h;obtain⟨v6,e6,h⟩:=h
 replace h:=ltE h;obtain⟨v7,e7,h⟩:=h
 replace h:=bnE h;obtain⟨v8,e8,h⟩:=h
 apply AW.step
 ·simp[← e5,← e6,← e7]
  intros
  refine Ae H5 (IG e8) rfl ⟨.same rfl,trivial⟩ ?_
  try simp[← e5,← e6,← e7]
  intros;rfl
 replace h:=bnE h;obtain⟨y9,g9,h⟩:=h
 refine AW.flow (p:=fun gh ls=>(nP (cx:=cx) (fun q=>(⟨[(6,.l (.p 0 0)),(8,.l (.s (.int .i64 v4))),(9,.l (.p 1 0))],[some ⟨38,22,false,none,[.s (.int .i64 0),.s (.int .i64 0),.s (.int .i64 0),.s (.int .i64 0),.s (.int .i64 0),.s (.slice none 0 0),.s (.slice none 0 0),.s (.slice none 0 0),.s (.int .i64 0),.s (.slice none 0 0),.s (.int .i64 0),.s (.int .i64 0),.s (.int .i64 0),.s (.slice none 0 0),.s (.int .i64 0),.s (.int .i64 0),.s (.int .i64 0),.s (.slice none 0 0),.s (.slice none 0 0),.s (.int .i64 0),.s (.slice none 0 0),.s (.int .i64 0)]⟩,some ⟨38,22,false,none,[.s (.int .i64 v2),.s (.int .i64 v7),.s (.int .i64 q),.s (.int .i64 1),.s (.int .i64 0),.s (.slice none 0 0),.s (.slice none 0 0),.s (.slice none 0 0),.s (.int .i64 0),.s (.slice none 0 0),.s (.int .i64 0),.s (.int .i64 0),.s (.int .i64 0),.s (.slice none 0 0),.s (.int .i64 0),.s (.int .i64 0),.s (.int .i64 0),.d false 1 (encI v8.heard),.d false 1 (encLI v8.says),.s (.int .i64 0),.s (.slice none 0 0),.s (.int .i64 0)]⟩],72,gh,ls⟩:St))) y9) ?_ ?_
 ·replace h:=g9;clear g9
  replace h:=ltE h;obtain⟨v10,e10,h⟩:=h
  apply AW.step
  ·simp[← e10]
   intros;rfl
  cases v10 with
  |true =>
   replace h:=iteT rfl h
   refine AW.cond_true (by simp) ?_
   replace h:=bnE h;obtain⟨v11,e11,h⟩:=h
   apply AW.last
   ·simp[e11]
    intros;rfl
   obtain rfl:=oi h
   refine nP_i ?_
   refine Weak.mixN [some 0,some 1] hn0 (by decide) ?_ ?_ rfl
   all_goals first|(simp[Ab,Ac,pickOb];done)|rfl
  |false =>
   replace h:=iteF rfl h
   refine AW.cond_false (by simp) ?_
   refine AW.skip ?_
   try simp only[nm]
   obtain rfl:=oi h
   refine nP_i ?_
   refine Weak.mixN [some 0,some 1] hn0 (by decide) ?_ ?_ rfl
   all_goals first|(simp[Ab,Ac,pickOb];done)|rfl
 ·rintro e s hp
  obtain⟨rfl,hw⟩:=hp
  refine⟨_,hw,?_⟩
  try simp only[nm]
  apply AW.step
  ·simp
   intros;rfl
  replace h:=bnE h;obtain⟨y12,g12,h⟩:=h
  refine AW.flow (p:=fun gh ls=>(nP (cx:=cx) (fun q=>(⟨[(6,.l (.p 0 0)),(8,.l (.s (.int .i64 v4))),(9,.l (.p 1 0))],[some ⟨38,22,false,none,[.s (.int .i64 0),.s (.int .i64 0),.s (.int .i64 0),.s (.int .i64 0),.s (.int .i64 0),.s (.slice none 0 0),.s (.slice none 0 0),.s (.slice none 0 0),.s (.int .i64 0),.s (.slice none 0 0),.s (.int .i64 0),.s (.int .i64 0),.s (.int .i64 0),.s (.slice none 0 0),.s (.int .i64 0),.s (.int .i64 0),.s (.int .i64 0),.s (.slice none 0 0),.s (.slice none 0 0),.s (.int .i64 0),.s (.slice none 0 0),.s (.int .i64 0)]⟩,some ⟨38,22,false,none,[.s (.int .i64 v2),.s (.int .i64 v7),.s (.int .i64 y9),.s (.int .i64 1),.s (.int .i64 0),.s (.slice none 0 0),.s (.slice none 0 0),.s (.slice none 0 0),.s (.int .i64 0),.s (.slice none 0 0),.s (.int .i64 q),.s (.int .i64 0),.s (.int .i64 0),.s (.slice none 0 0),.s (.int .i64 0),.s (.int .i64 0),.s (.int .i64 0),.d false 1 (encI v8.heard),.d false 1 (encLI v8.says),.s (.int .i64 0),.s (.slice none 0 0),.s (.int .i64 0)]⟩],72,gh,ls⟩:St))) y12) ?_ ?_
  ·replace h:=g12;clear g12
   replace h:=ltE h;obtain⟨v13,e13,h⟩:=h
   apply AW.step
   ·simp[← e13]
    intros;rfl
   cases v13 with
   |true =>
    replace h:=iteT rfl h
    refine AW.cond_true (by simp) ?_
    apply AW.last
    ·simp
     intros;rfl
    obtain rfl:=oi h
    refine nP_i ?_
    refine Weak.mixN [some 0,some 1] hn0 (by decide) ?_ ?_ rfl
    all_goals first|(simp[Ab,Ac,pickOb];done)|rfl
   |false =>
    replace h:=iteF rfl h
    refine AW.cond_false (by simp) ?_
    refine AW.skip ?_
    try simp only[nm]
    obtain rfl:=oi h
    refine nP_i ?_
    refine Weak.mixN [some 0,some 1] hn0 (by decide) ?_ ?_ rfl
    all_goals first|(simp[Ab,Ac,pickOb];done)|rfl
  ·rintro e s hp
   obtain⟨rfl,hw⟩:=hp
   refine⟨_,hw,?_⟩
   try simp only[nm]
   refine AW.seq ?_
   apply AW.step
   ·simp
    intros;rfl
   refine AW.block ?_
   replace h:=bnE h;obtain⟨y15,g15,h⟩:=h
   refine AW.iterP g15 (mk:=fun gh ls q=>(⟨[(6,.l (.p 0 0)),(8,.l (.s (.int .i64 v4))),(9,.l (.p 1 0)),(10,.l (.s (.int .i64 q.1)))],[some ⟨38,22,false,none,[.s (.int .i64 0),.s (.int .i64 0),.s (.int .i64 0),.s (.int .i64 0),.s (.int .i64 0),.s (.slice none 0 0),.s (.slice none 0 0),.s (.slice none 0 0),.s (.int .i64 0),.s (.slice none 0 0),.s (.int .i64 0),.s (.int .i64 0),.s (.int .i64 0),.s (.slice none 0 0),.s (.int .i64 0),.s (.int .i64 0),.s (.int .i64 0),.s (.slice none 0 0),.s (.slice none 0 0),.s (.int .i64 0),.s (.slice none 0 0),.s (.int .i64 0)]⟩,some ⟨38,22,false,none,[.s (.int .i64 v2),.s (.int .i64 v7),.s (.int .i64 y9),.s (.int .i64 1),.s (.int .i64 0),.r 2 4 0 q.2.length,.s (.slice none 0 0),.s (.slice none 0 0),.s (.int .i64 0),.s (.slice none 0 0),.s (.int .i64 y12),.s (.int .i64 0),.s (.int .i64 0),.s (.slice none 0 0),.s (.int .i64 0),.s (.int .i64 0),.s (.int .i64 0),.d false 1 (encI v8.heard),.d false 1 (encLI v8.says),.s (.int .i64 0),.s (.slice none 0 0),.s (.int .i64 0)]⟩,some ⟨81,4,true,none,lvs (encClaim q.2)⟩],72,gh,ls⟩:St)) (N:=fun gh ls=>(xP 0 (cx:=cx) (fun q=>(⟨[(6,.l (.p 0 0)),(9,.l (.p 1 0))],[some ⟨38,22,false,none,[.s (.int .i64 0),.s (.int .i64 0),.s (.int .i64 0),.s (.int .i64 0),.s (.int .i64 0),.s (.slice none 0 0),.s (.slice none 0 0),.s (.slice none 0 0),.s (.int .i64 0),.s (.slice none 0 0),.s (.int .i64 0),.s (.int .i64 0),.s (.int .i64 0),.s (.slice none 0 0),.s (.int .i64 0),.s (.int .i64 0),.s (.int .i64 0),.s (.slice none 0 0),.s (.slice none 0 0),.s (.int .i64 0),.s (.slice none 0 0),.s (.int .i64 0)]⟩,some ⟨38,22,false,none,[.s (.int .i64 v2),.s (.int .i64 v7),.s (.int .i64 y9),.s (.int .i64 1),.s (.int .i64 0),.r 2 4 0 q.length,.s (.slice none 0 0),.s (.slice none 0 0),.s (.int .i64 0),.s (.slice none 0 0),.s (.int .i64 y12),.s (.int .i64 0),.s (.int .i64 0),.s (.slice none 0 0),.s (.int .i64 0),.s (.int .i64 0),.s (.int .i64 0),.d false 1 (encI v8.heard),.d false 1 (encLI v8.says),.s (.int .i64 0),.s (.slice none 0 0),.s (.int .i64 0)]⟩,some ⟨81,4,true,none,lvs (encClaim q)⟩],72,gh,ls⟩:St)))) ?_ noX ?_ ?_
   ·refine W.nilCell 1 5 81 4 2 rfl rfl rfl rfl rfl ?_
    refine Weak.mixN [some 0,some 1,some 2] hn0 (by decide) ?_ ?_ rfl
    all_goals first|(simp[Ab,Ac,pickOb];done)|rfl
   ·clear h;intro y14 y16 h
    refine AW.seq ?_
    replace h:=ltE h;obtain⟨v17,e17,h⟩:=h
    apply AW.step
    ·simp[← e17]
     intros;rfl
    cases v17 with
    |true =>
     replace h:=iteT rfl h
     refine AW.cond_true (by simp) ?_
     refine AW.skip ?_
     try simp only[nm]
     refine AW.seq ?_
     refine AW.block ?_
     replace h:=ltE h;obtain⟨v18,e18,h⟩:=h
     replace h:=bnE h;obtain⟨v19,e19,h⟩:=h
     replace h:=ltE h;obtain⟨v20,e20,h⟩:=h
     replace h:=ltE h;obtain⟨v21,e21,h⟩:=h
     replace h:=bnE h;obtain⟨v22,e22,h⟩:=h
     replace h:=ltE h;obtain⟨v23,e23,h⟩:=h
     replace h:=chkE h;obtain⟨e24,h⟩:=h
     replace h:=ltE h;obtain⟨v25,e25,h⟩:=h
     apply AW.drawnF (V:=[_,_,_,_,_,_,_,_,_,_,_,_,_,_,_]) (M:=[[some ⟨38,22,false,none,[.s (.int .i64 0),.s (.int .i64 0),.s (.int .i64 0),.s (.int .i64 0),.s (.int .i64 0),.s (.slice none 0 0),.s (.slice none 0 0),.s (.slice none 0 0),.s (.int .i64 0),.s (.slice none 0 0),.s (.int .i64 0),.s (.int .i64 0),.s (.int .i64 0),.s (.slice none 0 0),.s (.int .i64 0),.s (.int .i64 0),.s (.int .i64 0),.s (.slice none 0 0),.s (.slice none 0 0),.s (.int .i64 0),.s (.slice none 0 0),.s (.int .i64 0)]⟩,some ⟨38,22,false,none,[.s (.int .i64 v2),.s (.int .i64 v7),.s (.int .i64 y9),.s (.int .i64 1),.s (.int .i64 0),.r 2 4 0 y14.2.length,.s (.slice none 0 0),.s (.slice none 0 0),.s (.int .i64 0),.s (.slice none 0 0),.s (.int .i64 y12),.s (.int .i64 0),.s (.int .i64 0),.s (.slice none 0 0),.s (.int .i64 0),.s (.int .i64 0),.s (.int .i64 0),.d false 1 (encI v8.heard),.d false 1 (encLI v8.says),.s (.int .i64 0),.s (.slice none 0 0),.s (.int .i64 0)]⟩,some ⟨81,4,true,none,lvs (encClaim y14.2)⟩],[some ⟨38,22,false,none,[.s (.int .i64 0),.s (.int .i64 0),.s (.int .i64 0),.s (.int .i64 0),.s (.int .i64 0),.s (.slice none 0 0),.s (.slice none 0 0),.s (.slice none 0 0),.s (.int .i64 0),.s (.slice none 0 0),.s (.int .i64 0),.s (.int .i64 0),.s (.int .i64 0),.s (.slice none 0 0),.s (.int .i64 0),.s (.int .i64 0),.s (.int .i64 0),.s (.slice none 0 0),.s (.slice none 0 0),.s (.int .i64 0),.s (.slice none 0 0),.s (.int .i64 0)]⟩,some ⟨38,22,false,none,[.s (.int .i64 v2),.s (.int .i64 v7),.s (.int .i64 y9),.s (.int .i64 1),.s (.int .i64 0),.r 2 4 0 y14.2.length,.s (.slice none 0 0),.s (.slice none 0 0),.s (.int .i64 0),.s (.slice none 0 0),.s (.int .i64 y12),.s (.int .i64 0),.s (.int .i64 0),.s (.slice none 0 0),.s (.int .i64 0),.s (.int .i64 0),.s (.int .i64 0),.d false 1 (encI v8.heard),.d false 1 (encLI v8.says),.s (.int .i64 0),.s (.slice none 0 0),.s (.int .i64 0)]⟩,some ⟨81,4,true,none,lvs (encClaim y14.2)⟩,some ⟨81,4,true,none,[.s (.int .i64 v19),.s (.int .i64 v23),.s (.int .i64 y14.1),.s (.int .i64 1)]⟩]]) mixed [⟨[0,1],[],[(9,none)],false⟩,⟨[0,1],[0],[(54,some 0)],false⟩,⟨[0],[],[(10,none)],false⟩,⟨[0],[2],[(56,some 2)],false⟩,⟨[0],[],[(8,none)],false⟩,⟨[0],[2,3,4],[(57,some 3),(58,some 4)],false⟩,⟨[0],[],[(10,none)],false⟩,⟨[0],[6],[(60,some 6)],false⟩,⟨[0],[6,7],[(61,some 7)],false⟩,⟨[0],[],[(8,none)],false⟩,⟨[0],[6,7,8,9],[(62,some 8),(63,some 9)],false⟩,⟨[0],[6,7,8,9,10],[(64,some 10)],false⟩,⟨[0],[],[(10,none)],false⟩,⟨[0],[2,3,4,5,6,7,8,9,10,11,12],[(59,some 5),(65,some 11),(66,some 12)],false⟩,⟨[0],[2,3,4,5,6,7,8,9,10,11,12,13],[(67,some 13)],true⟩,⟨[],[0,1,2,3,4,5,6,7,8,9,10,11,12,13,14],[],false⟩,⟨[],[0,1,2,3,4,5,6,7,8,9,10,11,12,13,14,15],[],false⟩,⟨[],[0,1,2,3,4,5,6,7,8,9,10,11,12,13,14,15,16],[],false⟩] 15 1 (by kernel_rfl) (by kernel_rfl)
     ·rfl
     ·refine⟨⟨?_,?_⟩,⟨?_,?_⟩,?_,?_,?_,?_,?_,?_,?_,?_,?_,?_,?_,?_,?_,trivial⟩
      iterate 16 (· intro tm hr;simp[AllL,rdV] at hr;simp[hr,← e18,e19,← e20,← e21,e22,← e23,← AP,← e25,Ao e25];intros;first|exact KD.mk|exact KD.mkN)
      ·intro tm hr
       simp[AllL,rdV] at hr
       simp[hr,← e18,e19,← e20,← e21,e22,← e23,← AP,← e25,Ao e25]
       intros
       refine Av ?_
       try simp[← e18,e19,← e20,← e21,e22,← e23,← AP,← e25,Ao e25]
       intros;first|exact KD.mk|exact KD.mkN
     ·rfl
     ·simp[tmD,putD,← e18,e19,← e20,← e21,e22,← e23,← AP,← e25,Ao e25];rfl
     ·simp[← e18,e19,← e20,← e21,e22,← e23,← AP,← e25,Ao e25]
      intros
      refine AJ (acc:=encClaim y14.2) (ys:=encClaim [(⟨v19,v23,y14.1,1⟩:Claim)]) (cap:=none) (k:=1) G2 G1 (by simp) (by simp[encClaim,lvs]) (BQ _) (by simp) (by simp) (by first|(simp;done)|simpa using (Ah e24).1) ?_
      try simp[← e18,e19,← e20,← e21,e22,← e23,← AP,← e25,Ao e25]
      intros;rfl
     try simp only[nm]
     apply AW.last
     ·simp[← e20]
      intros;rfl
     obtain rfl:=oi h
     refine nP_i ?_
     refine Weak.mixN [some 0,some 1,some 4] hn0 (by decide) ?_ ?_ rfl
     all_goals first|(simp[Ab,Ac,pickOb,DD];done)|rfl
    |false =>
     replace h:=iteF rfl h
     refine AW.cond_false (by simp) ?_
     refine AW.exit ?_
     try simp only[nm]
     obtain rfl:=oi h
     refine xP_i ?_
     refine Weak.mixN [some 0,some 1,some 2] hn0 (by decide) ?_ ?_ rfl
     all_goals first|(simp[Ab,Ac,pickOb];done)|rfl
   ·rintro e s hp
    obtain⟨rfl,hw⟩:=hp
    refine⟨_,hw,?_⟩
    try simp only[nm]
    apply AW.step
    ·simp
     intros;rfl
    replace h:=chkE h;obtain⟨e26,h⟩:=h
    refine AW.frzRow 2 (ty:=81) (cap:=none) (sz:=4) (es:=encClaim y15) (by simp) (by omega) (BQ _) (by first|exact (Ah e26).2|simpa using (Ah e26).2|simp) (by simp[Tm.frz,AV.frz,LV.frz];rfl) (by simp[Ob.frz,LV.frz];rfl) rfl ?_
    refine AW.nilCellD 0 6 6 rfl rfl rfl rfl ?_
    refine AW.nilCellD 0 7 4 rfl rfl rfl rfl ?_
    refine AW.nilCellD 0 9 3 rfl rfl rfl rfl ?_
    refine AW.nilCellD 0 13 7 rfl rfl rfl rfl ?_
    refine AW.nilCellD 0 20 1 rfl rfl rfl rfl ?_
    obtain rfl:=oi h
    refine AW.ret ?_
    refine Left.plain hnb (by simp[Tryz.f28,resV,resC,comp];rfl) rfl rfl ?_
    simp
theorem Ml:Enters Tryz.prog 28:=enters Tryz.func28 (by kernel_rfl) rfl
def CS (n:Nat) (a0:Int) (a1:List Int):Option Node :=
lt (cvI .i64 a0) fun v1 =>
bn (remI .i64 v1 4) fun v2 =>
bn (D7 n 4 v2 4) fun v3 =>
bn (CR n a1) fun v4 =>
chk (room 1 1) <|
some (⟨v3.count,v3.id,v3.master,v3.epoch,v3.voted,[(⟨0,16383,v3.id,1⟩:Claim)],v4,v3.moves,v3.last,v3.seen,v3.feed,v3.watch,v3.asked,v3.votes,v3.wait⟩:Node)
theorem H6 {n:Nat} {a0:Int} {a1:List Int} {r:Node} (h:CS n a0 a1=some r):Sound Tryz.prog 8 [.l (.s (.int .u8 a0)),.l (.d false 1 (encU a1))] [] (.g [.s (.int .i64 r.count),.s (.int .i64 r.id),.s (.int .i64 r.master),.s (.int .i64 r.epoch),.s (.int .i64 r.voted),.d false 4 (encClaim r.claims),.d false 6 (encPair r.db),.d false 4 (encMove r.moves),.s (.int .i64 r.last),.d false 3 (encSeen r.seen),.s (.int .i64 r.feed.rid.node),.s (.int .i64 r.feed.rid.epoch),.s (.int .i64 r.feed.off),.d false 7 (encEffect r.feed.back),.s (.int .i64 r.feed.prev.node),.s (.int .i64 r.feed.prev.epoch),.s (.int .i64 r.feed.upto),.d false 1 (encI r.watch.heard),.d false 1 (encLI r.watch.says),.s (.int .i64 r.asked),.d false 1 (encI r.votes),.s (.int .i64 r.wait)]) []:=by
 unfold CS at h
 refine Sound.of_aw (fn:=Tryz.f8) (c:=_) Tryz.func8 rfl (by simp[Tryz.f8]) fun cx hG hnb=>?_
 rw[show Tryz.f8.ntmps=19 from rfl]
 have hn0:cx.nb=0:=hnb
 simp only[An,initTm,List.map_cons,List.map_nil]
 apply AW.step
 ·simp
  intros;rfl
 replace h:=ltE h;obtain⟨v1,e1,h⟩:=h
 replace h:=bnE h;obtain⟨v2,e2,h⟩:=h
 replace h:=bnE h;obtain⟨v3,e3,h⟩:=h
 apply AW.step
 ·simp[← e1,e2]
  intros
  refine Ae Ml (Nf e3) rfl ⟨.same rfl,.same rfl,.same rfl,trivial⟩ ?_
  try simp[← e1,e2]
  intros;rfl
 apply AW.step
 ·simp
  intros
  refine Av ?_
  try simp
  intros;rfl
 replace h:=bnE h;obtain⟨v4,e4,h⟩:=h
 apply AW.step
 ·simp
  intros
  refine Ae K8 (Mk e4) rfl ⟨.same rfl,trivial⟩ ?_
  try simp
  intros;rfl
 apply AW.step
 ·simp
  intros;rfl
 replace h:=chkE h;obtain⟨e5,h⟩:=h
 refine AW.frzRow 2 (ty:=81) (cap:=none) (sz:=4) (es:=encClaim [(⟨0,16383,v3.id,1⟩:Claim)]) (by simp[DD]) (by omega) (BQ _) (by first|exact (Ah e5).2|simpa using (Ah e5).2|simp) (by simp[Tm.frz,AV.frz,LV.frz,(show List.take 1 (encClaim [(⟨0,16383,v3.id,1⟩:Claim)])=encClaim [(⟨0,16383,v3.id,1⟩:Claim)] from rfl)];rfl) (by simp[Ob.frz,LV.frz,(show List.take 1 (encClaim [(⟨0,16383,v3.id,1⟩:Claim)])=encClaim [(⟨0,16383,v3.id,1⟩:Claim)] from rfl)];rfl) rfl ?_
 obtain rfl:=oi h
 refine AW.ret ?_
 refine Left.plain hnb (by simp[Tryz.f8,resV,resC,comp];rfl) rfl rfl ?_
 simp
theorem Ho:Enters Tryz.prog 8:=enters Tryz.func8 (by kernel_rfl) rfl
def Bs (n:Nat) (a0:Item):Option Item :=
chk (small 32 a0.f) <|
chk (small 16 a0.l) <|
chk (room a0.f.length 1) <|
chk (room a0.l.length 1) <|
some a0
theorem GL {n:Nat} {a0:Item} {r:Item} (h:Bs n a0=some r):Sound Tryz.prog 70 [.g [.s (.int .i64 a0.kind),.s (.string a0.s),.d false 2 (encField a0.f),.d false 1 (encS a0.l),.s (.int .i64 a0.exp)]] [] (.g [.s (.int .i64 r.kind),.s (.string r.s),.d false 2 (encField r.f),.d false 1 (encS r.l),.s (.int .i64 r.exp)]) []:=by
 unfold Bs at h
 refine Sound.of_aw (fn:=Tryz.f70) (c:=_) Tryz.func70 rfl (by simp[Tryz.f70]) fun cx hG hnb=>?_
 rw[show Tryz.f70.ntmps=12 from rfl]
 have hn0:cx.nb=0:=hnb
 simp only[An,initTm,List.map_cons,List.map_nil]
 apply AW.step
 ·simp
  intros;rfl
 replace h:=chkE h;obtain⟨e1,h⟩:=h
 replace h:=chkE h;obtain⟨e2,h⟩:=h
 apply AW.drawnE (V:=[_,_,_,_,_,_,_]) (M:=[[some ⟨57,5,false,none,[.s (.int .i64 a0.kind),.s (.string a0.s),.d false 2 (encField a0.f),.d false 1 (encS a0.l),.s (.int .i64 a0.exp)]⟩,some ⟨57,5,false,none,[.s (.int .i64 0),.s (.string ⟨#[]⟩),.s (.slice none 0 0),.s (.slice none 0 0),.s (.int .i64 0)]⟩],[some ⟨57,5,false,none,[.s (.int .i64 a0.kind),.s (.string a0.s),.d false 2 (encField a0.f),.d false 1 (encS a0.l),.s (.int .i64 a0.exp)]⟩,some ⟨57,5,false,none,[.s (.int .i64 0),.s (.string ⟨#[]⟩),.s (.slice none 0 0),.s (.slice none 0 0),.s (.int .i64 0)]⟩,some ⟨157,2,true,none,lvs (encField a0.f)⟩],[some ⟨57,5,false,none,[.s (.int .i64 a0.kind),.s (.string a0.s),.d false 2 (encField a0.f),.d false 1 (encS a0.l),.s (.int .i64 a0.exp)]⟩,some ⟨57,5,false,none,[.s (.int .i64 0),.s (.string ⟨#[]⟩),.s (.slice none 0 0),.s (.slice none 0 0),.s (.int .i64 0)]⟩,some ⟨157,2,true,none,lvs (encField a0.f)⟩,some ⟨9,1,true,none,lvs (encS a0.l)⟩]]) mixed [⟨[0],[],[(1,none)],false⟩,⟨[0],[0],[(3,some 0)],false⟩,⟨[0],[0,1],[(4,some 1)],true⟩,⟨[0,1],[],[(1,none)],false⟩,⟨[0,1],[3],[(6,some 3)],false⟩,⟨[1],[0,1,2,3,4],[(7,some 4)],true⟩,⟨[1,2],[0,1,2,3,4],[(1,none)],false⟩,⟨[],[0,1,2,3,4,5,6],[],false⟩,⟨[],[0,1,2,3,4,5,6,7],[],false⟩,⟨[],[0,1,2,3,4,5,6,7,8],[],false⟩] 7 2 (by kernel_rfl) (by kernel_rfl)
 ·rfl
 ·refine⟨?_,?_,?_,⟨?_,?_⟩,⟨?_,?_⟩,?_,⟨?_,?_⟩,trivial⟩
  iterate 2 (· intro tm hr;simp[AllL,rdV] at hr;simp[hr,outR];intros;first|exact KD.mk|exact KD.mkN)
  ·intro tm hr
   simp[AllL,rdV] at hr
   simp[hr,outR]
   intros
   refine AF Hn (H0 a0.f (Bv e1)) rfl (by simp) ⟨.d _ _ _,trivial⟩ ?_
   try simp[outR]
   intros;first|exact KD.mk|exact KD.mkN
  iterate 4 (· intro tm hr;simp[AllL,rdV] at hr;simp[hr,outR];intros;first|exact KD.mk|exact KD.mkN)
  ·intro tm hr
   simp[AllL,rdV] at hr
   simp[hr,outR]
   intros
   refine AF LD (M2 a0.l (Bv e2)) rfl (by simp) ⟨.d _ _ _,trivial⟩ ?_
   try simp[outR]
   intros;first|exact KD.mk|exact KD.mkN
  iterate 2 (· intro tm hr;simp[AllL,rdV] at hr;simp[hr,outR];intros;first|exact KD.mk|exact KD.mkN)
 ·rfl
 ·simp[tmD,putD,outR];rfl
 ·simp[outR]
  intros;rfl
 apply AW.step
 ·simp
  intros;rfl
 replace h:=chkE h;obtain⟨e3,h⟩:=h
 refine AW.frzRow 2 (ty:=157) (cap:=none) (sz:=2) (es:=encField a0.f) (by simp) (by omega) (CN _) (by first|exact (Ah e3).2|simpa using (Ah e3).2|simp) (by simp[Tm.frz,AV.frz,LV.frz];rfl) (by simp[Ob.frz,LV.frz];rfl) rfl ?_
 replace h:=chkE h;obtain⟨e4,h⟩:=h
 refine AW.frzRow 3 (ty:=9) (cap:=none) (sz:=1) (es:=encS a0.l) (by simp) (by omega) (De _) (by first|exact (Ah e4).2|simpa using (Ah e4).2|simp) (by simp[Tm.frz,AV.frz,LV.frz];rfl) (by simp[Ob.frz,LV.frz];rfl) rfl ?_
 obtain rfl:=oi h
 refine AW.ret ?_
 refine Left.plain hnb (by simp[Tryz.f70,resV,resC,comp];rfl) rfl rfl ?_
 simp
theorem Gi:Enters Tryz.prog 70:=enters Tryz.func70 (by kernel_rfl) rfl
def A9 (n:Nat) (a0:Node):Option Node :=
chk (small 32 a0.claims) <|
chk (small 40 a0.moves) <|
chk (small 24 a0.seen) <|
chk (small 8 a0.votes) <|
chk (small 96 a0.db) <|
chk (small 104 a0.feed.back) <|
lt (lenI a0.db) fun v7 =>
bn (iter n (fun (y8:Int×List Pair) =>
lt (ltI y8.1 v7) fun v11 =>
ite' v11 (bn (nth y8.2 y8.1) fun v12 =>
bn (Bs n v12.item) fun v14 =>
lt (y8.2.set y8.1.toNat (⟨v12.key,v14⟩:Pair)) fun v16 =>
lt (addI .i64 y8.1 1) fun v20 =>
some (.inl (v20,v16))) (some (.inr y8.2))) (0,a0.db)) fun (y9:List Pair) =>
lt (lenI a0.feed.back) fun v21 =>
bn (iter n (fun (y22:Int×List Effect) =>
lt (ltI y22.1 v21) fun v25 =>
ite' v25 (bn (nth y22.2 y22.1) fun v26 =>
bn (Bs n v26.item) fun v28 =>
lt (y22.2.set y22.1.toNat (⟨v26.key,v26.gone,v28⟩:Effect)) fun v30 =>
lt (addI .i64 y22.1 1) fun v34 =>
some (.inl (v34,v30))) (some (.inr y22.2))) (0,a0.feed.back)) fun (y23:List Effect) =>
chk (small 8 a0.watch.heard) <|
chk (small 24 a0.watch.says) <|
lt (lenI a0.watch.says) fun v37 =>
bn (iter n (fun (y38:Int×List (List Int)) =>
lt (ltI y38.1 v37) fun v41 =>
ite' v41 (bn (nth y38.2 y38.1) fun v42 =>
chk (small 8 v42) <|
lt (y38.2.set y38.1.toNat v42) fun v46 =>
lt (addI .i64 y38.1 1) fun v49 =>
some (.inl (v49,v46))) (some (.inr y38.2))) (0,a0.watch.says)) fun (y39:List (List Int)) =>
chk (room a0.claims.length 1) <|
chk (room y9.length 1) <|
chk (room y23.length 1) <|
chk (room a0.watch.heard.length 1) <|
chk (room y39.length 1) <|
chk (room a0.votes.length 1) <|
some (⟨a0.count,a0.id,a0.master,a0.epoch,a0.voted,a0.claims,y9,a0.moves,a0.last,a0.seen,(⟨a0.feed.rid,a0.feed.off,y23,a0.feed.prev,a0.feed.upto⟩:Feed),(⟨a0.watch.heard,y39⟩:Watch),a0.asked,a0.votes,a0.wait⟩:Node)
theorem DM {n:Nat} {a0:Node} {r:Node} (h:A9 n a0=some r):Sound Tryz.prog 33 [.g [.s (.int .i64 a0.count),.s (.int .i64 a0.id),.s (.int .i64 a0.master),.s (.int .i64 a0.epoch),.s (.int .i64 a0.voted),.d false 4 (encClaim a0.claims),.d false 6 (encPair a0.db),.d false 4 (encMove a0.moves),.s (.int .i64 a0.last),.d false 3 (encSeen a0.seen),.s (.int .i64 a0.feed.rid.node),.s (.int .i64 a0.feed.rid.epoch),.s (.int .i64 a0.feed.off),.d false 7 (encEffect a0.feed.back),.s (.int .i64 a0.feed.prev.node),.s (.int .i64 a0.feed.prev.epoch),.s (.int .i64 a0.feed.upto),.d false 1 (encI a0.watch.heard),.d false 1 (encLI a0.watch.says),.s (.int .i64 a0.asked),.d false 1 (encI a0.votes),.s (.int .i64 a0.wait)]] [] (.g [.s (.int .i64 r.count),.s (.int .i64 r.id),.s (.int .i64 r.master),.s (.int .i64 r.epoch),.s (.int .i64 r.voted),.d false 4 (encClaim r.claims),.d false 6 (encPair r.db),.r 0 4 0 r.moves.length,.s (.int .i64 r.last),.r 1 3 0 r.seen.length,.s (.int .i64 r.feed.rid.node),.s (.int .i64 r.feed.rid.epoch),.s (.int .i64 r.feed.off),.d false 7 (encEffect r.feed.back),.s (.int .i64 r.feed.prev.node),.s (.int .i64 r.feed.prev.epoch),.s (.int .i64 r.feed.upto),.d false 1 (encI r.watch.heard),.d false 1 (encLI r.watch.says),.s (.int .i64 r.asked),.d false 1 (encI r.votes),.s (.int .i64 r.wait)]) [some ⟨92,4,true,none,lvs (encMove r.moves)⟩,some ⟨100,3,true,none,lvs (encSeen r.seen)⟩]:=by
 unfold A9 at h
 refine Sound.of_aw (fn:=Tryz.f33) (c:=_) Tryz.func33 rfl (by simp[Tryz.f33]) fun cx hG hnb=>?_
 rw[show Tryz.f33.ntmps=104 from rfl]
 have hn0:cx.nb=0:=hnb
 simp only[An,initTm,List.map_cons,List.map_nil]
 apply AW.step
 ·simp
  intros;rfl
 replace h:=chkE h;obtain⟨e1,h⟩:=h
 replace h:=chkE h;obtain⟨e2,h⟩:=h
 replace h:=chkE h;obtain⟨e3,h⟩:=h
 replace h:=chkE h;obtain⟨e4,h⟩:=h
 apply AW.drawnE (V:=[_,_,_,_,_,_,_,_,_,_,_,_,_]) (M:=[[some ⟨38,22,false,none,[.s (.int .i64 a0.count),.s (.int .i64 a0.id),.s (.int .i64 a0.master),.s (.int .i64 a0.epoch),.s (.int .i64 a0.voted),.d false 4 (encClaim a0.claims),.d false 6 (encPair a0.db),.d false 4 (encMove a0.moves),.s (.int .i64 a0.last),.d false 3 (encSeen a0.seen),.s (.int .i64 a0.feed.rid.node),.s (.int .i64 a0.feed.rid.epoch),.s (.int .i64 a0.feed.off),.d false 7 (encEffect a0.feed.back),.s (.int .i64 a0.feed.prev.node),.s (.int .i64 a0.feed.prev.epoch),.s (.int .i64 a0.feed.upto),.d false 1 (encI a0.watch.heard),.d false 1 (encLI a0.watch.says),.s (.int .i64 a0.asked),.d false 1 (encI a0.votes),.s (.int .i64 a0.wait)]⟩,some ⟨38,22,false,none,[.s (.int .i64 0),.s (.int .i64 0),.s (.int .i64 0),.s (.int .i64 0),.s (.int .i64 0),.s (.slice none 0 0),.s (.slice none 0 0),.s (.slice none 0 0),.s (.int .i64 0),.s (.slice none 0 0),.s (.int .i64 0),.s (.int .i64 0),.s (.int .i64 0),.s (.slice none 0 0),.s (.int .i64 0),.s (.int .i64 0),.s (.int .i64 0),.s (.slice none 0 0),.s (.slice none 0 0),.s (.int .i64 0),.s (.slice none 0 0),.s (.int .i64 0)]⟩],[some ⟨38,22,false,none,[.s (.int .i64 a0.count),.s (.int .i64 a0.id),.s (.int .i64 a0.master),.s (.int .i64 a0.epoch),.s (.int .i64 a0.voted),.d false 4 (encClaim a0.claims),.d false 6 (encPair a0.db),.d false 4 (encMove a0.moves),.s (.int .i64 a0.last),.d false 3 (encSeen a0.seen),.s (.int .i64 a0.feed.rid.node),.s (.int .i64 a0.feed.rid.epoch),.s (.int .i64 a0.feed.off),.d false 7 (encEffect a0.feed.back),.s (.int .i64 a0.feed.prev.node),.s (.int .i64 a0.feed.prev.epoch),.s (.int .i64 a0.feed.upto),.d false 1 (encI a0.watch.heard),.d false 1 (encLI a0.watch.says),.s (.int .i64 a0.asked),.d false 1 (encI a0.votes),.s (.int .i64 a0.wait)]⟩,some ⟨38,22,false,none,[.s (.int .i64 0),.s (.int .i64 0),.s (.int .i64 0),.s (.int .i64 0),.s (.int .i64 0),.s (.slice none 0 0),.s (.slice none 0 0),.s (.slice none 0 0),.s (.int .i64 0),.s (.slice none 0 0),.s (.int .i64 0),.s (.int .i64 0),.s (.int .i64 0),.s (.slice none 0 0),.s (.int .i64 0),.s (.int .i64 0),.s (.int .i64 0),.s (.slice none 0 0),.s (.slice none 0 0),.s (.int .i64 0),.s (.slice none 0 0),.s (.int .i64 0)]⟩,some ⟨81,4,true,none,lvs (encClaim a0.claims)⟩],[some ⟨38,22,false,none,[.s (.int .i64 a0.count),.s (.int .i64 a0.id),.s (.int .i64 a0.master),.s (.int .i64 a0.epoch),.s (.int .i64 a0.voted),.d false 4 (encClaim a0.claims),.d false 6 (encPair a0.db),.d false 4 (encMove a0.moves),.s (.int .i64 a0.last),.d false 3 (encSeen a0.seen),.s (.int .i64 a0.feed.rid.node),.s (.int .i64 a0.feed.rid.epoch),.s (.int .i64 a0.feed.off),.d false 7 (encEffect a0.feed.back),.s (.int .i64 a0.feed.prev.node),.s (.int .i64 a0.feed.prev.epoch),.s (.int .i64 a0.feed.upto),.d false 1 (encI a0.watch.heard),.d false 1 (encLI a0.watch.says),.s (.int .i64 a0.asked),.d false 1 (encI a0.votes),.s (.int .i64 a0.wait)]⟩,some ⟨38,22,false,none,[.s (.int .i64 0),.s (.int .i64 0),.s (.int .i64 0),.s (.int .i64 0),.s (.int .i64 0),.s (.slice none 0 0),.s (.slice none 0 0),.s (.slice none 0 0),.s (.int .i64 0),.s (.slice none 0 0),.s (.int .i64 0),.s (.int .i64 0),.s (.int .i64 0),.s (.slice none 0 0),.s (.int .i64 0),.s (.int .i64 0),.s (.int .i64 0),.s (.slice none 0 0),.s (.slice none 0 0),.s (.int .i64 0),.s (.slice none 0 0),.s (.int .i64 0)]⟩,some ⟨81,4,true,none,lvs (encClaim a0.claims)⟩,some ⟨92,4,true,none,lvs (encMove a0.moves)⟩],[some ⟨38,22,false,none,[.s (.int .i64 a0.count),.s (.int .i64 a0.id),.s (.int .i64 a0.master),.s (.int .i64 a0.epoch),.s (.int .i64 a0.voted),.d false 4 (encClaim a0.claims),.d false 6 (encPair a0.db),.d false 4 (encMove a0.moves),.s (.int .i64 a0.last),.d false 3 (encSeen a0.seen),.s (.int .i64 a0.feed.rid.node),.s (.int .i64 a0.feed.rid.epoch),.s (.int .i64 a0.feed.off),.d false 7 (encEffect a0.feed.back),.s (.int .i64 a0.feed.prev.node),.s (.int .i64 a0.feed.prev.epoch),.s (.int .i64 a0.feed.upto),.d false 1 (encI a0.watch.heard),.d false 1 (encLI a0.watch.says),.s (.int .i64 a0.asked),.d false 1 (encI a0.votes),.s (.int .i64 a0.wait)]⟩,some ⟨38,22,false,none,[.s (.int .i64 0),.s (.int .i64 0),.s (.int .i64 0),.s (.int .i64 0),.s (.int .i64 0),.s (.slice none 0 0),.s (.slice none 0 0),.s (.slice none 0 0),.s (.int .i64 0),.s (.slice none 0 0),.s (.int .i64 0),.s (.int .i64 0),.s (.int .i64 0),.s (.slice none 0 0),.s (.int .i64 0),.s (.int .i64 0),.s (.int .i64 0),.s (.slice none 0 0),.s (.slice none 0 0),.s (.int .i64 0),.s (.slice none 0 0),.s (.int .i64 0)]⟩,some ⟨81,4,true,none,lvs (encClaim a0.claims)⟩,some ⟨92,4,true,none,lvs (encMove a0.moves)⟩,some ⟨100,3,true,none,lvs (encSeen a0.seen)⟩],[some ⟨38,22,false,none,[.s (.int .i64 a0.count),.s (.int .i64 a0.id),.s (.int .i64 a0.master),.s (.int .i64 a0.epoch),.s (.int .i64 a0.voted),.d false 4 (encClaim a0.claims),.d false 6 (encPair a0.db),.d false 4 (encMove a0.moves),.s (.int .i64 a0.last),.d false 3 (encSeen a0.seen),.s (.int .i64 a0.feed.rid.node),.s (.int .i64 a0.feed.rid.epoch),.s (.int .i64 a0.feed.off),.d false 7 (encEffect a0.feed.back),.s (.int .i64 a0.feed.prev.node),.s (.int .i64 a0.feed.prev.epoch),.s (.int .i64 a0.feed.upto),.d false 1 (encI a0.watch.heard),.d false 1 (encLI a0.watch.says),.s (.int .i64 a0.asked),.d false 1 (encI a0.votes),.s (.int .i64 a0.wait)]⟩,some ⟨38,22,false,none,[.s (.int .i64 0),.s (.int .i64 0),.s (.int .i64 0),.s (.int .i64 0),.s (.int .i64 0),.s (.slice none 0 0),.s (.slice none 0 0),.s (.slice none 0 0),.s (.int .i64 0),.s (.slice none 0 0),.s (.int .i64 0),.s (.int .i64 0),.s (.int .i64 0),.s (.slice none 0 0),.s (.int .i64 0),.s (.int .i64 0),.s (.int .i64 0),.s (.slice none 0 0),.s (.slice none 0 0),.s (.int .i64 0),.s (.slice none 0 0),.s (.int .i64 0)]⟩,some ⟨81,4,true,none,lvs (encClaim a0.claims)⟩,some ⟨92,4,true,none,lvs (encMove a0.moves)⟩,some ⟨100,3,true,none,lvs (encSeen a0.seen)⟩,some ⟨3,1,true,none,lvs (encI a0.votes)⟩]]) mixed [⟨[0],[],[(1,none)],false⟩,⟨[0],[0],[(7,some 0)],false⟩,⟨[0],[0,1],[(8,some 1)],true⟩,⟨[0,1],[],[(1,none)],false⟩,⟨[0,1],[3],[(10,some 3)],false⟩,⟨[1],[0,1,2,3,4],[(11,some 4)],true⟩,⟨[0,1,2],[],[(1,none)],false⟩,⟨[0,1,2],[6],[(13,some 6)],false⟩,⟨[2],[0,1,2,3,4,5,6,7],[(14,some 7)],true⟩,⟨[0,1,2,3],[],[(1,none)],false⟩,⟨[0,1,2,3],[9],[(16,some 9)],false⟩,⟨[3],[0,1,2,3,4,5,6,7,8,9,10],[(17,some 10)],true⟩,⟨[1,2,3,4],[0,1,2,3,4,6,7,9,10],[(1,none)],false⟩,⟨[],[0,1,2,3,4,5,6,7,8,9,10,11,12],[],false⟩,⟨[],[0,1,2,3,4,5,6,7,8,9,10,11,12,13],[],false⟩,⟨[],[0,1,2,3,4,5,6,7,8,9,10,11,12,13,14],[],false⟩,⟨[],[0,1,2,3,4,5,6,7,8,9,10,11,12,13,14,15],[],false⟩,⟨[],[0,1,2,3,4,5,6,7,8,9,10,11,12,13,14,15,16],[],false⟩,⟨[],[0,1,2,3,4,5,6,7,8,9,10,11,12,13,14,15,16,17],[],false⟩,⟨[],[0,1,2,3,4,5,6,7,8,9,10,11,12,13,14,15,16,17,18],[],false⟩] 13 4 (by kernel_rfl) (by kernel_rfl)
 ·rfl
 ·refine⟨?_,?_,?_,⟨?_,?_⟩,⟨?_,?_⟩,?_,⟨?_,?_,?_⟩,⟨?_,?_,?_⟩,?_,⟨?_,?_,?_,?_⟩,⟨?_,?_,?_,?_⟩,?_,⟨?_,?_,?_,?_⟩,trivial⟩
  iterate 2 (· intro tm hr;simp[AllL,rdV] at hr;simp[hr,outR];intros;first|exact KD.mk|exact KD.mkN)
  ·intro tm hr
   simp[AllL,rdV] at hr
   simp[hr,outR]
   intros
   refine AF KV (L3 a0.claims (Bv e1)) rfl (by simp) ⟨.d _ _ _,trivial⟩ ?_
   try simp[outR]
   intros;first|exact KD.mk|exact KD.mkN
  iterate 4 (· intro tm hr;simp[AllL,rdV] at hr;simp[hr,outR];intros;first|exact KD.mk|exact KD.mkN)
  ·intro tm hr
   simp[AllL,rdV] at hr
   simp[hr,outR]
   intros
   refine AF L4 (M0 a0.moves (Bv e2)) rfl (by simp) ⟨.d _ _ _,trivial⟩ ?_
   try simp[outR]
   intros;first|exact KD.mk|exact KD.mkN
  iterate 6 (· intro tm hr;simp[AllL,rdV] at hr;simp[hr,outR];intros;first|exact KD.mk|exact KD.mkN)
  ·intro tm hr
   simp[AllL,rdV] at hr
   simp[hr,outR]
   intros
   refine AF L5 (M1 a0.seen (Bv e3)) rfl (by simp) ⟨.d _ _ _,trivial⟩ ?_
   try simp[outR]
   intros;first|exact KD.mk|exact KD.mkN
  iterate 8 (· intro tm hr;simp[AllL,rdV] at hr;simp[hr,outR];intros;first|exact KD.mk|exact KD.mkN)
  ·intro tm hr
   simp[AllL,rdV] at hr
   simp[hr,outR]
   intros
   refine AF IB (Kd a0.votes (Bv e4)) rfl (by simp) ⟨.d _ _ _,trivial⟩ ?_
   try simp[outR]
   intros;first|exact KD.mk|exact KD.mkN
  iterate 4 (· intro tm hr;simp[AllL,rdV] at hr;simp[hr,outR];intros;first|exact KD.mk|exact KD.mkN)
 ·rfl
 ·simp[tmD,putD,outR];rfl
 ·simp[outR]
  intros;rfl
 replace h:=chkE h;obtain⟨e5,h⟩:=h
 replace h:=chkE h;obtain⟨e6,h⟩:=h
 apply AW.drawnE (V:=[_,_,_,_,_,_,_,_]) (M:=[[some ⟨38,22,false,none,[.s (.int .i64 a0.count),.s (.int .i64 a0.id),.s (.int .i64 a0.master),.s (.int .i64 a0.epoch),.s (.int .i64 a0.voted),.r 2 4 0 a0.claims.length,.d false 6 (encPair a0.db),.r 3 4 0 a0.moves.length,.s (.int .i64 a0.last),.r 4 3 0 a0.seen.length,.s (.int .i64 a0.feed.rid.node),.s (.int .i64 a0.feed.rid.epoch),.s (.int .i64 a0.feed.off),.d false 7 (encEffect a0.feed.back),.s (.int .i64 a0.feed.prev.node),.s (.int .i64 a0.feed.prev.epoch),.s (.int .i64 a0.feed.upto),.d false 1 (encI a0.watch.heard),.d false 1 (encLI a0.watch.says),.s (.int .i64 a0.asked),.r 5 1 0 a0.votes.length,.s (.int .i64 a0.wait)]⟩,some ⟨38,22,false,none,[.s (.int .i64 0),.s (.int .i64 0),.s (.int .i64 0),.s (.int .i64 0),.s (.int .i64 0),.s (.slice none 0 0),.s (.slice none 0 0),.s (.slice none 0 0),.s (.int .i64 0),.s (.slice none 0 0),.s (.int .i64 0),.s (.int .i64 0),.s (.int .i64 0),.s (.slice none 0 0),.s (.int .i64 0),.s (.int .i64 0),.s (.int .i64 0),.s (.slice none 0 0),.s (.slice none 0 0),.s (.int .i64 0),.s (.slice none 0 0),.s (.int .i64 0)]⟩,some ⟨81,4,true,none,lvs (encClaim a0.claims)⟩,some ⟨92,4,true,none,lvs (encMove a0.moves)⟩,some ⟨100,3,true,none,lvs (encSeen a0.seen)⟩,some ⟨3,1,true,none,lvs (encI a0.votes)⟩],[some ⟨38,22,false,none,[.s (.int .i64 a0.count),.s (.int .i64 a0.id),.s (.int .i64 a0.master),.s (.int .i64 a0.epoch),.s (.int .i64 a0.voted),.r 2 4 0 a0.claims.length,.d false 6 (encPair a0.db),.r 3 4 0 a0.moves.length,.s (.int .i64 a0.last),.r 4 3 0 a0.seen.length,.s (.int .i64 a0.feed.rid.node),.s (.int .i64 a0.feed.rid.epoch),.s (.int .i64 a0.feed.off),.d false 7 (encEffect a0.feed.back),.s (.int .i64 a0.feed.prev.node),.s (.int .i64 a0.feed.prev.epoch),.s (.int .i64 a0.feed.upto),.d false 1 (encI a0.watch.heard),.d false 1 (encLI a0.watch.says),.s (.int .i64 a0.asked),.r 5 1 0 a0.votes.length,.s (.int .i64 a0.wait)]⟩,some ⟨38,22,false,none,[.s (.int .i64 0),.s (.int .i64 0),.s (.int .i64 0),.s (.int .i64 0),.s (.int .i64 0),.s (.slice none 0 0),.s (.slice none 0 0),.s (.slice none 0 0),.s (.int .i64 0),.s (.slice none 0 0),.s (.int .i64 0),.s (.int .i64 0),.s (.int .i64 0),.s (.slice none 0 0),.s (.int .i64 0),.s (.int .i64 0),.s (.int .i64 0),.s (.slice none 0 0),.s (.slice none 0 0),.s (.int .i64 0),.s (.slice none 0 0),.s (.int .i64 0)]⟩,some ⟨81,4,true,none,lvs (encClaim a0.claims)⟩,some ⟨92,4,true,none,lvs (encMove a0.moves)⟩,some ⟨100,3,true,none,lvs (encSeen a0.seen)⟩,some ⟨3,1,true,none,lvs (encI a0.votes)⟩,some ⟨114,6,true,none,lvs (encPair a0.db)⟩],[some ⟨38,22,false,none,[.s (.int .i64 a0.count),.s (.int .i64 a0.id),.s (.int .i64 a0.master),.s (.int .i64 a0.epoch),.s (.int .i64 a0.voted),.r 2 4 0 a0.claims.length,.d false 6 (encPair a0.db),.r 3 4 0 a0.moves.length,.s (.int .i64 a0.last),.r 4 3 0 a0.seen.length,.s (.int .i64 a0.feed.rid.node),.s (.int .i64 a0.feed.rid.epoch),.s (.int .i64 a0.feed.off),.d false 7 (encEffect a0.feed.back),.s (.int .i64 a0.feed.prev.node),.s (.int .i64 a0.feed.prev.epoch),.s (.int .i64 a0.feed.upto),.d false 1 (encI a0.watch.heard),.d false 1 (encLI a0.watch.says),.s (.int .i64 a0.asked),.r 5 1 0 a0.votes.length,.s (.int .i64 a0.wait)]⟩,some ⟨38,22,false,none,[.s (.int .i64 0),.s (.int .i64 0),.s (.int .i64 0),.s (.int .i64 0),.s (.int .i64 0),.s (.slice none 0 0),.s (.slice none 0 0),.s (.slice none 0 0),.s (.int .i64 0),.s (.slice none 0 0),.s (.int .i64 0),.s (.int .i64 0),.s (.int .i64 0),.s (.slice none 0 0),.s (.int .i64 0),.s (.int .i64 0),.s (.int .i64 0),.s (.slice none 0 0),.s (.slice none 0 0),.s (.int .i64 0),.s (.slice none 0 0),.s (.int .i64 0)]⟩,some ⟨81,4,true,none,lvs (encClaim a0.claims)⟩,some ⟨92,4,true,none,lvs (encMove a0.moves)⟩,some ⟨100,3,true,none,lvs (encSeen a0.seen)⟩,some ⟨3,1,true,none,lvs (encI a0.votes)⟩,some ⟨114,6,true,none,lvs (encPair a0.db)⟩,some ⟨59,7,true,none,lvs (encEffect a0.feed.back)⟩]]) mixed [⟨[0],[],[(1,none)],false⟩,⟨[0],[0],[(23,some 0)],false⟩,⟨[0],[0,1],[(24,some 1)],true⟩,⟨[0,1],[],[(1,none)],false⟩,⟨[0,1],[3],[(26,some 3)],false⟩,⟨[0,1],[3,4],[(27,some 4)],false⟩,⟨[1],[0,1,2,3,4,5],[(28,some 5)],true⟩,⟨[1,2],[0,1,2,3,4,5],[(1,none)],false⟩,⟨[],[0,1,2,3,4,5,6,7],[],false⟩,⟨[],[0,1,2,3,4,5,6,7,8],[],false⟩,⟨[],[0,1,2,3,4,5,6,7,8,9],[],false⟩,⟨[],[0,1,2,3,4,5,6,7,8,9,10],[],false⟩] 8 2 (by kernel_rfl) (by kernel_rfl)
 ·rfl
 ·refine⟨?_,?_,?_,⟨?_,?_⟩,⟨?_,?_⟩,⟨?_,?_⟩,?_,⟨?_,?_⟩,trivial⟩
  iterate 2 (· intro tm hr;simp[AllL,rdV] at hr;simp[hr,outR];intros;first|exact KD.mk|exact KD.mkN)
  ·intro tm hr
   simp[AllL,rdV] at hr
   simp[hr,outR]
   intros
   refine AF H1 (I5 a0.db (Bv e5)) rfl (by simp) ⟨.same rfl,trivial⟩ ?_
   try simp[outR]
   intros;first|exact KD.mk|exact KD.mkN
  iterate 6 (· intro tm hr;simp[AllL,rdV] at hr;simp[hr,outR];intros;first|exact KD.mk|exact KD.mkN)
  ·intro tm hr
   simp[AllL,rdV] at hr
   simp[hr,outR]
   intros
   refine AF GH (Hm a0.feed.back (Bv e6)) rfl (by simp) ⟨.same rfl,trivial⟩ ?_
   try simp[outR]
   intros;first|exact KD.mk|exact KD.mkN
  iterate 2 (· intro tm hr;simp[AllL,rdV] at hr;simp[hr,outR];intros;first|exact KD.mk|exact KD.mkN)
 ·rfl
 ·simp[tmD,putD,outR];rfl
 ·simp[outR]
  intros;rfl
 refine AW.seq ?_
 replace h:=ltE h;obtain⟨v7,e7,h⟩:=h
 apply AW.step
 ·simp[Aa e7]
  intros;rfl
 refine AW.block ?_
 replace h:=bnE h;obtain⟨y9,g9,h⟩:=h
 refine AW.iterP g9 (mk:=fun gh ls q=>(⟨[(1,.l (.p 0 0)),(2,.l (.p 1 0)),(35,.l (.s (.int .i64 v7))),(36,.l (.s (.int .i64 q.1)))],[some ⟨38,22,false,none,[.s (.int .i64 a0.count),.s (.int .i64 a0.id),.s (.int .i64 a0.master),.s (.int .i64 a0.epoch),.s (.int .i64 a0.voted),.r 2 4 0 a0.claims.length,.r 3 6 0 q.2.length,.r 4 4 0 a0.moves.length,.s (.int .i64 a0.last),.r 5 3 0 a0.seen.length,.s (.int .i64 a0.feed.rid.node),.s (.int .i64 a0.feed.rid.epoch),.s (.int .i64 a0.feed.off),.r 6 7 0 a0.feed.back.length,.s (.int .i64 a0.feed.prev.node),.s (.int .i64 a0.feed.prev.epoch),.s (.int .i64 a0.feed.upto),.d false 1 (encI a0.watch.heard),.d false 1 (encLI a0.watch.says),.s (.int .i64 a0.asked),.r 7 1 0 a0.votes.length,.s (.int .i64 a0.wait)]⟩,some ⟨38,22,false,none,[.s (.int .i64 0),.s (.int .i64 0),.s (.int .i64 0),.s (.int .i64 0),.s (.int .i64 0),.s (.slice none 0 0),.s (.slice none 0 0),.s (.slice none 0 0),.s (.int .i64 0),.s (.slice none 0 0),.s (.int .i64 0),.s (.int .i64 0),.s (.int .i64 0),.s (.slice none 0 0),.s (.int .i64 0),.s (.int .i64 0),.s (.int .i64 0),.s (.slice none 0 0),.s (.slice none 0 0),.s (.int .i64 0),.s (.slice none 0 0),.s (.int .i64 0)]⟩,some ⟨81,4,true,none,lvs (encClaim a0.claims)⟩,some ⟨114,6,true,none,lvs (encPair q.2)⟩,some ⟨92,4,true,none,lvs (encMove a0.moves)⟩,some ⟨100,3,true,none,lvs (encSeen a0.seen)⟩,some ⟨59,7,true,none,lvs (encEffect a0.feed.back)⟩,some ⟨3,1,true,none,lvs (encI a0.votes)⟩],104,gh,ls⟩:St)) (N:=fun gh ls=>(xP 0 (cx:=cx) (fun q=>(⟨[(1,.l (.p 0 0)),(2,.l (.p 1 0))],[some ⟨38,22,false,none,[.s (.int .i64 a0.count),.s (.int .i64 a0.id),.s (.int .i64 a0.master),.s (.int .i64 a0.epoch),.s (.int .i64 a0.voted),.r 2 4 0 a0.claims.length,.r 3 6 0 q.length,.r 4 4 0 a0.moves.length,.s (.int .i64 a0.last),.r 5 3 0 a0.seen.length,.s (.int .i64 a0.feed.rid.node),.s (.int .i64 a0.feed.rid.epoch),.s (.int .i64 a0.feed.off),.r 6 7 0 a0.feed.back.length,.s (.int .i64 a0.feed.prev.node),.s (.int .i64 a0.feed.prev.epoch),.s (.int .i64 a0.feed.upto),.d false 1 (encI a0.watch.heard),.d false 1 (encLI a0.watch.says),.s (.int .i64 a0.asked),.r 7 1 0 a0.votes.length,.s (.int .i64 a0.wait)]⟩,some ⟨38,22,false,none,[.s (.int .i64 0),.s (.int .i64 0),.s (.int .i64 0),.s (.int .i64 0),.s (.int .i64 0),.s (.slice none 0 0),.s (.slice none 0 0),.s (.slice none 0 0),.s (.int .i64 0),.s (.slice none 0 0),.s (.int .i64 0),.s (.int .i64 0),.s (.int .i64 0),.s (.slice none 0 0),.s (.int .i64 0),.s (.int .i64 0),.s (.int .i64 0),.s (.slice none 0 0),.s (.slice none 0 0),.s (.int .i64 0),.s (.slice none 0 0),.s (.int .i64 0)]⟩,some ⟨81,4,true,none,lvs (encClaim a0.claims)⟩,some ⟨114,6,true,none,lvs (encPair q)⟩,some ⟨92,4,true,none,lvs (encMove a0.moves)⟩,some ⟨100,3,true,none,lvs (encSeen a0.seen)⟩,some ⟨59,7,true,none,lvs (encEffect a0.feed.back)⟩,some ⟨3,1,true,none,lvs (encI a0.votes)⟩],104,gh,ls⟩:St)))) ?_ noX ?_ ?_
 ·refine Weak.mixN [some 0,some 1,some 2,some 6,some 3,some 4,some 7,some 5] hn0 (by decide) ?_ ?_ rfl
  all_goals first|(simp[Ab,Ac,pickOb];done)|rfl
 ·clear h;intro y8 y10 h
  replace h:=ltE h;obtain⟨v11,e11,h⟩:=h
  apply AW.step
  ·simp[← e11]
   intros;rfl
  refine AW.seq ?_
  cases v11 with
  |true =>
   replace h:=iteT rfl h
   refine AW.cond_true (by simp) ?_
   refine AW.skip ?_
   try simp only[nm]
   refine AW.seq ?_
   refine AW.block ?_
   apply AW.step
   ·simp
    intros;rfl
   replace h:=bnE h;obtain⟨v12,e12,h⟩:=h
   have f13:=A0 e12
   try simp[Ad e12] at f13
   replace h:=bnE h;obtain⟨v14,e14,h⟩:=h
   have f15:=A0 e12
   try simp[Ad e12,f13,BB (Ad e12).2 (j:=1) (k:=5) (by decide),A2 (Ad e12).2 (j:=1) (m:=5) (by decide),lvs1] at f15
   replace h:=ltE h;obtain⟨v16,e16,h⟩:=h
   have f17:=FE (Ad e12).2 e16 (j:=1) (cs:=[.s (.int .i64 v14.kind),.s (.string v14.s),.d false 2 (encField v14.f),.d false 1 (encS v14.l),.s (.int .i64 v14.exp)]) (by simp) rfl
   try simp at f17
   have f18:=f13
   try simp only[AC e16] at f18
   have f19:=f15
   try simp only[AC e16] at f19
   apply AW.drawnR (V:=[_,_,_,_,_,_,_,_,_,_]) mixed [⟨[0],[],[(1,none)],false⟩,⟨[0],[0],[(39,some 0)],false⟩,⟨[0],[],[(3,none)],false⟩,⟨[0],[],[(1,none)],false⟩,⟨[0],[3],[(42,some 3)],false⟩,⟨[0],[],[(3,none)],false⟩,⟨[0],[3,4,5],[(43,some 4),(44,some 5)],false⟩,⟨[0],[3,4,5,6],[(45,some 6)],false⟩,⟨[0],[3,4,5,6,7],[(46,some 7)],false⟩,⟨[0],[3,4,5,6,7,8],[(47,some 8)],false⟩,⟨[],[0,1,2,3,4,5,6,7,8,9],[],false⟩,⟨[],[0,1,2,3,4,5,6,7,8,9,10],[],false⟩,⟨[],[0,1,2,3,4,5,6,7,8,9,10,11],[],false⟩] 10 (by kernel_rfl) (by kernel_rfl)
   ·refine⟨?_,?_,?_,?_,?_,?_,?_,?_,?_,?_,trivial⟩
    iterate 9 (· intro tm hr;simp[AllL,rdV] at hr;simp[hr,Ad e12,f13,BB (Ad e12).2 (j:=1) (k:=5) (by decide),A2 (Ad e12).2 (j:=1) (m:=5) (by decide),lvs1,f15,f17,f18,f19];intros;first|exact KD.mk|exact KD.mkN)
    ·intro tm hr
     simp[AllL,rdV] at hr
     simp[hr,Ad e12,f13,BB (Ad e12).2 (j:=1) (k:=5) (by decide),A2 (Ad e12).2 (j:=1) (m:=5) (by decide),lvs1,f15,f17,f18,f19]
     intros
     refine Ae Gi (GL e14) rfl ⟨.same rfl,trivial⟩ ?_
     try simp[Ad e12,f13,BB (Ad e12).2 (j:=1) (k:=5) (by decide),A2 (Ad e12).2 (j:=1) (m:=5) (by decide),lvs1,f15,f17,f18,f19]
     intros;first|exact KD.mk|exact KD.mkN
   ·rfl
   ·simp[tmD,putD,Ad e12,f13,BB (Ad e12).2 (j:=1) (k:=5) (by decide),A2 (Ad e12).2 (j:=1) (m:=5) (by decide),lvs1,f15,f17,f18,f19];rfl
   ·simp[Ad e12,f13,BB (Ad e12).2 (j:=1) (k:=5) (by decide),A2 (Ad e12).2 (j:=1) (m:=5) (by decide),lvs1,f15,f17,f18,f19]
    intros;rfl
   try simp only[nm]
   replace h:=ltE h;obtain⟨v20,e20,h⟩:=h
   apply AW.last
   ·simp[← e20]
    intros;rfl
   obtain rfl:=oi h
   refine nP_i ?_
   refine Weak.mixN [some 0,some 1,some 2,some 3,some 4,some 5,some 6,some 7] hn0 (by decide) ?_ ?_ rfl
   all_goals first|(simp[Ab,Ac,pickOb,AC e16];done)|rfl
  |false =>
   replace h:=iteF rfl h
   refine AW.cond_false (by simp) ?_
   refine AW.exit ?_
   try simp only[nm]
   obtain rfl:=oi h
   refine xP_i ?_
   refine Weak.mixN [some 0,some 1,some 2,some 3,some 4,some 5,some 6,some 7] hn0 (by decide) ?_ ?_ rfl
   all_goals first|(simp[Ab,Ac,pickOb];done)|rfl
 ·rintro e s hp
  obtain⟨rfl,hw⟩:=hp
  refine⟨_,hw,?_⟩
  try simp only[nm]
  refine AW.seq ?_
  replace h:=ltE h;obtain⟨v21,e21,h⟩:=h
  apply AW.step
  ·simp[Aa e21]
   intros;rfl
  refine AW.block ?_
  replace h:=bnE h;obtain⟨y23,g23,h⟩:=h
  refine AW.iterP g23 (mk:=fun gh ls q=>(⟨[(1,.l (.p 0 0)),(2,.l (.p 1 0)),(55,.l (.s (.int .i64 v21))),(56,.l (.s (.int .i64 q.1)))],[some ⟨38,22,false,none,[.s (.int .i64 a0.count),.s (.int .i64 a0.id),.s (.int .i64 a0.master),.s (.int .i64 a0.epoch),.s (.int .i64 a0.voted),.r 2 4 0 a0.claims.length,.r 3 6 0 y9.length,.r 4 4 0 a0.moves.length,.s (.int .i64 a0.last),.r 5 3 0 a0.seen.length,.s (.int .i64 a0.feed.rid.node),.s (.int .i64 a0.feed.rid.epoch),.s (.int .i64 a0.feed.off),.r 6 7 0 q.2.length,.s (.int .i64 a0.feed.prev.node),.s (.int .i64 a0.feed.prev.epoch),.s (.int .i64 a0.feed.upto),.d false 1 (encI a0.watch.heard),.d false 1 (encLI a0.watch.says),.s (.int .i64 a0.asked),.r 7 1 0 a0.votes.length,.s (.int .i64 a0.wait)]⟩,some ⟨38,22,false,none,[.s (.int .i64 0),.s (.int .i64 0),.s (.int .i64 0),.s (.int .i64 0),.s (.int .i64 0),.s (.slice none 0 0),.s (.slice none 0 0),.s (.slice none 0 0),.s (.int .i64 0),.s (.slice none 0 0),.s (.int .i64 0),.s (.int .i64 0),.s (.int .i64 0),.s (.slice none 0 0),.s (.int .i64 0),.s (.int .i64 0),.s (.int .i64 0),.s (.slice none 0 0),.s (.slice none 0 0),.s (.int .i64 0),.s (.slice none 0 0),.s (.int .i64 0)]⟩,some ⟨81,4,true,none,lvs (encClaim a0.claims)⟩,some ⟨114,6,true,none,lvs (encPair y9)⟩,some ⟨92,4,true,none,lvs (encMove a0.moves)⟩,some ⟨100,3,true,none,lvs (encSeen a0.seen)⟩,some ⟨59,7,true,none,lvs (encEffect q.2)⟩,some ⟨3,1,true,none,lvs (encI a0.votes)⟩],104,gh,ls⟩:St)) (N:=fun gh ls=>(xP 2 (cx:=cx) (fun q=>(⟨[(1,.l (.p 0 0)),(2,.l (.p 1 0))],[some ⟨38,22,false,none,[.s (.int .i64 a0.count),.s (.int .i64 a0.id),.s (.int .i64 a0.master),.s (.int .i64 a0.epoch),.s (.int .i64 a0.voted),.r 2 4 0 a0.claims.length,.r 3 6 0 y9.length,.r 4 4 0 a0.moves.length,.s (.int .i64 a0.last),.r 5 3 0 a0.seen.length,.s (.int .i64 a0.feed.rid.node),.s (.int .i64 a0.feed.rid.epoch),.s (.int .i64 a0.feed.off),.r 6 7 0 q.length,.s (.int .i64 a0.feed.prev.node),.s (.int .i64 a0.feed.prev.epoch),.s (.int .i64 a0.feed.upto),.d false 1 (encI a0.watch.heard),.d false 1 (encLI a0.watch.says),.s (.int .i64 a0.asked),.r 7 1 0 a0.votes.length,.s (.int .i64 a0.wait)]⟩,some ⟨38,22,false,none,[.s (.int .i64 0),.s (.int .i64 0),.s (.int .i64 0),.s (.int .i64 0),.s (.int .i64 0),.s (.slice none 0 0),.s (.slice none 0 0),.s (.slice none 0 0),.s (.int .i64 0),.s (.slice none 0 0),.s (.int .i64 0),.s (.int .i64 0),.s (.int .i64 0),.s (.slice none 0 0),.s (.int .i64 0),.s (.int .i64 0),.s (.int .i64 0),.s (.slice none 0 0),.s (.slice none 0 0),.s (.int .i64 0),.s (.slice none 0 0),.s (.int .i64 0)]⟩,some ⟨81,4,true,none,lvs (encClaim a0.claims)⟩,some ⟨114,6,true,none,lvs (encPair y9)⟩,some ⟨92,4,true,none,lvs (encMove a0.moves)⟩,some ⟨100,3,true,none,lvs (encSeen a0.seen)⟩,some ⟨59,7,true,none,lvs (encEffect q)⟩,some ⟨3,1,true,none,lvs (encI a0.votes)⟩],104,gh,ls⟩:St)))) ?_ noX ?_ ?_
  ·refine Weak.mixN [some 0,some 1,some 2,some 3,some 4,some 5,some 6,some 7] hn0 (by decide) ?_ ?_ rfl
   all_goals first|(simp[Ab,Ac,pickOb];done)|rfl
  ·clear h;intro y22 y24 h
   replace h:=ltE h;obtain⟨v25,e25,h⟩:=h
   apply AW.step
   ·simp[← e25]
    intros;rfl
   refine AW.seq ?_
   cases v25 with
   |true =>
    replace h:=iteT rfl h
    refine AW.cond_true (by simp) ?_
    refine AW.skip ?_
    try simp only[nm]
    refine AW.seq ?_
    refine AW.block ?_
    apply AW.step
    ·simp
     intros;rfl
    replace h:=bnE h;obtain⟨v26,e26,h⟩:=h
    have f27:=A0 e26
    try simp[Ad e26] at f27
    replace h:=bnE h;obtain⟨v28,e28,h⟩:=h
    have f29:=A0 e26
    try simp[Ad e26,f27,Be (Ad e26).2 (j:=2) (k:=5) (by decide),A3 (Ad e26).2 (j:=2) (m:=5) (by decide),lvs1] at f29
    replace h:=ltE h;obtain⟨v30,e30,h⟩:=h
    have f31:=Gg (Ad e26).2 e30 (j:=2) (cs:=[.s (.int .i64 v28.kind),.s (.string v28.s),.d false 2 (encField v28.f),.d false 1 (encS v28.l),.s (.int .i64 v28.exp)]) (by simp) rfl
    try simp at f31
    have f32:=f27
    try simp only[AC e30] at f32
    have f33:=f29
    try simp only[AC e30] at f33
    apply AW.drawnR (V:=[_,_,_,_,_,_,_,_,_,_,_,_]) mixed [⟨[0],[],[(1,none)],false⟩,⟨[0],[0],[(59,some 0)],false⟩,⟨[0],[0,1],[(60,some 1)],false⟩,⟨[0],[],[(4,none)],false⟩,⟨[0],[],[(1,none)],false⟩,⟨[0],[4],[(63,some 4)],false⟩,⟨[0],[4,5],[(64,some 5)],false⟩,⟨[0],[],[(4,none)],false⟩,⟨[0],[4,5,6,7],[(65,some 6),(66,some 7)],false⟩,⟨[0],[4,5,6,7,8],[(67,some 8)],false⟩,⟨[0],[4,5,6,7,8,9],[(68,some 9)],false⟩,⟨[0],[4,5,6,7,8,9,10],[(69,some 10)],false⟩,⟨[],[0,1,2,3,4,5,6,7,8,9,10,11],[],false⟩,⟨[],[0,1,2,3,4,5,6,7,8,9,10,11,12],[],false⟩,⟨[],[0,1,2,3,4,5,6,7,8,9,10,11,12,13],[],false⟩] 12 (by kernel_rfl) (by kernel_rfl)
    ·refine⟨?_,?_,?_,?_,?_,?_,?_,?_,?_,?_,?_,?_,trivial⟩
     iterate 11 (· intro tm hr;simp[AllL,rdV] at hr;simp[hr,Ad e26,f27,Be (Ad e26).2 (j:=2) (k:=5) (by decide),A3 (Ad e26).2 (j:=2) (m:=5) (by decide),lvs1,f29,f31,f32,f33];intros;first|exact KD.mk|exact KD.mkN)
     ·intro tm hr
      simp[AllL,rdV] at hr
      simp[hr,Ad e26,f27,Be (Ad e26).2 (j:=2) (k:=5) (by decide),A3 (Ad e26).2 (j:=2) (m:=5) (by decide),lvs1,f29,f31,f32,f33]
      intros
      refine Ae Gi (GL e28) rfl ⟨.same rfl,trivial⟩ ?_
      try simp[Ad e26,f27,Be (Ad e26).2 (j:=2) (k:=5) (by decide),A3 (Ad e26).2 (j:=2) (m:=5) (by decide),lvs1,f29,f31,f32,f33]
      intros;first|exact KD.mk|exact KD.mkN
    ·rfl
    ·simp[tmD,putD,Ad e26,f27,Be (Ad e26).2 (j:=2) (k:=5) (by decide),A3 (Ad e26).2 (j:=2) (m:=5) (by decide),lvs1,f29,f31,f32,f33];rfl
    ·simp[Ad e26,f27,Be (Ad e26).2 (j:=2) (k:=5) (by decide),A3 (Ad e26).2 (j:=2) (m:=5) (by decide),lvs1,f29,f31,f32,f33]
     intros;rfl
    try simp only[nm]
    replace h:=ltE h;obtain⟨v34,e34,h⟩:=h
    apply AW.last
    ·simp[← e34]
     intros;rfl
    obtain rfl:=oi h
    refine nP_i ?_
    refine Weak.mixN [some 0,some 1,some 2,some 3,some 4,some 5,some 6,some 7] hn0 (by decide) ?_ ?_ rfl
    all_goals first|(simp[Ab,Ac,pickOb,AC e30];done)|rfl
   |false =>
    replace h:=iteF rfl h
    refine AW.cond_false (by simp) ?_
    refine AW.exit ?_
    try simp only[nm]
    obtain rfl:=oi h
    refine xP_i ?_
    refine Weak.mixN [some 0,some 1,some 2,some 3,some 4,some 5,some 6,some 7] hn0 (by decide) ?_ ?_ rfl
    all_goals first|(simp[Ab,Ac,pickOb];done)|rfl
  ·rintro e s hp
   obtain⟨rfl,hw⟩:=hp
   refine⟨_,hw,?_⟩
   try simp only[nm]
   replace h:=chkE h;obtain⟨e35,h⟩:=h
   replace h:=chkE h;obtain⟨e36,h⟩:=h
   apply AW.drawnE (V:=[_,_,_,_,_,_,_,_,_,_]) (M:=[[some ⟨38,22,false,none,[.s (.int .i64 a0.count),.s (.int .i64 a0.id),.s (.int .i64 a0.master),.s (.int .i64 a0.epoch),.s (.int .i64 a0.voted),.r 2 4 0 a0.claims.length,.r 3 6 0 y9.length,.r 4 4 0 a0.moves.length,.s (.int .i64 a0.last),.r 5 3 0 a0.seen.length,.s (.int .i64 a0.feed.rid.node),.s (.int .i64 a0.feed.rid.epoch),.s (.int .i64 a0.feed.off),.r 6 7 0 y23.length,.s (.int .i64 a0.feed.prev.node),.s (.int .i64 a0.feed.prev.epoch),.s (.int .i64 a0.feed.upto),.d false 1 (encI a0.watch.heard),.d false 1 (encLI a0.watch.says),.s (.int .i64 a0.asked),.r 7 1 0 a0.votes.length,.s (.int .i64 a0.wait)]⟩,some ⟨38,22,false,none,[.s (.int .i64 0),.s (.int .i64 0),.s (.int .i64 0),.s (.int .i64 0),.s (.int .i64 0),.s (.slice none 0 0),.s (.slice none 0 0),.s (.slice none 0 0),.s (.int .i64 0),.s (.slice none 0 0),.s (.int .i64 0),.s (.int .i64 0),.s (.int .i64 0),.s (.slice none 0 0),.s (.int .i64 0),.s (.int .i64 0),.s (.int .i64 0),.s (.slice none 0 0),.s (.slice none 0 0),.s (.int .i64 0),.s (.slice none 0 0),.s (.int .i64 0)]⟩,some ⟨81,4,true,none,lvs (encClaim a0.claims)⟩,some ⟨114,6,true,none,lvs (encPair y9)⟩,some ⟨92,4,true,none,lvs (encMove a0.moves)⟩,some ⟨100,3,true,none,lvs (encSeen a0.seen)⟩,some ⟨59,7,true,none,lvs (encEffect y23)⟩,some ⟨3,1,true,none,lvs (encI a0.votes)⟩],[some ⟨38,22,false,none,[.s (.int .i64 a0.count),.s (.int .i64 a0.id),.s (.int .i64 a0.master),.s (.int .i64 a0.epoch),.s (.int .i64 a0.voted),.r 2 4 0 a0.claims.length,.r 3 6 0 y9.length,.r 4 4 0 a0.moves.length,.s (.int .i64 a0.last),.r 5 3 0 a0.seen.length,.s (.int .i64 a0.feed.rid.node),.s (.int .i64 a0.feed.rid.epoch),.s (.int .i64 a0.feed.off),.r 6 7 0 y23.length,.s (.int .i64 a0.feed.prev.node),.s (.int .i64 a0.feed.prev.epoch),.s (.int .i64 a0.feed.upto),.d false 1 (encI a0.watch.heard),.d false 1 (encLI a0.watch.says),.s (.int .i64 a0.asked),.r 7 1 0 a0.votes.length,.s (.int .i64 a0.wait)]⟩,some ⟨38,22,false,none,[.s (.int .i64 0),.s (.int .i64 0),.s (.int .i64 0),.s (.int .i64 0),.s (.int .i64 0),.s (.slice none 0 0),.s (.slice none 0 0),.s (.slice none 0 0),.s (.int .i64 0),.s (.slice none 0 0),.s (.int .i64 0),.s (.int .i64 0),.s (.int .i64 0),.s (.slice none 0 0),.s (.int .i64 0),.s (.int .i64 0),.s (.int .i64 0),.s (.slice none 0 0),.s (.slice none 0 0),.s (.int .i64 0),.s (.slice none 0 0),.s (.int .i64 0)]⟩,some ⟨81,4,true,none,lvs (encClaim a0.claims)⟩,some ⟨114,6,true,none,lvs (encPair y9)⟩,some ⟨92,4,true,none,lvs (encMove a0.moves)⟩,some ⟨100,3,true,none,lvs (encSeen a0.seen)⟩,some ⟨59,7,true,none,lvs (encEffect y23)⟩,some ⟨3,1,true,none,lvs (encI a0.votes)⟩,some ⟨3,1,true,none,lvs (encI a0.watch.heard)⟩],[some ⟨38,22,false,none,[.s (.int .i64 a0.count),.s (.int .i64 a0.id),.s (.int .i64 a0.master),.s (.int .i64 a0.epoch),.s (.int .i64 a0.voted),.r 2 4 0 a0.claims.length,.r 3 6 0 y9.length,.r 4 4 0 a0.moves.length,.s (.int .i64 a0.last),.r 5 3 0 a0.seen.length,.s (.int .i64 a0.feed.rid.node),.s (.int .i64 a0.feed.rid.epoch),.s (.int .i64 a0.feed.off),.r 6 7 0 y23.length,.s (.int .i64 a0.feed.prev.node),.s (.int .i64 a0.feed.prev.epoch),.s (.int .i64 a0.feed.upto),.d false 1 (encI a0.watch.heard),.d false 1 (encLI a0.watch.says),.s (.int .i64 a0.asked),.r 7 1 0 a0.votes.length,.s (.int .i64 a0.wait)]⟩,some ⟨38,22,false,none,[.s (.int .i64 0),.s (.int .i64 0),.s (.int .i64 0),.s (.int .i64 0),.s (.int .i64 0),.s (.slice none 0 0),.s (.slice none 0 0),.s (.slice none 0 0),.s (.int .i64 0),.s (.slice none 0 0),.s (.int .i64 0),.s (.int .i64 0),.s (.int .i64 0),.s (.slice none 0 0),.s (.int .i64 0),.s (.int .i64 0),.s (.int .i64 0),.s (.slice none 0 0),.s (.slice none 0 0),.s (.int .i64 0),.s (.slice none 0 0),.s (.int .i64 0)]⟩,some ⟨81,4,true,none,lvs (encClaim a0.claims)⟩,some ⟨114,6,true,none,lvs (encPair y9)⟩,some ⟨92,4,true,none,lvs (encMove a0.moves)⟩,some ⟨100,3,true,none,lvs (encSeen a0.seen)⟩,some ⟨59,7,true,none,lvs (encEffect y23)⟩,some ⟨3,1,true,none,lvs (encI a0.votes)⟩,some ⟨3,1,true,none,lvs (encI a0.watch.heard)⟩,some ⟨33,1,true,none,lvs (encLI a0.watch.says)⟩]]) mixed [⟨[0],[],[(1,none)],false⟩,⟨[0],[0],[(74,some 0)],false⟩,⟨[0],[0,1],[(75,some 1)],false⟩,⟨[0],[0,1,2],[(76,some 2)],true⟩,⟨[0,1],[],[(1,none)],false⟩,⟨[0,1],[4],[(78,some 4)],false⟩,⟨[0,1],[4,5],[(79,some 5)],false⟩,⟨[1],[0,1,2,3,4,5,6],[(80,some 6)],true⟩,⟨[1,2],[0,1,2,3,4,5,6],[(1,none)],false⟩,⟨[1,2],[0,1,2,3,4,5,6,8],[(82,some 8)],false⟩,⟨[],[0,1,2,3,4,5,6,7,8,9],[],false⟩,⟨[],[0,1,2,3,4,5,6,7,8,9,10],[],false⟩,⟨[],[0,1,2,3,4,5,6,7,8,9,10,11],[],false⟩,⟨[],[0,1,2,3,4,5,6,7,8,9,10,11,12],[],false⟩] 10 2 (by kernel_rfl) (by kernel_rfl)
   ·rfl
   ·refine⟨?_,?_,?_,?_,⟨?_,?_⟩,⟨?_,?_⟩,⟨?_,?_⟩,?_,⟨?_,?_⟩,⟨?_,?_⟩,trivial⟩
    iterate 3 (· intro tm hr;simp[AllL,rdV] at hr;simp[hr,outR];intros;first|exact KD.mk|exact KD.mkN)
    ·intro tm hr
     simp[AllL,rdV] at hr
     simp[hr,outR]
     intros
     refine AF IB (Kd a0.watch.heard (Bv e35)) rfl (by simp) ⟨.d _ _ _,trivial⟩ ?_
     try simp[outR]
     intros;first|exact KD.mk|exact KD.mkN
    iterate 6 (· intro tm hr;simp[AllL,rdV] at hr;simp[hr,outR];intros;first|exact KD.mk|exact KD.mkN)
    ·intro tm hr
     simp[AllL,rdV] at hr
     simp[hr,outR]
     intros
     refine AF NN (OC a0.watch.says (Bv e36)) rfl (by simp) ⟨.same rfl,trivial⟩ ?_
     try simp[outR]
     intros;first|exact KD.mk|exact KD.mkN
    iterate 4 (· intro tm hr;simp[AllL,rdV] at hr;simp[hr,outR];intros;first|exact KD.mk|exact KD.mkN)
   ·rfl
   ·simp[tmD,putD,outR];rfl
   ·simp[outR]
    intros;rfl
   refine AW.seq ?_
   replace h:=ltE h;obtain⟨v37,e37,h⟩:=h
   apply AW.step
   ·simp[Aa e37]
    intros;rfl
   refine AW.block ?_
   replace h:=bnE h;obtain⟨y39,g39,h⟩:=h
   refine AW.iterP g39 (mk:=fun gh ls q=>(⟨[(1,.l (.p 0 0)),(2,.l (.p 1 0)),(88,.l (.r 2 1 0 q.2.length)),(89,.l (.s (.int .i64 v37))),(90,.l (.s (.int .i64 q.1)))],[some ⟨38,22,false,none,[.s (.int .i64 a0.count),.s (.int .i64 a0.id),.s (.int .i64 a0.master),.s (.int .i64 a0.epoch),.s (.int .i64 a0.voted),.r 3 4 0 a0.claims.length,.r 4 6 0 y9.length,.r 5 4 0 a0.moves.length,.s (.int .i64 a0.last),.r 6 3 0 a0.seen.length,.s (.int .i64 a0.feed.rid.node),.s (.int .i64 a0.feed.rid.epoch),.s (.int .i64 a0.feed.off),.r 7 7 0 y23.length,.s (.int .i64 a0.feed.prev.node),.s (.int .i64 a0.feed.prev.epoch),.s (.int .i64 a0.feed.upto),.r 8 1 0 a0.watch.heard.length,.r 2 1 0 q.2.length,.s (.int .i64 a0.asked),.r 9 1 0 a0.votes.length,.s (.int .i64 a0.wait)]⟩,some ⟨38,22,false,none,[.s (.int .i64 0),.s (.int .i64 0),.s (.int .i64 0),.s (.int .i64 0),.s (.int .i64 0),.s (.slice none 0 0),.s (.slice none 0 0),.s (.slice none 0 0),.s (.int .i64 0),.s (.slice none 0 0),.s (.int .i64 0),.s (.int .i64 0),.s (.int .i64 0),.s (.slice none 0 0),.s (.int .i64 0),.s (.int .i64 0),.s (.int .i64 0),.s (.slice none 0 0),.s (.slice none 0 0),.s (.int .i64 0),.s (.slice none 0 0),.s (.int .i64 0)]⟩,some ⟨33,1,true,none,lvs (encLI q.2)⟩,some ⟨81,4,true,none,lvs (encClaim a0.claims)⟩,some ⟨114,6,true,none,lvs (encPair y9)⟩,some ⟨92,4,true,none,lvs (encMove a0.moves)⟩,some ⟨100,3,true,none,lvs (encSeen a0.seen)⟩,some ⟨59,7,true,none,lvs (encEffect y23)⟩,some ⟨3,1,true,none,lvs (encI a0.watch.heard)⟩,some ⟨3,1,true,none,lvs (encI a0.votes)⟩],104,gh,ls⟩:St)) (N:=fun gh ls=>(xP 4 (cx:=cx) (fun q=>(⟨[(1,.l (.p 0 0)),(2,.l (.p 1 0))],[some ⟨38,22,false,none,[.s (.int .i64 a0.count),.s (.int .i64 a0.id),.s (.int .i64 a0.master),.s (.int .i64 a0.epoch),.s (.int .i64 a0.voted),.r 2 4 0 a0.claims.length,.r 3 6 0 y9.length,.r 4 4 0 a0.moves.length,.s (.int .i64 a0.last),.r 5 3 0 a0.seen.length,.s (.int .i64 a0.feed.rid.node),.s (.int .i64 a0.feed.rid.epoch),.s (.int .i64 a0.feed.off),.r 6 7 0 y23.length,.s (.int .i64 a0.feed.prev.node),.s (.int .i64 a0.feed.prev.epoch),.s (.int .i64 a0.feed.upto),.r 7 1 0 a0.watch.heard.length,.r 8 1 0 q.length,.s (.int .i64 a0.asked),.r 9 1 0 a0.votes.length,.s (.int .i64 a0.wait)]⟩,some ⟨38,22,false,none,[.s (.int .i64 0),.s (.int .i64 0),.s (.int .i64 0),.s (.int .i64 0),.s (.int .i64 0),.s (.slice none 0 0),.s (.slice none 0 0),.s (.slice none 0 0),.s (.int .i64 0),.s (.slice none 0 0),.s (.int .i64 0),.s (.int .i64 0),.s (.int .i64 0),.s (.slice none 0 0),.s (.int .i64 0),.s (.int .i64 0),.s (.int .i64 0),.s (.slice none 0 0),.s (.slice none 0 0),.s (.int .i64 0),.s (.slice none 0 0),.s (.int .i64 0)]⟩,some ⟨81,4,true,none,lvs (encClaim a0.claims)⟩,some ⟨114,6,true,none,lvs (encPair y9)⟩,some ⟨92,4,true,none,lvs (encMove a0.moves)⟩,some ⟨100,3,true,none,lvs (encSeen a0.seen)⟩,some ⟨59,7,true,none,lvs (encEffect y23)⟩,some ⟨3,1,true,none,lvs (encI a0.watch.heard)⟩,some ⟨33,1,true,none,lvs (encLI q)⟩,some ⟨3,1,true,none,lvs (encI a0.votes)⟩],104,gh,ls⟩:St)))) ?_ noX ?_ ?_
   ·refine Weak.mixN [some 0,some 1,some 9,some 2,some 3,some 4,some 5,some 6,some 8,some 7] hn0 (by decide) ?_ ?_ rfl
    all_goals first|(simp[Ab,Ac,pickOb];done)|rfl
   ·clear h;intro y38 y40 h
    replace h:=ltE h;obtain⟨v41,e41,h⟩:=h
    apply AW.step
    ·simp[← e41]
     intros;rfl
    refine AW.seq ?_
    cases v41 with
    |true =>
     replace h:=iteT rfl h
     refine AW.cond_true (by simp) ?_
     refine AW.skip ?_
     try simp only[nm]
     refine AW.seq ?_
     refine AW.block ?_
     replace h:=bnE h;obtain⟨v42,e42,h⟩:=h
     have f43:=A0 e42
     try simp[Ad e42] at f43
     apply AW.step
     ·simp[Ad e42,f43,KS (Ad e42).2,lvs1]
      intros;rfl
     replace h:=chkE h;obtain⟨e44,h⟩:=h
     have f45:=A0 e42
     try simp[Ad e42] at f45
     replace h:=ltE h;obtain⟨v46,e46,h⟩:=h
     have f47:=L2 (Ad e42).2 e46 (cs:=[.d false 1 (encI v42)]) (by simp) rfl
     try simp at f47
     have f48:=f45
     try simp only[AC e46] at f48
     apply AW.drawnR (V:=[_,_,_,_,_,_]) mixed [⟨[0],[],[(1,none)],false⟩,⟨[0],[0],[(95,some 0)],false⟩,⟨[0],[0,1],[(96,some 1)],false⟩,⟨[0],[],[(5,none)],false⟩,⟨[0],[],[(6,none)],false⟩,⟨[0],[4],[(99,some 4)],false⟩,⟨[],[0,1,2,3,4,5],[],false⟩,⟨[],[0,1,2,3,4,5,6],[],false⟩] 6 (by kernel_rfl) (by kernel_rfl)
     ·refine⟨?_,?_,?_,?_,?_,?_,trivial⟩
      iterate 5 (· intro tm hr;simp[AllL,rdV] at hr;simp[hr,Ad e42,f45,Ey (Ad e42).2 (show 1≤1 by decide),f47,f48];intros;first|exact KD.mk|exact KD.mkN)
      ·intro tm hr
       simp[AllL,rdV] at hr
       simp[hr,Ad e42,f45,Ey (Ad e42).2 (show 1≤1 by decide),f47,f48]
       intros
       refine Ae IB (PC v42 (Bv e44)) rfl ⟨.d _ _ _,trivial⟩ ?_
       try simp[Ad e42,f45,Ey (Ad e42).2 (show 1≤1 by decide),f47,f48]
       intros;first|exact KD.mk|exact KD.mkN
     ·rfl
     ·simp[tmD,putD,Ad e42,f45,Ey (Ad e42).2 (show 1≤1 by decide),f47,f48];rfl
     ·simp[Ad e42,f45,Ey (Ad e42).2 (show 1≤1 by decide),f47,f48]
      intros;rfl
     try simp only[nm]
     replace h:=ltE h;obtain⟨v49,e49,h⟩:=h
     apply AW.last
     ·simp[← e49]
      intros;rfl
     obtain rfl:=oi h
     refine nP_i ?_
     refine Weak.mixN [some 0,some 1,some 2,some 3,some 4,some 5,some 6,some 7,some 8,some 9] hn0 (by decide) ?_ ?_ rfl
     all_goals first|(simp[Ab,Ac,pickOb,AC e46];done)|rfl
    |false =>
     replace h:=iteF rfl h
     refine AW.cond_false (by simp) ?_
     refine AW.exit ?_
     try simp only[nm]
     obtain rfl:=oi h
     refine xP_i ?_
     refine Weak.mixN [some 0,some 1,some 3,some 4,some 5,some 6,some 7,some 8,some 2,some 9] hn0 (by decide) ?_ ?_ rfl
     all_goals first|(simp[Ab,Ac,pickOb];done)|rfl
   ·rintro e s hp
    obtain⟨rfl,hw⟩:=hp
    refine⟨_,hw,?_⟩
    try simp only[nm]
    apply AW.step
    ·simp
     intros;rfl
    replace h:=chkE h;obtain⟨e50,h⟩:=h
    refine AW.frzRow 2 (ty:=81) (cap:=none) (sz:=4) (es:=encClaim a0.claims) (by simp) (by omega) (BQ _) (by first|exact (Ah e50).2|simpa using (Ah e50).2|simp) (by simp[Tm.frz,AV.frz,LV.frz];rfl) (by simp[Ob.frz,LV.frz];rfl) rfl ?_
    replace h:=chkE h;obtain⟨e51,h⟩:=h
    refine AW.frzRow 3 (ty:=114) (cap:=none) (sz:=6) (es:=encPair y9) (by simp) (by omega) (Ax _) (by first|exact (Ah e51).2|simpa using (Ah e51).2|simp) (by simp[Tm.frz,AV.frz,LV.frz];rfl) (by simp[Ob.frz,LV.frz];rfl) rfl ?_
    replace h:=chkE h;obtain⟨e52,h⟩:=h
    refine AW.frzRow 6 (ty:=59) (cap:=none) (sz:=7) (es:=encEffect y23) (by simp) (by omega) (BC _) (by first|exact (Ah e52).2|simpa using (Ah e52).2|simp) (by simp[Tm.frz,AV.frz,LV.frz];rfl) (by simp[Ob.frz,LV.frz];rfl) rfl ?_
    replace h:=chkE h;obtain⟨e53,h⟩:=h
    refine AW.frzRow 7 (ty:=3) (cap:=none) (sz:=1) (es:=encI a0.watch.heard) (by simp) (by omega) (FQ _) (by first|exact (Ah e53).2|simpa using (Ah e53).2|simp) (by simp[Tm.frz,AV.frz,LV.frz];rfl) (by simp[Ob.frz,LV.frz];rfl) rfl ?_
    replace h:=chkE h;obtain⟨e54,h⟩:=h
    refine AW.frzRow 8 (ty:=33) (cap:=none) (sz:=1) (es:=encLI y39) (by simp) (by omega) (NM _) (by first|exact (Ah e54).2|simpa using (Ah e54).2|simp) (by simp[Tm.frz,AV.frz,LV.frz];rfl) (by simp[Ob.frz,LV.frz];rfl) rfl ?_
    replace h:=chkE h;obtain⟨e55,h⟩:=h
    refine AW.frzRow 9 (ty:=3) (cap:=none) (sz:=1) (es:=encI a0.votes) (by simp) (by omega) (FQ _) (by first|exact (Ah e55).2|simpa using (Ah e55).2|simp) (by simp[Tm.frz,AV.frz,LV.frz];rfl) (by simp[Ob.frz,LV.frz];rfl) rfl ?_
    obtain rfl:=oi h
    refine AW.ret ?_
    refine Left.of (av:=_) (by simp[Tryz.f33,resV,resC,comp];rfl) ?_
    exact LeftV.mix 0 [some 4,some 5] hn0 rfl (by decide) rfl (by simp[pickOb,Ab,Ac]) (by simp[Ab,Ac])
theorem Dm:Enters Tryz.prog 33:=enters Tryz.func33 (by kernel_rfl) rfl
def By (n:Nat) (a0:Int):Option Bool :=
lt (neI a0 a0) fun v1 =>
some v1
theorem Fx {n:Nat} {a0:Int} {r:Bool} (h:By n a0=some r):Sound Tryz.prog 88 [.l (.s (.int .i64 a0))] [] (.l (.s (.bool r))) []:=by
 unfold By at h
 refine Sound.of_aw (fn:=Tryz.f88) (c:=_) Tryz.func88 rfl (by simp[Tryz.f88]) fun cx hG hnb=>?_
 rw[show Tryz.f88.ntmps=6 from rfl]
 have hn0:cx.nb=0:=hnb
 simp only[An,initTm,List.map_cons,List.map_nil]
 apply AW.step
 ·simp
  intros;rfl
 replace h:=ltE h;obtain⟨v1,e1,h⟩:=h
 apply AW.step
 ·simp[← e1]
  intros;rfl
 obtain rfl:=oi h
 refine AW.ret ?_
 refine Left.plain hnb (by simp[Tryz.f88,resV,resC,comp];rfl) rfl rfl ?_
 simp
theorem Fc:Enters Tryz.prog 88:=enters Tryz.func88 (by kernel_rfl) rfl
def AS (n:Nat) (a0:Int) (a1:Int):Option Int :=
bn (By n a0) fun v1 =>
bn (By n a1) fun v2 =>
ite' v1 (ite' v2 (some 0) (some (-1))) (ite' v2 (some 1) (lt (ltI a0 a1) fun v3 =>
ite' v3 (some (-1)) (lt (gtI a0 a1) fun v4 =>
ite' v4 (some 1) (some 0))))
theorem Cm {n:Nat} {a0:Int} {a1:Int} {r:Int} (h:AS n a0 a1=some r):Sound Tryz.prog 52 [.l (.s (.int .i64 a0)),.l (.s (.int .i64 a1))] [] (.l (.s (.int .i64 r))) []:=by
 unfold AS at h
 refine Sound.of_aw (fn:=Tryz.f52) (c:=_) Tryz.func52 rfl (by simp[Tryz.f52]) fun cx hG hnb=>?_
 rw[show Tryz.f52.ntmps=20 from rfl]
 have hn0:cx.nb=0:=hnb
 simp only[An,initTm,List.map_cons,List.map_nil]
 apply AW.step
 ·simp
  intros;rfl
 replace h:=bnE h;obtain⟨v1,e1,h⟩:=h
 apply AW.step
 ·simp
  intros
  refine Ae Fc (Fx e1) rfl ⟨.same rfl,trivial⟩ ?_
  try simp
  intros;rfl
 replace h:=bnE h;obtain⟨v2,e2,h⟩:=h
 apply AW.step
 ·simp
  intros
  refine Ae Fc (Fx e2) rfl ⟨.same rfl,trivial⟩ ?_
  try simp
  intros;rfl
 refine AW.seq ?_
 apply AW.step
 ·simp
  intros;rfl
 cases v1 with
 |true =>
  replace h:=iteT rfl h
  refine AW.cond_true (by simp) ?_
  refine AW.seq ?_
  apply AW.step
  ·simp
   intros;rfl
  cases v2 with
  |true =>
   replace h:=iteT rfl h
   refine AW.cond_true (by simp) ?_
   apply AW.step
   ·simp
    intros;rfl
   obtain rfl:=oi h
   refine AW.ret ?_
   refine Left.plain hnb (by simp[Tryz.f52,resV,resC,comp];rfl) rfl rfl ?_
   simp
  |false =>
   replace h:=iteF rfl h
   refine AW.cond_false (by simp) ?_
   refine AW.skip ?_
   try simp only[nm]
   apply AW.step
   ·simp
    intros;rfl
   obtain rfl:=oi h
   refine AW.ret ?_
   refine Left.plain hnb (by simp[Tryz.f52,resV,resC,comp];rfl) rfl rfl ?_
   simp
 |false =>
  replace h:=iteF rfl h
  refine AW.cond_false (by simp) ?_
  refine AW.skip ?_
  try simp only[nm]
  refine AW.seq ?_
  apply AW.step
  ·simp
   intros;rfl
  cases v2 with
  |true =>
   replace h:=iteT rfl h
   refine AW.cond_true (by simp) ?_
   apply AW.step
   ·simp
    intros;rfl
   obtain rfl:=oi h
   refine AW.ret ?_
   refine Left.plain hnb (by simp[Tryz.f52,resV,resC,comp];rfl) rfl rfl ?_
   simp
  |false =>
   replace h:=iteF rfl h
   refine AW.cond_false (by simp) ?_
   refine AW.skip ?_
   try simp only[nm]
   refine AW.seq ?_
   replace h:=ltE h;obtain⟨v3,e3,h⟩:=h
   apply AW.step
   ·simp[← e3]
    intros;rfl
   cases v3 with
   |true =>
    replace h:=iteT rfl h
    refine AW.cond_true (by simp) ?_
    apply AW.step
    ·simp
     intros;rfl
    obtain rfl:=oi h
    refine AW.ret ?_
    refine Left.plain hnb (by simp[Tryz.f52,resV,resC,comp];rfl) rfl rfl ?_
    simp
   |false =>
    replace h:=iteF rfl h
    refine AW.cond_false (by simp) ?_
    refine AW.skip ?_
    try simp only[nm]
    refine AW.seq ?_
    replace h:=ltE h;obtain⟨v4,e4,h⟩:=h
    apply AW.step
    ·simp[← e4]
     intros;rfl
    cases v4 with
    |true =>
     replace h:=iteT rfl h
     refine AW.cond_true (by simp) ?_
     apply AW.step
     ·simp
      intros;rfl
     obtain rfl:=oi h
     refine AW.ret ?_
     refine Left.plain hnb (by simp[Tryz.f52,resV,resC,comp];rfl) rfl rfl ?_
     simp
    |false =>
     replace h:=iteF rfl h
     refine AW.cond_false (by simp) ?_
     refine AW.skip ?_
     try simp only[nm]
     apply AW.step
     ·simp
      intros;rfl
     obtain rfl:=oi h
     refine AW.ret ?_
     refine Left.plain hnb (by simp[Tryz.f52,resV,resC,comp];rfl) rfl rfl ?_
     simp
theorem Ce:Enters Tryz.prog 52:=enters Tryz.func52 (by kernel_rfl) rfl
def Dg (n:Nat) (a0:Move) (a1:Int):Option Int :=
bn (AS n a0.slot a1) fun v1 =>
some v1
theorem Gj {n:Nat} {a0:Move} {a1:Int} {r:Int} (h:Dg n a0 a1=some r):Sound Tryz.prog 73 [.g [.s (.int .i64 a0.slot),.s (.int .i64 a0.to),.s (.int .i64 a0.num),.s (.string a0.key)],.l (.s (.int .i64 a1))] [] (.l (.s (.int .i64 r))) []:=by
 unfold Dg at h
 refine Sound.of_aw (fn:=Tryz.f73) (c:=_) Tryz.func73 rfl (by simp[Tryz.f73]) fun cx hG hnb=>?_
 rw[show Tryz.f73.ntmps=9 from rfl]
 have hn0:cx.nb=0:=hnb
 simp only[An,initTm,List.map_cons,List.map_nil]
 apply AW.step
 ·simp
  intros;rfl
 replace h:=bnE h;obtain⟨v1,e1,h⟩:=h
 apply AW.step
 ·simp
  intros
  refine Ae Ce (Cm e1) rfl ⟨.same rfl,.same rfl,trivial⟩ ?_
  try simp
  intros;rfl
 obtain rfl:=oi h
 refine AW.ret ?_
 refine Left.plain hnb (by simp[Tryz.f73,resV,resC,comp];rfl) rfl rfl ?_
 simp
theorem FW:Enters Tryz.prog 73:=enters Tryz.func73 (by kernel_rfl) rfl
def Bp (n:Nat) (a0:List Move) (a1:Int):Option (Int×Bool) :=
lt (lenI a0) fun v1 =>
bn (iter n (fun (y2:Int×Int) =>
lt (ltI y2.1 y2.2) fun v5 =>
ite' v5 (lt (addI .i64 y2.1 y2.2) fun v6 =>
lt (cvI .u64 v6) fun v7 =>
bn (shrI .u64 v7 1) fun v8 =>
lt (cvI .i64 v8) fun v9 =>
bn (nth a0 v9) fun v10 =>
bn (Dg n v10 a1) fun v11 =>
lt (ltI v11 0) fun v12 =>
ite' v12 (lt (addI .i64 v9 1) fun v13 =>
some (.inl (v13,y2.2))) (some (.inl (y2.1,v9)))) (some (.inr y2.1))) (0,v1)) fun (y3:Int) =>
bn (lt (ltI y3 v1) fun v15 =>
ite' v15 (bn (nth a0 y3) fun v16 =>
bn (Dg n v16 a1) fun v17 =>
lt (eqI v17 0) fun v18 =>
some (v18)) (some (false))) fun (y14:Bool) =>
some (y3,y14)
theorem Ej {n:Nat} {a0:List Move} {a1:Int} {r:Int×Bool} (h:Bp n a0 a1=some r):Sound Tryz.prog 72 [.l (.d true 4 (encMove a0)),.l (.s (.int .i64 a1)),.l (.s (.func (.func 73) #[] #[]))] [] (.t [(false,[.s (.int .i64 r.1)]),(false,[.s (.bool r.2)])]) []:=by
 unfold Bp at h
 refine Sound.of_aw (fn:=Tryz.f72) (c:=_) Tryz.func72 rfl (by simp[Tryz.f72]) fun cx hG hnb=>?_
 rw[show Tryz.f72.ntmps=49 from rfl]
 have hn0:cx.nb=0:=hnb
 simp only[An,initTm,List.map_cons,List.map_nil]
 apply AW.step
 ·simp
  intros;rfl
 replace h:=ltE h;obtain⟨v1,e1,h⟩:=h
 apply AW.step
 ·simp[Aa e1]
  intros;rfl
 apply AW.step
 ·simp
  intros;rfl
 refine AW.seq ?_
 refine AW.block ?_
 replace h:=bnE h;obtain⟨y3,g3,h⟩:=h
 refine AW.iterP g3 (mk:=fun gh ls q=>(⟨[(0,.l (.d true 4 (encMove a0))),(1,.l (.s (.int .i64 a1))),(2,.l (.s (.func (.func 73) #[] #[]))),(8,.l (.s (.int .i64 v1))),(9,.l (.s (.int .i64 q.1))),(10,.l (.s (.int .i64 q.2)))],[],49,gh,ls⟩:St)) (N:=fun gh ls=>(xP 0 (cx:=cx) (fun q=>(⟨[(0,.l (.d true 4 (encMove a0))),(1,.l (.s (.int .i64 a1))),(2,.l (.s (.func (.func 73) #[] #[]))),(8,.l (.s (.int .i64 v1))),(9,.l (.s (.int .i64 q)))],[],49,gh,ls⟩:St)))) ?_ noX ?_ ?_
 ·refine Weak.mixN [] hn0 (by decide) ?_ ?_ rfl
  all_goals first|(simp[Ab,Ac,pickOb];done)|rfl
 ·clear h;intro y2 y4 h
  refine AW.seq ?_
  replace h:=ltE h;obtain⟨v5,e5,h⟩:=h
  apply AW.step
  ·simp[← e5]
   intros;rfl
  cases v5 with
  |true =>
   replace h:=iteT rfl h
   refine AW.cond_true (by simp) ?_
   refine AW.skip ?_
   try simp only[nm]
   refine AW.block ?_
   replace h:=ltE h;obtain⟨v6,e6,h⟩:=h
   replace h:=ltE h;obtain⟨v7,e7,h⟩:=h
   replace h:=bnE h;obtain⟨v8,e8,h⟩:=h
   replace h:=ltE h;obtain⟨v9,e9,h⟩:=h
   apply AW.step
   ·simp[← e6,← e7,e8,← e9]
    intros;rfl
   replace h:=bnE h;obtain⟨v10,e10,h⟩:=h
   replace h:=bnE h;obtain⟨v11,e11,h⟩:=h
   replace h:=ltE h;obtain⟨v12,e12,h⟩:=h
   apply AW.step
   ·simp[Ad e10,← e12]
    intros
    refine Ae FW (Gj e11) rfl ⟨.same rfl,.same rfl,trivial⟩ ?_
    try simp[Ad e10,← e12]
    intros;rfl
   cases v12 with
   |true =>
    replace h:=iteT rfl h
    refine AW.cond_true (by simp) ?_
    replace h:=ltE h;obtain⟨v13,e13,h⟩:=h
    apply AW.last
    ·simp[← e13]
     intros;rfl
    obtain rfl:=oi h
    refine nP_i ?_
    refine Weak.mixN [] hn0 (by decide) ?_ ?_ rfl
    all_goals first|(simp[Ab,Ac,pickOb];done)|rfl
   |false =>
    replace h:=iteF rfl h
    refine AW.cond_false (by simp) ?_
    apply AW.last
    ·simp
     intros;rfl
    obtain rfl:=oi h
    refine nP_i ?_
    refine Weak.mixN [] hn0 (by decide) ?_ ?_ rfl
    all_goals first|(simp[Ab,Ac,pickOb];done)|rfl
  |false =>
   replace h:=iteF rfl h
   refine AW.cond_false (by simp) ?_
   refine AW.exit ?_
   try simp only[nm]
   obtain rfl:=oi h
   refine xP_i ?_
   refine Weak.mixN [] hn0 (by decide) ?_ ?_ rfl
   all_goals first|(simp[Ab,Ac,pickOb];done)|rfl
 ·rintro e s hp
  obtain⟨rfl,hw⟩:=hp
  refine⟨_,hw,?_⟩
  try simp only[nm]
  replace h:=bnE h;obtain⟨y14,g14,h⟩:=h
  refine AW.flow (p:=fun gh ls=>(nP (cx:=cx) (fun q=>(⟨[(6,.l (.s (.int .i64 y3))),(7,.l (.s (.bool q)))],[],49,gh,ls⟩:St))) y14) ?_ ?_
  ·replace h:=g14;clear g14
   replace h:=ltE h;obtain⟨v15,e15,h⟩:=h
   cases v15 with
   |true =>
    replace h:=iteT rfl h
    replace h:=bnE h;obtain⟨v16,e16,h⟩:=h
    replace h:=bnE h;obtain⟨v17,e17,h⟩:=h
    replace h:=ltE h;obtain⟨v18,e18,h⟩:=h
    apply AW.last
    ·simp[← e15,Ad e16,← e18]
     intros
     refine Ae FW (Gj e17) rfl ⟨.same rfl,.same rfl,trivial⟩ ?_
     try simp[← e15,Ad e16,← e18]
     intros;rfl
    obtain rfl:=oi h
    refine nP_i ?_
    refine Weak.mixN [] hn0 (by decide) ?_ ?_ rfl
    all_goals first|(simp[Ab,Ac,pickOb];done)|rfl
   |false =>
    replace h:=iteF rfl h
    apply AW.last
    ·simp[← e15]
     intros;rfl
    obtain rfl:=oi h
    refine nP_i ?_
    refine Weak.mixN [] hn0 (by decide) ?_ ?_ rfl
    all_goals first|(simp[Ab,Ac,pickOb];done)|rfl
  ·rintro e s hp
   obtain⟨rfl,hw⟩:=hp
   refine⟨_,hw,?_⟩
   try simp only[nm]
   obtain rfl:=oi h
   refine AW.ret ?_
   refine Left.plain hnb (by simp[Tryz.f72,resV,resC,comp];rfl) rfl rfl ?_
   simp
theorem D8:Enters Tryz.prog 72:=enters Tryz.func72 (by kernel_rfl) rfl
def Fd (n:Nat) (a0:List Move) (a1:Int):Option (Int×Bool) :=
bn (Bp n a0 a1) fun v1 =>
some (v1.1,v1.2)
theorem K9 {n:Nat} {a0:List Move} {a1:Int} {r:Int×Bool} (h:Fd n a0 a1=some r):Sound Tryz.prog 35 [.l (.d true 4 (encMove a0)),.l (.s (.int .i64 a1))] [] (.t [(false,[.s (.int .i64 r.1)]),(false,[.s (.bool r.2)])]) []:=by
 unfold Fd at h
 refine Sound.of_aw (fn:=Tryz.f35) (c:=_) Tryz.func35 rfl (by simp[Tryz.f35]) fun cx hG hnb=>?_
 rw[show Tryz.f35.ntmps=11 from rfl]
 have hn0:cx.nb=0:=hnb
 simp only[An,initTm,List.map_cons,List.map_nil]
 apply AW.step
 ·simp
  intros;rfl
 replace h:=bnE h;obtain⟨v1,e1,h⟩:=h
 apply AW.step
 ·simp
  intros
  refine Ae D8 (Ej e1) rfl ⟨.d _ _ _,.same rfl,.same rfl,trivial⟩ ?_
  try simp
  intros;rfl
 obtain rfl:=oi h
 refine AW.ret ?_
 refine Left.plain hnb (by simp[Tryz.f35,resV,resC,comp];rfl) rfl rfl ?_
 simp
theorem Ko:Enters Tryz.prog 35:=enters Tryz.func35 (by kernel_rfl) rfl
def EK (n:Nat) (a0:Node) (a1:Int) (a2:Int):Option (Node×Int) :=
bn (A9 n (⟨a0.count,a0.id,a0.master,a0.epoch,a0.voted,a0.claims,a0.db,a0.moves,a0.last,a0.seen,a0.feed,a0.watch,a0.asked,a0.votes,a0.wait⟩:Node)) fun v1 =>
bn (lt (ltI a1 0) fun v3 =>
ite' v3 (some (true)) (lt (geI a1 16384) fun v4 =>
ite' v4 (some (true)) (lt (ltI a2 0) fun v5 =>
ite' v5 (some (true)) (lt (geI a2 v1.count) fun v6 =>
ite' v6 (some (true)) (lt (eqI a2 v1.id) fun v7 =>
some (v7)))))) fun (y2:Bool) =>
lt (y2) fun v8 =>
ite' v8 (chk (room v1.moves.length 1) <|
chk (room v1.seen.length 1) <|
some (v1,1)) (bn (E9 n v1.claims a1) fun v11 =>
bn (lt (neI v1.master (-1)) fun v13 =>
ite' v13 (some (true)) (lt (notB v11.2.2) fun v14 =>
ite' v14 (some (true)) (lt (neI v11.1 v1.id) fun v15 =>
some (v15)))) fun (y12:Bool) =>
lt (y12) fun v16 =>
ite' v16 (chk (room v1.moves.length 1) <|
chk (room v1.seen.length 1) <|
some (v1,9)) (chk (room v1.moves.length 1) <|
bn (Fd n v1.moves a1) fun v20 =>
lt (v20.2) fun v21 =>
ite' v21 (chk (room v1.moves.length 1) <|
chk (room v1.seen.length 1) <|
some (v1,3)) (chk (insB v1.moves v20.1) <|
lt (insL v1.moves v20.1.toNat (⟨a1,a2,0,⟨#[]⟩⟩:Move)) fun v25 =>
chk (room v25.length 1) <|
chk (room v1.seen.length 1) <|
some ((⟨v1.count,v1.id,v1.master,v1.epoch,v1.voted,v1.claims,v1.db,v25,v1.last,v1.seen,v1.feed,v1.watch,v1.asked,v1.votes,v1.wait⟩:Node),0))))
theorem Kp {n:Nat} {a0:Node} {a1:Int} {a2:Int} {r:Node×Int} (h:EK n a0 a1 a2=some r):Sound Tryz.prog 11 [.g [.s (.int .i64 a0.count),.s (.int .i64 a0.id),.s (.int .i64 a0.master),.s (.int .i64 a0.epoch),.s (.int .i64 a0.voted),.d false 4 (encClaim a0.claims),.d false 6 (encPair a0.db),.d false 4 (encMove a0.moves),.s (.int .i64 a0.last),.d false 3 (encSeen a0.seen),.s (.int .i64 a0.feed.rid.node),.s (.int .i64 a0.feed.rid.epoch),.s (.int .i64 a0.feed.off),.d false 7 (encEffect a0.feed.back),.s (.int .i64 a0.feed.prev.node),.s (.int .i64 a0.feed.prev.epoch),.s (.int .i64 a0.feed.upto),.d false 1 (encI a0.watch.heard),.d false 1 (encLI a0.watch.says),.s (.int .i64 a0.asked),.d false 1 (encI a0.votes),.s (.int .i64 a0.wait)],.l (.s (.int .i64 a1)),.l (.s (.int .i64 a2))] [] (.t [(true,[.s (.int .i64 r.1.count),.s (.int .i64 r.1.id),.s (.int .i64 r.1.master),.s (.int .i64 r.1.epoch),.s (.int .i64 r.1.voted),.d false 4 (encClaim r.1.claims),.d false 6 (encPair r.1.db),.d false 4 (encMove r.1.moves),.s (.int .i64 r.1.last),.d false 3 (encSeen r.1.seen),.s (.int .i64 r.1.feed.rid.node),.s (.int .i64 r.1.feed.rid.epoch),.s (.int .i64 r.1.feed.off),.d false 7 (encEffect r.1.feed.back),.s (.int .i64 r.1.feed.prev.node),.s (.int .i64 r.1.feed.prev.epoch),.s (.int .i64 r.1.feed.upto),.d false 1 (encI r.1.watch.heard),.d false 1 (encLI r.1.watch.says),.s (.int .i64 r.1.asked),.d false 1 (encI r.1.votes),.s (.int .i64 r.1.wait)]),(false,[.s (.int .i64 r.2)])]) []:=by
 unfold EK at h
 refine Sound.of_aw (fn:=Tryz.f11) (c:=_) Tryz.func11 rfl (by simp[Tryz.f11]) fun cx hG hnb=>?_
 rw[show Tryz.f11.ntmps=79 from rfl]
 have hn0:cx.nb=0:=hnb
 simp only[An,initTm,List.map_cons,List.map_nil]
 apply AW.step
 ·simp
  intros;rfl
 replace h:=bnE h;obtain⟨v1,e1,h⟩:=h
 apply AW.step
 ·simp[outR]
  intros
  refine AF Dm (DM e1) rfl (by simp) ⟨.same rfl,trivial⟩ ?_
  try simp[outR]
  intros;rfl
 refine AW.seq ?_
 replace h:=bnE h;obtain⟨y2,g2,h⟩:=h
 refine AW.flow (p:=fun gh ls=>(nP (cx:=cx) (fun q=>(⟨[(1,.l (.s (.int .i64 a1))),(2,.l (.s (.int .i64 a2))),(3,.l (.p 0 0)),(6,.l (.p 1 0)),(36,.l (.s (.bool q)))],[some ⟨38,22,false,none,[.s (.int .i64 v1.count),.s (.int .i64 v1.id),.s (.int .i64 v1.master),.s (.int .i64 v1.epoch),.s (.int .i64 v1.voted),.d false 4 (encClaim v1.claims),.d false 6 (encPair v1.db),.r 2 4 0 v1.moves.length,.s (.int .i64 v1.last),.r 3 3 0 v1.seen.length,.s (.int .i64 v1.feed.rid.node),.s (.int .i64 v1.feed.rid.epoch),.s (.int .i64 v1.feed.off),.d false 7 (encEffect v1.feed.back),.s (.int .i64 v1.feed.prev.node),.s (.int .i64 v1.feed.prev.epoch),.s (.int .i64 v1.feed.upto),.d false 1 (encI v1.watch.heard),.d false 1 (encLI v1.watch.says),.s (.int .i64 v1.asked),.d false 1 (encI v1.votes),.s (.int .i64 v1.wait)]⟩,some ⟨38,22,false,none,[.s (.int .i64 0),.s (.int .i64 0),.s (.int .i64 0),.s (.int .i64 0),.s (.int .i64 0),.s (.slice none 0 0),.s (.slice none 0 0),.s (.slice none 0 0),.s (.int .i64 0),.s (.slice none 0 0),.s (.int .i64 0),.s (.int .i64 0),.s (.int .i64 0),.s (.slice none 0 0),.s (.int .i64 0),.s (.int .i64 0),.s (.int .i64 0),.s (.slice none 0 0),.s (.slice none 0 0),.s (.int .i64 0),.s (.slice none 0 0),.s (.int .i64 0)]⟩,some ⟨92,4,true,none,lvs (encMove v1.moves)⟩,some ⟨100,3,true,none,lvs (encSeen v1.seen)⟩],79,gh,ls⟩:St))) y2) ?_ ?_
 ·replace h:=g2;clear g2
  replace h:=ltE h;obtain⟨v3,e3,h⟩:=h
  cases v3 with
  |true =>
   replace h:=iteT rfl h
   apply AW.last
   ·simp[← e3]
    intros;rfl
   obtain rfl:=oi h
   refine nP_i ?_
   refine Weak.mixN [some 0,some 1,some 2,some 3] hn0 (by decide) ?_ ?_ rfl
   all_goals first|(simp[Ab,Ac,pickOb];done)|rfl
  |false =>
   replace h:=iteF rfl h
   replace h:=ltE h;obtain⟨v4,e4,h⟩:=h
   cases v4 with
   |true =>
    replace h:=iteT rfl h
    apply AW.last
    ·simp[← e3,← e4]
     intros;rfl
    obtain rfl:=oi h
    refine nP_i ?_
    refine Weak.mixN [some 0,some 1,some 2,some 3] hn0 (by decide) ?_ ?_ rfl
    all_goals first|(simp[Ab,Ac,pickOb];done)|rfl
   |false =>
    replace h:=iteF rfl h
    replace h:=ltE h;obtain⟨v5,e5,h⟩:=h
    cases v5 with
    |true =>
     replace h:=iteT rfl h
     apply AW.last
     ·simp[← e3,← e4,← e5]
      intros;rfl
     obtain rfl:=oi h
     refine nP_i ?_
     refine Weak.mixN [some 0,some 1,some 2,some 3] hn0 (by decide) ?_ ?_ rfl
     all_goals first|(simp[Ab,Ac,pickOb];done)|rfl
    |false =>
     replace h:=iteF rfl h
     replace h:=ltE h;obtain⟨v6,e6,h⟩:=h
     cases v6 with
     |true =>
      replace h:=iteT rfl h
      apply AW.last
      ·simp[← e3,← e4,← e5,← e6]
       intros;rfl
      obtain rfl:=oi h
      refine nP_i ?_
      refine Weak.mixN [some 0,some 1,some 2,some 3] hn0 (by decide) ?_ ?_ rfl
      all_goals first|(simp[Ab,Ac,pickOb];done)|rfl
     |false =>
      replace h:=iteF rfl h
      replace h:=ltE h;obtain⟨v7,e7,h⟩:=h
      apply AW.last
      ·simp[← e3,← e4,← e5,← e6,← e7]
       intros;rfl
      obtain rfl:=oi h
      refine nP_i ?_
      refine Weak.mixN [some 0,some 1,some 2,some 3] hn0 (by decide) ?_ ?_ rfl
      all_goals first|(simp[Ab,Ac,pickOb];done)|rfl
 ·rintro e s hp
  obtain⟨rfl,hw⟩:=hp
  refine⟨_,hw,?_⟩
  try simp only[nm]
  replace h:=ltE h;obtain⟨v8,e8,h⟩:=h
  rw[← e8]
  cases v8 with
  |true =>
   replace h:=iteT rfl h
   refine AW.cond_true (by simp) ?_
   apply AW.step
   ·simp
    intros;rfl
   replace h:=chkE h;obtain⟨e9,h⟩:=h
   refine AW.frzRow 2 (ty:=92) (cap:=none) (sz:=4) (es:=encMove v1.moves) (by simp) (by omega) (Az _) (by first|exact (Ah e9).2|simpa using (Ah e9).2|simp) (by simp[Tm.frz,AV.frz,LV.frz];rfl) (by simp[Ob.frz,LV.frz];rfl) rfl ?_
   replace h:=chkE h;obtain⟨e10,h⟩:=h
   refine AW.frzRow 3 (ty:=100) (cap:=none) (sz:=3) (es:=encSeen v1.seen) (by simp) (by omega) (AA _) (by first|exact (Ah e10).2|simpa using (Ah e10).2|simp) (by simp[Tm.frz,AV.frz,LV.frz];rfl) (by simp[Ob.frz,LV.frz];rfl) rfl ?_
   obtain rfl:=oi h
   refine AW.ret ?_
   refine Left.plain hnb (by simp[Tryz.f11,resV,resC,comp];rfl) rfl rfl ?_
   simp
  |false =>
   replace h:=iteF rfl h
   refine AW.cond_false (by simp) ?_
   refine AW.skip ?_
   try simp only[nm]
   replace h:=bnE h;obtain⟨v11,e11,h⟩:=h
   apply AW.step
   ·simp
    intros
    refine Ae Kh (KZ e11) rfl ⟨.same rfl,.same rfl,trivial⟩ ?_
    try simp
    intros;rfl
   refine AW.seq ?_
   replace h:=bnE h;obtain⟨y12,g12,h⟩:=h
   refine AW.flow (p:=fun gh ls=>(nP (cx:=cx) (fun q=>(⟨[(1,.l (.s (.int .i64 a1))),(2,.l (.s (.int .i64 a2))),(3,.l (.p 0 0)),(6,.l (.p 1 0)),(58,.l (.s (.bool q)))],[some ⟨38,22,false,none,[.s (.int .i64 v1.count),.s (.int .i64 v1.id),.s (.int .i64 v1.master),.s (.int .i64 v1.epoch),.s (.int .i64 v1.voted),.d false 4 (encClaim v1.claims),.d false 6 (encPair v1.db),.r 2 4 0 v1.moves.length,.s (.int .i64 v1.last),.r 3 3 0 v1.seen.length,.s (.int .i64 v1.feed.rid.node),.s (.int .i64 v1.feed.rid.epoch),.s (.int .i64 v1.feed.off),.d false 7 (encEffect v1.feed.back),.s (.int .i64 v1.feed.prev.node),.s (.int .i64 v1.feed.prev.epoch),.s (.int .i64 v1.feed.upto),.d false 1 (encI v1.watch.heard),.d false 1 (encLI v1.watch.says),.s (.int .i64 v1.asked),.d false 1 (encI v1.votes),.s (.int .i64 v1.wait)]⟩,some ⟨38,22,false,none,[.s (.int .i64 0),.s (.int .i64 0),.s (.int .i64 0),.s (.int .i64 0),.s (.int .i64 0),.s (.slice none 0 0),.s (.slice none 0 0),.s (.slice none 0 0),.s (.int .i64 0),.s (.slice none 0 0),.s (.int .i64 0),.s (.int .i64 0),.s (.int .i64 0),.s (.slice none 0 0),.s (.int .i64 0),.s (.int .i64 0),.s (.int .i64 0),.s (.slice none 0 0),.s (.slice none 0 0),.s (.int .i64 0),.s (.slice none 0 0),.s (.int .i64 0)]⟩,some ⟨92,4,true,none,lvs (encMove v1.moves)⟩,some ⟨100,3,true,none,lvs (encSeen v1.seen)⟩],79,gh,ls⟩:St))) y12) ?_ ?_
   ·replace h:=g12;clear g12
    replace h:=ltE h;obtain⟨v13,e13,h⟩:=h
    cases v13 with
    |true =>
     replace h:=iteT rfl h
     apply AW.last
     ·simp[← e13]
      intros;rfl
     obtain rfl:=oi h
     refine nP_i ?_
     refine Weak.mixN [some 0,some 1,some 2,some 3] hn0 (by decide) ?_ ?_ rfl
     all_goals first|(simp[Ab,Ac,pickOb];done)|rfl
    |false =>
     replace h:=iteF rfl h
     replace h:=ltE h;obtain⟨v14,e14,h⟩:=h
     cases v14 with
     |true =>
      replace h:=iteT rfl h
      apply AW.last
      ·simp[← e13,← e14]
       intros;rfl
      obtain rfl:=oi h
      refine nP_i ?_
      refine Weak.mixN [some 0,some 1,some 2,some 3] hn0 (by decide) ?_ ?_ rfl
      all_goals first|(simp[Ab,Ac,pickOb];done)|rfl
     |false =>
      replace h:=iteF rfl h
      replace h:=ltE h;obtain⟨v15,e15,h⟩:=h
      apply AW.last
      ·simp[← e13,← e14,← e15]
       intros;rfl
      obtain rfl:=oi h
      refine nP_i ?_
      refine Weak.mixN [some 0,some 1,some 2,some 3] hn0 (by decide) ?_ ?_ rfl
      all_goals first|(simp[Ab,Ac,pickOb];done)|rfl
   ·rintro e s hp
    obtain⟨rfl,hw⟩:=hp
    refine⟨_,hw,?_⟩
    try simp only[nm]
    replace h:=ltE h;obtain⟨v16,e16,h⟩:=h
    rw[← e16]
    cases v16 with
    |true =>
     replace h:=iteT rfl h
     refine AW.cond_true (by simp) ?_
     apply AW.step
     ·simp
      intros;rfl
     replace h:=chkE h;obtain⟨e17,h⟩:=h
     refine AW.frzRow 2 (ty:=92) (cap:=none) (sz:=4) (es:=encMove v1.moves) (by simp) (by omega) (Az _) (by first|exact (Ah e17).2|simpa using (Ah e17).2|simp) (by simp[Tm.frz,AV.frz,LV.frz];rfl) (by simp[Ob.frz,LV.frz];rfl) rfl ?_
     replace h:=chkE h;obtain⟨e18,h⟩:=h
     refine AW.frzRow 3 (ty:=100) (cap:=none) (sz:=3) (es:=encSeen v1.seen) (by simp) (by omega) (AA _) (by first|exact (Ah e18).2|simpa using (Ah e18).2|simp) (by simp[Tm.frz,AV.frz,LV.frz];rfl) (by simp[Ob.frz,LV.frz];rfl) rfl ?_
     obtain rfl:=oi h
     refine AW.ret ?_
     refine Left.plain hnb (by simp[Tryz.f11,resV,resC,comp];rfl) rfl rfl ?_
     simp
    |false =>
     replace h:=iteF rfl h
     refine AW.cond_false (by simp) ?_
     refine AW.skip ?_
     try simp only[nm]
     replace h:=chkE h;obtain⟨e19,h⟩:=h
     replace h:=bnE h;obtain⟨v20,e20,h⟩:=h
     apply AW.step
     ·simp
      intros
      refine Ae Ko (K9 e20) rfl ⟨.rowd (by simp) rfl (by omega) (Az _) (by simp) (by first|exact (Ah e19).2|simpa using (Ah e19).2|simp),.same rfl,trivial⟩ ?_
      try simp
      intros;rfl
     refine AW.seq ?_
     apply AW.step
     ·simp
      intros;rfl
     replace h:=ltE h;obtain⟨v21,e21,h⟩:=h
     rw[← e21]
     cases v21 with
     |true =>
      replace h:=iteT rfl h
      refine AW.cond_true (by simp) ?_
      apply AW.step
      ·simp
       intros;rfl
      replace h:=chkE h;obtain⟨e22,h⟩:=h
      refine AW.frzRow 2 (ty:=92) (cap:=none) (sz:=4) (es:=encMove v1.moves) (by simp) (by omega) (Az _) (by first|exact (Ah e22).2|simpa using (Ah e22).2|simp) (by simp[Tm.frz,AV.frz,LV.frz];rfl) (by simp[Ob.frz,LV.frz];rfl) rfl ?_
      replace h:=chkE h;obtain⟨e23,h⟩:=h
      refine AW.frzRow 3 (ty:=100) (cap:=none) (sz:=3) (es:=encSeen v1.seen) (by simp) (by omega) (AA _) (by first|exact (Ah e23).2|simpa using (Ah e23).2|simp) (by simp[Tm.frz,AV.frz,LV.frz];rfl) (by simp[Ob.frz,LV.frz];rfl) rfl ?_
      obtain rfl:=oi h
      refine AW.ret ?_
      refine Left.plain hnb (by simp[Tryz.f11,resV,resC,comp];rfl) rfl rfl ?_
      simp
     |false =>
      replace h:=iteF rfl h
      refine AW.cond_false (by simp) ?_
      refine AW.skip ?_
      try simp only[nm]
      replace h:=chkE h;obtain⟨e24,h⟩:=h
      replace h:=ltE h;obtain⟨v25,e25,h⟩:=h
      apply AW.step
      ·simp[obAfter,outR,keptR,Ab,Ac,← e25,Bf e24 e25]
       intros
       refine Av ?_
       try simp[obAfter,outR,keptR,Ab,Ac,← e25,Bf e24 e25]
       intros
       refine Dp [2,4] [5,6] ⟨_,rfl,rfl,_,rfl,rfl,rfl,rfl⟩ L7 (OE v1.moves v20.1 (⟨a1,a2,0,⟨#[]⟩⟩:Move) e24) (by decide) rfl rfl (by simp[pickOb,GF]) rfl rfl rfl (by simp) (by simp) ⟨.l (.own (by simp[Ab,Ac])),.l (.s _),.l (.own (by simp[Ab,Ac])),trivial⟩ ?_
       try simp[obAfter,outR,keptR,Ab,Ac,← e25,Bf e24 e25]
       intros;rfl
      apply AW.step
      ·simp
       intros;rfl
      replace h:=chkE h;obtain⟨e26,h⟩:=h
      refine AW.frzRow 5 (ty:=92) (cap:=none) (sz:=4) (es:=encMove v25) (by simp) (by omega) (Az _) (by first|exact (Ah e26).2|simpa using (Ah e26).2|simp) (by simp[Tm.frz,AV.frz,LV.frz];rfl) (by simp[Ob.frz,LV.frz];rfl) rfl ?_
      replace h:=chkE h;obtain⟨e27,h⟩:=h
      refine AW.frzRow 3 (ty:=100) (cap:=none) (sz:=3) (es:=encSeen v1.seen) (by simp) (by omega) (AA _) (by first|exact (Ah e27).2|simpa using (Ah e27).2|simp) (by simp[Tm.frz,AV.frz,LV.frz];rfl) (by simp[Ob.frz,LV.frz];rfl) rfl ?_
      obtain rfl:=oi h
      refine AW.ret ?_
      refine Left.plain hnb (by simp[Tryz.f11,resV,resC,comp];rfl) rfl rfl ?_
      simp
theorem Jw:Enters Tryz.prog 11:=enters Tryz.func11 (by kernel_rfl) rfl
def BO (n:Nat) (a0:List Move):Option (List Move) :=
some a0
theorem Fe {n:Nat} {a0:List Move} {r:List Move} (h:BO n a0=some r):Sound Tryz.prog 76 [.l (.d false 4 (encMove a0))] [] (.l (.f 101 [0])) [some ⟨26,1,false,none,[.d false 4 (encMove r)]⟩]:=by
 unfold BO at h
 refine Sound.of_aw (fn:=Tryz.f76) (c:=_) Tryz.func76 rfl (by simp[Tryz.f76]) fun cx hG hnb=>?_
 rw[show Tryz.f76.ntmps=4 from rfl]
 have hn0:cx.nb=0:=hnb
 simp only[An,initTm,List.map_cons,List.map_nil]
 apply AW.step
 ·simp
  intros;rfl
 apply AW.step
 ·simp
  intros;rfl
 obtain rfl:=oi h
 refine AW.ret ?_
 refine Left.of (av:=_) (by simp[Tryz.f76,resV,resC,comp];rfl) ?_
 exact LeftV.mix 0 [some 0] hn0 rfl (by decide) rfl (by simp[pickOb,Ab,Ac]) (by simp[Ab,Ac])
theorem EZ:Enters Tryz.prog 76:=enters Tryz.func76 (by kernel_rfl) rfl
def EL (n:Nat) (a0:List Move):Option (List Move) :=
bn (BO n a0) fun v1 =>
some v1
theorem Kq {n:Nat} {a0:List Move} {r:List Move} (h:EL n a0=some r):Sound Tryz.prog 37 [.l (.d false 4 (encMove a0))] [] (.l (.f 101 [0])) [some ⟨26,1,false,none,[.d false 4 (encMove r)]⟩]:=by
 unfold EL at h
 refine Sound.of_aw (fn:=Tryz.f37) (c:=_) Tryz.func37 rfl (by simp[Tryz.f37]) fun cx hG hnb=>?_
 rw[show Tryz.f37.ntmps=5 from rfl]
 have hn0:cx.nb=0:=hnb
 simp only[An,initTm,List.map_cons,List.map_nil]
 apply AW.step
 ·simp
  intros;rfl
 replace h:=bnE h;obtain⟨v1,e1,h⟩:=h
 apply AW.step
 ·simp
  intros
  refine AF EZ (Fe e1) rfl (by simp) ⟨.same rfl,trivial⟩ ?_
  try simp
  intros;rfl
 obtain rfl:=oi h
 refine AW.ret ?_
 refine Left.of (av:=_) (by simp[Tryz.f37,resV,resC,comp];rfl) ?_
 exact LeftV.mix 0 [some 0] hn0 rfl (by decide) rfl (by simp[pickOb,Ab,Ac]) (by simp[Ab,Ac])
theorem Jx:Enters Tryz.prog 37:=enters Tryz.func37 (by kernel_rfl) rfl
def EM (n:Nat) (a0:Int):Option Int :=
bn (lt (geI a0 4294967296) fun v2 =>
ite' v2 (bn (shrI .u64 a0 32) fun v3 =>
some ((v3,32))) (some ((a0,0)))) fun (y1:Int×Int) =>
bn (lt (geI y1.1 65536) fun v5 =>
ite' v5 (bn (shrI .u64 y1.1 16) fun v6 =>
lt (addI .i64 y1.2 16) fun v7 =>
some ((v6,v7))) (some ((y1.1,y1.2)))) fun (y4:Int×Int) =>
bn (lt (geI y4.1 256) fun v9 =>
ite' v9 (bn (shrI .u64 y4.1 8) fun v10 =>
lt (addI .i64 y4.2 8) fun v11 =>
some ((v10,v11))) (some ((y4.1,y4.2)))) fun (y8:Int×Int) =>
lt (cvI .u8 y8.1) fun v12 =>
bn (atS ⟨#[0,1,2,2,3,3,3,3,4,4,4,4,4,4,4,4,5,5,5,5,5,5,5,5,5,5,5,5,5,5,5,5,6,6,6,6,6,6,6,6,6,6,6,6,6,6,6,6,6,6,6,6,6,6,6,6,6,6,6,6,6,6,6,6,7,7,7,7,7,7,7,7,7,7,7,7,7,7,7,7,7,7,7,7,7,7,7,7,7,7,7,7,7,7,7,7,7,7,7,7,7,7,7,7,7,7,7,7,7,7,7,7,7,7,7,7,7,7,7,7,7,7,7,7,7,7,7,7,8,8,8,8,8,8,8,8,8,8,8,8,8,8,8,8,8,8,8,8,8,8,8,8,8,8,8,8,8,8,8,8,8,8,8,8,8,8,8,8,8,8,8,8,8,8,8,8,8,8,8,8,8,8,8,8,8,8,8,8,8,8,8,8,8,8,8,8,8,8,8,8,8,8,8,8,8,8,8,8,8,8,8,8,8,8,8,8,8,8,8,8,8,8,8,8,8,8,8,8,8,8,8,8,8,8,8,8,8,8,8,8,8,8,8,8,8,8,8,8,8,8,8,8,8,8,8,8]⟩ v12) fun v13 =>
lt (cvI .i64 v13) fun v15 =>
lt (addI .i64 y8.2 v15) fun v16 =>
some v16
theorem Kr {n:Nat} {a0:Int} {r:Int} (h:EM n a0=some r):Sound Tryz.prog 162 [.l (.s (.int .u64 a0))] [] (.l (.s (.int .i64 r))) []:=by
 unfold EM at h
 refine Sound.of_aw (fn:=Tryz.f162) (c:=_) Tryz.func162 rfl (by simp[Tryz.f162]) fun cx hG hnb=>?_
 rw[show Tryz.f162.ntmps=25 from rfl]
 have hn0:cx.nb=0:=hnb
 simp only[An,initTm,List.map_cons,List.map_nil]
 apply AW.step
 ·simp
  intros;rfl
 replace h:=bnE h;obtain⟨y1,g1,h⟩:=h
 refine AW.flow (p:=fun gh ls=>(nP (cx:=cx) (fun q=>(⟨[(0,.l (.s (.int .u64 q.1))),(2,.l (.s (.int .i64 q.2)))],[],25,gh,ls⟩:St))) y1) ?_ ?_
 ·replace h:=g1;clear g1
  replace h:=ltE h;obtain⟨v2,e2,h⟩:=h
  apply AW.step
  ·simp[← e2]
   intros;rfl
  cases v2 with
  |true =>
   replace h:=iteT rfl h
   refine AW.cond_true (by simp) ?_
   replace h:=bnE h;obtain⟨v3,e3,h⟩:=h
   apply AW.step
   ·simp[e3]
    intros;rfl
   apply AW.last
   ·simp
    intros;rfl
   obtain rfl:=oi h
   refine nP_i ?_
   refine Weak.mixN [] hn0 (by decide) ?_ ?_ rfl
   all_goals first|(simp[Ab,Ac,pickOb];done)|rfl
  |false =>
   replace h:=iteF rfl h
   refine AW.cond_false (by simp) ?_
   refine AW.skip ?_
   try simp only[nm]
   obtain rfl:=oi h
   refine nP_i ?_
   refine Weak.mixN [] hn0 (by decide) ?_ ?_ rfl
   all_goals first|(simp[Ab,Ac,pickOb];done)|rfl
 ·rintro e s hp
  obtain⟨rfl,hw⟩:=hp
  refine⟨_,hw,?_⟩
  try simp only[nm]
  replace h:=bnE h;obtain⟨y4,g4,h⟩:=h
  refine AW.flow (p:=fun gh ls=>(nP (cx:=cx) (fun q=>(⟨[(0,.l (.s (.int .u64 q.1))),(2,.l (.s (.int .i64 q.2)))],[],25,gh,ls⟩:St))) y4) ?_ ?_
  ·replace h:=g4;clear g4
   replace h:=ltE h;obtain⟨v5,e5,h⟩:=h
   apply AW.step
   ·simp[← e5]
    intros;rfl
   cases v5 with
   |true =>
    replace h:=iteT rfl h
    refine AW.cond_true (by simp) ?_
    replace h:=bnE h;obtain⟨v6,e6,h⟩:=h
    apply AW.step
    ·simp[e6]
     intros;rfl
    replace h:=ltE h;obtain⟨v7,e7,h⟩:=h
    apply AW.last
    ·simp[← e7]
     intros;rfl
    obtain rfl:=oi h
    refine nP_i ?_
    refine Weak.mixN [] hn0 (by decide) ?_ ?_ rfl
    all_goals first|(simp[Ab,Ac,pickOb];done)|rfl
   |false =>
    replace h:=iteF rfl h
    refine AW.cond_false (by simp) ?_
    refine AW.skip ?_
    try simp only[nm]
    obtain rfl:=oi h
    refine nP_i ?_
    refine Weak.mixN [] hn0 (by decide) ?_ ?_ rfl
    all_goals first|(simp[Ab,Ac,pickOb];done)|rfl
  ·rintro e s hp
   obtain⟨rfl,hw⟩:=hp
   refine⟨_,hw,?_⟩
   try simp only[nm]
   replace h:=bnE h;obtain⟨y8,g8,h⟩:=h
   refine AW.flow (p:=fun gh ls=>(nP (cx:=cx) (fun q=>(⟨[(0,.l (.s (.int .u64 q.1))),(2,.l (.s (.int .i64 q.2)))],[],25,gh,ls⟩:St))) y8) ?_ ?_
   ·replace h:=g8;clear g8
    replace h:=ltE h;obtain⟨v9,e9,h⟩:=h
    apply AW.step
    ·simp[← e9]
     intros;rfl
    cases v9 with
    |true =>
     replace h:=iteT rfl h
     refine AW.cond_true (by simp) ?_
     replace h:=bnE h;obtain⟨v10,e10,h⟩:=h
     apply AW.step
     ·simp[e10]
      intros;rfl
     replace h:=ltE h;obtain⟨v11,e11,h⟩:=h
     apply AW.last
     ·simp[← e11]
      intros;rfl
     obtain rfl:=oi h
     refine nP_i ?_
     refine Weak.mixN [] hn0 (by decide) ?_ ?_ rfl
     all_goals first|(simp[Ab,Ac,pickOb];done)|rfl
    |false =>
     replace h:=iteF rfl h
     refine AW.cond_false (by simp) ?_
     refine AW.skip ?_
     try simp only[nm]
     obtain rfl:=oi h
     refine nP_i ?_
     refine Weak.mixN [] hn0 (by decide) ?_ ?_ rfl
     all_goals first|(simp[Ab,Ac,pickOb];done)|rfl
   ·rintro e s hp
    obtain⟨rfl,hw⟩:=hp
    refine⟨_,hw,?_⟩
    try simp only[nm]
    replace h:=ltE h;obtain⟨v12,e12,h⟩:=h
    replace h:=bnE h;obtain⟨v13,e13,h⟩:=h
    have f14:=JH e13
    try simp[← e12] at f14
    replace h:=ltE h;obtain⟨v15,e15,h⟩:=h
    replace h:=ltE h;obtain⟨v16,e16,h⟩:=h
    apply AW.step
    ·simp[← e12,f14,← e15,← e16]
     intros;rfl
    obtain rfl:=oi h
    refine AW.ret ?_
    refine Left.plain hnb (by simp[Tryz.f162,resV,resC,comp];rfl) rfl rfl ?_
    simp
theorem Jy:Enters Tryz.prog 162:=enters Tryz.func162 (by kernel_rfl) rfl
def FH (n:Nat) (a0:Int):Option Int :=
bn (EM n a0) fun v1 =>
some v1
theorem Mm {n:Nat} {a0:Int} {r:Int} (h:FH n a0=some r):Sound Tryz.prog 149 [.l (.s (.int .u64 a0))] [] (.l (.s (.int .i64 r))) []:=by
 unfold FH at h
 refine Sound.of_aw (fn:=Tryz.f149) (c:=_) Tryz.func149 rfl (by simp[Tryz.f149]) fun cx hG hnb=>?_
 rw[show Tryz.f149.ntmps=8 from rfl]
 have hn0:cx.nb=0:=hnb
 simp only[An,initTm,List.map_cons,List.map_nil]
 apply AW.step
 ·simp
  intros;rfl
 refine AW.seq ?_
 refine AW.cond_false (by simp) ?_
 refine AW.skip ?_
 try simp only[nm]
 replace h:=bnE h;obtain⟨v1,e1,h⟩:=h
 apply AW.step
 ·simp
  intros
  refine Ae Jy (Kr e1) rfl ⟨.same rfl,trivial⟩ ?_
  try simp
  intros;rfl
 obtain rfl:=oi h
 refine AW.ret ?_
 refine Left.plain hnb (by simp[Tryz.f149,resV,resC,comp];rfl) rfl rfl ?_
 simp
theorem La:Enters Tryz.prog 149:=enters Tryz.func149 (by kernel_rfl) rfl
def D9 (n:Nat) (a0:Span) (a1:Span):Option Int :=
bn (AS n a0.frm a1.frm) fun v1 =>
some v1
theorem IH {n:Nat} {a0:Span} {a1:Span} {r:Int} (h:D9 n a0 a1=some r):Sound Tryz.prog 142 [.g [.s (.int .i64 a0.frm),.s (.int .i64 a0.to)],.g [.s (.int .i64 a1.frm),.s (.int .i64 a1.to)]] [] (.l (.s (.int .i64 r))) []:=by
 unfold D9 at h
 refine Sound.of_aw (fn:=Tryz.f142) (c:=_) Tryz.func142 rfl (by simp[Tryz.f142]) fun cx hG hnb=>?_
 rw[show Tryz.f142.ntmps=10 from rfl]
 have hn0:cx.nb=0:=hnb
 simp only[An,initTm,List.map_cons,List.map_nil]
 apply AW.step
 ·simp
  intros;rfl
 replace h:=bnE h;obtain⟨v1,e1,h⟩:=h
 apply AW.step
 ·simp
  intros
  refine Ae Ce (Cm e1) rfl ⟨.same rfl,.same rfl,trivial⟩ ?_
  try simp
  intros;rfl
 obtain rfl:=oi h
 refine AW.ret ?_
 refine Left.plain hnb (by simp[Tryz.f142,resV,resC,comp];rfl) rfl rfl ?_
 simp
theorem H7:Enters Tryz.prog 142:=enters Tryz.func142 (by kernel_rfl) rfl
def AT (n:Nat) (a0:List Span) (a1:Int) (a2:Int):Option (List Span) :=
lt (addI .i64 a1 1) fun v1 =>
bn (iter n (fun (y2:Int×List Span) =>
lt (ltI y2.1 a2) fun v5 =>
ite' v5 (bn (iter n (fun (y6:Int×List Span) =>
bn (lt (gtI y6.1 a1) fun v10 =>
ite' v10 (bn (nth y6.2 y6.1) fun v11 =>
lt (subI .i64 y6.1 1) fun v13 =>
bn (nth y6.2 v13) fun v14 =>
bn (D9 n v11 v14) fun v16 =>
lt (ltI v16 0) fun v17 =>
some (v17)) (some (false))) fun (y9:Bool) =>
lt (y9) fun v18 =>
ite' v18 (lt (subI .i64 y6.1 1) fun v19 =>
bn (nth y6.2 v19) fun v20 =>
bn (nth y6.2 y6.1) fun v22 =>
lt (y6.2.set y6.1.toNat v20) fun v25 =>
bn (nth v25 v19) fun v30 =>
lt (v25.set v19.toNat v22) fun v32 =>
some (.inl (v19,v32))) (some (.inr y6.2))) (y2.1,y2.2)) fun (y7:List Span) =>
lt (addI .i64 y2.1 1) fun v41 =>
some (.inl (v41,y7))) (some (.inr y2.2))) (v1,a0)) fun (y3:List Span) =>
some y3
def DY2t1:List DI:=[⟨[0],[],[(9,none)],false⟩,⟨[0],[],[(1,none)],false⟩,⟨[0],[0,1],[(18,some 0),(19,some 1)],false⟩,⟨[0],[0,1,2],[(20,some 2)],false⟩,⟨[0],[0,1,2,3],[(3,none),(21,some 3)],false⟩,⟨[0],[0,1,2,3],[(0,none),(21,some 3)],false⟩,⟨[0],[0,1,2,3],[(9,none),(21,some 3)],false⟩,⟨[0],[0,1,2,3,5,6],[(21,some 3),(23,some 5),(24,some 6)],false⟩,⟨[0],[0,1,2,3,5,6,7],[(21,some 3),(25,some 7)],false⟩,⟨[0],[0,1,2,3],[(0,none),(21,some 3)],false⟩,⟨[0],[0,1,2,3],[(9,none),(21,some 3)],false⟩,⟨[0],[0,1,2,3,10],[(21,some 3),(28,some 10)],false⟩,⟨[0],[0,1,2,3,9,10,11],[(21,some 3),(27,some 9),(29,some 11)],false⟩,⟨[0],[0,1,2,3,9,10,11,12],[(21,some 3),(30,some 12)],false⟩,⟨[],[0,1,2,3,4,5,6,7,8,9,10,11,12,13],[],false⟩,⟨[],[0,1,2,3,4,5,6,7,8,9,10,11,12,13,14],[],false⟩,⟨[],[0,1,2,3,4,5,6,7,8,9,10,11,12,13,14,15],[],false⟩]
theorem CU {n:Nat} {a0:List Span} {a1:Int} {a2:Int} {r:List Span} (h:AT n a0 a1 a2=some r):Sound Tryz.prog 153 [.l (.r 0 2 0 a0.length),.l (.s (.int .i64 a1)),.l (.s (.int .i64 a2)),.l (.s (.func (.func 142) #[] #[]))] [⟨120,2,false,some 0,lvs (encSpan a0)⟩] (.t []) [some ⟨120,2,false,some 0,lvs (encSpan r)⟩]:=by
 unfold AT at h
 refine Sound.of_aw (fn:=Tryz.f153) (c:=_) Tryz.func153 rfl (by simp[Tryz.f153]) fun cx hG hnb=>?_
 rw[show Tryz.f153.ntmps=53 from rfl]
 have hn0:cx.nb=1:=hnb
 simp only[An,initTm,List.map_cons,List.map_nil]
 replace h:=ltE h;obtain⟨v1,e1,h⟩:=h
 apply AW.step
 ·simp[← e1]
  intros;rfl
 refine AW.block ?_
 replace h:=bnE h;obtain⟨y3,g3,h⟩:=h
 refine AW.iterP g3 (mk:=fun gh ls q=>(⟨[(0,.l (.r 0 2 0 q.2.length)),(1,.l (.s (.int .i64 a1))),(2,.l (.s (.int .i64 a2))),(3,.l (.s (.func (.func 142) #[] #[]))),(8,.l (.s (.int .i64 q.1)))],[some ⟨120,2,false,some 0,lvs (encSpan q.2)⟩],53,gh,ls⟩:St)) (N:=fun gh ls=>(xP 0 (cx:=cx) (fun q=>(⟨[],[some ⟨120,2,false,some 0,lvs (encSpan q)⟩],53,gh,ls⟩:St)))) ?_ noX ?_ ?_
 ·refine Weak.mixB 1 [some 0] hn0 (by decide) (by decide) ?_ ?_ ?_
  all_goals first|(simp[Ab,Ac,pickOb];done)|rfl
 ·clear h;intro y2 y4 h
  refine AW.seq ?_
  replace h:=ltE h;obtain⟨v5,e5,h⟩:=h
  apply AW.step
  ·simp[← e5]
   intros;rfl
  cases v5 with
  |true =>
   replace h:=iteT rfl h
   refine AW.cond_true (by simp) ?_
   refine AW.skip ?_
   try simp only[nm]
   refine AW.seq ?_
   refine AW.block ?_
   apply AW.step
   ·simp
    intros;rfl
   refine AW.block ?_
   replace h:=bnE h;obtain⟨y7,g7,h⟩:=h
   refine AW.iterP g7 (mk:=fun gh ls q=>(⟨[(0,.l (.r 0 2 0 q.2.length)),(1,.l (.s (.int .i64 a1))),(2,.l (.s (.int .i64 a2))),(3,.l (.s (.func (.func 142) #[] #[]))),(8,.l (.s (.int .i64 y2.1))),(9,.l (.s (.int .i64 q.1)))],[some ⟨120,2,false,some 0,lvs (encSpan q.2)⟩],53,gh,ls⟩:St)) (N:=fun gh ls=>(xP 2 (cx:=cx) (fun q=>(⟨[(0,.l (.r 0 2 0 q.length)),(1,.l (.s (.int .i64 a1))),(2,.l (.s (.int .i64 a2))),(3,.l (.s (.func (.func 142) #[] #[]))),(8,.l (.s (.int .i64 y2.1)))],[some ⟨120,2,false,some 0,lvs (encSpan q)⟩],53,gh,ls⟩:St)))) ?_ noX ?_ ?_
   ·refine Weak.mixB 1 [some 0] hn0 (by decide) (by decide) ?_ ?_ ?_
    all_goals first|(simp[Ab,Ac,pickOb];done)|rfl
   ·clear h;intro y6 y8 h
    refine AW.seq ?_
    replace h:=bnE h;obtain⟨y9,g9,h⟩:=h
    refine AW.flow (p:=fun gh ls=>(nP (cx:=cx) (fun q=>(⟨[(0,.l (.r 0 2 0 y6.2.length)),(1,.l (.s (.int .i64 a1))),(2,.l (.s (.int .i64 a2))),(3,.l (.s (.func (.func 142) #[] #[]))),(8,.l (.s (.int .i64 y2.1))),(9,.l (.s (.int .i64 y6.1))),(34,.l (.s (.bool q)))],[some ⟨120,2,false,some 0,lvs (encSpan y6.2)⟩],53,gh,ls⟩:St))) y9) ?_ ?_
    ·replace h:=g9;clear g9
     replace h:=ltE h;obtain⟨v10,e10,h⟩:=h
     cases v10 with
     |true =>
      replace h:=iteT rfl h
      replace h:=bnE h;obtain⟨v11,e11,h⟩:=h
      have f12:=A0 e11
      try simp[← e10,Ad e11] at f12
      replace h:=ltE h;obtain⟨v13,e13,h⟩:=h
      replace h:=bnE h;obtain⟨v14,e14,h⟩:=h
      have f15:=A0 e14
      try simp[← e10,Ad e11,f12,AE (Ad e11).2 (k:=2) (by decide),AB (Ad e11).2 (show 2≤2 by decide),lvs1,← e13,Ad e14] at f15
      replace h:=bnE h;obtain⟨v16,e16,h⟩:=h
      replace h:=ltE h;obtain⟨v17,e17,h⟩:=h
      apply AW.drawnR (V:=[_,_,_,_,_,_,_,_,_,_,_,_,_,_]) mixed DY2t1 14 (by kernel_rfl) (by kernel_rfl)
      ·refine⟨?_,?_,?_,?_,?_,?_,?_,?_,?_,?_,?_,?_,?_,?_,trivial⟩
       iterate 14 (· intro tm hr;simp[AllL,rdV] at hr;simp[hr,← e10,Ad e11,f12,AE (Ad e11).2 (k:=2) (by decide),AB (Ad e11).2 (show 2≤2 by decide),lvs1,← e13,Ad e14,f15,AE (Ad e14).2 (k:=2) (by decide),AB (Ad e14).2 (show 2≤2 by decide),← e17];intros;first|exact KD.mk|exact KD.mkN)
      ·rfl
      ·simp[tmD,putD,← e10,Ad e11,f12,AE (Ad e11).2 (k:=2) (by decide),AB (Ad e11).2 (show 2≤2 by decide),lvs1,← e13,Ad e14,f15,AE (Ad e14).2 (k:=2) (by decide),AB (Ad e14).2 (show 2≤2 by decide),← e17];rfl
      ·simp[← e10,Ad e11,f12,AE (Ad e11).2 (k:=2) (by decide),AB (Ad e11).2 (show 2≤2 by decide),lvs1,← e13,Ad e14,f15,AE (Ad e14).2 (k:=2) (by decide),AB (Ad e14).2 (show 2≤2 by decide),← e17]
       intros
       refine Ae H7 (IH e16) rfl ⟨.same rfl,.same rfl,trivial⟩ ?_
       try simp[← e10,Ad e11,f12,AE (Ad e11).2 (k:=2) (by decide),AB (Ad e11).2 (show 2≤2 by decide),lvs1,← e13,Ad e14,f15,AE (Ad e14).2 (k:=2) (by decide),AB (Ad e14).2 (show 2≤2 by decide),← e17]
       intros;rfl
      obtain rfl:=oi h
      refine nP_i ?_
      refine Weak.mixB 1 [some 0] hn0 (by decide) (by decide) ?_ ?_ ?_
      all_goals first|(simp[Ab,Ac,pickOb];done)|rfl
     |false =>
      replace h:=iteF rfl h
      apply AW.drawnR (V:=[_,_,_,_,_,_,_,_,_,_,_,_,_,_]) mixed DY2t1 14 (by kernel_rfl) (by kernel_rfl)
      ·refine⟨?_,?_,?_,?_,?_,?_,?_,?_,?_,?_,?_,?_,?_,?_,trivial⟩
       iterate 14 (· intro tm hr;simp[AllL,rdV] at hr;simp[hr,← e10];intros;first|exact KD.mk|exact KD.mkN)
      ·rfl
      ·simp[tmD,putD,← e10];rfl
      ·simp[← e10]
       intros;rfl
      obtain rfl:=oi h
      refine nP_i ?_
      refine Weak.mixB 1 [some 0] hn0 (by decide) (by decide) ?_ ?_ ?_
      all_goals first|(simp[Ab,Ac,pickOb];done)|rfl
    ·rintro e s hp
     obtain⟨rfl,hw⟩:=hp
     refine⟨_,hw,?_⟩
     try simp only[nm]
     replace h:=ltE h;obtain⟨v18,e18,h⟩:=h
     rw[← e18]
     cases v18 with
     |true =>
      replace h:=iteT rfl h
      refine AW.cond_true (by simp) ?_
      refine AW.skip ?_
      try simp only[nm]
      refine AW.seq ?_
      refine AW.block ?_
      replace h:=ltE h;obtain⟨v19,e19,h⟩:=h
      replace h:=bnE h;obtain⟨v20,e20,h⟩:=h
      have f21:=A0 e20
      try simp[← e19,Ad e20] at f21
      replace h:=bnE h;obtain⟨v22,e22,h⟩:=h
      have f23:=A0 e22
      try simp[← e19,Ad e20,f21,AE (Ad e20).2 (k:=2) (by decide),AB (Ad e20).2 (show 2≤2 by decide),lvs1,Ad e22] at f23
      have f24:=A0 e22
      try simp[← e19,Ad e20,f21,AE (Ad e20).2 (k:=2) (by decide),AB (Ad e20).2 (show 2≤2 by decide),lvs1,Ad e22,f23,AE (Ad e22).2 (k:=2) (by decide),AB (Ad e22).2 (show 2≤2 by decide)] at f24
      replace h:=ltE h;obtain⟨v25,e25,h⟩:=h
      have f26:=GG (Ad e22).2 e25 (cs:=[.s (.int .i64 v20.frm),.s (.int .i64 v20.to)]) (by simp) rfl
      try simp at f26
      have f27:=f21
      try simp only[AC e25] at f27
      have f28:=f23
      try simp only[AC e25] at f28
      have f29:=f24
      try simp only[AC e25] at f29
      replace h:=bnE h;obtain⟨v30,e30,h⟩:=h
      have f31:=A0 e30
      try simp[← e19,Ad e20,f21,AE (Ad e20).2 (k:=2) (by decide),AB (Ad e20).2 (show 2≤2 by decide),lvs1,Ad e22,f23,AE (Ad e22).2 (k:=2) (by decide),AB (Ad e22).2 (show 2≤2 by decide),f24,f26,f27,f28,f29,Ad e30] at f31
      replace h:=ltE h;obtain⟨v32,e32,h⟩:=h
      have f33:=GG (Ad e30).2 e32 (cs:=[.s (.int .i64 v22.frm),.s (.int .i64 v22.to)]) (by simp) rfl
      try simp at f33
      have f34:=f21
      try simp only[AC e32] at f34
      have f35:=f23
      try simp only[AC e32] at f35
      have f36:=f24
      try simp only[AC e32] at f36
      have f37:=f27
      try simp only[AC e32] at f37
      have f38:=f28
      try simp only[AC e32] at f38
      have f39:=f29
      try simp only[AC e32] at f39
      have f40:=f31
      try simp only[AC e32] at f40
      apply AW.drawnF (V:=[_,_,_,_,_,_,_,_,_,_,_,_,_,_,_,_]) (M:=[[some ⟨120,2,false,some 0,lvs (encSpan y6.2)⟩],[some ⟨120,2,false,some 0,lvs (encSpan v25)⟩]]) mixed [⟨[0],[],[(0,none)],false⟩,⟨[0],[],[(9,none)],false⟩,⟨[0,1],[],[(0,none)],false⟩,⟨[0,1],[],[(9,none)],false⟩,⟨[0,1],[3],[(40,some 3)],false⟩,⟨[0],[],[(0,none)],false⟩,⟨[0],[],[(9,none)],false⟩,⟨[0],[6],[(43,some 6)],false⟩,⟨[0],[5,6,7],[(42,some 5),(44,some 7)],false⟩,⟨[0],[5,6,7,8],[(45,some 8)],false⟩,⟨[0],[],[(0,none)],false⟩,⟨[0],[],[(9,none)],false⟩,⟨[0],[10,11],[(47,some 10),(48,some 11)],false⟩,⟨[0],[10,11,12],[(49,some 12)],false⟩,⟨[0],[0,1,5,6,7,8,9,10,11,12,13],[(37,some 0),(38,some 1)],false⟩,⟨[0],[0,1,5,6,7,8,9,10,11,12,13,14],[(46,some 9),(51,some 14)],true⟩,⟨[],[0,1,2,3,4,5,6,7,8,9,10,11,12,13,14,15],[],false⟩,⟨[],[0,1,2,3,4,5,6,7,8,9,10,11,12,13,14,15,16],[],false⟩] 16 1 (by kernel_rfl) (by kernel_rfl)
      ·rfl
      ·refine⟨?_,?_,⟨?_,?_⟩,⟨?_,?_⟩,⟨?_,?_⟩,?_,?_,?_,?_,?_,?_,?_,?_,?_,?_,?_,trivial⟩
       iterate 19 (· intro tm hr;simp[AllL,rdV] at hr;simp[hr,← e19,Ad e20,f21,AE (Ad e20).2 (k:=2) (by decide),AB (Ad e20).2 (show 2≤2 by decide),lvs1,Ad e22,f23,AE (Ad e22).2 (k:=2) (by decide),AB (Ad e22).2 (show 2≤2 by decide),f24,f26,f27,f28,f29,Ad e30,f31,AC e25,AB (Ad e30).2 (show 2≤2 by decide),f33,f34,f35,f36,f37,f38,f39,f40];intros;first|exact KD.mk|exact KD.mkN)
      ·rfl
      ·simp[tmD,putD,← e19,Ad e20,f21,AE (Ad e20).2 (k:=2) (by decide),AB (Ad e20).2 (show 2≤2 by decide),lvs1,Ad e22,f23,AE (Ad e22).2 (k:=2) (by decide),AB (Ad e22).2 (show 2≤2 by decide),f24,f26,f27,f28,f29,Ad e30,f31,AC e25,AB (Ad e30).2 (show 2≤2 by decide),f33,f34,f35,f36,f37,f38,f39,f40];rfl
      ·simp[← e19,Ad e20,f21,AE (Ad e20).2 (k:=2) (by decide),AB (Ad e20).2 (show 2≤2 by decide),lvs1,Ad e22,f23,AE (Ad e22).2 (k:=2) (by decide),AB (Ad e22).2 (show 2≤2 by decide),f24,f26,f27,f28,f29,Ad e30,f31,AC e25,AB (Ad e30).2 (show 2≤2 by decide),f33,f34,f35,f36,f37,f38,f39,f40]
       intros;rfl
      try simp only[nm]
      apply AW.last
      ·simp[← e19]
       intros;rfl
      obtain rfl:=oi h
      refine nP_i ?_
      refine Weak.mixB 1 [some 0] hn0 (by decide) (by decide) ?_ ?_ ?_
      all_goals first|(simp[Ab,Ac,pickOb,AC e25,AC e32];done)|rfl
     |false =>
      replace h:=iteF rfl h
      refine AW.cond_false (by simp) ?_
      refine AW.exit ?_
      try simp only[nm]
      obtain rfl:=oi h
      refine xP_i ?_
      refine Weak.mixB 1 [some 0] hn0 (by decide) (by decide) ?_ ?_ ?_
      all_goals first|(simp[Ab,Ac,pickOb];done)|rfl
   ·rintro e s hp
    obtain⟨rfl,hw⟩:=hp
    refine⟨_,hw,?_⟩
    try simp only[nm]
    replace h:=ltE h;obtain⟨v41,e41,h⟩:=h
    apply AW.last
    ·simp[← e41]
     intros;rfl
    obtain rfl:=oi h
    refine nP_i ?_
    refine Weak.mixB 1 [some 0] hn0 (by decide) (by decide) ?_ ?_ ?_
    all_goals first|(simp[Ab,Ac,pickOb];done)|rfl
  |false =>
   replace h:=iteF rfl h
   refine AW.cond_false (by simp) ?_
   refine AW.exit ?_
   try simp only[nm]
   obtain rfl:=oi h
   refine xP_i ?_
   refine Weak.mixB 1 [some 0] hn0 (by decide) (by decide) ?_ ?_ ?_
   all_goals first|(simp[Ab,Ac,pickOb];done)|rfl
 ·rintro e s hp
  obtain⟨rfl,hw⟩:=hp
  refine⟨_,hw,?_⟩
  try simp only[nm]
  obtain rfl:=oi h
  refine Left.of (av:=_) (by simp[Tryz.f153,resV,resC,comp];rfl) ?_
  exact LeftV.mix 1 [some 0] hn0 rfl (by decide) rfl (by simp[pickOb,Ab,Ac]) (by simp[Ab,Ac])
theorem CJ:Enters Tryz.prog 153:=enters Tryz.func153 (by kernel_rfl) rfl
def Bd (n:Nat) (a0:List Span) (a1:Int) (a2:Int) (a3:Int):Option (List Span) :=
bn (iter n (fun (y1:Unit) =>
lt (subI .i64 a2 a1) fun v4 =>
lt (leI v4 12) fun v5 =>
ite' v5 (bn (AT n a0 a1 a2) fun v6 =>
chk (lenB v6 a0) <|
some (.inr v6)) (none)) ()) fun (y2:List Span) =>
some y2
theorem DN {n:Nat} {a0:List Span} {a1:Int} {a2:Int} {a3:Int} {r:List Span} (h:Bd n a0 a1 a2 a3=some r):Sound Tryz.prog 148 [.l (.r 0 2 0 a0.length),.l (.s (.int .i64 a1)),.l (.s (.int .i64 a2)),.l (.s (.int .i64 a3)),.l (.s (.func (.func 142) #[] #[]))] [⟨120,2,false,some 0,lvs (encSpan a0)⟩] (.t []) [some ⟨120,2,false,some 0,lvs (encSpan r)⟩]:=by
 unfold Bd at h
 refine Sound.of_aw (fn:=Tryz.f148) (c:=_) Tryz.func148 rfl (by simp[Tryz.f148]) fun cx hG hnb=>?_
 rw[show Tryz.f148.ntmps=148 from rfl]
 have hn0:cx.nb=1:=hnb
 simp only[An,initTm,List.map_cons,List.map_nil]
 apply AW.step
 ·simp
  intros;rfl
 apply AW.step
 ·simp
  intros;rfl
 refine AW.block ?_
 replace h:=bnE h;obtain⟨y2,g2,h⟩:=h
 refine AW.iterP g2 (mk:=fun gh ls _=>(⟨[(0,.l (.r 0 2 0 a0.length)),(1,.l (.s (.int .i64 a1))),(2,.l (.s (.int .i64 a2))),(3,.l (.s (.int .i64 a3))),(4,.l (.s (.func (.func 142) #[] #[]))),(10,.l (.s (.bool true))),(11,.l (.s (.bool true)))],[some ⟨120,2,false,some 0,lvs (encSpan a0)⟩],148,gh,ls⟩:St)) (N:=fun gh ls=>(rP (cx:=cx) (P:=Tryz.prog) Tryz.f148 (fun q=>.t []) (fun q=>[some ⟨120,2,false,some 0,lvs (encSpan q)⟩]))) ?_ noR ?_ ?_
 ·refine Weak.mixB 1 [some 0] hn0 (by decide) (by decide) ?_ ?_ ?_
  all_goals first|(simp[Ab,Ac,pickOb];done)|rfl
 ·clear h;intro y1 y3 h
  refine AW.block ?_
  replace h:=ltE h;obtain⟨v4,e4,h⟩:=h
  apply AW.step
  ·simp[← e4]
   intros;rfl
  refine AW.seq ?_
  replace h:=ltE h;obtain⟨v5,e5,h⟩:=h
  apply AW.step
  ·simp[← e5]
   intros;rfl
  cases v5 with
  |true =>
   replace h:=iteT rfl h
   refine AW.cond_true (by simp) ?_
   replace h:=bnE h;obtain⟨v6,e6,h⟩:=h
   replace h:=chkE h;obtain⟨e7,h⟩:=h
   apply AW.step
   ·simp
    intros
    refine Ca [0] CJ (CU e6) (by decide) (by simp[pickOb,Ab,Ac]) rfl rfl (by simp) ⟨.l (.own' (by simp[Ab,Ac]) (by simp)),.l (.s _),.l (.s _),.l (.s _),trivial⟩ ?_
    try simp
    intros;rfl
   obtain rfl:=oi h
   refine AW.ret ?_
   try simp only[nm]
   refine rP_i ?_
   refine Left.of (av:=_) (by simp[Tryz.f148,resV,resC,comp];rfl) ?_
   exact LeftV.mix 1 [some 0] hn0 rfl (by decide) rfl (by simp[pickOb,Ab,Ac,FR e7]) (by simp[Ab,Ac,FR e7])
  |false =>
   replace h:=iteF rfl h
   refine AW.cond_false (by simp) ?_
   cases h
 ·rintro e s hp
  obtain⟨rfl,hl⟩:=hp
  refine⟨_,Weak.refl _,?_⟩
  obtain rfl:=oi h
  exact hl
theorem Dw:Enters Tryz.prog 148:=enters Tryz.func148 (by kernel_rfl) rfl
def BF (n:Nat) (a0:List Span):Option (List Span) :=
lt (lenI a0) fun v1 =>
lt (cvI .u64 v1) fun v2 =>
bn (FH n v2) fun v3 =>
bn (Bd n a0 0 v1 v3) fun v4 =>
chk (lenB v4 a0) <|
some v4
theorem EN {n:Nat} {a0:List Span} {r:List Span} (h:BF n a0=some r):Sound Tryz.prog 141 [.l (.r 0 2 0 a0.length),.l (.s (.func (.func 142) #[] #[]))] [⟨120,2,false,some 0,lvs (encSpan a0)⟩] (.t []) [some ⟨120,2,false,some 0,lvs (encSpan r)⟩]:=by
 unfold BF at h
 refine Sound.of_aw (fn:=Tryz.f141) (c:=_) Tryz.func141 rfl (by simp[Tryz.f141]) fun cx hG hnb=>?_
 rw[show Tryz.f141.ntmps=14 from rfl]
 have hn0:cx.nb=1:=hnb
 simp only[An,initTm,List.map_cons,List.map_nil]
 replace h:=ltE h;obtain⟨v1,e1,h⟩:=h
 apply AW.step
 ·simp[Aa e1]
  intros;rfl
 replace h:=ltE h;obtain⟨v2,e2,h⟩:=h
 replace h:=bnE h;obtain⟨v3,e3,h⟩:=h
 replace h:=bnE h;obtain⟨v4,e4,h⟩:=h
 replace h:=chkE h;obtain⟨e5,h⟩:=h
 apply AW.last
 ·simp[← e2]
  intros
  refine Ae La (Mm e3) rfl ⟨.same rfl,trivial⟩ ?_
  try simp[← e2]
  intros
  refine Ca [0] Dw (DN e4) (by decide) (by simp[pickOb,Ab,Ac]) rfl rfl (by simp) ⟨.l (.own' (by simp[Ab,Ac]) (by simp)),.l (.s _),.l (.s _),.l (.s _),.l (.s _),trivial⟩ ?_
  try simp[← e2]
  intros;rfl
 obtain rfl:=oi h
 refine Left.of (av:=_) (by simp[Tryz.f141,resV,resC,comp];rfl) ?_
 exact LeftV.mix 1 [some 0] hn0 rfl (by decide) rfl (by simp[pickOb,Ab,Ac,FR e5]) (by simp[Ab,Ac,FR e5])
theorem EB:Enters Tryz.prog 141:=enters Tryz.func141 (by kernel_rfl) rfl
def EO (n:Nat) (a0:List Span):Option (List Span) :=
lt (lenI a0) fun v1 =>
bn (iter n (fun (y2:Int×List Span) =>
lt (ltI y2.1 v1) fun v5 =>
ite' v5 (bn (bn (nth a0 y2.1) fun v7 =>
lt (maxI v7.frm 0) fun v8 =>
lt (minI v7.to 16383) fun v9 =>
lt (leI v8 v9) fun v10 =>
ite' v10 (chk (room (y2.2.length+1) 16) <|
lt (y2.2++[(⟨v8,v9⟩:Span)]) fun v12 =>
some (v12)) (some (y2.2))) fun (y6:List Span) =>
lt (addI .i64 y2.1 1) fun v13 =>
some (.inl (v13,y6))) (some (.inr y2.2))) (0,[])) fun (y3:List Span) =>
bn (BF n y3) fun v14 =>
chk (lenB v14 y3) <|
chk (room v14.length 1) <|
some v14
theorem Ks {n:Nat} {a0:List Span} {r:List Span} (h:EO n a0=some r):Sound Tryz.prog 122 [.l (.d true 2 (encSpan a0))] [] (.l (.d false 2 (encSpan r))) []:=by
 unfold EO at h
 refine Sound.of_aw (fn:=Tryz.f122) (c:=_) Tryz.func122 rfl (by simp[Tryz.f122]) fun cx hG hnb=>?_
 rw[show Tryz.f122.ntmps=32 from rfl]
 have hn0:cx.nb=0:=hnb
 simp only[An,initTm,List.map_cons,List.map_nil]
 apply AW.step
 ·simp
  intros;rfl
 apply AW.step
 ·simp
  intros;rfl
 refine AW.seq ?_
 replace h:=ltE h;obtain⟨v1,e1,h⟩:=h
 apply AW.step
 ·simp[Aa e1]
  intros;rfl
 refine AW.block ?_
 replace h:=bnE h;obtain⟨y3,g3,h⟩:=h
 refine AW.iterP g3 (mk:=fun gh ls q=>(⟨[(3,.l (.r 0 2 0 q.2.length)),(6,.l (.d true 2 (encSpan a0))),(7,.l (.s (.int .i64 v1))),(8,.l (.s (.int .i64 q.1)))],[some ⟨120,2,true,none,lvs (encSpan q.2)⟩],32,gh,ls⟩:St)) (N:=fun gh ls=>(xP 0 (cx:=cx) (fun q=>(⟨[(3,.l (.r 0 2 0 q.length))],[some ⟨120,2,true,none,lvs (encSpan q)⟩],32,gh,ls⟩:St)))) ?_ noX ?_ ?_
 ·refine W.nilRow 3 120 2 0 (by simp) rfl rfl ?_
  refine Weak.mixN [some 0] hn0 (by decide) ?_ ?_ rfl
  all_goals first|(simp[Ab,Ac,pickOb];done)|rfl
 ·clear h;intro y2 y4 h
  replace h:=ltE h;obtain⟨v5,e5,h⟩:=h
  apply AW.step
  ·simp[← e5]
   intros;rfl
  refine AW.seq ?_
  cases v5 with
  |true =>
   replace h:=iteT rfl h
   refine AW.cond_true (by simp) ?_
   refine AW.skip ?_
   try simp only[nm]
   replace h:=bnE h;obtain⟨y6,g6,h⟩:=h
   refine AW.flow (p:=fun gh ls=>(nP (cx:=cx) (fun q=>(⟨[(3,.l (.r 0 2 0 q.length)),(6,.l (.d true 2 (encSpan a0))),(7,.l (.s (.int .i64 v1))),(8,.l (.s (.int .i64 y2.1)))],[some ⟨120,2,true,none,lvs (encSpan q)⟩],32,gh,ls⟩:St))) y6) ?_ ?_
   ·replace h:=g6;clear g6
    refine AW.block ?_
    replace h:=bnE h;obtain⟨v7,e7,h⟩:=h
    apply AW.step
    ·simp[Ad e7]
     intros;rfl
    replace h:=ltE h;obtain⟨v8,e8,h⟩:=h
    replace h:=ltE h;obtain⟨v9,e9,h⟩:=h
    apply AW.step
    ·simp[← e8,← e9]
     intros;rfl
    replace h:=ltE h;obtain⟨v10,e10,h⟩:=h
    apply AW.step
    ·simp[← e10]
     intros;rfl
    cases v10 with
    |true =>
     replace h:=iteT rfl h
     refine AW.cond_true (by simp) ?_
     replace h:=chkE h;obtain⟨e11,h⟩:=h
     replace h:=ltE h;obtain⟨v12,e12,h⟩:=h
     apply AW.last
     ·simp[← BT,← e12,Ao e12]
      intros
      refine Av ?_
      try simp[← BT,← e12,Ao e12]
      intros
      refine AJ (acc:=encSpan y2.2) (ys:=encSpan [(⟨v8,v9⟩:Span)]) (cap:=none) (k:=1) JZ JY (by simp) (by simp[encSpan,lvs]) (D5 _) (by simp) (by simp) (by first|(simp;done)|simpa using (Ah e11).1) ?_
      try simp[← BT,← e12,Ao e12]
      intros;rfl
     obtain rfl:=oi h
     refine nP_i ?_
     refine Weak.mixN [some 3] hn0 (by decide) ?_ ?_ rfl
     all_goals first|(simp[Ab,Ac,pickOb,E7];done)|rfl
    |false =>
     replace h:=iteF rfl h
     refine AW.cond_false (by simp) ?_
     refine AW.skip ?_
     try simp only[nm]
     obtain rfl:=oi h
     refine nP_i ?_
     refine Weak.mixN [some 0] hn0 (by decide) ?_ ?_ rfl
     all_goals first|(simp[Ab,Ac,pickOb];done)|rfl
   ·rintro e s hp
    obtain⟨rfl,hw⟩:=hp
    refine⟨_,hw,?_⟩
    try simp only[nm]
    replace h:=ltE h;obtain⟨v13,e13,h⟩:=h
    apply AW.last
    ·simp[← e13]
     intros;rfl
    obtain rfl:=oi h
    refine nP_i ?_
    refine Weak.mixN [some 0] hn0 (by decide) ?_ ?_ rfl
    all_goals first|(simp[Ab,Ac,pickOb];done)|rfl
  |false =>
   replace h:=iteF rfl h
   refine AW.cond_false (by simp) ?_
   refine AW.exit ?_
   try simp only[nm]
   obtain rfl:=oi h
   refine xP_i ?_
   refine Weak.mixN [some 0] hn0 (by decide) ?_ ?_ rfl
   all_goals first|(simp[Ab,Ac,pickOb];done)|rfl
 ·rintro e s hp
  obtain⟨rfl,hw⟩:=hp
  refine⟨_,hw,?_⟩
  try simp only[nm]
  refine AW.pin 0 (ty:=120) (sz:=2) (cs:=lvs (encSpan y3)) (by simp) hn0 (by omega) rfl ?_
  replace h:=bnE h;obtain⟨v14,e14,h⟩:=h
  replace h:=chkE h;obtain⟨e15,h⟩:=h
  apply AW.step
  ·simp
   intros
   refine Ca [0] EB (EN e14) (by decide) (by simp[pickOb,Ab,Ac]) rfl rfl (by simp) ⟨.l (.own' (by simp[Ab,Ac]) (by simp)),.l (.s _),trivial⟩ ?_
   try simp
   intros;rfl
  apply AW.step
  ·simp
   intros;rfl
  replace h:=chkE h;obtain⟨e16,h⟩:=h
  refine AW.unpin 0 (ty:=120) (sz:=2) (cs:=lvs (encSpan v14)) (by simp) rfl ?_
  refine AW.frzRow 0 (ty:=120) (cap:=none) (sz:=2) (es:=encSpan v14) (by simp) (by omega) (D5 _) (by first|exact (Ah e16).2|simpa using (Ah e16).2|simp) (by simp[Tm.frz,AV.frz,LV.frz,FR e15];rfl) (by simp[Ob.frz,LV.frz,FR e15];rfl) rfl ?_
  obtain rfl:=oi h
  refine AW.ret ?_
  refine Left.plain hnb (by simp[Tryz.f122,resV,resC,comp];rfl) rfl rfl ?_
  simp
theorem Jz:Enters Tryz.prog 122:=enters Tryz.func122 (by kernel_rfl) rfl
def EP (n:Nat) (a0:List Span):Option (List Span) :=
bn (EO n a0) fun v1 =>
lt (lenI v1) fun v2 =>
bn (iter n (fun (y3:Int×List Span) =>
lt (ltI y3.1 v2) fun v6 =>
ite' v6 (bn (bn (nth v1 y3.1) fun v8 =>
lt (lenI y3.2) fun v9 =>
bn (lt (gtI v9 0) fun v11 =>
ite' v11 (lt (subI .i64 v9 1) fun v12 =>
bn (nth y3.2 v12) fun v13 =>
lt (addI .i64 v13.to 1) fun v15 =>
lt (leI v8.frm v15) fun v16 =>
some (v16)) (some (false))) fun (y10:Bool) =>
lt (y10) fun v17 =>
ite' v17 (lt (subI .i64 v9 1) fun v18 =>
bn (nth y3.2 v18) fun v19 =>
lt (maxI v19.to v8.to) fun v21 =>
lt (y3.2.set v18.toNat (⟨v19.frm,v21⟩:Span)) fun v23 =>
some (v23)) (chk (room (y3.2.length+1) 16) <|
lt (y3.2++[v8]) fun v28 =>
some (v28))) fun (y7:List Span) =>
lt (addI .i64 y3.1 1) fun v29 =>
some (.inl (v29,y7))) (some (.inr y3.2))) (0,[])) fun (y4:List Span) =>
chk (room y4.length 1) <|
some y4
def DY2t2:List DI:=[⟨[0],[],[(6,none)],false⟩,⟨[0],[0],[(16,some 0)],false⟩,⟨[0],[0,1],[(17,some 1)],false⟩,⟨[0],[0,1,2],[(5,none),(18,some 2)],false⟩,⟨[0],[0,1,2,3],[(18,some 2),(19,some 3)],false⟩,⟨[0],[0,1,2],[(3,none),(18,some 2)],false⟩,⟨[0],[0,1,2],[(6,none),(18,some 2)],false⟩,⟨[0],[0,1,2,6],[(18,some 2),(22,some 6)],false⟩,⟨[0],[0,1,2,5,6,7],[(18,some 2),(21,some 5),(23,some 7)],false⟩,⟨[0],[0,1,2,5,6,7,8],[(18,some 2),(24,some 8)],false⟩,⟨[0],[0,1,2,5,6,7,8,9],[(18,some 2),(25,some 9)],false⟩,⟨[0],[0,1,2,5,6,7,8,9,10],[(18,some 2),(26,some 10)],false⟩,⟨[],[0,1,2,3,4,5,6,7,8,9,10,11],[],false⟩,⟨[],[0,1,2,3,4,5,6,7,8,9,10,11,12],[],false⟩]
theorem Kt {n:Nat} {a0:List Span} {r:List Span} (h:EP n a0=some r):Sound Tryz.prog 104 [.l (.d true 2 (encSpan a0))] [] (.l (.d false 2 (encSpan r))) []:=by
 unfold EP at h
 refine Sound.of_aw (fn:=Tryz.f104) (c:=_) Tryz.func104 rfl (by simp[Tryz.f104]) fun cx hG hnb=>?_
 rw[show Tryz.f104.ntmps=50 from rfl]
 have hn0:cx.nb=0:=hnb
 simp only[An,initTm,List.map_cons,List.map_nil]
 apply AW.step
 ·simp
  intros;rfl
 apply AW.step
 ·simp
  intros;rfl
 refine AW.seq ?_
 replace h:=bnE h;obtain⟨v1,e1,h⟩:=h
 replace h:=ltE h;obtain⟨v2,e2,h⟩:=h
 apply AW.step
 ·simp[Aa e2]
  intros
  refine Ae Jz (Ks e1) rfl ⟨.d _ _ _,trivial⟩ ?_
  try simp[Aa e2]
  intros;rfl
 refine AW.block ?_
 replace h:=bnE h;obtain⟨y4,g4,h⟩:=h
 refine AW.iterP g4 (mk:=fun gh ls q=>(⟨[(3,.l (.r 0 2 0 q.2.length)),(8,.l (.d false 2 (encSpan v1))),(9,.l (.s (.int .i64 v2))),(10,.l (.s (.int .i64 q.1)))],[some ⟨120,2,true,none,lvs (encSpan q.2)⟩],50,gh,ls⟩:St)) (N:=fun gh ls=>(xP 0 (cx:=cx) (fun q=>(⟨[(3,.l (.r 0 2 0 q.length))],[some ⟨120,2,true,none,lvs (encSpan q)⟩],50,gh,ls⟩:St)))) ?_ noX ?_ ?_
 ·refine W.nilRow 3 120 2 0 (by simp) rfl rfl ?_
  refine Weak.mixN [some 0] hn0 (by decide) ?_ ?_ rfl
  all_goals first|(simp[Ab,Ac,pickOb];done)|rfl
 ·clear h;intro y3 y5 h
  replace h:=ltE h;obtain⟨v6,e6,h⟩:=h
  apply AW.step
  ·simp[← e6]
   intros;rfl
  refine AW.seq ?_
  cases v6 with
  |true =>
   replace h:=iteT rfl h
   refine AW.cond_true (by simp) ?_
   refine AW.skip ?_
   try simp only[nm]
   replace h:=bnE h;obtain⟨y7,g7,h⟩:=h
   refine AW.flow (p:=fun gh ls=>(nP (cx:=cx) (fun q=>(⟨[(3,.l (.r 0 2 0 q.length)),(8,.l (.d false 2 (encSpan v1))),(9,.l (.s (.int .i64 v2))),(10,.l (.s (.int .i64 y3.1)))],[some ⟨120,2,true,none,lvs (encSpan q)⟩],50,gh,ls⟩:St))) y7) ?_ ?_
   ·replace h:=g7;clear g7
    refine AW.block ?_
    replace h:=bnE h;obtain⟨v8,e8,h⟩:=h
    apply AW.step
    ·simp[Ad e8]
     intros;rfl
    refine AW.seq ?_
    replace h:=ltE h;obtain⟨v9,e9,h⟩:=h
    apply AW.step
    ·simp[Aa e9]
     intros;rfl
    replace h:=bnE h;obtain⟨y10,g10,h⟩:=h
    refine AW.flow (p:=fun gh ls=>(nP (cx:=cx) (fun q=>(⟨[(3,.l (.r 0 2 0 y3.2.length)),(5,.l (.p 1 0)),(6,.l (.s (.int .i64 v9))),(8,.l (.d false 2 (encSpan v1))),(9,.l (.s (.int .i64 v2))),(10,.l (.s (.int .i64 y3.1))),(29,.l (.s (.bool q)))],[some ⟨120,2,true,none,lvs (encSpan y3.2)⟩,some ⟨120,2,false,none,[.s (.int .i64 v8.frm),.s (.int .i64 v8.to)]⟩],50,gh,ls⟩:St))) y10) ?_ ?_
    ·replace h:=g10;clear g10
     replace h:=ltE h;obtain⟨v11,e11,h⟩:=h
     cases v11 with
     |true =>
      replace h:=iteT rfl h
      replace h:=ltE h;obtain⟨v12,e12,h⟩:=h
      replace h:=bnE h;obtain⟨v13,e13,h⟩:=h
      have f14:=A0 e13
      try simp[← e11,← e12,Ad e13] at f14
      replace h:=ltE h;obtain⟨v15,e15,h⟩:=h
      replace h:=ltE h;obtain⟨v16,e16,h⟩:=h
      apply AW.drawnR (V:=[_,_,_,_,_,_,_,_,_,_,_,_]) mixed DY2t2 12 (by kernel_rfl) (by kernel_rfl)
      ·refine⟨?_,?_,?_,?_,?_,?_,?_,?_,?_,?_,?_,?_,trivial⟩
       iterate 12 (· intro tm hr;simp[AllL,rdV] at hr;simp[hr,← e11,← e12,Ad e13,f14,BX (Ad e13).2 (j:=1) (by decide),lvs1,← e15,← e16];intros;first|exact KD.mk|exact KD.mkN)
      ·rfl
      ·simp[tmD,putD,← e11,← e12,Ad e13,f14,BX (Ad e13).2 (j:=1) (by decide),lvs1,← e15,← e16];rfl
      ·simp[← e11,← e12,Ad e13,f14,BX (Ad e13).2 (j:=1) (by decide),lvs1,← e15,← e16]
       intros;rfl
      obtain rfl:=oi h
      refine nP_i ?_
      refine Weak.mixN [some 0,some 1] hn0 (by decide) ?_ ?_ rfl
      all_goals first|(simp[Ab,Ac,pickOb];done)|rfl
     |false =>
      replace h:=iteF rfl h
      apply AW.drawnR (V:=[_,_,_,_,_,_,_,_,_,_,_,_]) mixed DY2t2 12 (by kernel_rfl) (by kernel_rfl)
      ·refine⟨?_,?_,?_,?_,?_,?_,?_,?_,?_,?_,?_,?_,trivial⟩
       iterate 12 (· intro tm hr;simp[AllL,rdV] at hr;simp[hr,← e11];intros;first|exact KD.mk|exact KD.mkN)
      ·rfl
      ·simp[tmD,putD,← e11];rfl
      ·simp[← e11]
       intros;rfl
      obtain rfl:=oi h
      refine nP_i ?_
      refine Weak.mixN [some 0,some 1] hn0 (by decide) ?_ ?_ rfl
      all_goals first|(simp[Ab,Ac,pickOb];done)|rfl
    ·rintro e s hp
     obtain⟨rfl,hw⟩:=hp
     refine⟨_,hw,?_⟩
     try simp only[nm]
     replace h:=ltE h;obtain⟨v17,e17,h⟩:=h
     rw[← e17]
     cases v17 with
     |true =>
      replace h:=iteT rfl h
      refine AW.cond_true (by simp) ?_
      replace h:=ltE h;obtain⟨v18,e18,h⟩:=h
      replace h:=bnE h;obtain⟨v19,e19,h⟩:=h
      have f20:=A0 e19
      try simp[← e18,Ad e19] at f20
      replace h:=ltE h;obtain⟨v21,e21,h⟩:=h
      have f22:=A0 e19
      try simp[← e18,Ad e19,f20,BX (Ad e19).2 (j:=1) (by decide),lvs1,← e21] at f22
      replace h:=ltE h;obtain⟨v23,e23,h⟩:=h
      have f24:=KT (Ad e19).2 e23 (j:=1) (cs:=[.s (.int .i64 v21)]) (by simp) rfl
      try simp at f24
      have f25:=f20
      try simp only[AC e23] at f25
      have f26:=f22
      try simp only[AC e23] at f26
      apply AW.drawnP (V:=[_,_,_,_,_,_,_,_,_,_,_,_]) mixed [⟨[0],[],[(3,none)],false⟩,⟨[0],[],[(6,none)],false⟩,⟨[0],[1],[(31,some 1)],false⟩,⟨[0],[],[(3,none)],false⟩,⟨[0],[],[(6,none)],false⟩,⟨[0],[4],[(34,some 4)],false⟩,⟨[0],[3,4,5],[(33,some 3),(35,some 5)],false⟩,⟨[0],[3,4,5,6],[(36,some 6)],false⟩,⟨[0],[3,4,5,6,7],[(37,some 7)],false⟩,⟨[0],[],[(5,none)],false⟩,⟨[0],[9],[(39,some 9)],false⟩,⟨[0],[3,4,5,6,7,8,9,10],[(38,some 8),(40,some 10)],false⟩,⟨[],[0,1,2,3,4,5,6,7,8,9,10,11],[],false⟩,⟨[],[0,1,2,3,4,5,6,7,8,9,10,11,12],[],false⟩,⟨[],[0,1,2,3,4,5,6,7,8,9,10,11,12,13],[],false⟩] 12 (by kernel_rfl) (by kernel_rfl)
      ·refine⟨?_,?_,?_,?_,?_,?_,?_,?_,?_,?_,?_,?_,trivial⟩
       iterate 12 (· intro tm hr;simp[AllL,rdV] at hr;simp[hr,← e18,Ad e19,f20,BX (Ad e19).2 (j:=1) (by decide),lvs1,← e21,f22,E8 (Ad e19).2 (j:=1) (m:=1) (by decide),f24,f25,f26];intros;first|exact KD.mk|exact KD.mkN)
      ·rfl
      ·simp[tmD,putD,← e18,Ad e19,f20,BX (Ad e19).2 (j:=1) (by decide),lvs1,← e21,f22,E8 (Ad e19).2 (j:=1) (m:=1) (by decide),f24,f25,f26];rfl
      ·simp[← e18,Ad e19,f20,BX (Ad e19).2 (j:=1) (by decide),lvs1,← e21,f22,E8 (Ad e19).2 (j:=1) (m:=1) (by decide),f24,f25,f26]
       intros;rfl
      refine AW.exit ?_
      try simp only[nm]
      obtain rfl:=oi h
      refine nP_i ?_
      refine Weak.mixN [some 0] hn0 (by decide) ?_ ?_ rfl
      all_goals first|(simp[Ab,Ac,pickOb,AC e23];done)|rfl
     |false =>
      replace h:=iteF rfl h
      refine AW.cond_false (by simp) ?_
      refine AW.skip ?_
      try simp only[nm]
      replace h:=chkE h;obtain⟨e27,h⟩:=h
      replace h:=ltE h;obtain⟨v28,e28,h⟩:=h
      apply AW.last
      ·simp[← BT,← e28,Ao e28]
       intros
       refine Av ?_
       try simp[← BT,← e28,Ao e28]
       intros
       refine AJ (acc:=encSpan y3.2) (ys:=encSpan [v8]) (cap:=none) (k:=1) JZ JY (by simp) (by simp[encSpan,lvs]) (D5 _) (by simp) (by simp) (by first|(simp;done)|simpa using (Ah e27).1) ?_
       try simp[← BT,← e28,Ao e28]
       intros;rfl
      obtain rfl:=oi h
      refine nP_i ?_
      refine Weak.mixN [some 3] hn0 (by decide) ?_ ?_ rfl
      all_goals first|(simp[Ab,Ac,pickOb,E7];done)|rfl
   ·rintro e s hp
    obtain⟨rfl,hw⟩:=hp
    refine⟨_,hw,?_⟩
    try simp only[nm]
    replace h:=ltE h;obtain⟨v29,e29,h⟩:=h
    apply AW.last
    ·simp[← e29]
     intros;rfl
    obtain rfl:=oi h
    refine nP_i ?_
    refine Weak.mixN [some 0] hn0 (by decide) ?_ ?_ rfl
    all_goals first|(simp[Ab,Ac,pickOb];done)|rfl
  |false =>
   replace h:=iteF rfl h
   refine AW.cond_false (by simp) ?_
   refine AW.exit ?_
   try simp only[nm]
   obtain rfl:=oi h
   refine xP_i ?_
   refine Weak.mixN [some 0] hn0 (by decide) ?_ ?_ rfl
   all_goals first|(simp[Ab,Ac,pickOb];done)|rfl
 ·rintro e s hp
  obtain⟨rfl,hw⟩:=hp
  refine⟨_,hw,?_⟩
  try simp only[nm]
  apply AW.step
  ·simp
   intros;rfl
  replace h:=chkE h;obtain⟨e30,h⟩:=h
  refine AW.frzRow 0 (ty:=120) (cap:=none) (sz:=2) (es:=encSpan y4) (by simp) (by omega) (D5 _) (by first|exact (Ah e30).2|simpa using (Ah e30).2|simp) (by simp[Tm.frz,AV.frz,LV.frz];rfl) (by simp[Ob.frz,LV.frz];rfl) rfl ?_
  obtain rfl:=oi h
  refine AW.ret ?_
  refine Left.plain hnb (by simp[Tryz.f104,resV,resC,comp];rfl) rfl rfl ?_
  simp
theorem JA:Enters Tryz.prog 104:=enters Tryz.func104 (by kernel_rfl) rfl
def DO (n:Nat) (a0:List Claim) (a1:List Claim):Option (List Claim×List Claim) :=
some (a0,a1)
theorem H8 {n:Nat} {a0:List Claim} {a1:List Claim} {r:List Claim×List Claim} (h:DO n a0 a1=some r):Sound Tryz.prog 105 [.l (.d false 4 (encClaim a0)),.l (.d false 4 (encClaim a1))] [] (.l (.f 123 [0,1])) [some ⟨24,1,false,none,[.d false 4 (encClaim r.1)]⟩,some ⟨24,1,false,none,[.d false 4 (encClaim r.2)]⟩]:=by
 unfold DO at h
 refine Sound.of_aw (fn:=Tryz.f105) (c:=_) Tryz.func105 rfl (by simp[Tryz.f105]) fun cx hG hnb=>?_
 rw[show Tryz.f105.ntmps=6 from rfl]
 have hn0:cx.nb=0:=hnb
 simp only[An,initTm,List.map_cons,List.map_nil]
 apply AW.step
 ·simp
  intros;rfl
 apply AW.step
 ·simp
  intros;rfl
 obtain rfl:=oi h
 refine AW.ret ?_
 refine Left.of (av:=_) (by simp[Tryz.f105,resV,resC,comp];rfl) ?_
 exact LeftV.mix 0 [some 0,some 1] hn0 rfl (by decide) rfl (by simp[pickOb,Ab,Ac]) (by simp[Ab,Ac])
theorem HD:Enters Tryz.prog 105:=enters Tryz.func105 (by kernel_rfl) rfl
def Dh (n:Nat) (a0:List Claim) (a1:Int):Option (Claim×List Claim) :=
bn (iter n (fun (y1:List Claim) =>
bn (lt (lenI y1) fun v5 =>
lt (gtI v5 0) fun v6 =>
ite' v6 (bn (nth y1 0) fun v7 =>
lt (ltI v7.to a1) fun v8 =>
some (v8)) (some (false))) fun (y4:Bool) =>
lt (y4) fun v9 =>
ite' v9 (bn (segl y1 1) fun v10 =>
some (.inl v10)) (some (.inr y1))) a0) fun (y2:List Claim) =>
bn (bn (lt (lenI y2) fun v14 =>
lt (gtI v14 0) fun v15 =>
ite' v15 (bn (nth y2 0) fun v16 =>
lt (leI v16.frm a1) fun v17 =>
some (v17)) (some (false))) fun (y13:Bool) =>
lt (y13) fun v18 =>
ite' v18 (bn (nth y2 0) fun v19 =>
some ((⟨a1,v19.to,v19.node,v19.epoch⟩:Claim))) (lt (lenI y2) fun v20 =>
lt (gtI v20 0) fun v21 =>
ite' v21 (bn (nth y2 0) fun v22 =>
lt (subI .i64 v22.frm 1) fun v23 =>
some ((⟨a1,v23,0,0⟩:Claim))) (some ((⟨a1,16383,0,0⟩:Claim))))) fun (y12:Claim) =>
some (y12,y2)
theorem Gk {n:Nat} {a0:List Claim} {a1:Int} {r:Claim×List Claim} (h:Dh n a0 a1=some r):Sound Tryz.prog 124 [.l (.d false 4 (encClaim a0)),.l (.s (.int .i64 a1))] [] (.t [(true,[.s (.int .i64 r.1.frm),.s (.int .i64 r.1.to),.s (.int .i64 r.1.node),.s (.int .i64 r.1.epoch)]),(false,[.d false 4 (encClaim r.2)])]) []:=by
 unfold Dh at h
 refine Sound.of_aw (fn:=Tryz.f124) (c:=_) Tryz.func124 rfl (by simp[Tryz.f124]) fun cx hG hnb=>?_
 rw[show Tryz.f124.ntmps=51 from rfl]
 have hn0:cx.nb=0:=hnb
 simp only[An,initTm,List.map_cons,List.map_nil]
 apply AW.step
 ·simp
  intros;rfl
 refine AW.seq ?_
 refine AW.block ?_
 replace h:=bnE h;obtain⟨y2,g2,h⟩:=h
 refine AW.iterP g2 (mk:=fun gh ls q=>(⟨[(0,.l (.d false 4 (encClaim q))),(1,.l (.s (.int .i64 a1))),(4,.l (.p 0 0))],[some ⟨81,4,false,none,[.s (.int .i64 0),.s (.int .i64 0),.s (.int .i64 0),.s (.int .i64 0)]⟩],51,gh,ls⟩:St)) (N:=fun gh ls=>(xP 0 (cx:=cx) (fun q=>(⟨[(0,.l (.d false 4 (encClaim q))),(1,.l (.s (.int .i64 a1))),(4,.l (.p 0 0))],[some ⟨81,4,false,none,[.s (.int .i64 0),.s (.int .i64 0),.s (.int .i64 0),.s (.int .i64 0)]⟩],51,gh,ls⟩:St)))) ?_ noX ?_ ?_
 ·refine Weak.mixN [some 0] hn0 (by decide) ?_ ?_ rfl
  all_goals first|(simp[Ab,Ac,pickOb];done)|rfl
 ·clear h;intro y1 y3 h
  refine AW.seq ?_
  replace h:=bnE h;obtain⟨y4,g4,h⟩:=h
  refine AW.flow (p:=fun gh ls=>(nP (cx:=cx) (fun q=>(⟨[(0,.l (.d false 4 (encClaim y1))),(1,.l (.s (.int .i64 a1))),(4,.l (.p 0 0)),(17,.l (.s (.bool q)))],[some ⟨81,4,false,none,[.s (.int .i64 0),.s (.int .i64 0),.s (.int .i64 0),.s (.int .i64 0)]⟩],51,gh,ls⟩:St))) y4) ?_ ?_
  ·replace h:=g4;clear g4
   replace h:=ltE h;obtain⟨v5,e5,h⟩:=h
   replace h:=ltE h;obtain⟨v6,e6,h⟩:=h
   cases v6 with
   |true =>
    replace h:=iteT rfl h
    replace h:=bnE h;obtain⟨v7,e7,h⟩:=h
    replace h:=ltE h;obtain⟨v8,e8,h⟩:=h
    apply AW.last
    ·simp[Aa e5,← e6,(show y1[0]?=some v7 from (Ad e7).2),← e8]
     intros;rfl
    obtain rfl:=oi h
    refine nP_i ?_
    refine Weak.mixN [some 0] hn0 (by decide) ?_ ?_ rfl
    all_goals first|(simp[Ab,Ac,pickOb];done)|rfl
   |false =>
    replace h:=iteF rfl h
    apply AW.last
    ·simp[Aa e5,← e6]
     intros;rfl
    obtain rfl:=oi h
    refine nP_i ?_
    refine Weak.mixN [some 0] hn0 (by decide) ?_ ?_ rfl
    all_goals first|(simp[Ab,Ac,pickOb];done)|rfl
  ·rintro e s hp
   obtain⟨rfl,hw⟩:=hp
   refine⟨_,hw,?_⟩
   try simp only[nm]
   replace h:=ltE h;obtain⟨v9,e9,h⟩:=h
   rw[← e9]
   cases v9 with
   |true =>
    replace h:=iteT rfl h
    refine AW.cond_true (by simp) ?_
    refine AW.skip ?_
    try simp only[nm]
    refine AW.block ?_
    replace h:=bnE h;obtain⟨v10,e10,h⟩:=h
    have f11:=Jm e10
    try simp at f11
    apply AW.last
    ·simp[f11]
     intros;rfl
    obtain rfl:=oi h
    refine nP_i ?_
    refine Weak.mixN [some 0] hn0 (by decide) ?_ ?_ rfl
    all_goals first|(simp[Ab,Ac,pickOb];done)|rfl
   |false =>
    replace h:=iteF rfl h
    refine AW.cond_false (by simp) ?_
    refine AW.exit ?_
    try simp only[nm]
    obtain rfl:=oi h
    refine xP_i ?_
    refine Weak.mixN [some 0] hn0 (by decide) ?_ ?_ rfl
    all_goals first|(simp[Ab,Ac,pickOb];done)|rfl
 ·rintro e s hp
  obtain⟨rfl,hw⟩:=hp
  refine⟨_,hw,?_⟩
  try simp only[nm]
  apply AW.step
  ·simp
   intros;rfl
  replace h:=bnE h;obtain⟨y12,g12,h⟩:=h
  refine AW.flow (p:=fun gh ls=>(nP (cx:=cx) (fun q=>(⟨[(0,.l (.d false 4 (encClaim y2))),(4,.l (.p 0 0)),(6,.l (.p 1 0))],[some ⟨81,4,false,none,[.s (.int .i64 0),.s (.int .i64 0),.s (.int .i64 0),.s (.int .i64 0)]⟩,some ⟨81,4,false,none,[.s (.int .i64 q.frm),.s (.int .i64 q.to),.s (.int .i64 q.node),.s (.int .i64 q.epoch)]⟩],51,gh,ls⟩:St))) y12) ?_ ?_
  ·replace h:=g12;clear g12
   refine AW.block ?_
   replace h:=bnE h;obtain⟨y13,g13,h⟩:=h
   refine AW.flow (p:=fun gh ls=>(nP (cx:=cx) (fun q=>(⟨[(0,.l (.d false 4 (encClaim y2))),(1,.l (.s (.int .i64 a1))),(4,.l (.p 0 0)),(6,.l (.p 1 0)),(22,.l (.s (.bool q)))],[some ⟨81,4,false,none,[.s (.int .i64 0),.s (.int .i64 0),.s (.int .i64 0),.s (.int .i64 0)]⟩,some ⟨81,4,false,none,[.s (.int .i64 a1),.s (.int .i64 16383),.s (.int .i64 0),.s (.int .i64 0)]⟩],51,gh,ls⟩:St))) y13) ?_ ?_
   ·replace h:=g13;clear g13
    replace h:=ltE h;obtain⟨v14,e14,h⟩:=h
    replace h:=ltE h;obtain⟨v15,e15,h⟩:=h
    cases v15 with
    |true =>
     replace h:=iteT rfl h
     replace h:=bnE h;obtain⟨v16,e16,h⟩:=h
     replace h:=ltE h;obtain⟨v17,e17,h⟩:=h
     apply AW.last
     ·simp[Aa e14,← e15,(show y2[0]?=some v16 from (Ad e16).2),← e17]
      intros;rfl
     obtain rfl:=oi h
     refine nP_i ?_
     refine Weak.mixN [some 0,some 1] hn0 (by decide) ?_ ?_ rfl
     all_goals first|(simp[Ab,Ac,pickOb];done)|rfl
    |false =>
     replace h:=iteF rfl h
     apply AW.last
     ·simp[Aa e14,← e15]
      intros;rfl
     obtain rfl:=oi h
     refine nP_i ?_
     refine Weak.mixN [some 0,some 1] hn0 (by decide) ?_ ?_ rfl
     all_goals first|(simp[Ab,Ac,pickOb];done)|rfl
   ·rintro e s hp
    obtain⟨rfl,hw⟩:=hp
    refine⟨_,hw,?_⟩
    try simp only[nm]
    replace h:=ltE h;obtain⟨v18,e18,h⟩:=h
    rw[← e18]
    cases v18 with
    |true =>
     replace h:=iteT rfl h
     refine AW.cond_true (by simp) ?_
     replace h:=bnE h;obtain⟨v19,e19,h⟩:=h
     apply AW.step
     ·simp[(show y2[0]?=some v19 from (Ad e19).2)]
      intros;rfl
     apply AW.last
     ·simp
      intros;rfl
     obtain rfl:=oi h
     refine nP_i ?_
     refine Weak.mixN [some 0,some 1] hn0 (by decide) ?_ ?_ rfl
     all_goals first|(simp[Ab,Ac,pickOb];done)|rfl
    |false =>
     replace h:=iteF rfl h
     refine AW.cond_false (by simp) ?_
     replace h:=ltE h;obtain⟨v20,e20,h⟩:=h
     replace h:=ltE h;obtain⟨v21,e21,h⟩:=h
     apply AW.step
     ·simp[Aa e20,← e21]
      intros;rfl
     cases v21 with
     |true =>
      replace h:=iteT rfl h
      refine AW.cond_true (by simp) ?_
      replace h:=bnE h;obtain⟨v22,e22,h⟩:=h
      replace h:=ltE h;obtain⟨v23,e23,h⟩:=h
      apply AW.last
      ·simp[(show y2[0]?=some v22 from (Ad e22).2),← e23]
       intros;rfl
      obtain rfl:=oi h
      refine nP_i ?_
      refine Weak.mixN [some 0,some 1] hn0 (by decide) ?_ ?_ rfl
      all_goals first|(simp[Ab,Ac,pickOb];done)|rfl
     |false =>
      replace h:=iteF rfl h
      refine AW.cond_false (by simp) ?_
      refine AW.skip ?_
      try simp only[nm]
      obtain rfl:=oi h
      refine nP_i ?_
      refine Weak.mixN [some 0,some 1] hn0 (by decide) ?_ ?_ rfl
      all_goals first|(simp[Ab,Ac,pickOb];done)|rfl
  ·rintro e s hp
   obtain⟨rfl,hw⟩:=hp
   refine⟨_,hw,?_⟩
   try simp only[nm]
   apply AW.step
   ·simp
    intros;rfl
   obtain rfl:=oi h
   refine AW.ret ?_
   refine Left.plain hnb (by simp[Tryz.f124,resV,resC,comp];rfl) rfl rfl ?_
   simp
theorem FX:Enters Tryz.prog 124:=enters Tryz.func124 (by kernel_rfl) rfl
def Ea (n:Nat) (a0:Claim) (a1:Claim):Option Bool :=
bn (lt (addI .i64 a0.to 1) fun v2 =>
lt (eqI v2 a1.frm) fun v3 =>
ite' v3 (lt (eqI a0.node a1.node) fun v4 =>
ite' v4 (lt (eqI a0.epoch a1.epoch) fun v5 =>
some (v5)) (some (false))) (some (false))) fun (y1:Bool) =>
some y1
theorem II {n:Nat} {a0:Claim} {a1:Claim} {r:Bool} (h:Ea n a0 a1=some r):Sound Tryz.prog 125 [.g [.s (.int .i64 a0.frm),.s (.int .i64 a0.to),.s (.int .i64 a0.node),.s (.int .i64 a0.epoch)],.g [.s (.int .i64 a1.frm),.s (.int .i64 a1.to),.s (.int .i64 a1.node),.s (.int .i64 a1.epoch)]] [] (.l (.s (.bool r))) []:=by
 unfold Ea at h
 refine Sound.of_aw (fn:=Tryz.f125) (c:=_) Tryz.func125 rfl (by simp[Tryz.f125]) fun cx hG hnb=>?_
 rw[show Tryz.f125.ntmps=25 from rfl]
 have hn0:cx.nb=0:=hnb
 simp only[An,initTm,List.map_cons,List.map_nil]
 apply AW.step
 ·simp
  intros;rfl
 replace h:=bnE h;obtain⟨y1,g1,h⟩:=h
 refine AW.flow (p:=fun gh ls=>(nP (cx:=cx) (fun q=>(⟨[(4,.l (.s (.bool q)))],[],25,gh,ls⟩:St))) y1) ?_ ?_
 ·replace h:=g1;clear g1
  replace h:=ltE h;obtain⟨v2,e2,h⟩:=h
  replace h:=ltE h;obtain⟨v3,e3,h⟩:=h
  cases v3 with
  |true =>
   replace h:=iteT rfl h
   replace h:=ltE h;obtain⟨v4,e4,h⟩:=h
   cases v4 with
   |true =>
    replace h:=iteT rfl h
    replace h:=ltE h;obtain⟨v5,e5,h⟩:=h
    apply AW.last
    ·simp[← e2,← e3,← e4,← e5]
     intros;rfl
    obtain rfl:=oi h
    refine nP_i ?_
    refine Weak.mixN [] hn0 (by decide) ?_ ?_ rfl
    all_goals first|(simp[Ab,Ac,pickOb];done)|rfl
   |false =>
    replace h:=iteF rfl h
    apply AW.last
    ·simp[← e2,← e3,← e4]
     intros;rfl
    obtain rfl:=oi h
    refine nP_i ?_
    refine Weak.mixN [] hn0 (by decide) ?_ ?_ rfl
    all_goals first|(simp[Ab,Ac,pickOb];done)|rfl
  |false =>
   replace h:=iteF rfl h
   apply AW.last
   ·simp[← e2,← e3]
    intros;rfl
   obtain rfl:=oi h
   refine nP_i ?_
   refine Weak.mixN [] hn0 (by decide) ?_ ?_ rfl
   all_goals first|(simp[Ab,Ac,pickOb];done)|rfl
 ·rintro e s hp
  obtain⟨rfl,hw⟩:=hp
  refine⟨_,hw,?_⟩
  try simp only[nm]
  obtain rfl:=oi h
  refine AW.ret ?_
  refine Left.plain hnb (by simp[Tryz.f125,resV,resC,comp];rfl) rfl rfl ?_
  simp
theorem H9:Enters Tryz.prog 125:=enters Tryz.func125 (by kernel_rfl) rfl
def DP (n:Nat) (a0:List Claim) (a1:Claim):Option (List Claim) :=
bn (lt (lenI a0) fun v2 =>
lt (eqI a1.epoch 0) fun v3 =>
ite' v3 (some (a0)) (bn (lt (gtI v2 0) fun v5 =>
ite' v5 (lt (subI .i64 v2 1) fun v6 =>
bn (nth a0 v6) fun v7 =>
bn (Ea n v7 a1) fun v9 =>
some (v9)) (some (false))) fun (y4:Bool) =>
lt (y4) fun v10 =>
ite' v10 (lt (subI .i64 v2 1) fun v11 =>
bn (nth a0 v11) fun v12 =>
lt (a0.set v11.toNat (⟨v12.frm,a1.to,v12.node,v12.epoch⟩:Claim)) fun v14 =>
some (v14)) (chk (room (a0.length+1) 32) <|
lt (a0++[a1]) fun v18 =>
some (v18)))) fun (y1:List Claim) =>
some y1
def DY2t3:List DI:=[⟨[0],[],[(5,none)],false⟩,⟨[0],[0],[(17,some 0)],false⟩,⟨[0],[0,1],[(18,some 1)],false⟩,⟨[0],[0,1,2],[(0,none),(19,some 2)],false⟩,⟨[0],[0,1,2],[(5,none),(19,some 2)],false⟩,⟨[0],[0,1,2,4],[(19,some 2),(21,some 4)],false⟩,⟨[0],[0,1,2,3,4,5],[(19,some 2),(20,some 3),(22,some 5)],false⟩,⟨[0],[0,1,2,3,4,5,6],[(19,some 2),(23,some 6)],false⟩,⟨[0],[0,1,2],[(3,none),(19,some 2)],false⟩,⟨[],[0,1,2,3,4,5,6,7,8],[],false⟩,⟨[],[0,1,2,3,4,5,6,7,8,9],[],false⟩,⟨[],[0,1,2,3,4,5,6,7,8,9,10],[],false⟩]
theorem Ia {n:Nat} {a0:List Claim} {a1:Claim} {r:List Claim} (h:DP n a0 a1=some r):Sound Tryz.prog 106 [.l (.r 0 4 0 a0.length),.g [.s (.int .i64 a1.frm),.s (.int .i64 a1.to),.s (.int .i64 a1.node),.s (.int .i64 a1.epoch)]] [⟨81,4,true,none,lvs (encClaim a0)⟩] (.l (.r 0 4 0 r.length)) [some ⟨81,4,true,none,lvs (encClaim r)⟩]:=by
 unfold DP at h
 refine Sound.of_aw (fn:=Tryz.f106) (c:=_) Tryz.func106 rfl (by simp[Tryz.f106]) fun cx hG hnb=>?_
 rw[show Tryz.f106.ntmps=36 from rfl]
 have hn0:cx.nb=1:=hnb
 simp only[An,initTm,List.map_cons,List.map_nil]
 apply AW.step
 ·simp
  intros;rfl
 replace h:=bnE h;obtain⟨y1,g1,h⟩:=h
 refine AW.flow (p:=fun gh ls=>(nP (cx:=cx) (fun q=>(⟨[(0,.l (.r 0 4 0 q.length))],[some ⟨81,4,true,none,lvs (encClaim q)⟩],36,gh,ls⟩:St))) y1) ?_ ?_
 ·replace h:=g1;clear g1
  replace h:=ltE h;obtain⟨v2,e2,h⟩:=h
  apply AW.step
  ·simp[Aa e2]
   intros;rfl
  refine AW.block ?_
  replace h:=ltE h;obtain⟨v3,e3,h⟩:=h
  apply AW.step
  ·simp[← e3]
   intros;rfl
  cases v3 with
  |true =>
   replace h:=iteT rfl h
   refine AW.cond_true (by simp) ?_
   refine AW.skip ?_
   try simp only[nm]
   obtain rfl:=oi h
   refine nP_i ?_
   refine Weak.mixB 1 [some 0] hn0 (by decide) (by decide) ?_ ?_ ?_
   all_goals first|(simp[Ab,Ac,pickOb];done)|rfl
  |false =>
   replace h:=iteF rfl h
   refine AW.cond_false (by simp) ?_
   replace h:=bnE h;obtain⟨y4,g4,h⟩:=h
   refine AW.flow (p:=fun gh ls=>(nP (cx:=cx) (fun q=>(⟨[(0,.l (.r 0 4 0 a0.length)),(3,.l (.p 1 0)),(5,.l (.s (.int .i64 v2))),(16,.l (.s (.bool q)))],[some ⟨81,4,true,none,lvs (encClaim a0)⟩,some ⟨81,4,false,none,[.s (.int .i64 a1.frm),.s (.int .i64 a1.to),.s (.int .i64 a1.node),.s (.int .i64 a1.epoch)]⟩],36,gh,ls⟩:St))) y4) ?_ ?_
   ·replace h:=g4;clear g4
    replace h:=ltE h;obtain⟨v5,e5,h⟩:=h
    cases v5 with
    |true =>
     replace h:=iteT rfl h
     replace h:=ltE h;obtain⟨v6,e6,h⟩:=h
     replace h:=bnE h;obtain⟨v7,e7,h⟩:=h
     have f8:=A0 e7
     try simp[← e5,← e6,Ad e7] at f8
     replace h:=bnE h;obtain⟨v9,e9,h⟩:=h
     apply AW.drawnR (V:=[_,_,_,_,_,_,_,_,_]) mixed DY2t3 9 (by kernel_rfl) (by kernel_rfl)
     ·refine⟨?_,?_,?_,?_,?_,?_,?_,?_,?_,trivial⟩
      iterate 9 (· intro tm hr;simp[AllL,rdV] at hr;simp[hr,← e5,← e6,Ad e7,f8,DE (Ad e7).2 (k:=4) (by decide),C4 (Ad e7).2 (show 4≤4 by decide),lvs1];intros;first|exact KD.mk|exact KD.mkN)
     ·rfl
     ·simp[tmD,putD,← e5,← e6,Ad e7,f8,DE (Ad e7).2 (k:=4) (by decide),C4 (Ad e7).2 (show 4≤4 by decide),lvs1];rfl
     ·simp[← e5,← e6,Ad e7,f8,DE (Ad e7).2 (k:=4) (by decide),C4 (Ad e7).2 (show 4≤4 by decide),lvs1]
      intros
      refine Ae H9 (II e9) rfl ⟨.same rfl,.same rfl,trivial⟩ ?_
      try simp[← e5,← e6,Ad e7,f8,DE (Ad e7).2 (k:=4) (by decide),C4 (Ad e7).2 (show 4≤4 by decide),lvs1]
      intros;rfl
     obtain rfl:=oi h
     refine nP_i ?_
     refine Weak.mixB 1 [some 0,some 1] hn0 (by decide) (by decide) ?_ ?_ ?_
     all_goals first|(simp[Ab,Ac,pickOb];done)|rfl
    |false =>
     replace h:=iteF rfl h
     apply AW.drawnR (V:=[_,_,_,_,_,_,_,_,_]) mixed DY2t3 9 (by kernel_rfl) (by kernel_rfl)
     ·refine⟨?_,?_,?_,?_,?_,?_,?_,?_,?_,trivial⟩
      iterate 9 (· intro tm hr;simp[AllL,rdV] at hr;simp[hr,← e5];intros;first|exact KD.mk|exact KD.mkN)
     ·rfl
     ·simp[tmD,putD,← e5];rfl
     ·simp[← e5]
      intros;rfl
     obtain rfl:=oi h
     refine nP_i ?_
     refine Weak.mixB 1 [some 0,some 1] hn0 (by decide) (by decide) ?_ ?_ ?_
     all_goals first|(simp[Ab,Ac,pickOb];done)|rfl
   ·rintro e s hp
    obtain⟨rfl,hw⟩:=hp
    refine⟨_,hw,?_⟩
    try simp only[nm]
    replace h:=ltE h;obtain⟨v10,e10,h⟩:=h
    rw[← e10]
    cases v10 with
    |true =>
     replace h:=iteT rfl h
     refine AW.cond_true (by simp) ?_
     replace h:=ltE h;obtain⟨v11,e11,h⟩:=h
     replace h:=bnE h;obtain⟨v12,e12,h⟩:=h
     have f13:=A0 e12
     try simp[← e11,Ad e12] at f13
     replace h:=ltE h;obtain⟨v14,e14,h⟩:=h
     have f15:=J8 (Ad e12).2 e14 (j:=1) (cs:=[.s (.int .i64 a1.to)]) (by simp) rfl
     try simp at f15
     have f16:=f13
     try simp only[AC e14] at f16
     apply AW.last
     ·simp[← e11,Ad e12,f13,Jl (Ad e12).2 (j:=1) (m:=1) (by decide),f15,f16]
      intros;rfl
     obtain rfl:=oi h
     refine nP_i ?_
     refine Weak.mixB 1 [some 0] hn0 (by decide) (by decide) ?_ ?_ ?_
     all_goals first|(simp[Ab,Ac,pickOb,AC e14];done)|rfl
    |false =>
     replace h:=iteF rfl h
     refine AW.cond_false (by simp) ?_
     replace h:=chkE h;obtain⟨e17,h⟩:=h
     replace h:=ltE h;obtain⟨v18,e18,h⟩:=h
     apply AW.last
     ·simp[St.grow,obsBut,← AP,← e18,Ao e18]
      intros
      refine Av ?_
      try simp[St.grow,obsBut,← AP,← e18,Ao e18]
      intros
      refine Fp (acc:=encClaim a0) (ys:=encClaim [a1]) (cap:=none) (k:=1) G2 G1 (by simp) (by simp[encClaim,lvs]) (BQ _) (by simp) (by simp) (by first|(simp;done)|simpa using (Ah e17).1) ?_
      try simp[St.grow,obsBut,← AP,← e18,Ao e18]
      intros;rfl
     obtain rfl:=oi h
     refine nP_i ?_
     refine Weak.mixB 1 [some 0] hn0 (by decide) (by decide) ?_ ?_ ?_
     all_goals first|(simp[Ab,Ac,pickOb,DD];done)|rfl
 ·rintro e s hp
  obtain⟨rfl,hw⟩:=hp
  refine⟨_,hw,?_⟩
  try simp only[nm]
  apply AW.step
  ·simp
   intros;rfl
  obtain rfl:=oi h
  refine AW.ret ?_
  refine Left.of (av:=_) (by simp[Tryz.f106,resV,resC,comp];rfl) ?_
  exact LeftV.mix 1 [some 0] hn0 rfl (by decide) rfl (by simp[pickOb,Ab,Ac]) (by simp[Ab,Ac])
theorem HE:Enters Tryz.prog 106:=enters Tryz.func106 (by kernel_rfl) rfl
def Cq (n:Nat) (a0:List Claim) (a1:List Span) (a2:Int) (a3:Int):Option (List Claim) :=
bn (EP n a1) fun v1 =>
lt (lenI v1) fun v2 =>
bn (iter n (fun (y3:Int×List Claim) =>
lt (ltI y3.1 v2) fun v6 =>
ite' v6 (bn (nth v1 y3.1) fun v7 =>
chk (room (y3.2.length+1) 32) <|
lt (y3.2++[(⟨v7.frm,v7.to,a2,a3⟩:Claim)]) fun v9 =>
lt (addI .i64 y3.1 1) fun v10 =>
some (.inl (v10,v9))) (some (.inr y3.2))) (0,[])) fun (y4:List Claim) =>
bn (chk (room y4.length 1) <|
bn (DO n a0 y4) fun v13 =>
bn (iter n (fun (y14:Int×List Claim×List Claim×ClaimsPiece×List Claim) =>
lt (leI y14.1 16383) fun v17 =>
ite' v17 (bn (Dh n y14.2.1 y14.1) fun v18 =>
bn (Dh n y14.2.2.1 y14.1) fun v19 =>
lt (minI v18.1.to v19.1.to) fun v20 =>
bn (lt (gtI v19.1.epoch 0) fun v22 =>
ite' v22 (some ((⟨(⟨v19.1.frm,v20,v19.1.node,v19.1.epoch⟩:Claim),(⟨v19.1.frm,v20,v19.1.node,v19.1.epoch⟩:Claim)⟩:ClaimsPiece))) (some ((⟨(⟨v18.1.frm,v20,v18.1.node,v18.1.epoch⟩:Claim),(⟨v19.1.frm,v20,v19.1.node,v19.1.epoch⟩:Claim)⟩:ClaimsPiece)))) fun (y21:ClaimsPiece) =>
bn (DP n y14.2.2.2.2 y21.a) fun v23 =>
lt (addI .i64 v20 1) fun v24 =>
some (.inl (v24,v18.2,v19.2,(⟨(⟨v18.1.frm,v20,v18.1.node,v18.1.epoch⟩:Claim),(⟨v19.1.frm,v20,v19.1.node,v19.1.epoch⟩:Claim)⟩:ClaimsPiece),v23))) (some (.inr (y14.2.1,y14.2.2.1,y14.2.2.2.2)))) (0,v13.1,v13.2,(⟨(⟨0,0,0,0⟩:Claim),(⟨0,0,0,0⟩:Claim)⟩:ClaimsPiece),[])) fun (y15:List Claim×List Claim×List Claim) =>
some (y15.2.2)) fun (y11:List Claim) =>
chk (room y11.length 1) <|
some y11
theorem JB {n:Nat} {a0:List Claim} {a1:List Span} {a2:Int} {a3:Int} {r:List Claim} (h:Cq n a0 a1 a2 a3=some r):Sound Tryz.prog 79 [.l (.d false 4 (encClaim a0)),.l (.d true 2 (encSpan a1)),.l (.s (.int .i64 a2)),.l (.s (.int .i64 a3))] [] (.l (.d false 4 (encClaim r))) []:=by
 unfold Cq at h
 refine Sound.of_aw (fn:=Tryz.f79) (c:=_) Tryz.func79 rfl (by simp[Tryz.f79]) fun cx hG hnb=>?_
 rw[show Tryz.f79.ntmps=48 from rfl]
 have hn0:cx.nb=0:=hnb
 simp only[An,initTm,List.map_cons,List.map_nil]
 apply AW.step
 ·simp
  intros;rfl
 apply AW.step
 ·simp
  intros;rfl
 refine AW.seq ?_
 replace h:=bnE h;obtain⟨v1,e1,h⟩:=h
 replace h:=ltE h;obtain⟨v2,e2,h⟩:=h
 apply AW.step
 ·simp[Aa e2]
  intros
  refine Ae JA (Kt e1) rfl ⟨.d _ _ _,trivial⟩ ?_
  try simp[Aa e2]
  intros;rfl
 refine AW.block ?_
 replace h:=bnE h;obtain⟨y4,g4,h⟩:=h
 refine AW.iterP g4 (mk:=fun gh ls q=>(⟨[(0,.l (.d false 4 (encClaim a0))),(2,.l (.s (.int .i64 a2))),(3,.l (.s (.int .i64 a3))),(9,.l (.r 0 4 0 q.2.length)),(10,.l (.p 1 0)),(15,.l (.d false 2 (encSpan v1))),(16,.l (.s (.int .i64 v2))),(17,.l (.s (.int .i64 q.1)))],[some ⟨81,4,true,none,lvs (encClaim q.2)⟩,some ⟨24,1,false,none,[.s (.slice none 0 0)]⟩],48,gh,ls⟩:St)) (N:=fun gh ls=>(xP 0 (cx:=cx) (fun q=>(⟨[(0,.l (.d false 4 (encClaim a0))),(9,.l (.r 0 4 0 q.length)),(10,.l (.p 1 0))],[some ⟨81,4,true,none,lvs (encClaim q)⟩,some ⟨24,1,false,none,[.s (.slice none 0 0)]⟩],48,gh,ls⟩:St)))) ?_ noX ?_ ?_
 ·refine W.nilRow 9 81 4 1 (by simp) rfl rfl ?_
  refine Weak.mixN [some 1,some 0] hn0 (by decide) ?_ ?_ rfl
  all_goals first|(simp[Ab,Ac,pickOb];done)|rfl
 ·clear h;intro y3 y5 h
  replace h:=ltE h;obtain⟨v6,e6,h⟩:=h
  apply AW.step
  ·simp[← e6]
   intros;rfl
  refine AW.seq ?_
  cases v6 with
  |true =>
   replace h:=iteT rfl h
   refine AW.cond_true (by simp) ?_
   refine AW.skip ?_
   try simp only[nm]
   refine AW.seq ?_
   refine AW.block ?_
   replace h:=bnE h;obtain⟨v7,e7,h⟩:=h
   apply AW.step
   ·simp[Ad e7]
    intros;rfl
   replace h:=chkE h;obtain⟨e8,h⟩:=h
   replace h:=ltE h;obtain⟨v9,e9,h⟩:=h
   apply AW.last
   ·simp[← AP,← e9,Ao e9]
    intros
    refine Av ?_
    try simp[← AP,← e9,Ao e9]
    intros
    refine AJ (acc:=encClaim y3.2) (ys:=encClaim [(⟨v7.frm,v7.to,a2,a3⟩:Claim)]) (cap:=none) (k:=1) G2 G1 (by simp) (by simp[encClaim,lvs]) (BQ _) (by simp) (by simp) (by first|(simp;done)|simpa using (Ah e8).1) ?_
    try simp[← AP,← e9,Ao e9]
    intros;rfl
   try simp only[nm]
   replace h:=ltE h;obtain⟨v10,e10,h⟩:=h
   apply AW.last
   ·simp[← e10]
    intros;rfl
   obtain rfl:=oi h
   refine nP_i ?_
   refine Weak.mixN [some 4,some 1] hn0 (by decide) ?_ ?_ rfl
   all_goals first|(simp[Ab,Ac,pickOb,DD];done)|rfl
  |false =>
   replace h:=iteF rfl h
   refine AW.cond_false (by simp) ?_
   refine AW.exit ?_
   try simp only[nm]
   obtain rfl:=oi h
   refine xP_i ?_
   refine Weak.mixN [some 0,some 1] hn0 (by decide) ?_ ?_ rfl
   all_goals first|(simp[Ab,Ac,pickOb];done)|rfl
 ·rintro e s hp
  obtain⟨rfl,hw⟩:=hp
  refine⟨_,hw,?_⟩
  try simp only[nm]
  replace h:=bnE h;obtain⟨y11,g11,h⟩:=h
  refine AW.flow (p:=fun gh ls=>(nP (cx:=cx) (fun q=>(⟨[(10,.l (.p 0 0))],[some ⟨24,1,false,none,[.r 1 4 0 q.length]⟩,some ⟨81,4,true,none,lvs (encClaim q)⟩],48,gh,ls⟩:St))) y11) ?_ ?_
  ·replace h:=g11;clear g11
   replace h:=chkE h;obtain⟨e12,h⟩:=h
   refine AW.frzRow 0 (ty:=81) (cap:=none) (sz:=4) (es:=encClaim y4) (by simp) (by omega) (BQ _) (by first|exact (Ah e12).2|simpa using (Ah e12).2|simp) (by simp[Tm.frz,AV.frz,LV.frz];rfl) (by simp[Ob.frz,LV.frz];rfl) rfl ?_
   replace h:=bnE h;obtain⟨v13,e13,h⟩:=h
   apply AW.step
   ·simp
    intros
    refine AF HD (H8 e13) rfl (by simp) ⟨.same rfl,.same rfl,trivial⟩ ?_
    try simp
    intros;rfl
   refine AW.block ?_
   refine AW.weak (Weak.keep [(10,.l (.p 1 0)),(34,.l (.f 123 [2,3]))] (by simp)) ?_
   refine AW.rangeG rfl Tryz.func123 (by kernel_rfl) rfl (by decide) rfl rfl fun cxI1 yl1 hnI1 hY1=>?_
   have hnJ1:cxI1.nb=0:=hnI1.trans hn0
   simp only[initTm,List.map_cons,List.map_nil]
   apply AW.step
   ·simp
    intros;rfl
   apply AW.step
   ·simp
    intros;rfl
   refine AW.block ?_
   replace h:=bnE h;obtain⟨y15,g15,h⟩:=h
   refine AW.iterP g15 (mk:=fun gh ls q=>(⟨[(0,.l (.s (.func (.yield yl1) #[] #[]))),(1,.l (.p 2 0)),(2,.l (.p 3 0)),(4,.l (.p 4 0)),(5,.l (.s (.int .i64 q.1)))],[none,some ⟨24,1,false,none,[.r 5 4 0 q.2.2.2.2.length]⟩,some ⟨24,1,false,none,[.d false 4 (encClaim q.2.1)]⟩,some ⟨24,1,false,none,[.d false 4 (encClaim q.2.2.1)]⟩,some ⟨173,8,false,none,[.s (.int .i64 q.2.2.2.1.a.frm),.s (.int .i64 q.2.2.2.1.a.to),.s (.int .i64 q.2.2.2.1.a.node),.s (.int .i64 q.2.2.2.1.a.epoch),.s (.int .i64 q.2.2.2.1.b.frm),.s (.int .i64 q.2.2.2.1.b.to),.s (.int .i64 q.2.2.2.1.b.node),.s (.int .i64 q.2.2.2.1.b.epoch)]⟩,some ⟨81,4,true,none,lvs (encClaim q.2.2.2.2)⟩],44,gh,ls⟩:St)) (N:=fun gh ls=>(xP 0 (cx:=cxI1) (fun q=>(⟨[],[none,some ⟨24,1,false,none,[.r 4 4 0 q.2.2.length]⟩,some ⟨24,1,false,none,[.d false 4 (encClaim q.1)]⟩,some ⟨24,1,false,none,[.d false 4 (encClaim q.2.1)]⟩,some ⟨81,4,true,none,lvs (encClaim q.2.2)⟩],44,gh,ls⟩:St)))) ?_ noX ?_ ?_
   ·refine W.nilCell 1 0 81 4 5 rfl rfl rfl rfl rfl ?_
    refine Weak.mixB 0 [some 0,some 1,some 2,some 3,some 4,some 5] hnJ1 (by decide) (by decide) ?_ ?_ ?_
    all_goals first|(simp[Ab,Ac,pickOb];done)|rfl
   ·clear h;intro y14 y16 h
    refine AW.seq ?_
    replace h:=ltE h;obtain⟨v17,e17,h⟩:=h
    apply AW.step
    ·simp[← e17]
     intros;rfl
    cases v17 with
    |true =>
     replace h:=iteT rfl h
     refine AW.cond_true (by simp) ?_
     refine AW.skip ?_
     try simp only[nm]
     refine AW.seq ?_
     refine AW.block ?_
     replace h:=bnE h;obtain⟨v18,e18,h⟩:=h
     apply AW.step
     ·simp
      intros
      refine Ae FX (Gk e18) rfl ⟨.same rfl,.same rfl,trivial⟩ ?_
      try simp
      intros;rfl
     replace h:=bnE h;obtain⟨v19,e19,h⟩:=h
     apply AW.step
     ·simp
      intros
      refine Ae FX (Gk e19) rfl ⟨.same rfl,.same rfl,trivial⟩ ?_
      try simp
      intros;rfl
     replace h:=ltE h;obtain⟨v20,e20,h⟩:=h
     apply AW.step
     ·simp[← e20]
      intros;rfl
     apply AW.step
     ·simp
      intros;rfl
     refine AW.stepYK ?_
     apply xopsY.yield hY1 0 2 rfl rfl rfl (by decide)
     ·simp
      intros;rfl
     ·rfl
     ·first|trivial|simp
     ·rfl
     ·rfl
     ·simp[puts];rfl
     intro cxR1 hnR1
     have hnS1:cxR1.nb=0:=hnR1.trans hnJ1
     apply AW.last
     ·simp
      intros;rfl
     refine⟨rfl,?_⟩
     refine AW.block ?_
     replace h:=bnE h;obtain⟨y21,g21,h⟩:=h
     refine AW.flow (p:=fun gh ls=>(nP (cx:=cxR1) (fun q=>(⟨[(10,.l (.p 1 0)),(13,.l (.p 6 0))],[none,some ⟨24,1,false,none,[.r 5 4 0 y14.2.2.2.2.length]⟩,some ⟨24,1,false,none,[.d false 4 (encClaim v18.2)]⟩,some ⟨24,1,false,none,[.d false 4 (encClaim v19.2)]⟩,some ⟨173,8,false,none,[.s (.int .i64 v18.1.frm),.s (.int .i64 v20),.s (.int .i64 v18.1.node),.s (.int .i64 v18.1.epoch),.s (.int .i64 v19.1.frm),.s (.int .i64 v20),.s (.int .i64 v19.1.node),.s (.int .i64 v19.1.epoch)]⟩,some ⟨81,4,true,none,lvs (encClaim y14.2.2.2.2)⟩,some ⟨173,8,false,none,[.s (.int .i64 q.a.frm),.s (.int .i64 q.a.to),.s (.int .i64 q.a.node),.s (.int .i64 q.a.epoch),.s (.int .i64 q.b.frm),.s (.int .i64 q.b.to),.s (.int .i64 q.b.node),.s (.int .i64 q.b.epoch)]⟩],48,gh,ls⟩:St))) y21) ?_ ?_
     ·replace h:=g21;clear g21
      replace h:=ltE h;obtain⟨v22,e22,h⟩:=h
      apply AW.step
      ·simp[← e22]
       intros;rfl
      cases v22 with
      |true =>
       replace h:=iteT rfl h
       refine AW.cond_true (by simp) ?_
       apply AW.last
       ·simp
        intros;rfl
       obtain rfl:=oi h
       refine nP_i ?_
       refine Weak.mixB 0 [some 0,some 1,some 2,some 3,some 4,some 5,some 6] hnS1 (by decide) (by decide) ?_ ?_ ?_
       all_goals first|(simp[Ab,Ac,pickOb];done)|rfl
      |false =>
       replace h:=iteF rfl h
       refine AW.cond_false (by simp) ?_
       refine AW.skip ?_
       try simp only[nm]
       obtain rfl:=oi h
       refine nP_i ?_
       refine Weak.mixB 0 [some 0,some 1,some 2,some 3,some 4,some 5,some 6] hnS1 (by decide) (by decide) ?_ ?_ ?_
       all_goals first|(simp[Ab,Ac,pickOb];done)|rfl
     ·rintro e s hp
      obtain⟨rfl,hw⟩:=hp
      refine⟨_,hw,?_⟩
      try simp only[nm]
      replace h:=bnE h;obtain⟨v23,e23,h⟩:=h
      apply AW.last
      ·simp[obAfter,outR,keptR,Ab,Ac]
       intros
       refine Ca [5] HE (Ia e23) (by decide) (by simp[pickOb,Ab,Ac]) rfl rfl (by simp) ⟨.l (.own' (by simp[Ab,Ac]) (by simp)),.g ⟨.s _,.s _,.s _,.s _,trivial⟩,trivial⟩ ?_
       try simp[obAfter,outR,keptR,Ab,Ac]
       intros;rfl
      refine⟨_,_,rfl,?_⟩
      refine Bl _ _ _ rfl ?_
      simp[puts]
      try intros
      unfold KK
      refine AW.cond_false (by simp) ?_
      refine AW.skip ?_
      try simp only[nm]
      replace h:=ltE h;obtain⟨v24,e24,h⟩:=h
      apply AW.last
      ·simp[← e24]
       intros;rfl
      obtain rfl:=oi h
      refine nP_i ?_
      refine Weak.mixB 0 [some 0,some 1,some 2,some 3,some 4,some 5] hnJ1 (by decide) (by decide) ?_ ?_ ?_
      all_goals first|(simp[Ab,Ac,pickOb];done)|rfl
    |false =>
     replace h:=iteF rfl h
     refine AW.cond_false (by simp) ?_
     refine AW.exit ?_
     try simp only[nm]
     obtain rfl:=oi h
     refine xP_i ?_
     refine Weak.mixB 0 [some 0,some 1,some 2,some 3,some 5] hnJ1 (by decide) (by decide) ?_ ?_ ?_
     all_goals first|(simp[Ab,Ac,pickOb];done)|rfl
   ·rintro e s hp
    obtain⟨rfl,hw⟩:=hp
    refine⟨_,hw,?_⟩
    try simp only[nm]
    refine⟨_,_,rfl,?_⟩
    try simp only[]
    try simp only[nm]
    obtain rfl:=oi h
    refine nP_i ?_
    refine Weak.mixN [some 1,some 4] hn0 (by decide) ?_ ?_ rfl
    all_goals first|(simp[Ab,Ac,pickOb];done)|rfl
  ·rintro e s hp
   obtain⟨rfl,hw⟩:=hp
   refine⟨_,hw,?_⟩
   try simp only[nm]
   apply AW.step
   ·simp
    intros;rfl
   replace h:=chkE h;obtain⟨e25,h⟩:=h
   refine AW.frzRow 1 (ty:=81) (cap:=none) (sz:=4) (es:=encClaim y11) (by simp) (by omega) (BQ _) (by first|exact (Ah e25).2|simpa using (Ah e25).2|simp) (by simp[Tm.frz,AV.frz,LV.frz];rfl) (by simp[Ob.frz,LV.frz];rfl) rfl ?_
   obtain rfl:=oi h
   refine AW.ret ?_
   refine Left.plain hnb (by simp[Tryz.f79,resV,resC,comp];rfl) rfl rfl ?_
   simp
theorem IJ:Enters Tryz.prog 79:=enters Tryz.func79 (by kernel_rfl) rfl
def DR (n:Nat) (a0:Node) (a1:Move):Option Node :=
lt (addI .i64 a0.epoch 1) fun v1 =>
chk (room 1 1) <|
bn (Cq n a0.claims [(⟨a1.slot,a1.slot⟩:Span)] a1.to v1) fun v3 =>
some (⟨a0.count,a0.id,a0.master,v1,a0.voted,v3,a0.db,a0.moves,a0.last,a0.seen,a0.feed,a0.watch,a0.asked,a0.votes,a0.wait⟩:Node)
theorem Ib {n:Nat} {a0:Node} {a1:Move} {r:Node} (h:DR n a0 a1=some r):Sound Tryz.prog 39 [.g [.s (.int .i64 a0.count),.s (.int .i64 a0.id),.s (.int .i64 a0.master),.s (.int .i64 a0.epoch),.s (.int .i64 a0.voted),.d false 4 (encClaim a0.claims),.d false 6 (encPair a0.db),.d false 4 (encMove a0.moves),.s (.int .i64 a0.last),.d false 3 (encSeen a0.seen),.s (.int .i64 a0.feed.rid.node),.s (.int .i64 a0.feed.rid.epoch),.s (.int .i64 a0.feed.off),.d false 7 (encEffect a0.feed.back),.s (.int .i64 a0.feed.prev.node),.s (.int .i64 a0.feed.prev.epoch),.s (.int .i64 a0.feed.upto),.d false 1 (encI a0.watch.heard),.d false 1 (encLI a0.watch.says),.s (.int .i64 a0.asked),.d false 1 (encI a0.votes),.s (.int .i64 a0.wait)],.g [.s (.int .i64 a1.slot),.s (.int .i64 a1.to),.s (.int .i64 a1.num),.s (.string a1.key)]] [] (.g [.s (.int .i64 r.count),.s (.int .i64 r.id),.s (.int .i64 r.master),.s (.int .i64 r.epoch),.s (.int .i64 r.voted),.d false 4 (encClaim r.claims),.d false 6 (encPair r.db),.d false 4 (encMove r.moves),.s (.int .i64 r.last),.d false 3 (encSeen r.seen),.s (.int .i64 r.feed.rid.node),.s (.int .i64 r.feed.rid.epoch),.s (.int .i64 r.feed.off),.d false 7 (encEffect r.feed.back),.s (.int .i64 r.feed.prev.node),.s (.int .i64 r.feed.prev.epoch),.s (.int .i64 r.feed.upto),.d false 1 (encI r.watch.heard),.d false 1 (encLI r.watch.says),.s (.int .i64 r.asked),.d false 1 (encI r.votes),.s (.int .i64 r.wait)]) []:=by
 unfold DR at h
 refine Sound.of_aw (fn:=Tryz.f39) (c:=_) Tryz.func39 rfl (by simp[Tryz.f39]) fun cx hG hnb=>?_
 rw[show Tryz.f39.ntmps=24 from rfl]
 have hn0:cx.nb=0:=hnb
 simp only[An,initTm,List.map_cons,List.map_nil]
 apply AW.step
 ·simp
  intros;rfl
 replace h:=ltE h;obtain⟨v1,e1,h⟩:=h
 apply AW.step
 ·simp[← e1]
  intros;rfl
 replace h:=chkE h;obtain⟨e2,h⟩:=h
 replace h:=bnE h;obtain⟨v3,e3,h⟩:=h
 apply AW.step
 ·simp
  intros
  refine Av ?_
  try simp
  intros
  refine Ae IJ (JB e3) rfl ⟨.same rfl,.rowd (by simp[E7]) rfl (by omega) (D5 _) (by simp) (by first|exact (Ah e2).2|simpa using (Ah e2).2|simp),.same rfl,.same rfl,trivial⟩ ?_
  try simp
  intros;rfl
 apply AW.step
 ·simp
  intros;rfl
 obtain rfl:=oi h
 refine AW.ret ?_
 refine Left.plain hnb (by simp[Tryz.f39,resV,resC,comp];rfl) rfl rfl ?_
 simp
theorem HF:Enters Tryz.prog 39:=enters Tryz.func39 (by kernel_rfl) rfl
def FI (n:Nat) (a0:Node) (a1:Move):Option Msg :=
bn (Fa n a0.db a1.key) fun v1 =>
chk (room 1 1) <|
some (⟨2,a0.id,a1.to,0,[],[],0,a1.slot,a1.num,(⟨0,0⟩:Rid),(⟨0,0⟩:Rid),0,[(⟨a1.key,false,v1.1⟩:Effect)]⟩:Msg)
theorem Mn {n:Nat} {a0:Node} {a1:Move} {r:Msg} (h:FI n a0 a1=some r):Sound Tryz.prog 40 [.g [.s (.int .i64 a0.count),.s (.int .i64 a0.id),.s (.int .i64 a0.master),.s (.int .i64 a0.epoch),.s (.int .i64 a0.voted),.d false 4 (encClaim a0.claims),.d false 6 (encPair a0.db),.d false 4 (encMove a0.moves),.s (.int .i64 a0.last),.d false 3 (encSeen a0.seen),.s (.int .i64 a0.feed.rid.node),.s (.int .i64 a0.feed.rid.epoch),.s (.int .i64 a0.feed.off),.d false 7 (encEffect a0.feed.back),.s (.int .i64 a0.feed.prev.node),.s (.int .i64 a0.feed.prev.epoch),.s (.int .i64 a0.feed.upto),.d false 1 (encI a0.watch.heard),.d false 1 (encLI a0.watch.says),.s (.int .i64 a0.asked),.d false 1 (encI a0.votes),.s (.int .i64 a0.wait)],.g [.s (.int .i64 a1.slot),.s (.int .i64 a1.to),.s (.int .i64 a1.num),.s (.string a1.key)]] [] (.g [.s (.int .i64 r.kind),.s (.int .i64 r.frm),.s (.int .i64 r.to),.s (.int .i64 r.epoch),.d false 4 (encClaim r.claims),.d false 1 (encI r.nodes),.s (.int .i64 r.node),.s (.int .i64 r.slot),.s (.int .i64 r.num),.s (.int .i64 r.rid.node),.s (.int .i64 r.rid.epoch),.s (.int .i64 r.prev.node),.s (.int .i64 r.prev.epoch),.s (.int .i64 r.off),.d false 7 (encEffect r.effects)]) []:=by
 unfold FI at h
 refine Sound.of_aw (fn:=Tryz.f40) (c:=_) Tryz.func40 rfl (by simp[Tryz.f40]) fun cx hG hnb=>?_
 rw[show Tryz.f40.ntmps=29 from rfl]
 have hn0:cx.nb=0:=hnb
 simp only[An,initTm,List.map_cons,List.map_nil]
 apply AW.step
 ·simp
  intros;rfl
 replace h:=bnE h;obtain⟨v1,e1,h⟩:=h
 apply AW.step
 ·simp
  intros
  refine Ae Kj (K2 e1) rfl ⟨.same rfl,.same rfl,trivial⟩ ?_
  try simp
  intros;rfl
 apply AW.step
 ·simp
  intros
  refine Av ?_
  try simp
  intros;rfl
 refine AW.nilCellD 2 4 4 rfl rfl rfl rfl ?_
 refine AW.nilCellD 2 5 1 rfl rfl rfl rfl ?_
 replace h:=chkE h;obtain⟨e2,h⟩:=h
 refine AW.frzRow 4 (ty:=59) (cap:=none) (sz:=7) (es:=encEffect [(⟨a1.key,false,v1.1⟩:Effect)]) (by simp[Ep]) (by omega) (BC _) (by first|exact (Ah e2).2|simpa using (Ah e2).2|simp) (by simp[Tm.frz,AV.frz,LV.frz,(show List.take 1 (encEffect [(⟨a1.key,false,v1.1⟩:Effect)])=encEffect [(⟨a1.key,false,v1.1⟩:Effect)] from rfl)];rfl) (by simp[Ob.frz,LV.frz,(show List.take 1 (encEffect [(⟨a1.key,false,v1.1⟩:Effect)])=encEffect [(⟨a1.key,false,v1.1⟩:Effect)] from rfl)];rfl) rfl ?_
 obtain rfl:=oi h
 refine AW.ret ?_
 refine Left.plain hnb (by simp[Tryz.f40,resV,resC,comp];rfl) rfl rfl ?_
 simp
theorem Lb:Enters Tryz.prog 40:=enters Tryz.func40 (by kernel_rfl) rfl
def Ff (n:Nat) (a0:Node):Option (Node×List Msg) :=
bn (A9 n a0) fun v1 =>
lt (neI v1.master (-1)) fun v2 =>
ite' v2 (chk (room v1.moves.length 1) <|
chk (room v1.seen.length 1) <|
some (v1,[])) (bn (chk (room v1.moves.length 1) <|
bn (EL n v1.moves) fun v7 =>
lt (lenI v7) fun v8 =>
chk (room v1.seen.length 1) <|
bn (iter n (fun (y9:Int×Node×List Move×List Msg) =>
lt (ltI y9.1 v8) fun v13 =>
ite' v13 (bn (nth v7 y9.1) fun v14 =>
bn (bn (lt (eqI v14.num 0) fun v17 =>
ite' v17 (bn (FG n y9.2.1.db v14.slot) fun v18 =>
lt (lenI v18) fun v19 =>
lt (eqI v19 0) fun v20 =>
ite' v20 (bn (DR n y9.2.1 v14) fun v21 =>
some (.inr v21)) (lt (addI .i64 y9.2.1.last 1) fun v22 =>
bn (nth v18 0) fun v23 =>
some (.inl ((⟨y9.2.1.count,y9.2.1.id,y9.2.1.master,y9.2.1.epoch,y9.2.1.voted,y9.2.1.claims,y9.2.1.db,y9.2.1.moves,v22,y9.2.1.seen,y9.2.1.feed,y9.2.1.watch,y9.2.1.asked,y9.2.1.votes,y9.2.1.wait⟩:Node),(⟨v14.slot,v14.to,v22,v23⟩:Move))))) (some (.inl (y9.2.1,v14)))) fun (y16:(Node×Move) ⊕ Node) =>
sm y16 (fun y24=>chk (room (y9.2.2.1.length+1) 40) <|
lt (y9.2.2.1++[y24.2]) fun v27 =>
bn (FI n y24.1 y24.2) fun v28 =>
chk (room (y9.2.2.2.length+1) 168) <|
lt (y9.2.2.2++[v28]) fun v30 =>
some ((y24.1,v27,v30))) (fun y25=>some ((y25,y9.2.2.1,y9.2.2.2)))) fun (y15:Node×List Move×List Msg) =>
lt (addI .i64 y9.1 1) fun v31 =>
some (.inl (v31,y15.1,y15.2.1,y15.2.2))) (some (.inr (y9.2.1,y9.2.2.1,y9.2.2.2)))) (0,v1,[],[])) fun (y10:Node×List Move×List Msg) =>
some ((y10.1,y10.2.1,y10.2.2))) fun (y5:Node×List Move×List Msg) =>
chk (room y5.2.1.length 1) <|
chk (room y5.2.2.length 1) <|
some ((⟨y5.1.count,y5.1.id,y5.1.master,y5.1.epoch,y5.1.voted,y5.1.claims,y5.1.db,y5.2.1,y5.1.last,y5.1.seen,y5.1.feed,y5.1.watch,y5.1.asked,y5.1.votes,y5.1.wait⟩:Node),y5.2.2))
theorem Lc {n:Nat} {a0:Node} {r:Node×List Msg} (h:Ff n a0=some r):Sound Tryz.prog 12 [.g [.s (.int .i64 a0.count),.s (.int .i64 a0.id),.s (.int .i64 a0.master),.s (.int .i64 a0.epoch),.s (.int .i64 a0.voted),.d false 4 (encClaim a0.claims),.d false 6 (encPair a0.db),.d false 4 (encMove a0.moves),.s (.int .i64 a0.last),.d false 3 (encSeen a0.seen),.s (.int .i64 a0.feed.rid.node),.s (.int .i64 a0.feed.rid.epoch),.s (.int .i64 a0.feed.off),.d false 7 (encEffect a0.feed.back),.s (.int .i64 a0.feed.prev.node),.s (.int .i64 a0.feed.prev.epoch),.s (.int .i64 a0.feed.upto),.d false 1 (encI a0.watch.heard),.d false 1 (encLI a0.watch.says),.s (.int .i64 a0.asked),.d false 1 (encI a0.votes),.s (.int .i64 a0.wait)]] [] (.t [(true,[.s (.int .i64 r.1.count),.s (.int .i64 r.1.id),.s (.int .i64 r.1.master),.s (.int .i64 r.1.epoch),.s (.int .i64 r.1.voted),.d false 4 (encClaim r.1.claims),.d false 6 (encPair r.1.db),.d false 4 (encMove r.1.moves),.s (.int .i64 r.1.last),.d false 3 (encSeen r.1.seen),.s (.int .i64 r.1.feed.rid.node),.s (.int .i64 r.1.feed.rid.epoch),.s (.int .i64 r.1.feed.off),.d false 7 (encEffect r.1.feed.back),.s (.int .i64 r.1.feed.prev.node),.s (.int .i64 r.1.feed.prev.epoch),.s (.int .i64 r.1.feed.upto),.d false 1 (encI r.1.watch.heard),.d false 1 (encLI r.1.watch.says),.s (.int .i64 r.1.asked),.d false 1 (encI r.1.votes),.s (.int .i64 r.1.wait)]),(false,[.d false 15 (encMsg r.2)])]) []:=by
 unfold Ff at h
 refine Sound.of_aw (fn:=Tryz.f12) (c:=_) Tryz.func12 rfl (by simp[Tryz.f12]) fun cx hG hnb=>?_
 rw[show Tryz.f12.ntmps=57 from rfl]
 have hn0:cx.nb=0:=hnb
 simp only[An,initTm,List.map_cons,List.map_nil]
 apply AW.step
 ·simp
  intros;rfl
 refine AW.scope ?_ ?_
 ·first|exact fun l s h=>h|(intro l s h;simpa [nP,sp,xP,rP] using h)
 replace h:=bnE h;obtain⟨v1,e1,h⟩:=h
 apply AW.step
 ·simp[outR]
  intros
  refine AF Dm (DM e1) rfl (by simp) ⟨.same rfl,trivial⟩ ?_
  try simp[outR]
  intros;rfl
 refine AW.seq ?_
 replace h:=ltE h;obtain⟨v2,e2,h⟩:=h
 apply AW.step
 ·simp[← e2]
  intros;rfl
 cases v2 with
 |true =>
  replace h:=iteT rfl h
  refine AW.cond_true (by simp) ?_
  apply AW.step
  ·simp
   intros;rfl
  replace h:=chkE h;obtain⟨e3,h⟩:=h
  refine AW.frzRow 2 (ty:=92) (cap:=none) (sz:=4) (es:=encMove v1.moves) (by simp) (by omega) (Az _) (by first|exact (Ah e3).2|simpa using (Ah e3).2|simp) (by simp[Tm.frz,AV.frz,LV.frz];rfl) (by simp[Ob.frz,LV.frz];rfl) rfl ?_
  replace h:=chkE h;obtain⟨e4,h⟩:=h
  refine AW.frzRow 3 (ty:=100) (cap:=none) (sz:=3) (es:=encSeen v1.seen) (by simp) (by omega) (AA _) (by first|exact (Ah e4).2|simpa using (Ah e4).2|simp) (by simp[Tm.frz,AV.frz,LV.frz];rfl) (by simp[Ob.frz,LV.frz];rfl) rfl ?_
  refine AW.nilD 3 15 (by simp) ?_
  obtain rfl:=oi h
  refine AW.ret ?_
  refine Left.plain hnb (by simp[Tryz.f12,resV,resC,comp];rfl) rfl rfl ?_
  simp
 |false =>
  replace h:=iteF rfl h
  refine AW.cond_false (by simp) ?_
  refine AW.skip ?_
  try simp only[nm]
  apply AW.step
  ·simp
   intros;rfl
  apply AW.step
  ·simp
   intros;rfl
  refine AW.seq ?_
  refine AW.label ?_
  try simp only[nm]
  replace h:=bnE h;obtain⟨y5,g5,h⟩:=h
  refine AW.flow (p:=fun gh ls=>(nP (cx:=cx) (fun q=>(⟨[(1,.l (.p 0 0)),(2,.l (.p 1 0)),(4,.l (.p 2 0)),(5,.l (.p 3 0))],[some ⟨38,22,false,none,[.s (.int .i64 q.1.count),.s (.int .i64 q.1.id),.s (.int .i64 q.1.master),.s (.int .i64 q.1.epoch),.s (.int .i64 q.1.voted),.d false 4 (encClaim q.1.claims),.d false 6 (encPair q.1.db),.d false 4 (encMove q.1.moves),.s (.int .i64 q.1.last),.d false 3 (encSeen q.1.seen),.s (.int .i64 q.1.feed.rid.node),.s (.int .i64 q.1.feed.rid.epoch),.s (.int .i64 q.1.feed.off),.d false 7 (encEffect q.1.feed.back),.s (.int .i64 q.1.feed.prev.node),.s (.int .i64 q.1.feed.prev.epoch),.s (.int .i64 q.1.feed.upto),.d false 1 (encI q.1.watch.heard),.d false 1 (encLI q.1.watch.says),.s (.int .i64 q.1.asked),.d false 1 (encI q.1.votes),.s (.int .i64 q.1.wait)]⟩,some ⟨38,22,false,none,[.s (.int .i64 0),.s (.int .i64 0),.s (.int .i64 0),.s (.int .i64 0),.s (.int .i64 0),.s (.slice none 0 0),.s (.slice none 0 0),.s (.slice none 0 0),.s (.int .i64 0),.s (.slice none 0 0),.s (.int .i64 0),.s (.int .i64 0),.s (.int .i64 0),.s (.slice none 0 0),.s (.int .i64 0),.s (.int .i64 0),.s (.int .i64 0),.s (.slice none 0 0),.s (.slice none 0 0),.s (.int .i64 0),.s (.slice none 0 0),.s (.int .i64 0)]⟩,some ⟨26,1,false,none,[.r 4 4 0 q.2.1.length]⟩,some ⟨45,1,false,none,[.r 5 15 0 q.2.2.length]⟩,some ⟨92,4,true,none,lvs (encMove q.2.1)⟩,some ⟨49,15,true,none,lvs (encMsg q.2.2)⟩],57,gh,ls⟩:St))) y5) ?_ ?_
  ·replace h:=g5;clear g5
   replace h:=chkE h;obtain⟨e6,h⟩:=h
   refine AW.frzRow 2 (ty:=92) (cap:=none) (sz:=4) (es:=encMove v1.moves) (by simp) (by omega) (Az _) (by first|exact (Ah e6).2|simpa using (Ah e6).2|simp) (by simp[Tm.frz,AV.frz,LV.frz];rfl) (by simp[Ob.frz,LV.frz];rfl) rfl ?_
   replace h:=bnE h;obtain⟨v7,e7,h⟩:=h
   apply AW.step
   ·simp
    intros
    refine AF Jx (Kq e7) rfl (by simp) ⟨.same rfl,trivial⟩ ?_
    try simp
    intros;rfl
   refine AW.block ?_
   refine AW.weak (Weak.keep [(1,.l (.p 0 0)),(2,.l (.p 1 0)),(4,.l (.p 4 0)),(5,.l (.p 5 0)),(16,.l (.f 101 [6]))] (by simp)) ?_
   refine AW.rangeG rfl Tryz.func101 (by kernel_rfl) rfl (by decide) rfl rfl fun cxI1 yl1 hnI1 hY1=>?_
   have hnJ1:cxI1.nb=0:=hnI1.trans hn0
   simp only[initTm,List.map_cons,List.map_nil]
   replace h:=ltE h;obtain⟨v8,e8,h⟩:=h
   apply AW.step
   ·simp[Aa e8]
    intros;rfl
   refine AW.block ?_
   replace h:=chkE h;obtain⟨e11,h⟩:=h
   replace h:=bnE h;obtain⟨y10,g10,h⟩:=h
   refine AW.iterP g10 (mk:=fun gh ls q=>(⟨[(0,.l (.s (.func (.yield yl1) #[] #[]))),(5,.l (.d false 4 (encMove v7))),(6,.l (.s (.int .i64 v8))),(7,.l (.s (.int .i64 q.1)))],[some ⟨38,22,false,none,[.s (.int .i64 q.2.1.count),.s (.int .i64 q.2.1.id),.s (.int .i64 q.2.1.master),.s (.int .i64 q.2.1.epoch),.s (.int .i64 q.2.1.voted),.d false 4 (encClaim q.2.1.claims),.d false 6 (encPair q.2.1.db),.d false 4 (encMove q.2.1.moves),.s (.int .i64 q.2.1.last),.d false 3 (encSeen q.2.1.seen),.s (.int .i64 q.2.1.feed.rid.node),.s (.int .i64 q.2.1.feed.rid.epoch),.s (.int .i64 q.2.1.feed.off),.d false 7 (encEffect q.2.1.feed.back),.s (.int .i64 q.2.1.feed.prev.node),.s (.int .i64 q.2.1.feed.prev.epoch),.s (.int .i64 q.2.1.feed.upto),.d false 1 (encI q.2.1.watch.heard),.d false 1 (encLI q.2.1.watch.says),.s (.int .i64 q.2.1.asked),.d false 1 (encI q.2.1.votes),.s (.int .i64 q.2.1.wait)]⟩,some ⟨38,22,false,none,[.s (.int .i64 0),.s (.int .i64 0),.s (.int .i64 0),.s (.int .i64 0),.s (.int .i64 0),.s (.slice none 0 0),.s (.slice none 0 0),.s (.slice none 0 0),.s (.int .i64 0),.s (.slice none 0 0),.s (.int .i64 0),.s (.int .i64 0),.s (.int .i64 0),.s (.slice none 0 0),.s (.int .i64 0),.s (.int .i64 0),.s (.int .i64 0),.s (.slice none 0 0),.s (.slice none 0 0),.s (.int .i64 0),.s (.slice none 0 0),.s (.int .i64 0)]⟩,none,none,some ⟨26,1,false,none,[.r 7 4 0 q.2.2.1.length]⟩,some ⟨45,1,false,none,[.r 8 15 0 q.2.2.2.length]⟩,some ⟨26,1,false,none,[.d false 4 (encMove v7)]⟩,some ⟨92,4,true,none,lvs (encMove q.2.2.1)⟩,some ⟨49,15,true,none,lvs (encMsg q.2.2.2)⟩],16,gh,ls⟩:St)) (N:=fun gh ls=>(xP 0 (cx:=cxI1) (fun q=>(⟨[],[some ⟨38,22,false,none,[.s (.int .i64 q.1.count),.s (.int .i64 q.1.id),.s (.int .i64 q.1.master),.s (.int .i64 q.1.epoch),.s (.int .i64 q.1.voted),.d false 4 (encClaim q.1.claims),.d false 6 (encPair q.1.db),.d false 4 (encMove q.1.moves),.s (.int .i64 q.1.last),.d false 3 (encSeen q.1.seen),.s (.int .i64 q.1.feed.rid.node),.s (.int .i64 q.1.feed.rid.epoch),.s (.int .i64 q.1.feed.off),.d false 7 (encEffect q.1.feed.back),.s (.int .i64 q.1.feed.prev.node),.s (.int .i64 q.1.feed.prev.epoch),.s (.int .i64 q.1.feed.upto),.d false 1 (encI q.1.watch.heard),.d false 1 (encLI q.1.watch.says),.s (.int .i64 q.1.asked),.d false 1 (encI q.1.votes),.s (.int .i64 q.1.wait)]⟩,some ⟨38,22,false,none,[.s (.int .i64 0),.s (.int .i64 0),.s (.int .i64 0),.s (.int .i64 0),.s (.int .i64 0),.s (.slice none 0 0),.s (.slice none 0 0),.s (.slice none 0 0),.s (.int .i64 0),.s (.slice none 0 0),.s (.int .i64 0),.s (.int .i64 0),.s (.int .i64 0),.s (.slice none 0 0),.s (.int .i64 0),.s (.int .i64 0),.s (.int .i64 0),.s (.slice none 0 0),.s (.slice none 0 0),.s (.int .i64 0),.s (.slice none 0 0),.s (.int .i64 0)]⟩,none,none,some ⟨26,1,false,none,[.r 7 4 0 q.2.1.length]⟩,some ⟨45,1,false,none,[.r 8 15 0 q.2.2.length]⟩,some ⟨26,1,false,none,[.d false 4 (encMove v7)]⟩,some ⟨92,4,true,none,lvs (encMove q.2.1)⟩,some ⟨49,15,true,none,lvs (encMsg q.2.2)⟩],16,gh,ls⟩:St)))) ?_ noX ?_ ?_
   ·refine W.frzRow 3 (ty:=100) (cap:=none) (sz:=3) (es:=encSeen v1.seen) (by simp) (by omega) (AA _) (by first|exact (Ah e11).2|simpa using (Ah e11).2|simp) (by simp[Tm.frz,AV.frz,LV.frz];rfl) (by simp[Ob.frz,LV.frz];rfl) (by simp[Tm.frz,AV.frz,LV.frz];rfl) ?_
    refine W.nilCell 4 0 92 4 7 rfl rfl rfl rfl rfl ?_
    refine W.nilCell 5 0 49 15 8 rfl rfl rfl rfl rfl ?_
    refine Weak.mixB 0 [some 0,some 1,some 2,some 3,some 4,some 5,some 6,some 7,some 8] hnJ1 (by decide) (by decide) ?_ ?_ ?_
    all_goals first|(simp[Ab,Ac,pickOb];done)|rfl
   ·clear h;intro y9 y12 h
    replace h:=ltE h;obtain⟨v13,e13,h⟩:=h
    apply AW.step
    ·simp[← e13]
     intros;rfl
    refine AW.seq ?_
    cases v13 with
    |true =>
     replace h:=iteT rfl h
     refine AW.cond_true (by simp) ?_
     refine AW.skip ?_
     try simp only[nm]
     refine AW.seq ?_
     refine AW.block ?_
     replace h:=bnE h;obtain⟨v14,e14,h⟩:=h
     apply AW.step
     ·simp[Ad e14]
      intros;rfl
     refine AW.stepYK ?_
     apply xopsY.yield hY1 0 2 rfl rfl rfl (by decide)
     ·simp
      intros;rfl
     ·rfl
     ·first|trivial|simp
     ·rfl
     ·rfl
     ·simp[puts];rfl
     intro cxR1 hnR1
     have hnS1:cxR1.nb=0:=hnR1.trans hnJ1
     apply AW.last
     ·simp
      intros;rfl
     refine⟨rfl,?_⟩
     replace h:=bnE h;obtain⟨y15,g15,h⟩:=h
     refine AW.flowR (p:=fun gh ls=>(nP (cx:=cxR1) (fun q=>(⟨[],[some ⟨38,22,false,none,[.s (.int .i64 q.1.count),.s (.int .i64 q.1.id),.s (.int .i64 q.1.master),.s (.int .i64 q.1.epoch),.s (.int .i64 q.1.voted),.d false 4 (encClaim q.1.claims),.d false 6 (encPair q.1.db),.d false 4 (encMove q.1.moves),.s (.int .i64 q.1.last),.d false 3 (encSeen q.1.seen),.s (.int .i64 q.1.feed.rid.node),.s (.int .i64 q.1.feed.rid.epoch),.s (.int .i64 q.1.feed.off),.d false 7 (encEffect q.1.feed.back),.s (.int .i64 q.1.feed.prev.node),.s (.int .i64 q.1.feed.prev.epoch),.s (.int .i64 q.1.feed.upto),.d false 1 (encI q.1.watch.heard),.d false 1 (encLI q.1.watch.says),.s (.int .i64 q.1.asked),.d false 1 (encI q.1.votes),.s (.int .i64 q.1.wait)]⟩,some ⟨38,22,false,none,[.s (.int .i64 0),.s (.int .i64 0),.s (.int .i64 0),.s (.int .i64 0),.s (.int .i64 0),.s (.slice none 0 0),.s (.slice none 0 0),.s (.slice none 0 0),.s (.int .i64 0),.s (.slice none 0 0),.s (.int .i64 0),.s (.int .i64 0),.s (.int .i64 0),.s (.slice none 0 0),.s (.int .i64 0),.s (.int .i64 0),.s (.int .i64 0),.s (.slice none 0 0),.s (.slice none 0 0),.s (.int .i64 0),.s (.slice none 0 0),.s (.int .i64 0)]⟩,none,none,some ⟨26,1,false,none,[.r 10 4 0 q.2.1.length]⟩,some ⟨45,1,false,none,[.r 11 15 0 q.2.2.length]⟩,some ⟨26,1,false,none,[.d false 4 (encMove v7)]⟩,none,none,some ⟨92,4,false,none,[.s (.int .i64 v14.slot),.s (.int .i64 v14.to),.s (.int .i64 v14.num),.s (.string v14.key)]⟩,some ⟨92,4,true,none,lvs (encMove q.2.1)⟩,some ⟨49,15,true,none,lvs (encMsg q.2.2)⟩],57,gh,ls⟩:St))) y15) ?_ ?_
     ·replace h:=g15;clear g15
      refine AW.block ?_
      replace h:=bnE h;obtain⟨y16,g16,h⟩:=h
      refine AW.flow (p:=fun gh ls=>(sp (nP (cx:=cxR1) (fun q=>(⟨[(1,.l (.p 0 0)),(4,.l (.p 4 0)),(5,.l (.p 5 0)),(6,.l (.p 10 0))],[some ⟨38,22,false,none,[.s (.int .i64 q.1.count),.s (.int .i64 q.1.id),.s (.int .i64 q.1.master),.s (.int .i64 q.1.epoch),.s (.int .i64 q.1.voted),.d false 4 (encClaim q.1.claims),.d false 6 (encPair q.1.db),.d false 4 (encMove q.1.moves),.s (.int .i64 q.1.last),.d false 3 (encSeen q.1.seen),.s (.int .i64 q.1.feed.rid.node),.s (.int .i64 q.1.feed.rid.epoch),.s (.int .i64 q.1.feed.off),.d false 7 (encEffect q.1.feed.back),.s (.int .i64 q.1.feed.prev.node),.s (.int .i64 q.1.feed.prev.epoch),.s (.int .i64 q.1.feed.upto),.d false 1 (encI q.1.watch.heard),.d false 1 (encLI q.1.watch.says),.s (.int .i64 q.1.asked),.d false 1 (encI q.1.votes),.s (.int .i64 q.1.wait)]⟩,some ⟨38,22,false,none,[.s (.int .i64 0),.s (.int .i64 0),.s (.int .i64 0),.s (.int .i64 0),.s (.int .i64 0),.s (.slice none 0 0),.s (.slice none 0 0),.s (.slice none 0 0),.s (.int .i64 0),.s (.slice none 0 0),.s (.int .i64 0),.s (.int .i64 0),.s (.int .i64 0),.s (.slice none 0 0),.s (.int .i64 0),.s (.int .i64 0),.s (.int .i64 0),.s (.slice none 0 0),.s (.slice none 0 0),.s (.int .i64 0),.s (.slice none 0 0),.s (.int .i64 0)]⟩,none,none,some ⟨26,1,false,none,[.r 7 4 0 y9.2.2.1.length]⟩,some ⟨45,1,false,none,[.r 8 15 0 y9.2.2.2.length]⟩,some ⟨26,1,false,none,[.d false 4 (encMove v7)]⟩,some ⟨92,4,true,none,lvs (encMove y9.2.2.1)⟩,some ⟨49,15,true,none,lvs (encMsg y9.2.2.2)⟩,some ⟨92,4,false,none,[.s (.int .i64 v14.slot),.s (.int .i64 v14.to),.s (.int .i64 v14.num),.s (.string v14.key)]⟩,some ⟨92,4,false,none,[.s (.int .i64 q.2.slot),.s (.int .i64 q.2.to),.s (.int .i64 q.2.num),.s (.string q.2.key)]⟩],57,gh,ls⟩:St))) (xP 1 (cx:=cxR1) (fun q=>(⟨[],[some ⟨38,22,false,none,[.s (.int .i64 q.count),.s (.int .i64 q.id),.s (.int .i64 q.master),.s (.int .i64 q.epoch),.s (.int .i64 q.voted),.d false 4 (encClaim q.claims),.d false 6 (encPair q.db),.d false 4 (encMove q.moves),.s (.int .i64 q.last),.d false 3 (encSeen q.seen),.s (.int .i64 q.feed.rid.node),.s (.int .i64 q.feed.rid.epoch),.s (.int .i64 q.feed.off),.d false 7 (encEffect q.feed.back),.s (.int .i64 q.feed.prev.node),.s (.int .i64 q.feed.prev.epoch),.s (.int .i64 q.feed.upto),.d false 1 (encI q.watch.heard),.d false 1 (encLI q.watch.says),.s (.int .i64 q.asked),.d false 1 (encI q.votes),.s (.int .i64 q.wait)]⟩,some ⟨38,22,false,none,[.s (.int .i64 0),.s (.int .i64 0),.s (.int .i64 0),.s (.int .i64 0),.s (.int .i64 0),.s (.slice none 0 0),.s (.slice none 0 0),.s (.slice none 0 0),.s (.int .i64 0),.s (.slice none 0 0),.s (.int .i64 0),.s (.int .i64 0),.s (.int .i64 0),.s (.slice none 0 0),.s (.int .i64 0),.s (.int .i64 0),.s (.int .i64 0),.s (.slice none 0 0),.s (.slice none 0 0),.s (.int .i64 0),.s (.slice none 0 0),.s (.int .i64 0)]⟩,none,none,some ⟨26,1,false,none,[.r 7 4 0 y9.2.2.1.length]⟩,some ⟨45,1,false,none,[.r 8 15 0 y9.2.2.2.length]⟩,some ⟨26,1,false,none,[.d false 4 (encMove v7)]⟩,some ⟨92,4,true,none,lvs (encMove y9.2.2.1)⟩,some ⟨49,15,true,none,lvs (encMsg y9.2.2.2)⟩,some ⟨92,4,false,none,[.s (.int .i64 v14.slot),.s (.int .i64 v14.to),.s (.int .i64 v14.num),.s (.string v14.key)]⟩],57,gh,ls⟩:St)))) y16) ?_ ?_
      ·replace h:=g16;clear g16
       replace h:=ltE h;obtain⟨v17,e17,h⟩:=h
       apply AW.step
       ·simp[← e17]
        intros;rfl
       cases v17 with
       |true =>
        replace h:=iteT rfl h
        refine AW.cond_true (by simp) ?_
        replace h:=bnE h;obtain⟨v18,e18,h⟩:=h
        apply AW.step
        ·simp
         intros
         refine Ae K5 (Mg e18) rfl ⟨.same rfl,.same rfl,trivial⟩ ?_
         try simp
         intros;rfl
        refine AW.seq ?_
        replace h:=ltE h;obtain⟨v19,e19,h⟩:=h
        replace h:=ltE h;obtain⟨v20,e20,h⟩:=h
        apply AW.step
        ·simp[Aa e19,← e20]
         intros;rfl
        cases v20 with
        |true =>
         replace h:=iteT rfl h
         refine AW.cond_true (by simp) ?_
         replace h:=bnE h;obtain⟨v21,e21,h⟩:=h
         apply AW.step
         ·simp
          intros
          refine Ae HF (Ib e21) rfl ⟨.same rfl,.same rfl,trivial⟩ ?_
          try simp
          intros;rfl
         refine AW.exit ?_
         try simp only[nm]
         obtain rfl:=oi h
         try simp only[sp_l,sp_r]
         refine xP_i ?_
         refine Weak.mixB 0 [some 0,some 1,some 2,some 3,some 4,some 5,some 6,some 7,some 8,some 9] hnS1 (by decide) (by decide) ?_ ?_ ?_
         all_goals first|(simp[Ab,Ac,pickOb];done)|rfl
        |false =>
         replace h:=iteF rfl h
         refine AW.cond_false (by simp) ?_
         refine AW.skip ?_
         try simp only[nm]
         replace h:=ltE h;obtain⟨v22,e22,h⟩:=h
         apply AW.step
         ·simp[← e22]
          intros;rfl
         replace h:=bnE h;obtain⟨v23,e23,h⟩:=h
         apply AW.drawnF (V:=[_,_,_,_,_,_,_]) (M:=[[some ⟨38,22,false,none,[.s (.int .i64 y9.2.1.count),.s (.int .i64 y9.2.1.id),.s (.int .i64 y9.2.1.master),.s (.int .i64 y9.2.1.epoch),.s (.int .i64 y9.2.1.voted),.d false 4 (encClaim y9.2.1.claims),.d false 6 (encPair y9.2.1.db),.d false 4 (encMove y9.2.1.moves),.s (.int .i64 v22),.d false 3 (encSeen y9.2.1.seen),.s (.int .i64 y9.2.1.feed.rid.node),.s (.int .i64 y9.2.1.feed.rid.epoch),.s (.int .i64 y9.2.1.feed.off),.d false 7 (encEffect y9.2.1.feed.back),.s (.int .i64 y9.2.1.feed.prev.node),.s (.int .i64 y9.2.1.feed.prev.epoch),.s (.int .i64 y9.2.1.feed.upto),.d false 1 (encI y9.2.1.watch.heard),.d false 1 (encLI y9.2.1.watch.says),.s (.int .i64 y9.2.1.asked),.d false 1 (encI y9.2.1.votes),.s (.int .i64 y9.2.1.wait)]⟩,some ⟨38,22,false,none,[.s (.int .i64 0),.s (.int .i64 0),.s (.int .i64 0),.s (.int .i64 0),.s (.int .i64 0),.s (.slice none 0 0),.s (.slice none 0 0),.s (.slice none 0 0),.s (.int .i64 0),.s (.slice none 0 0),.s (.int .i64 0),.s (.int .i64 0),.s (.int .i64 0),.s (.slice none 0 0),.s (.int .i64 0),.s (.int .i64 0),.s (.int .i64 0),.s (.slice none 0 0),.s (.slice none 0 0),.s (.int .i64 0),.s (.slice none 0 0),.s (.int .i64 0)]⟩,none,none,some ⟨26,1,false,none,[.r 7 4 0 y9.2.2.1.length]⟩,some ⟨45,1,false,none,[.r 8 15 0 y9.2.2.2.length]⟩,some ⟨26,1,false,none,[.d false 4 (encMove v7)]⟩,some ⟨92,4,true,none,lvs (encMove y9.2.2.1)⟩,some ⟨49,15,true,none,lvs (encMsg y9.2.2.2)⟩,some ⟨92,4,false,none,[.s (.int .i64 v14.slot),.s (.int .i64 v14.to),.s (.int .i64 v14.num),.s (.string v14.key)]⟩,some ⟨92,4,false,none,[.s (.int .i64 v14.slot),.s (.int .i64 v14.to),.s (.int .i64 v14.num),.s (.string v14.key)]⟩],[some ⟨38,22,false,none,[.s (.int .i64 y9.2.1.count),.s (.int .i64 y9.2.1.id),.s (.int .i64 y9.2.1.master),.s (.int .i64 y9.2.1.epoch),.s (.int .i64 y9.2.1.voted),.d false 4 (encClaim y9.2.1.claims),.d false 6 (encPair y9.2.1.db),.d false 4 (encMove y9.2.1.moves),.s (.int .i64 v22),.d false 3 (encSeen y9.2.1.seen),.s (.int .i64 y9.2.1.feed.rid.node),.s (.int .i64 y9.2.1.feed.rid.epoch),.s (.int .i64 y9.2.1.feed.off),.d false 7 (encEffect y9.2.1.feed.back),.s (.int .i64 y9.2.1.feed.prev.node),.s (.int .i64 y9.2.1.feed.prev.epoch),.s (.int .i64 y9.2.1.feed.upto),.d false 1 (encI y9.2.1.watch.heard),.d false 1 (encLI y9.2.1.watch.says),.s (.int .i64 y9.2.1.asked),.d false 1 (encI y9.2.1.votes),.s (.int .i64 y9.2.1.wait)]⟩,some ⟨38,22,false,none,[.s (.int .i64 0),.s (.int .i64 0),.s (.int .i64 0),.s (.int .i64 0),.s (.int .i64 0),.s (.slice none 0 0),.s (.slice none 0 0),.s (.slice none 0 0),.s (.int .i64 0),.s (.slice none 0 0),.s (.int .i64 0),.s (.int .i64 0),.s (.int .i64 0),.s (.slice none 0 0),.s (.int .i64 0),.s (.int .i64 0),.s (.int .i64 0),.s (.slice none 0 0),.s (.slice none 0 0),.s (.int .i64 0),.s (.slice none 0 0),.s (.int .i64 0)]⟩,none,none,some ⟨26,1,false,none,[.r 7 4 0 y9.2.2.1.length]⟩,some ⟨45,1,false,none,[.r 8 15 0 y9.2.2.2.length]⟩,some ⟨26,1,false,none,[.d false 4 (encMove v7)]⟩,some ⟨92,4,true,none,lvs (encMove y9.2.2.1)⟩,some ⟨49,15,true,none,lvs (encMsg y9.2.2.2)⟩,some ⟨92,4,false,none,[.s (.int .i64 v14.slot),.s (.int .i64 v14.to),.s (.int .i64 v14.num),.s (.string v14.key)]⟩,some ⟨92,4,false,none,[.s (.int .i64 v14.slot),.s (.int .i64 v14.to),.s (.int .i64 v22),.s (.string v14.key)]⟩]]) mixed [⟨[0],[],[(1,none)],false⟩,⟨[0],[0],[(36,some 0)],false⟩,⟨[0,1],[],[(7,none)],false⟩,⟨[0,1],[2],[(38,some 2)],false⟩,⟨[0,1],[2,3],[(39,some 3)],false⟩,⟨[0],[0,1],[(6,none)],false⟩,⟨[0],[0,1,5],[(37,some 1),(41,some 5)],true⟩,⟨[],[0,1,2,3,4,5,6],[],false⟩,⟨[],[0,1,2,3,4,5,6,7],[],false⟩] 7 1 (by kernel_rfl) (by kernel_rfl)
         ·rfl
         ·refine⟨?_,?_,⟨?_,?_⟩,⟨?_,?_⟩,⟨?_,?_⟩,?_,?_,trivial⟩
          iterate 10 (· intro tm hr;simp[AllL,rdV] at hr;simp[hr,(show v18[0]?=some v23 from (Ad e23).2)];intros;first|exact KD.mk|exact KD.mkN)
         ·rfl
         ·simp[tmD,putD,(show v18[0]?=some v23 from (Ad e23).2)];rfl
         ·simp[(show v18[0]?=some v23 from (Ad e23).2)]
          intros;rfl
         obtain rfl:=oi h
         try simp only[sp_l,sp_r]
         refine nP_i ?_
         refine Weak.mixB 0 [some 0,some 1,some 2,some 3,some 4,some 5,some 6,some 7,some 8,some 9,some 10] hnS1 (by decide) (by decide) ?_ ?_ ?_
         all_goals first|(simp[Ab,Ac,pickOb];done)|rfl
       |false =>
        replace h:=iteF rfl h
        refine AW.cond_false (by simp) ?_
        refine AW.skip ?_
        try simp only[nm]
        obtain rfl:=oi h
        try simp only[sp_l,sp_r]
        refine nP_i ?_
        refine Weak.mixB 0 [some 0,some 1,some 2,some 3,some 4,some 5,some 6,some 7,some 8,some 9,some 10] hnS1 (by decide) (by decide) ?_ ?_ ?_
        all_goals first|(simp[Ab,Ac,pickOb];done)|rfl
      ·rintro e s hp
       rcases y16 with y24|y25
       ·replace h:=smL h
        obtain⟨rfl,hw⟩:=hp
        refine⟨_,hw,?_⟩
        try simp only[nm]
        replace h:=chkE h;obtain⟨e26,h⟩:=h
        replace h:=ltE h;obtain⟨v27,e27,h⟩:=h
        apply AW.step
        ·simp[← Df,← e27,Ao e27]
         intros
         refine Av ?_
         try simp[← Df,← e27,Ao e27]
         intros
         refine AJ (acc:=encMove y9.2.2.1) (ys:=encMove [y24.2]) (cap:=none) (k:=1) CM Dc (by simp) (by simp[encMove,lvs]) (Az _) (by simp) (by simp) (by first|(simp;done)|simpa using (Ah e26).1) ?_
         try simp[← Df,← e27,Ao e27]
         intros;rfl
        replace h:=bnE h;obtain⟨v28,e28,h⟩:=h
        replace h:=chkE h;obtain⟨e29,h⟩:=h
        replace h:=ltE h;obtain⟨v30,e30,h⟩:=h
        apply AW.drawnF (V:=[_,_,_,_,_]) (M:=[[some ⟨38,22,false,none,[.s (.int .i64 y24.1.count),.s (.int .i64 y24.1.id),.s (.int .i64 y24.1.master),.s (.int .i64 y24.1.epoch),.s (.int .i64 y24.1.voted),.d false 4 (encClaim y24.1.claims),.d false 6 (encPair y24.1.db),.d false 4 (encMove y24.1.moves),.s (.int .i64 y24.1.last),.d false 3 (encSeen y24.1.seen),.s (.int .i64 y24.1.feed.rid.node),.s (.int .i64 y24.1.feed.rid.epoch),.s (.int .i64 y24.1.feed.off),.d false 7 (encEffect y24.1.feed.back),.s (.int .i64 y24.1.feed.prev.node),.s (.int .i64 y24.1.feed.prev.epoch),.s (.int .i64 y24.1.feed.upto),.d false 1 (encI y24.1.watch.heard),.d false 1 (encLI y24.1.watch.says),.s (.int .i64 y24.1.asked),.d false 1 (encI y24.1.votes),.s (.int .i64 y24.1.wait)]⟩,some ⟨38,22,false,none,[.s (.int .i64 0),.s (.int .i64 0),.s (.int .i64 0),.s (.int .i64 0),.s (.int .i64 0),.s (.slice none 0 0),.s (.slice none 0 0),.s (.slice none 0 0),.s (.int .i64 0),.s (.slice none 0 0),.s (.int .i64 0),.s (.int .i64 0),.s (.int .i64 0),.s (.slice none 0 0),.s (.int .i64 0),.s (.int .i64 0),.s (.int .i64 0),.s (.slice none 0 0),.s (.slice none 0 0),.s (.int .i64 0),.s (.slice none 0 0),.s (.int .i64 0)]⟩,none,none,some ⟨26,1,false,none,[.r 12 4 0 v27.length]⟩,some ⟨45,1,false,none,[.r 8 15 0 y9.2.2.2.length]⟩,some ⟨26,1,false,none,[.d false 4 (encMove v7)]⟩,none,some ⟨49,15,true,none,lvs (encMsg y9.2.2.2)⟩,some ⟨92,4,false,none,[.s (.int .i64 v14.slot),.s (.int .i64 v14.to),.s (.int .i64 v14.num),.s (.string v14.key)]⟩,some ⟨92,4,false,none,[.s (.int .i64 y24.2.slot),.s (.int .i64 y24.2.to),.s (.int .i64 y24.2.num),.s (.string y24.2.key)]⟩,some ⟨92,4,true,none,[.s (.int .i64 y24.2.slot),.s (.int .i64 y24.2.to),.s (.int .i64 y24.2.num),.s (.string y24.2.key)]⟩,some ⟨92,4,true,none,lvs (encMove v27)⟩],[some ⟨38,22,false,none,[.s (.int .i64 y24.1.count),.s (.int .i64 y24.1.id),.s (.int .i64 y24.1.master),.s (.int .i64 y24.1.epoch),.s (.int .i64 y24.1.voted),.d false 4 (encClaim y24.1.claims),.d false 6 (encPair y24.1.db),.d false 4 (encMove y24.1.moves),.s (.int .i64 y24.1.last),.d false 3 (encSeen y24.1.seen),.s (.int .i64 y24.1.feed.rid.node),.s (.int .i64 y24.1.feed.rid.epoch),.s (.int .i64 y24.1.feed.off),.d false 7 (encEffect y24.1.feed.back),.s (.int .i64 y24.1.feed.prev.node),.s (.int .i64 y24.1.feed.prev.epoch),.s (.int .i64 y24.1.feed.upto),.d false 1 (encI y24.1.watch.heard),.d false 1 (encLI y24.1.watch.says),.s (.int .i64 y24.1.asked),.d false 1 (encI y24.1.votes),.s (.int .i64 y24.1.wait)]⟩,some ⟨38,22,false,none,[.s (.int .i64 0),.s (.int .i64 0),.s (.int .i64 0),.s (.int .i64 0),.s (.int .i64 0),.s (.slice none 0 0),.s (.slice none 0 0),.s (.slice none 0 0),.s (.int .i64 0),.s (.slice none 0 0),.s (.int .i64 0),.s (.int .i64 0),.s (.int .i64 0),.s (.slice none 0 0),.s (.int .i64 0),.s (.int .i64 0),.s (.int .i64 0),.s (.slice none 0 0),.s (.slice none 0 0),.s (.int .i64 0),.s (.slice none 0 0),.s (.int .i64 0)]⟩,none,none,some ⟨26,1,false,none,[.r 12 4 0 v27.length]⟩,some ⟨45,1,false,none,[.r 8 15 0 y9.2.2.2.length]⟩,some ⟨26,1,false,none,[.d false 4 (encMove v7)]⟩,none,some ⟨49,15,true,none,lvs (encMsg y9.2.2.2)⟩,some ⟨92,4,false,none,[.s (.int .i64 v14.slot),.s (.int .i64 v14.to),.s (.int .i64 v14.num),.s (.string v14.key)]⟩,some ⟨92,4,false,none,[.s (.int .i64 y24.2.slot),.s (.int .i64 y24.2.to),.s (.int .i64 y24.2.num),.s (.string y24.2.key)]⟩,some ⟨92,4,true,none,[.s (.int .i64 y24.2.slot),.s (.int .i64 y24.2.to),.s (.int .i64 y24.2.num),.s (.string y24.2.key)]⟩,some ⟨92,4,true,none,lvs (encMove v27)⟩,some ⟨49,15,true,none,[.s (.int .i64 v28.kind),.s (.int .i64 v28.frm),.s (.int .i64 v28.to),.s (.int .i64 v28.epoch),.d false 4 (encClaim v28.claims),.d false 1 (encI v28.nodes),.s (.int .i64 v28.node),.s (.int .i64 v28.slot),.s (.int .i64 v28.num),.s (.int .i64 v28.rid.node),.s (.int .i64 v28.rid.epoch),.s (.int .i64 v28.prev.node),.s (.int .i64 v28.prev.epoch),.s (.int .i64 v28.off),.d false 7 (encEffect v28.effects)]⟩]]) mixed [⟨[0,1],[],[(5,none)],false⟩,⟨[0],[],[(1,none)],false⟩,⟨[0],[],[(6,none)],false⟩,⟨[0],[1,2],[(48,some 1),(49,some 2)],false⟩,⟨[0],[1,2,3],[(50,some 3)],true⟩,⟨[],[0,1,2,3,4],[],false⟩,⟨[],[0,1,2,3,4,5],[],false⟩] 5 1 (by kernel_rfl) (by kernel_rfl)
        ·rfl
        ·refine⟨⟨?_,?_⟩,?_,?_,?_,?_,trivial⟩
         iterate 4 (· intro tm hr;simp[AllL,rdV] at hr;simp[hr,← Br,← e30,Ao e30];intros;first|exact KD.mk|exact KD.mkN)
         ·intro tm hr
          simp[AllL,rdV] at hr
          simp[hr,← Br,← e30,Ao e30]
          intros
          refine Ae Lb (Mn e28) rfl ⟨.same rfl,.same rfl,trivial⟩ ?_
          try simp[← Br,← e30,Ao e30]
          intros;first|exact KD.mk|exact KD.mkN
         ·intro tm hr
          simp[AllL,rdV] at hr
          simp[hr,← Br,← e30,Ao e30]
          intros
          refine Av ?_
          try simp[← Br,← e30,Ao e30]
          intros;first|exact KD.mk|exact KD.mkN
        ·rfl
        ·simp[tmD,putD,← Br,← e30,Ao e30];rfl
        ·simp[← Br,← e30,Ao e30]
         intros
         refine AJ (acc:=encMsg y9.2.2.2) (ys:=encMsg [v28]) (cap:=none) (k:=1) On Om (by simp) (by simp[encMsg,lvs]) (Ft _) (by simp) (by simp) (by first|(simp;done)|simpa using (Ah e29).1) ?_
         try simp[← Br,← e30,Ao e30]
         intros;rfl
        obtain rfl:=oi h
        refine nP_i ?_
        refine Weak.mixB 0 [some 0,some 1,some 2,some 3,some 4,some 5,some 6,some 7,some 8,some 9,some 12,some 14] hnS1 (by decide) (by decide) ?_ ?_ ?_
        all_goals first|(simp[Ab,Ac,pickOb,GF,KO];done)|rfl
       ·replace h:=smR h
        obtain⟨rfl,hw⟩:=hp
        refine⟨_,hw,?_⟩
        try simp only[nm]
        obtain rfl:=oi h
        refine nP_i ?_
        refine Weak.mixB 0 [some 0,some 1,some 2,some 3,some 4,some 5,some 6,none,none,some 9,some 7,some 8] hnS1 (by decide) (by decide) ?_ ?_ ?_
        all_goals first|(simp[Ab,Ac,pickOb];done)|rfl
     ·rintro e s hp
      obtain⟨rfl,hw⟩:=hp
      refine⟨_,hw,?_⟩
      try simp only[nm]
      refine⟨_,_,rfl,?_⟩
      refine Bl _ _ _ rfl ?_
      simp[puts]
      try intros
      unfold KK
      refine AW.cond_false (by simp) ?_
      refine AW.skip ?_
      try simp only[nm]
      replace h:=ltE h;obtain⟨v31,e31,h⟩:=h
      apply AW.last
      ·simp[← e31]
       intros;rfl
      obtain rfl:=oi h
      refine nP_i ?_
      refine Weak.mixB 0 [some 0,some 1,some 2,some 3,some 4,some 5,some 6,some 10,some 11] hnJ1 (by decide) (by decide) ?_ ?_ ?_
      all_goals first|(simp[Ab,Ac,pickOb];done)|rfl
    |false =>
     replace h:=iteF rfl h
     refine AW.cond_false (by simp) ?_
     refine AW.exit ?_
     try simp only[nm]
     obtain rfl:=oi h
     refine xP_i ?_
     refine Weak.mixB 0 [some 0,some 1,some 2,some 3,some 4,some 5,some 6,some 7,some 8] hnJ1 (by decide) (by decide) ?_ ?_ ?_
     all_goals first|(simp[Ab,Ac,pickOb];done)|rfl
   ·rintro e s hp
    obtain⟨rfl,hw⟩:=hp
    refine⟨_,hw,?_⟩
    try simp only[nm]
    refine⟨_,_,rfl,?_⟩
    try simp only[]
    try simp only[nm]
    obtain rfl:=oi h
    refine nP_i ?_
    refine Weak.mixN [some 0,some 1,some 4,some 5,some 7,some 8] hn0 (by decide) ?_ ?_ rfl
    all_goals first|(simp[Ab,Ac,pickOb];done)|rfl
  ·rintro e s hp
   obtain⟨rfl,hw⟩:=hp
   refine⟨_,hw,?_⟩
   try simp only[nm]
   apply AW.step
   ·simp
    intros;rfl
   apply AW.drawnE (V:=[_,_,_]) (M:=[[some ⟨38,22,false,none,[.s (.int .i64 y5.1.count),.s (.int .i64 y5.1.id),.s (.int .i64 y5.1.master),.s (.int .i64 y5.1.epoch),.s (.int .i64 y5.1.voted),.d false 4 (encClaim y5.1.claims),.d false 6 (encPair y5.1.db),.r 4 4 0 y5.2.1.length,.s (.int .i64 y5.1.last),.d false 3 (encSeen y5.1.seen),.s (.int .i64 y5.1.feed.rid.node),.s (.int .i64 y5.1.feed.rid.epoch),.s (.int .i64 y5.1.feed.off),.d false 7 (encEffect y5.1.feed.back),.s (.int .i64 y5.1.feed.prev.node),.s (.int .i64 y5.1.feed.prev.epoch),.s (.int .i64 y5.1.feed.upto),.d false 1 (encI y5.1.watch.heard),.d false 1 (encLI y5.1.watch.says),.s (.int .i64 y5.1.asked),.d false 1 (encI y5.1.votes),.s (.int .i64 y5.1.wait)]⟩,some ⟨38,22,false,none,[.s (.int .i64 0),.s (.int .i64 0),.s (.int .i64 0),.s (.int .i64 0),.s (.int .i64 0),.s (.slice none 0 0),.s (.slice none 0 0),.s (.slice none 0 0),.s (.int .i64 0),.s (.slice none 0 0),.s (.int .i64 0),.s (.int .i64 0),.s (.int .i64 0),.s (.slice none 0 0),.s (.int .i64 0),.s (.int .i64 0),.s (.int .i64 0),.s (.slice none 0 0),.s (.slice none 0 0),.s (.int .i64 0),.s (.slice none 0 0),.s (.int .i64 0)]⟩,some ⟨26,1,false,none,[.r 4 4 0 y5.2.1.length]⟩,some ⟨45,1,false,none,[.r 5 15 0 y5.2.2.length]⟩,some ⟨92,4,true,none,lvs (encMove y5.2.1)⟩,some ⟨49,15,true,none,lvs (encMsg y5.2.2)⟩],[some ⟨38,22,false,none,[.s (.int .i64 y5.1.count),.s (.int .i64 y5.1.id),.s (.int .i64 y5.1.master),.s (.int .i64 y5.1.epoch),.s (.int .i64 y5.1.voted),.d false 4 (encClaim y5.1.claims),.d false 6 (encPair y5.1.db),.r 4 4 0 y5.2.1.length,.s (.int .i64 y5.1.last),.d false 3 (encSeen y5.1.seen),.s (.int .i64 y5.1.feed.rid.node),.s (.int .i64 y5.1.feed.rid.epoch),.s (.int .i64 y5.1.feed.off),.d false 7 (encEffect y5.1.feed.back),.s (.int .i64 y5.1.feed.prev.node),.s (.int .i64 y5.1.feed.prev.epoch),.s (.int .i64 y5.1.feed.upto),.d false 1 (encI y5.1.watch.heard),.d false 1 (encLI y5.1.watch.says),.s (.int .i64 y5.1.asked),.d false 1 (encI y5.1.votes),.s (.int .i64 y5.1.wait)]⟩,some ⟨38,22,false,none,[.s (.int .i64 y5.1.count),.s (.int .i64 y5.1.id),.s (.int .i64 y5.1.master),.s (.int .i64 y5.1.epoch),.s (.int .i64 y5.1.voted),.d false 4 (encClaim y5.1.claims),.d false 6 (encPair y5.1.db),.r 4 4 0 y5.2.1.length,.s (.int .i64 y5.1.last),.d false 3 (encSeen y5.1.seen),.s (.int .i64 y5.1.feed.rid.node),.s (.int .i64 y5.1.feed.rid.epoch),.s (.int .i64 y5.1.feed.off),.d false 7 (encEffect y5.1.feed.back),.s (.int .i64 y5.1.feed.prev.node),.s (.int .i64 y5.1.feed.prev.epoch),.s (.int .i64 y5.1.feed.upto),.d false 1 (encI y5.1.watch.heard),.d false 1 (encLI y5.1.watch.says),.s (.int .i64 y5.1.asked),.d false 1 (encI y5.1.votes),.s (.int .i64 y5.1.wait)]⟩,some ⟨26,1,false,none,[.r 4 4 0 y5.2.1.length]⟩,some ⟨45,1,false,none,[.r 5 15 0 y5.2.2.length]⟩,some ⟨92,4,true,none,lvs (encMove y5.2.1)⟩,some ⟨49,15,true,none,lvs (encMsg y5.2.2)⟩]]) mixed [⟨[0],[],[(1,none)],false⟩,⟨[0,1],[],[(5,none)],false⟩,⟨[0],[0],[(2,none),(55,some 0)],true⟩,⟨[],[0,1,2],[],false⟩] 3 1 (by kernel_rfl) (by kernel_rfl)
   ·rfl
   ·refine⟨?_,⟨?_,?_⟩,?_,trivial⟩
    iterate 4 (· intro tm hr;simp[AllL,rdV] at hr;simp[hr];intros;first|exact KD.mk|exact KD.mkN)
   ·rfl
   ·simp[tmD,putD];rfl
   ·simp
    intros;rfl
   replace h:=chkE h;obtain⟨e32,h⟩:=h
   refine AW.frzRow 4 (ty:=92) (cap:=none) (sz:=4) (es:=encMove y5.2.1) (by simp) (by omega) (Az _) (by first|exact (Ah e32).2|simpa using (Ah e32).2|simp) (by simp[Tm.frz,AV.frz,LV.frz];rfl) (by simp[Ob.frz,LV.frz];rfl) rfl ?_
   replace h:=chkE h;obtain⟨e33,h⟩:=h
   refine AW.frzRow 5 (ty:=49) (cap:=none) (sz:=15) (es:=encMsg y5.2.2) (by simp) (by omega) (Ft _) (by first|exact (Ah e33).2|simpa using (Ah e33).2|simp) (by simp[Tm.frz,AV.frz,LV.frz];rfl) (by simp[Ob.frz,LV.frz];rfl) rfl ?_
   obtain rfl:=oi h
   refine AW.ret ?_
   refine Left.plain hnb (by simp[Tryz.f12,resV,resC,comp];rfl) rfl rfl ?_
   simp
theorem Ku:Enters Tryz.prog 12:=enters Tryz.func12 (by kernel_rfl) rfl
def GM (n:Nat) (a0:Int):Option Int :=
some a0
theorem Kv {n:Nat} {a0:Int} {r:Int} (h:GM n a0=some r):Sound Tryz.prog 20 [.l (.s (.int .i64 a0))] [] (.l (.s (.int .i64 r))) []:=by
 unfold GM at h
 refine Sound.of_aw (fn:=Tryz.f20) (c:=_) Tryz.func20 rfl (by simp[Tryz.f20]) fun cx hG hnb=>?_
 rw[show Tryz.f20.ntmps=4 from rfl]
 have hn0:cx.nb=0:=hnb
 simp only[An,initTm,List.map_cons,List.map_nil]
 apply AW.step
 ·simp
  intros;rfl
 apply AW.step
 ·simp
  intros;rfl
 obtain rfl:=oi h
 refine AW.ret ?_
 refine Left.plain hnb (by simp[Tryz.f20,resV,resC,comp];rfl) rfl rfl ?_
 simp
theorem I9:Enters Tryz.prog 20:=enters Tryz.func20 (by kernel_rfl) rfl
def Cr (n:Nat) :Option Bool :=
bn (CS n 0 []) fun v1 =>
bn (Ff n v1) fun v2 =>
bn (EK n v2.1 5 1) fun v3 =>
bn (lt (lenI v2.2) fun v5 =>
lt (eqI v5 0) fun v6 =>
ite' v6 (bn (GM n v3.2) fun v7 =>
lt (eqI v7 0) fun v8 =>
ite' v8 (lt (lenI v3.1.moves) fun v9 =>
lt (eqI v9 1) fun v10 =>
some (v10)) (some (false))) (some (false))) fun (y4:Bool) =>
some y4
theorem FJ {n:Nat}  {r:Bool} (h:Cr n =some r):Sound Tryz.prog 7 [] [] (.l (.s (.bool r))) []:=by
 unfold Cr at h
 refine Sound.of_aw (fn:=Tryz.f7) (c:=_) Tryz.func7 rfl (by simp[Tryz.f7]) fun cx hG hnb=>?_
 rw[show Tryz.f7.ntmps=29 from rfl]
 have hn0:cx.nb=0:=hnb
 simp only[An,initTm,List.map_cons,List.map_nil]
 apply AW.step
 ·simp
  intros;rfl
 replace h:=bnE h;obtain⟨v1,e1,h⟩:=h
 replace h:=bnE h;obtain⟨v2,e2,h⟩:=h
 apply AW.step
 ·simp
  intros
  refine Ae Ho (H6 e1) rfl ⟨.same rfl,.nil _ _,trivial⟩ ?_
  try simp
  intros
  refine Ae Ku (Lc e2) rfl ⟨.same rfl,trivial⟩ ?_
  try simp
  intros;rfl
 replace h:=bnE h;obtain⟨v3,e3,h⟩:=h
 apply AW.step
 ·simp
  intros
  refine Ae Jw (Kp e3) rfl ⟨.same rfl,.same rfl,.same rfl,trivial⟩ ?_
  try simp
  intros;rfl
 replace h:=bnE h;obtain⟨y4,g4,h⟩:=h
 refine AW.flow (p:=fun gh ls=>(nP (cx:=cx) (fun q=>(⟨[(0,.l (.s (.bool q)))],[],29,gh,ls⟩:St))) y4) ?_ ?_
 ·replace h:=g4;clear g4
  replace h:=ltE h;obtain⟨v5,e5,h⟩:=h
  replace h:=ltE h;obtain⟨v6,e6,h⟩:=h
  cases v6 with
  |true =>
   replace h:=iteT rfl h
   replace h:=bnE h;obtain⟨v7,e7,h⟩:=h
   replace h:=ltE h;obtain⟨v8,e8,h⟩:=h
   cases v8 with
   |true =>
    replace h:=iteT rfl h
    replace h:=ltE h;obtain⟨v9,e9,h⟩:=h
    replace h:=ltE h;obtain⟨v10,e10,h⟩:=h
    apply AW.last
    ·simp[Aa e5,← e6,← e8,Aa e9,← e10]
     intros
     refine Ae I9 (Kv e7) rfl ⟨.same rfl,trivial⟩ ?_
     try simp[Aa e5,← e6,← e8,Aa e9,← e10]
     intros;rfl
    obtain rfl:=oi h
    refine nP_i ?_
    refine Weak.mixN [] hn0 (by decide) ?_ ?_ rfl
    all_goals first|(simp[Ab,Ac,pickOb];done)|rfl
   |false =>
    replace h:=iteF rfl h
    apply AW.last
    ·simp[Aa e5,← e6,← e8]
     intros
     refine Ae I9 (Kv e7) rfl ⟨.same rfl,trivial⟩ ?_
     try simp[Aa e5,← e6,← e8]
     intros;rfl
    obtain rfl:=oi h
    refine nP_i ?_
    refine Weak.mixN [] hn0 (by decide) ?_ ?_ rfl
    all_goals first|(simp[Ab,Ac,pickOb];done)|rfl
  |false =>
   replace h:=iteF rfl h
   apply AW.last
   ·simp[Aa e5,← e6]
    intros;rfl
   obtain rfl:=oi h
   refine nP_i ?_
   refine Weak.mixN [] hn0 (by decide) ?_ ?_ rfl
   all_goals first|(simp[Ab,Ac,pickOb];done)|rfl
 ·rintro e s hp
  obtain⟨rfl,hw⟩:=hp
  refine⟨_,hw,?_⟩
  try simp only[nm]
  obtain rfl:=oi h
  refine AW.ret ?_
  refine Left.plain hnb (by simp[Tryz.f7,resV,resC,comp];rfl) rfl rfl ?_
  simp
theorem Fg:Enters Tryz.prog 7:=enters Tryz.func7 (by kernel_rfl) rfl
end Go.Proofs.YtlbdhlbbkibgpaaGreat
namespace Go.Proofs.YtlbdhlbbkibgpaaGreat
open Go Go.RowKit
def Fy (n:Nat) (a0:Node) (a1:List Effect):Option Node :=
bn (BU n a0.db a1) fun v1 =>
bn (CP n a0.feed a1) fun v2 =>
some (⟨a0.count,a0.id,a0.master,a0.epoch,a0.voted,a0.claims,v1,a0.moves,a0.last,a0.seen,v2,a0.watch,a0.asked,a0.votes,a0.wait⟩:Node)
end Go.Proofs.YtlbdhlbbkibgpaaGreat
