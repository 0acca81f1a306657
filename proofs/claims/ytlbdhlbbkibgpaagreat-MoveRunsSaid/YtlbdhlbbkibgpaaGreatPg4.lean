/- Part 4 of the proof. -/
import Derived.Test.YtlbdhlbbkibgpaaGreatPg3
set_option linter.unusedVariables false
set_option linter.unusedSimpArgs false
set_option linter.constructorNameAsVariable false
set_option maxRecDepth 8000
set_option maxHeartbeats 8000000
namespace Go.Proofs.YtlbdhlbbkibgpaaGreat
open Go Go.RowKit
def Fq (n:Nat) (a0:Int):Option Watch :=
lt (minI a0 8) fun v1 =>
lt (maxI 0 v1) fun v2 =>
chk (mkB v2 8) <|
lt (List.replicate v2.toNat 0) fun v4 =>
chk (mkB v2 24) <|
lt (List.replicate v2.toNat []) fun v6 =>
chk (room v4.length 1) <|
some (⟨v4,v6⟩:Watch)
theorem Kz {n:Nat} {a0:Int} {r:Watch} (h:Fq n a0=some r):Sound Tryz.prog 63 [.l (iA a0)] [] (.g [dC r.heard,.d false 1 (AM r.says)]) []:=by
 unfold Fq at h;refine SO 12 Tryz.func63 fun cx hG (hz:cx.nb=0)=>?_;simp only[it];refine ST ?_;obtain⟨v1,e1,v2,e2,h⟩:=oll h;refine AW.step (by simp[← e1,← e2];intros;rfl) ?_;obtain⟨e3,v4,e4,h⟩:=ocl h;obtain⟨e5,v6,e6,h⟩:=ocl h;apply zM (V:=[_,_,_,_]) (M:=[[some ⟨36,2,false,none,[.s (.slice none 0 0),.s (.slice none 0 0)]⟩],[some ⟨36,2,false,none,[.s (.slice none 0 0),.s (.slice none 0 0)]⟩,some ⟨3,1,true,none,lvs (encI v4)⟩]]) mixed [⟨[0],[],[(3,none)],false⟩,⟨[0],[0],[(7,some 0)],true⟩,⟨[0,1],[],[(3,none)],false⟩,⟨[0,1],[2],[(9,some 2)],false⟩,⟨[],[0,1,2,3],[],false⟩,⟨[],[0,1,2,3,4],[],false⟩] 4 1 (by kernel_rfl) (by kernel_rfl)
 ·rfl
 ·refine⟨?_,?_,⟨?_,?_⟩,⟨?_,?_⟩,trivial⟩
  ·intro tm hr;simp[AllL,rdV] at hr;simp[hr];intros;exact KA
  ·intro tm hr;simp[AllL,rdV] at hr;simp[hr];intros;refine RX (enc:=encI) (fun _=>rfl) e4 Hh Ig ⟨rfl,rfl,by decide⟩ (Oz e3) rfl ?_;try simp[]
   intros;exact KA
  iterate 2 (· intro tm hr;simp[AllL,rdV] at hr;simp[hr];intros;exact KA)
  ·intro tm hr;simp[AllL,rdV] at hr;simp[hr];intros;refine Mk (enc:=AM) (fun _=>rfl) e6 Kp Ko ⟨rfl,rfl,by decide⟩ (Oz e5) (by simp[All2,lvs]) rfl ?_;try simp[]
   intros;exact KA
  ·intro tm hr;simp[AllL,rdV] at hr;simp[hr];intros;refine Mk (enc:=AM) (fun _=>rfl) e6 Kp Ko ⟨rfl,rfl,by decide⟩ (Oz e5) (by simp[All2,lvs]) rfl ?_;try simp[]
   intros;exact KA
 ·rfl
 ·simp[tmD,putD];rfl
 ·simp;intros;rfl
 obtain⟨e7,h⟩:=chkE h;refine FZ 1 3 1 (El v4) e7 ?_;obtain rfl:=oi h;apply AW.ret;exact LP hz
theorem J2:Enters Tryz.prog 63:=enters Tryz.func63 (by kernel_rfl) rfl
def Fr (n:Nat) (a0:Int) (a1:Int) (a2:Int):Option Node :=
lt (minI a0 8) fun v1 =>
lt (maxI 1 v1) fun v2 =>
lt (minI a2 v2) fun v3 =>
lt (maxI 1 v3) fun v4 =>
lt (subI .i64 v2 1) fun v5 =>
lt (minI a1 v5) fun v6 =>
lt (maxI 0 v6) fun v7 =>
bn (Fq n v2) fun v8 =>
bn (lt (geI v7 v4) fun v10 =>
ite' v10 (bn (remI .i64 v7 v4) fun v11 =>
some (v11)) (some (-1))) fun (y9:Int) =>
bn (lt (geI y9 0) fun v13 =>
ite' v13 (some (y9)) (some (v7))) fun (y12:Int) =>
bn (iter n (fun (y14:Int×List Claim) =>
lt (ltI y14.1 v4) fun v17 =>
ite' v17 (lt (mulI .i64 y14.1 16384) fun v18 =>
bn (quoI .i64 v18 v4) fun v19 =>
lt (addI .i64 y14.1 1) fun v20 =>
lt (mulI .i64 v20 16384) fun v21 =>
bn (quoI .i64 v21 v4) fun v22 =>
lt (subI .i64 v22 1) fun v23 =>
chk (room (y14.2.length+1) 32) <|
lt (y14.2++[(⟨v19,v23,y14.1,1⟩:Claim)]) fun v25 =>
some (.inl (v20,v25))) (some (.inr y14.2))) (0,[])) fun (y15:List Claim) =>
chk (room y15.length 1) <|
some (⟨v2,v7,y9,1,0,y15,[],[],0,[],(⟨(⟨y12,0⟩:Rid),0,[],(⟨0,0⟩:Rid),0⟩:Feed),v8,0,[],0⟩:Node)
theorem PV {n:Nat} {a0:Int} {a1:Int} {a2:Int} {r:Node} (h:Fr n a0 a1 a2=some r):Sound Tryz.prog 28 [.l (iA a0),.l (iA a1),.l (iA a2)] [] (.g (cA0 r)) []:=by
 unfold Fr at h;refine SO 72 Tryz.func28 fun cx hG (hz:cx.nb=0)=>?_;simp only[it];refine ST ?_;obtain⟨v1,e1,v2,e2,h⟩:=oll h;refine AW.step (by simp[← e1,← e2];intros;rfl) ?_;obtain⟨v3,e3,v4,e4,h⟩:=oll h;refine AW.step (by simp[← e3,← e4];intros;rfl) ?_;obtain⟨v5,e5,v6,e6,v7,e7,h⟩:=olll h;obtain⟨v8,e8,h⟩:=bnE h;apply AW.step
 ·simp[← e5,← e6,← e7];intros;refine Ab J2 (Kz e8) rfl ⟨.same rfl,trivial⟩ ?_;try simp[← e5,← e6,← e7]
  intros;rfl
 obtain⟨y9,g9,h⟩:=bnE h;refine zC (p:=fun gh ls=>(nP (cx:=cx) (fun q=>(⟨[(6,.l (.p 0 0)),(8,.l (iA v4)),(9,.l (.p 1 0))],[some ⟨38,22,false,none,cB0⟩,some ⟨38,22,false,none,[iA v2,iA v7,iA q,iA 1,iA 0,.s (.slice none 0 0),.s (.slice none 0 0),.s (.slice none 0 0),iA 0,.s (.slice none 0 0),iA 0,iA 0,iA 0,.s (.slice none 0 0),iA 0,iA 0,iA 0,dC v8.heard,.d false 1 (AM v8.says),iA 0,.s (.slice none 0 0),iA 0]⟩],72,gh,ls⟩:St))) y9) ?_ ?_
 ·replace h:=g9;clear g9
  obtain⟨v10,e10,h⟩:=ltE h;refine AW.step (by simp[← e10];intros;rfl) ?_;cases v10 with
  |true=>
   replace h:=iT h;refine CT ?_;obtain⟨v11,e11,h⟩:=bnE h;refine AW.last (by simp[e11];intros;rfl) ?_;obtain rfl:=oi h;exact nP_i (WM [0,1] hz)
  |false=>
   replace h:=iF h;refine CF ?_;apply AW.skip;try simp only[nm]
   obtain rfl:=oi h;exact nP_i (WM [0,1] hz)
 ·rintro e s⟨rfl,hw⟩;refine⟨_,hw,?_⟩;try simp only[nm]
  refine ST ?_;obtain⟨y12,g12,h⟩:=bnE h;refine zC (p:=fun gh ls=>(nP (cx:=cx) (fun q=>(⟨[(6,.l (.p 0 0)),(8,.l (iA v4)),(9,.l (.p 1 0))],[some ⟨38,22,false,none,cB0⟩,some ⟨38,22,false,none,[iA v2,iA v7,iA y9,iA 1,iA 0,.s (.slice none 0 0),.s (.slice none 0 0),.s (.slice none 0 0),iA 0,.s (.slice none 0 0),iA q,iA 0,iA 0,.s (.slice none 0 0),iA 0,iA 0,iA 0,dC v8.heard,.d false 1 (AM v8.says),iA 0,.s (.slice none 0 0),iA 0]⟩],72,gh,ls⟩:St))) y12) ?_ ?_
  ·replace h:=g12;clear g12
   obtain⟨v13,e13,h⟩:=ltE h;refine AW.step (by simp[← e13];intros;rfl) ?_;cases v13 with
   |true=>
    replace h:=iT h;refine CT ?_;refine SL ?_;obtain rfl:=oi h;exact nP_i (WM [0,1] hz)
   |false=>
    replace h:=iF h;refine CF ?_;apply AW.skip;try simp only[nm]
    obtain rfl:=oi h;exact nP_i (WM [0,1] hz)
  ·rintro e s⟨rfl,hw⟩;refine⟨_,hw,?_⟩;try simp only[nm]
   apply AW.seq;refine ST ?_;apply AW.block;obtain⟨y15,g15,h⟩:=bnE h;refine zD g15 (mk:=fun gh ls q=>(⟨[(6,.l (.p 0 0)),(8,.l (iA v4)),(9,.l (.p 1 0)),(10,.l (iA q.1))],[some ⟨38,22,false,none,cB0⟩,some ⟨38,22,false,none,[iA v2,iA v7,iA y9,iA 1,iA 0,.r 2 4 0 q.2.length,.s (.slice none 0 0),.s (.slice none 0 0),iA 0,.s (.slice none 0 0),iA y12,iA 0,iA 0,.s (.slice none 0 0),iA 0,iA 0,iA 0,dC v8.heard,.d false 1 (AM v8.says),iA 0,.s (.slice none 0 0),iA 0]⟩,some ⟨81,4,true,none,lvs (Aq q.2)⟩],72,gh,ls⟩:St)) (N:=fun gh ls=>(xP 0 (cx:=cx) (fun q=>(⟨[(6,.l (.p 0 0)),(9,.l (.p 1 0))],[some ⟨38,22,false,none,cB0⟩,some ⟨38,22,false,none,[iA v2,iA v7,iA y9,iA 1,iA 0,.r 2 4 0 q.length,.s (.slice none 0 0),.s (.slice none 0 0),iA 0,.s (.slice none 0 0),iA y12,iA 0,iA 0,.s (.slice none 0 0),iA 0,iA 0,iA 0,dC v8.heard,.d false 1 (AM v8.says),iA 0,.s (.slice none 0 0),iA 0]⟩,some ⟨81,4,true,none,lvs (Aq q)⟩],72,gh,ls⟩:St)))) ?_ noX ?_ ?_
   ·refine W.nilCell 1 5 81 4 2 rfl rfl rfl rfl rfl ?_;exact WM [0,1,2] hz
   ·clear h;intro y14 y16 h
    apply AW.seq;obtain⟨v17,e17,h⟩:=ltE h;refine AW.step (by simp[← e17];intros;rfl) ?_;cases v17 with
    |true=>
     replace h:=iT h;refine CT ?_;apply AW.skip;try simp only[nm]
     apply AW.seq;apply AW.block;obtain⟨v18,e18,v19,e19,h⟩:=olb h;obtain⟨v20,e20,v21,e21,h⟩:=oll h;obtain⟨v22,e22,v23,e23,h⟩:=obl h;obtain⟨e24,v25,e25,h⟩:=ocl h;apply zT (V:=[_,_,_,_,_,_,_,_,_,_,_,_,_,_,_]) (M:=[[some ⟨38,22,false,none,cB0⟩,some ⟨38,22,false,none,[iA v2,iA v7,iA y9,iA 1,iA 0,.r 2 4 0 y14.2.length,.s (.slice none 0 0),.s (.slice none 0 0),iA 0,.s (.slice none 0 0),iA y12,iA 0,iA 0,.s (.slice none 0 0),iA 0,iA 0,iA 0,dC v8.heard,.d false 1 (AM v8.says),iA 0,.s (.slice none 0 0),iA 0]⟩,some ⟨81,4,true,none,lvs (Aq y14.2)⟩],[some ⟨38,22,false,none,cB0⟩,some ⟨38,22,false,none,[iA v2,iA v7,iA y9,iA 1,iA 0,.r 2 4 0 y14.2.length,.s (.slice none 0 0),.s (.slice none 0 0),iA 0,.s (.slice none 0 0),iA y12,iA 0,iA 0,.s (.slice none 0 0),iA 0,iA 0,iA 0,dC v8.heard,.d false 1 (AM v8.says),iA 0,.s (.slice none 0 0),iA 0]⟩,some ⟨81,4,true,none,lvs (Aq y14.2)⟩,some ⟨81,4,true,none,[iA v19,iA v23,iA y14.1,iA 1]⟩]]) mixed [⟨[0,1],[],[(9,none)],false⟩,⟨[0,1],[0],[(54,some 0)],false⟩,⟨[0],[],[(10,none)],false⟩,⟨[0],[2],[(56,some 2)],false⟩,⟨[0],[],[(8,none)],false⟩,⟨[0],[2,3,4],[(57,some 3),(58,some 4)],false⟩,⟨[0],[],[(10,none)],false⟩,⟨[0],[6],[(60,some 6)],false⟩,⟨[0],[6,7],[(61,some 7)],false⟩,⟨[0],[],[(8,none)],false⟩,⟨[0],[6,7,8,9],[(62,some 8),(63,some 9)],false⟩,⟨[0],[6,7,8,9,10],[(64,some 10)],false⟩,⟨[0],[],[(10,none)],false⟩,⟨[0],[2,3,4,5,6,7,8,9,10,11,12],[(59,some 5),(65,some 11),(66,some 12)],false⟩,⟨[0],[2,3,4,5,6,7,8,9,10,11,12,13],[(67,some 13)],true⟩,⟨[],[0,1,2,3,4,5,6,7,8,9,10,11,12,13,14],[],false⟩,⟨[],[0,1,2,3,4,5,6,7,8,9,10,11,12,13,14,15],[],false⟩,⟨[],[0,1,2,3,4,5,6,7,8,9,10,11,12,13,14,15,16],[],false⟩] 15 1 (by kernel_rfl) (by kernel_rfl)
     ·rfl
     ·refine⟨⟨?_,?_⟩,⟨?_,?_⟩,?_,?_,?_,?_,?_,?_,?_,?_,?_,?_,?_,?_,?_,trivial⟩;iterate 16 (· intro tm hr;simp[AllL,rdV] at hr;simp[hr,← e18,e19,← e20,← e21,e22,← e23,← AZ,← e25,Ar e25];intros;exact KA)
      ·intro tm hr;simp[AllL,rdV] at hr;simp[hr,← e18,e19,← e20,← e21,e22,← e23,← AZ,← e25,Ar e25];intros;refine Ax ?_;try simp[← e18,e19,← e20,← e21,e22,← e23,← AZ,← e25,Ar e25]
       intros;exact KA
     ·rfl
     ·simp[tmD,putD,← e18,e19,← e20,← e21,e22,← e23,← AZ,← e25,Ar e25];rfl
     ·simp[← e18,e19,← e20,← e21,e22,← e23,← AZ,← e25,Ar e25];intros;refine AD (acc:=Aq y14.2) (ys:=Aq [(⟨v19,v23,y14.1,1⟩:Claim)]) (cap:=none) (k:=1) Hf He (by simp) (by simp[Aq,lvs]) (BK _) (by simp) (by simp) (by first|(simp;done)|simpa using (Aw e24).1) ?_;try simp[← e18,e19,← e20,← e21,e22,← e23,← AZ,← e25,Ar e25]
      intros;rfl
     try simp only[nm]
     refine AW.last (by simp[← e20];intros;rfl) ?_;obtain rfl:=oi h;refine nP_i ?_;refine zG [some 0,some 1,some 4] hz (by decide) ?_ ?_ rfl;all_goals first|(simp[Ae,Af,pickOb,CQ];done)|rfl
    |false=>
     replace h:=iF h;refine CF ?_;apply AW.exit;try simp only[nm]
     obtain rfl:=oi h;refine xP_i ?_;exact WM [0,1,2] hz
   ·rintro e s⟨rfl,hw⟩;refine⟨_,hw,?_⟩;try simp only[nm]
    refine ST ?_;obtain⟨e26,h⟩:=chkE h;refine FZ 2 81 4 (BK y15) e26 ?_;refine AW.nilCellD 0 6 6 rfl rfl rfl rfl ?_;refine AW.nilCellD 0 7 4 rfl rfl rfl rfl ?_;refine AW.nilCellD 0 9 3 rfl rfl rfl rfl ?_;refine AW.nilCellD 0 13 7 rfl rfl rfl rfl ?_;refine AW.nilCellD 0 20 1 rfl rfl rfl rfl ?_;obtain rfl:=oi h;apply AW.ret;exact LP hz
theorem OT:Enters Tryz.prog 28:=enters Tryz.func28 (by kernel_rfl) rfl
def Dc (n:Nat) (a0:Int) (a1:List Int):Option Node :=
lt (cvI .i64 a0) fun v1 =>
bn (remI .i64 v1 4) fun v2 =>
bn (Fr n 4 v2 4) fun v3 =>
bn (Cd n a1) fun v4 =>
chk (room 1 1) <|
some (⟨v3.count,v3.id,v3.master,v3.epoch,v3.voted,[(⟨0,16383,v3.id,1⟩:Claim)],v4,v3.moves,v3.last,v3.seen,v3.feed,v3.watch,v3.asked,v3.votes,v3.wait⟩:Node)
theorem HH {n:Nat} {a0:Int} {a1:List Int} {r:Node} (h:Dc n a0 a1=some r):Sound Tryz.prog 8 [.l (.s (.int .u8 a0)),.l (dF a1)] [] (.g (cA0 r)) []:=by
 unfold Dc at h;refine SO 19 Tryz.func8 fun cx hG (hz:cx.nb=0)=>?_;simp only[it];refine ST ?_;obtain⟨v1,e1,v2,e2,h⟩:=olb h;obtain⟨v3,e3,h⟩:=bnE h;apply AW.step
 ·simp[← e1,e2];intros;refine Ab OT (PV e3) rfl ⟨.same rfl,.same rfl,.same rfl,trivial⟩ ?_;try simp[← e1,e2]
  intros;rfl
 apply AW.step
 ·simp;intros;refine Ax ?_;try simp
  intros;rfl
 obtain⟨v4,e4,h⟩:=bnE h;apply AW.step
 ·simp;intros;refine Ab Nv (OS e4) rfl ⟨.same rfl,trivial⟩ ?_;try simp
  intros;rfl
 refine ST ?_;obtain⟨e5,h⟩:=chkE h;refine AW.frzRow 2 (ty:=81) (cap:=none) (sz:=4) (es:=Aq [(⟨0,16383,v3.id,1⟩:Claim)]) (by simp[CQ]) (by omega) (BK _) (by first|exact (Aw e5).2|simpa using (Aw e5).2|simp) (by simp[Tm.frz,AV.frz,LV.frz,(show List.take 1 (Aq [(⟨0,16383,v3.id,1⟩:Claim)])=Aq [(⟨0,16383,v3.id,1⟩:Claim)] from rfl)];rfl) (by simp[Ob.frz,LV.frz,(show List.take 1 (Aq [(⟨0,16383,v3.id,1⟩:Claim)])=Aq [(⟨0,16383,v3.id,1⟩:Claim)] from rfl)];rfl) rfl ?_;obtain rfl:=oi h;apply AW.ret;exact LP hz
theorem G5:Enters Tryz.prog 8:=enters Tryz.func8 (by kernel_rfl) rfl
def BV (n:Nat) (a0:Item):Option Item :=
chk (small 32 a0.f) <|
chk (small 16 a0.l) <|
chk (room a0.f.length 1) <|
chk (room a0.l.length 1) <|
some a0
theorem Ip {n:Nat} {a0:Item} {r:Item} (h:BV n a0=some r):Sound Tryz.prog 70 [.g (cE0 a0)] [] (.g (cE0 r)) []:=by
 unfold BV at h;refine SO 12 Tryz.func70 fun cx hG (hz:cx.nb=0)=>?_;simp only[it];refine ST ?_;obtain⟨e1,h⟩:=chkE h;obtain⟨e2,h⟩:=chkE h;apply zM (V:=[_,_,_,_,_,_,_]) (M:=[[some ⟨57,5,false,none,(cE0 a0)⟩,some ⟨57,5,false,none,cP0⟩],[some ⟨57,5,false,none,(cE0 a0)⟩,some ⟨57,5,false,none,cP0⟩,some ⟨157,2,true,none,lvs (Av a0.f)⟩],[some ⟨57,5,false,none,(cE0 a0)⟩,some ⟨57,5,false,none,cP0⟩,some ⟨157,2,true,none,lvs (Av a0.f)⟩,some ⟨9,1,true,none,lvs (encS a0.l)⟩]]) mixed [⟨[0],[],[(1,none)],false⟩,⟨[0],[0],[(3,some 0)],false⟩,⟨[0],[0,1],[(4,some 1)],true⟩,⟨[0,1],[],[(1,none)],false⟩,⟨[0,1],[3],[(6,some 3)],false⟩,⟨[1],[0,1,2,3,4],[(7,some 4)],true⟩,⟨[1,2],[0,1,2,3,4],[(1,none)],false⟩,⟨[],[0,1,2,3,4,5,6],[],false⟩,⟨[],[0,1,2,3,4,5,6,7],[],false⟩,⟨[],[0,1,2,3,4,5,6,7,8],[],false⟩] 7 2 (by kernel_rfl) (by kernel_rfl)
 ·rfl
 ·refine⟨?_,?_,?_,⟨?_,?_⟩,⟨?_,?_⟩,?_,⟨?_,?_⟩,trivial⟩;iterate 2 (· intro tm hr;simp[AllL,rdV] at hr;simp[hr,outR];intros;exact KA)
  ·intro tm hr;simp[AllL,rdV] at hr;simp[hr,outR];intros;refine AS I6 (JW a0.f (B0 e1)) rfl (by simp) ⟨.d _ _ _,trivial⟩ ?_;try simp[outR]
   intros;exact KA
  iterate 4 (· intro tm hr;simp[AllL,rdV] at hr;simp[hr,outR];intros;exact KA)
  ·intro tm hr;simp[AllL,rdV] at hr;simp[hr,outR];intros;refine AS N7 (PK a0.l (B0 e2)) rfl (by simp) ⟨.d _ _ _,trivial⟩ ?_;try simp[outR]
   intros;exact KA
  iterate 2 (· intro tm hr;simp[AllL,rdV] at hr;simp[hr,outR];intros;exact KA)
 ·rfl
 ·simp[tmD,putD,outR];rfl
 ·simp[outR];intros;rfl
 refine ST ?_;obtain⟨e3,h⟩:=chkE h;refine FZ 2 157 2 (DR a0.f) e3 ?_;obtain⟨e4,h⟩:=chkE h;refine FZ 3 9 1 (Dh a0.l) e4 ?_;obtain rfl:=oi h;apply AW.ret;exact LP hz
theorem HW:Enters Tryz.prog 70:=enters Tryz.func70 (by kernel_rfl) rfl
def Bm (n:Nat) (a0:Node):Option Node :=
chk (small 32 a0.claims) <|
chk (small 40 a0.moves) <|
chk (small 24 a0.seen) <|
chk (small 8 a0.votes) <|
chk (small 96 a0.db) <|
chk (small 104 a0.feed.back) <|
lt (lenI a0.db) fun v7 =>
bn (iter n (fun (y8:Int×List Pair) =>
lt (ltI y8.1 v7) fun v11 =>
ite' v11 (bn (nth y8.2 y8.1) fun v12 =>
bn (BV n v12.item) fun v14 =>
lt (y8.2.set y8.1.toNat (⟨v12.key,v14⟩:Pair)) fun v16 =>
lt (addI .i64 y8.1 1) fun v20 =>
some (.inl (v20,v16))) (some (.inr y8.2))) (0,a0.db)) fun (y9:List Pair) =>
lt (lenI a0.feed.back) fun v21 =>
bn (iter n (fun (y22:Int×List Effect) =>
lt (ltI y22.1 v21) fun v25 =>
ite' v25 (bn (nth y22.2 y22.1) fun v26 =>
bn (BV n v26.item) fun v28 =>
lt (y22.2.set y22.1.toNat (⟨v26.key,v26.gone,v28⟩:Effect)) fun v30 =>
lt (addI .i64 y22.1 1) fun v34 =>
some (.inl (v34,v30))) (some (.inr y22.2))) (0,a0.feed.back)) fun (y23:List Effect) =>
chk (small 8 a0.watch.heard) <|
chk (small 24 a0.watch.says) <|
lt (lenI a0.watch.says) fun v37 =>
bn (iter n (fun (y38:Int×List (List Int)) =>
lt (ltI y38.1 v37) fun v41 =>
ite' v41 (bn (nth y38.2 y38.1) fun v42 =>
chk (small 8 v42) <|
lt (y38.2.set y38.1.toNat v42) fun v46 =>
lt (addI .i64 y38.1 1) fun v49 =>
some (.inl (v49,v46))) (some (.inr y38.2))) (0,a0.watch.says)) fun (y39:List (List Int)) =>
chk (room a0.claims.length 1) <|
chk (room y9.length 1) <|
chk (room y23.length 1) <|
chk (room a0.watch.heard.length 1) <|
chk (room y39.length 1) <|
chk (room a0.votes.length 1) <|
some (⟨a0.count,a0.id,a0.master,a0.epoch,a0.voted,a0.claims,y9,a0.moves,a0.last,a0.seen,(⟨a0.feed.rid,a0.feed.off,y23,a0.feed.prev,a0.feed.upto⟩:Feed),(⟨a0.watch.heard,y39⟩:Watch),a0.asked,a0.votes,a0.wait⟩:Node)
theorem DE {n:Nat} {a0:Node} {r:Node} (h:Bm n a0=some r):Sound Tryz.prog 33 [.g (cA0 a0)] [] (.g (cI0 r (.r 0 4 0 r.moves.length) (.r 1 3 0 r.seen.length))) [some ⟨92,4,true,none,lvs (Am r.moves)⟩,some ⟨100,3,true,none,lvs (Ap r.seen)⟩]:=by
 unfold Bm at h;refine SO 104 Tryz.func33 fun cx hG (hz:cx.nb=0)=>?_;simp only[it];refine ST ?_;obtain⟨e1,h⟩:=chkE h;obtain⟨e2,h⟩:=chkE h;obtain⟨e3,h⟩:=chkE h;obtain⟨e4,h⟩:=chkE h;apply zM (V:=[_,_,_,_,_,_,_,_,_,_,_,_,_]) (M:=[[some ⟨38,22,false,none,(cA0 a0)⟩,some ⟨38,22,false,none,cB0⟩],[some ⟨38,22,false,none,(cA0 a0)⟩,some ⟨38,22,false,none,cB0⟩,some ⟨81,4,true,none,lvs (Aq a0.claims)⟩],[some ⟨38,22,false,none,(cA0 a0)⟩,some ⟨38,22,false,none,cB0⟩,some ⟨81,4,true,none,lvs (Aq a0.claims)⟩,some ⟨92,4,true,none,lvs (Am a0.moves)⟩],[some ⟨38,22,false,none,(cA0 a0)⟩,some ⟨38,22,false,none,cB0⟩,some ⟨81,4,true,none,lvs (Aq a0.claims)⟩,some ⟨92,4,true,none,lvs (Am a0.moves)⟩,some ⟨100,3,true,none,lvs (Ap a0.seen)⟩],[some ⟨38,22,false,none,(cA0 a0)⟩,some ⟨38,22,false,none,cB0⟩,some ⟨81,4,true,none,lvs (Aq a0.claims)⟩,some ⟨92,4,true,none,lvs (Am a0.moves)⟩,some ⟨100,3,true,none,lvs (Ap a0.seen)⟩,some ⟨3,1,true,none,lvs (encI a0.votes)⟩]]) mixed [⟨[0],[],[(1,none)],false⟩,⟨[0],[0],[(7,some 0)],false⟩,⟨[0],[0,1],[(8,some 1)],true⟩,⟨[0,1],[],[(1,none)],false⟩,⟨[0,1],[3],[(10,some 3)],false⟩,⟨[1],[0,1,2,3,4],[(11,some 4)],true⟩,⟨[0,1,2],[],[(1,none)],false⟩,⟨[0,1,2],[6],[(13,some 6)],false⟩,⟨[2],[0,1,2,3,4,5,6,7],[(14,some 7)],true⟩,⟨[0,1,2,3],[],[(1,none)],false⟩,⟨[0,1,2,3],[9],[(16,some 9)],false⟩,⟨[3],[0,1,2,3,4,5,6,7,8,9,10],[(17,some 10)],true⟩,⟨[1,2,3,4],[0,1,2,3,4,6,7,9,10],[(1,none)],false⟩,⟨[],[0,1,2,3,4,5,6,7,8,9,10,11,12],[],false⟩,⟨[],[0,1,2,3,4,5,6,7,8,9,10,11,12,13],[],false⟩,⟨[],[0,1,2,3,4,5,6,7,8,9,10,11,12,13,14],[],false⟩,⟨[],[0,1,2,3,4,5,6,7,8,9,10,11,12,13,14,15],[],false⟩,⟨[],[0,1,2,3,4,5,6,7,8,9,10,11,12,13,14,15,16],[],false⟩,⟨[],[0,1,2,3,4,5,6,7,8,9,10,11,12,13,14,15,16,17],[],false⟩,⟨[],[0,1,2,3,4,5,6,7,8,9,10,11,12,13,14,15,16,17,18],[],false⟩] 13 4 (by kernel_rfl) (by kernel_rfl)
 ·rfl
 ·refine⟨?_,?_,?_,⟨?_,?_⟩,⟨?_,?_⟩,?_,⟨?_,?_,?_⟩,⟨?_,?_,?_⟩,?_,⟨?_,?_,?_,?_⟩,⟨?_,?_,?_,?_⟩,?_,⟨?_,?_,?_,?_⟩,trivial⟩;iterate 2 (· intro tm hr;simp[AllL,rdV] at hr;simp[hr,outR];intros;exact KA)
  ·intro tm hr;simp[AllL,rdV] at hr;simp[hr,outR];intros;refine AS Nk (OE a0.claims (B0 e1)) rfl (by simp) ⟨.d _ _ _,trivial⟩ ?_;try simp[outR]
   intros;exact KA
  iterate 4 (· intro tm hr;simp[AllL,rdV] at hr;simp[hr,outR];intros;exact KA)
  ·intro tm hr;simp[AllL,rdV] at hr;simp[hr,outR];intros;refine AS OF (PI a0.moves (B0 e2)) rfl (by simp) ⟨.d _ _ _,trivial⟩ ?_;try simp[outR]
   intros;exact KA
  iterate 6 (· intro tm hr;simp[AllL,rdV] at hr;simp[hr,outR];intros;exact KA)
  ·intro tm hr;simp[AllL,rdV] at hr;simp[hr,outR];intros;refine AS OG (PJ a0.seen (B0 e3)) rfl (by simp) ⟨.d _ _ _,trivial⟩ ?_;try simp[outR]
   intros;exact KA
  iterate 8 (· intro tm hr;simp[AllL,rdV] at hr;simp[hr,outR];intros;exact KA)
  ·intro tm hr;simp[AllL,rdV] at hr;simp[hr,outR];intros;refine AS Ku (Mt a0.votes (B0 e4)) rfl (by simp) ⟨.d _ _ _,trivial⟩ ?_;try simp[outR]
   intros;exact KA
  iterate 4 (· intro tm hr;simp[AllL,rdV] at hr;simp[hr,outR];intros;exact KA)
 ·rfl
 ·simp[tmD,putD,outR];rfl
 ·simp[outR];intros;rfl
 obtain⟨e5,h⟩:=chkE h;obtain⟨e6,h⟩:=chkE h;apply zM (V:=[_,_,_,_,_,_,_,_]) (M:=[[some ⟨38,22,false,none,(cN0 a0 (.r 2 4 0 a0.claims.length) (.r 3 4 0 a0.moves.length) (.r 4 3 0 a0.seen.length) (.r 5 1 0 a0.votes.length))⟩,some ⟨38,22,false,none,cB0⟩,some ⟨81,4,true,none,lvs (Aq a0.claims)⟩,some ⟨92,4,true,none,lvs (Am a0.moves)⟩,some ⟨100,3,true,none,lvs (Ap a0.seen)⟩,some ⟨3,1,true,none,lvs (encI a0.votes)⟩],[some ⟨38,22,false,none,(cN0 a0 (.r 2 4 0 a0.claims.length) (.r 3 4 0 a0.moves.length) (.r 4 3 0 a0.seen.length) (.r 5 1 0 a0.votes.length))⟩,some ⟨38,22,false,none,cB0⟩,some ⟨81,4,true,none,lvs (Aq a0.claims)⟩,some ⟨92,4,true,none,lvs (Am a0.moves)⟩,some ⟨100,3,true,none,lvs (Ap a0.seen)⟩,some ⟨3,1,true,none,lvs (encI a0.votes)⟩,some ⟨114,6,true,none,lvs (Ao a0.db)⟩],[some ⟨38,22,false,none,(cN0 a0 (.r 2 4 0 a0.claims.length) (.r 3 4 0 a0.moves.length) (.r 4 3 0 a0.seen.length) (.r 5 1 0 a0.votes.length))⟩,some ⟨38,22,false,none,cB0⟩,some ⟨81,4,true,none,lvs (Aq a0.claims)⟩,some ⟨92,4,true,none,lvs (Am a0.moves)⟩,some ⟨100,3,true,none,lvs (Ap a0.seen)⟩,some ⟨3,1,true,none,lvs (encI a0.votes)⟩,some ⟨114,6,true,none,lvs (Ao a0.db)⟩,some ⟨59,7,true,none,lvs (An a0.feed.back)⟩]]) mixed [⟨[0],[],[(1,none)],false⟩,⟨[0],[0],[(23,some 0)],false⟩,⟨[0],[0,1],[(24,some 1)],true⟩,⟨[0,1],[],[(1,none)],false⟩,⟨[0,1],[3],[(26,some 3)],false⟩,⟨[0,1],[3,4],[(27,some 4)],false⟩,⟨[1],[0,1,2,3,4,5],[(28,some 5)],true⟩,⟨[1,2],[0,1,2,3,4,5],[(1,none)],false⟩,⟨[],[0,1,2,3,4,5,6,7],[],false⟩,⟨[],[0,1,2,3,4,5,6,7,8],[],false⟩,⟨[],[0,1,2,3,4,5,6,7,8,9],[],false⟩,⟨[],[0,1,2,3,4,5,6,7,8,9,10],[],false⟩] 8 2 (by kernel_rfl) (by kernel_rfl)
 ·rfl
 ·refine⟨?_,?_,?_,⟨?_,?_⟩,⟨?_,?_⟩,⟨?_,?_⟩,?_,⟨?_,?_⟩,trivial⟩;iterate 2 (· intro tm hr;simp[AllL,rdV] at hr;simp[hr,outR];intros;exact KA)
  ·intro tm hr;simp[AllL,rdV] at hr;simp[hr,outR];intros;refine AS JX (K9 a0.db (B0 e5)) rfl (by simp) ⟨.same rfl,trivial⟩ ?_;try simp[outR]
   intros;exact KA
  iterate 6 (· intro tm hr;simp[AllL,rdV] at hr;simp[hr,outR];intros;exact KA)
  ·intro tm hr;simp[AllL,rdV] at hr;simp[hr,outR];intros;refine AS Il (I5 a0.feed.back (B0 e6)) rfl (by simp) ⟨.same rfl,trivial⟩ ?_;try simp[outR]
   intros;exact KA
  iterate 2 (· intro tm hr;simp[AllL,rdV] at hr;simp[hr,outR];intros;exact KA)
 ·rfl
 ·simp[tmD,putD,outR];rfl
 ·simp[outR];intros;rfl
 apply AW.seq;obtain⟨v7,e7,h⟩:=ltE h;refine AW.step (by simp[Ad e7];intros;rfl) ?_;apply AW.block;obtain⟨y9,g9,h⟩:=bnE h;refine zD g9 (mk:=fun gh ls q=>(⟨[(1,.l (.p 0 0)),(2,.l (.p 1 0)),(35,.l (iA v7)),(36,.l (iA q.1))],[some ⟨38,22,false,none,(cJ0 a0 (.r 2 4 0 a0.claims.length) (.r 3 6 0 q.2.length) (.r 4 4 0 a0.moves.length) (.r 5 3 0 a0.seen.length) (.r 6 7 0 a0.feed.back.length) (.r 7 1 0 a0.votes.length))⟩,some ⟨38,22,false,none,cB0⟩,some ⟨81,4,true,none,lvs (Aq a0.claims)⟩,some ⟨114,6,true,none,lvs (Ao q.2)⟩,some ⟨92,4,true,none,lvs (Am a0.moves)⟩,some ⟨100,3,true,none,lvs (Ap a0.seen)⟩,some ⟨59,7,true,none,lvs (An a0.feed.back)⟩,some ⟨3,1,true,none,lvs (encI a0.votes)⟩],104,gh,ls⟩:St)) (N:=fun gh ls=>(xP 0 (cx:=cx) (fun q=>(⟨[(1,.l (.p 0 0)),(2,.l (.p 1 0))],[some ⟨38,22,false,none,(cJ0 a0 (.r 2 4 0 a0.claims.length) (.r 3 6 0 q.length) (.r 4 4 0 a0.moves.length) (.r 5 3 0 a0.seen.length) (.r 6 7 0 a0.feed.back.length) (.r 7 1 0 a0.votes.length))⟩,some ⟨38,22,false,none,cB0⟩,some ⟨81,4,true,none,lvs (Aq a0.claims)⟩,some ⟨114,6,true,none,lvs (Ao q)⟩,some ⟨92,4,true,none,lvs (Am a0.moves)⟩,some ⟨100,3,true,none,lvs (Ap a0.seen)⟩,some ⟨59,7,true,none,lvs (An a0.feed.back)⟩,some ⟨3,1,true,none,lvs (encI a0.votes)⟩],104,gh,ls⟩:St)))) ?_ noX ?_ ?_
 ·exact WM [0,1,2,6,3,4,7,5] hz
 ·clear h;intro y8 y10 h
  obtain⟨v11,e11,h⟩:=ltE h;refine AW.step (by simp[← e11];intros;rfl) ?_;apply AW.seq;cases v11 with
  |true=>
   replace h:=iT h;refine CT ?_;apply AW.skip;try simp only[nm]
   apply AW.seq;apply AW.block;refine ST ?_;obtain⟨v12,e12,h⟩:=bnE h;have f13:=A0 e12;try simp[Aa e12] at f13
   obtain⟨v14,e14,h⟩:=bnE h;have f15:=A0 e12;try simp[Aa e12,f13,Cb (Aa e12).2 (j:=1) (k:=5) (by decide),Bp (Aa e12).2 (j:=1) (m:=5) (by decide),lvs1] at f15
   obtain⟨v16,e16,h⟩:=ltE h;have f17:=G2 (Aa e12).2 e16 (j:=1) (cs:=(cE0 v14)) (by simp) rfl;try simp at f17
   have f18:=f13;try simp only[AC e16] at f18
   have f19:=f15;try simp only[AC e16] at f19
   apply zF (V:=[_,_,_,_,_,_,_,_,_,_]) mixed [⟨[0],[],[(1,none)],false⟩,⟨[0],[0],[(39,some 0)],false⟩,⟨[0],[],[(3,none)],false⟩,⟨[0],[],[(1,none)],false⟩,⟨[0],[3],[(42,some 3)],false⟩,⟨[0],[],[(3,none)],false⟩,⟨[0],[3,4,5],[(43,some 4),(44,some 5)],false⟩,⟨[0],[3,4,5,6],[(45,some 6)],false⟩,⟨[0],[3,4,5,6,7],[(46,some 7)],false⟩,⟨[0],[3,4,5,6,7,8],[(47,some 8)],false⟩,⟨[],[0,1,2,3,4,5,6,7,8,9],[],false⟩,⟨[],[0,1,2,3,4,5,6,7,8,9,10],[],false⟩,⟨[],[0,1,2,3,4,5,6,7,8,9,10,11],[],false⟩] 10 (by kernel_rfl) (by kernel_rfl)
   ·refine⟨?_,?_,?_,?_,?_,?_,?_,?_,?_,?_,trivial⟩;iterate 9 (· intro tm hr;simp[AllL,rdV] at hr;simp[hr,Aa e12,f13,Cb (Aa e12).2 (j:=1) (k:=5) (by decide),Bp (Aa e12).2 (j:=1) (m:=5) (by decide),lvs1,f15,f17,f18,f19];intros;exact KA)
    ·intro tm hr;simp[AllL,rdV] at hr;simp[hr,Aa e12,f13,Cb (Aa e12).2 (j:=1) (k:=5) (by decide),Bp (Aa e12).2 (j:=1) (m:=5) (by decide),lvs1,f15,f17,f18,f19];intros;refine Ab HW (Ip e14) rfl ⟨.same rfl,trivial⟩ ?_;try simp[Aa e12,f13,Cb (Aa e12).2 (j:=1) (k:=5) (by decide),Bp (Aa e12).2 (j:=1) (m:=5) (by decide),lvs1,f15,f17,f18,f19]
     intros;exact KA
   ·rfl
   ·simp[tmD,putD,Aa e12,f13,Cb (Aa e12).2 (j:=1) (k:=5) (by decide),Bp (Aa e12).2 (j:=1) (m:=5) (by decide),lvs1,f15,f17,f18,f19];rfl
   ·simp[Aa e12,f13,Cb (Aa e12).2 (j:=1) (k:=5) (by decide),Bp (Aa e12).2 (j:=1) (m:=5) (by decide),lvs1,f15,f17,f18,f19];intros;rfl
   try simp only[nm]
   obtain⟨v20,e20,h⟩:=ltE h;refine AW.last (by simp[← e20];intros;rfl) ?_;obtain rfl:=oi h;refine nP_i ?_;refine zG [some 0,some 1,some 2,some 3,some 4,some 5,some 6,some 7] hz (by decide) ?_ ?_ rfl;all_goals first|(simp[Ae,Af,pickOb,AC e16];done)|rfl
  |false=>
   replace h:=iF h;refine CF ?_;apply AW.exit;try simp only[nm]
   obtain rfl:=oi h;refine xP_i ?_;exact WM [0,1,2,3,4,5,6,7] hz
 ·rintro e s⟨rfl,hw⟩;refine⟨_,hw,?_⟩;try simp only[nm]
  apply AW.seq;obtain⟨v21,e21,h⟩:=ltE h;refine AW.step (by simp[Ad e21];intros;rfl) ?_;apply AW.block;obtain⟨y23,g23,h⟩:=bnE h;refine zD g23 (mk:=fun gh ls q=>(⟨[(1,.l (.p 0 0)),(2,.l (.p 1 0)),(55,.l (iA v21)),(56,.l (iA q.1))],[some ⟨38,22,false,none,(cJ0 a0 (.r 2 4 0 a0.claims.length) (.r 3 6 0 y9.length) (.r 4 4 0 a0.moves.length) (.r 5 3 0 a0.seen.length) (.r 6 7 0 q.2.length) (.r 7 1 0 a0.votes.length))⟩,some ⟨38,22,false,none,cB0⟩,some ⟨81,4,true,none,lvs (Aq a0.claims)⟩,some ⟨114,6,true,none,lvs (Ao y9)⟩,some ⟨92,4,true,none,lvs (Am a0.moves)⟩,some ⟨100,3,true,none,lvs (Ap a0.seen)⟩,some ⟨59,7,true,none,lvs (An q.2)⟩,some ⟨3,1,true,none,lvs (encI a0.votes)⟩],104,gh,ls⟩:St)) (N:=fun gh ls=>(xP 2 (cx:=cx) (fun q=>(⟨[(1,.l (.p 0 0)),(2,.l (.p 1 0))],[some ⟨38,22,false,none,(cJ0 a0 (.r 2 4 0 a0.claims.length) (.r 3 6 0 y9.length) (.r 4 4 0 a0.moves.length) (.r 5 3 0 a0.seen.length) (.r 6 7 0 q.length) (.r 7 1 0 a0.votes.length))⟩,some ⟨38,22,false,none,cB0⟩,some ⟨81,4,true,none,lvs (Aq a0.claims)⟩,some ⟨114,6,true,none,lvs (Ao y9)⟩,some ⟨92,4,true,none,lvs (Am a0.moves)⟩,some ⟨100,3,true,none,lvs (Ap a0.seen)⟩,some ⟨59,7,true,none,lvs (An q)⟩,some ⟨3,1,true,none,lvs (encI a0.votes)⟩],104,gh,ls⟩:St)))) ?_ noX ?_ ?_
  ·exact WM [0,1,2,3,4,5,6,7] hz
  ·clear h;intro y22 y24 h
   obtain⟨v25,e25,h⟩:=ltE h;refine AW.step (by simp[← e25];intros;rfl) ?_;apply AW.seq;cases v25 with
   |true=>
    replace h:=iT h;refine CT ?_;apply AW.skip;try simp only[nm]
    apply AW.seq;apply AW.block;refine ST ?_;obtain⟨v26,e26,h⟩:=bnE h;have f27:=A0 e26;try simp[Aa e26] at f27
    obtain⟨v28,e28,h⟩:=bnE h;have f29:=A0 e26;try simp[Aa e26,f27,BD (Aa e26).2 (j:=2) (k:=5) (by decide),Br (Aa e26).2 (j:=2) (m:=5) (by decide),lvs1] at f29
    obtain⟨v30,e30,h⟩:=ltE h;have f31:=HU (Aa e26).2 e30 (j:=2) (cs:=(cE0 v28)) (by simp) rfl;try simp at f31
    have f32:=f27;try simp only[AC e30] at f32
    have f33:=f29;try simp only[AC e30] at f33
    apply zF (V:=[_,_,_,_,_,_,_,_,_,_,_,_]) mixed [⟨[0],[],[(1,none)],false⟩,⟨[0],[0],[(59,some 0)],false⟩,⟨[0],[0,1],[(60,some 1)],false⟩,⟨[0],[],[(4,none)],false⟩,⟨[0],[],[(1,none)],false⟩,⟨[0],[4],[(63,some 4)],false⟩,⟨[0],[4,5],[(64,some 5)],false⟩,⟨[0],[],[(4,none)],false⟩,⟨[0],[4,5,6,7],[(65,some 6),(66,some 7)],false⟩,⟨[0],[4,5,6,7,8],[(67,some 8)],false⟩,⟨[0],[4,5,6,7,8,9],[(68,some 9)],false⟩,⟨[0],[4,5,6,7,8,9,10],[(69,some 10)],false⟩,⟨[],[0,1,2,3,4,5,6,7,8,9,10,11],[],false⟩,⟨[],[0,1,2,3,4,5,6,7,8,9,10,11,12],[],false⟩,⟨[],[0,1,2,3,4,5,6,7,8,9,10,11,12,13],[],false⟩] 12 (by kernel_rfl) (by kernel_rfl)
    ·refine⟨?_,?_,?_,?_,?_,?_,?_,?_,?_,?_,?_,?_,trivial⟩;iterate 11 (· intro tm hr;simp[AllL,rdV] at hr;simp[hr,Aa e26,f27,BD (Aa e26).2 (j:=2) (k:=5) (by decide),Br (Aa e26).2 (j:=2) (m:=5) (by decide),lvs1,f29,f31,f32,f33];intros;exact KA)
     ·intro tm hr;simp[AllL,rdV] at hr;simp[hr,Aa e26,f27,BD (Aa e26).2 (j:=2) (k:=5) (by decide),Br (Aa e26).2 (j:=2) (m:=5) (by decide),lvs1,f29,f31,f32,f33];intros;refine Ab HW (Ip e28) rfl ⟨.same rfl,trivial⟩ ?_;try simp[Aa e26,f27,BD (Aa e26).2 (j:=2) (k:=5) (by decide),Br (Aa e26).2 (j:=2) (m:=5) (by decide),lvs1,f29,f31,f32,f33]
      intros;exact KA
    ·rfl
    ·simp[tmD,putD,Aa e26,f27,BD (Aa e26).2 (j:=2) (k:=5) (by decide),Br (Aa e26).2 (j:=2) (m:=5) (by decide),lvs1,f29,f31,f32,f33];rfl
    ·simp[Aa e26,f27,BD (Aa e26).2 (j:=2) (k:=5) (by decide),Br (Aa e26).2 (j:=2) (m:=5) (by decide),lvs1,f29,f31,f32,f33];intros;rfl
    try simp only[nm]
    obtain⟨v34,e34,h⟩:=ltE h;refine AW.last (by simp[← e34];intros;rfl) ?_;obtain rfl:=oi h;refine nP_i ?_;refine zG [some 0,some 1,some 2,some 3,some 4,some 5,some 6,some 7] hz (by decide) ?_ ?_ rfl;all_goals first|(simp[Ae,Af,pickOb,AC e30];done)|rfl
   |false=>
    replace h:=iF h;refine CF ?_;apply AW.exit;try simp only[nm]
    obtain rfl:=oi h;refine xP_i ?_;exact WM [0,1,2,3,4,5,6,7] hz
  ·rintro e s⟨rfl,hw⟩;refine⟨_,hw,?_⟩;try simp only[nm]
   obtain⟨e35,h⟩:=chkE h;obtain⟨e36,h⟩:=chkE h;apply zM (V:=[_,_,_,_,_,_,_,_,_,_]) (M:=[[some ⟨38,22,false,none,(cJ0 a0 (.r 2 4 0 a0.claims.length) (.r 3 6 0 y9.length) (.r 4 4 0 a0.moves.length) (.r 5 3 0 a0.seen.length) (.r 6 7 0 y23.length) (.r 7 1 0 a0.votes.length))⟩,some ⟨38,22,false,none,cB0⟩,some ⟨81,4,true,none,lvs (Aq a0.claims)⟩,some ⟨114,6,true,none,lvs (Ao y9)⟩,some ⟨92,4,true,none,lvs (Am a0.moves)⟩,some ⟨100,3,true,none,lvs (Ap a0.seen)⟩,some ⟨59,7,true,none,lvs (An y23)⟩,some ⟨3,1,true,none,lvs (encI a0.votes)⟩],[some ⟨38,22,false,none,(cJ0 a0 (.r 2 4 0 a0.claims.length) (.r 3 6 0 y9.length) (.r 4 4 0 a0.moves.length) (.r 5 3 0 a0.seen.length) (.r 6 7 0 y23.length) (.r 7 1 0 a0.votes.length))⟩,some ⟨38,22,false,none,cB0⟩,some ⟨81,4,true,none,lvs (Aq a0.claims)⟩,some ⟨114,6,true,none,lvs (Ao y9)⟩,some ⟨92,4,true,none,lvs (Am a0.moves)⟩,some ⟨100,3,true,none,lvs (Ap a0.seen)⟩,some ⟨59,7,true,none,lvs (An y23)⟩,some ⟨3,1,true,none,lvs (encI a0.votes)⟩,some ⟨3,1,true,none,lvs (encI a0.watch.heard)⟩],[some ⟨38,22,false,none,(cJ0 a0 (.r 2 4 0 a0.claims.length) (.r 3 6 0 y9.length) (.r 4 4 0 a0.moves.length) (.r 5 3 0 a0.seen.length) (.r 6 7 0 y23.length) (.r 7 1 0 a0.votes.length))⟩,some ⟨38,22,false,none,cB0⟩,some ⟨81,4,true,none,lvs (Aq a0.claims)⟩,some ⟨114,6,true,none,lvs (Ao y9)⟩,some ⟨92,4,true,none,lvs (Am a0.moves)⟩,some ⟨100,3,true,none,lvs (Ap a0.seen)⟩,some ⟨59,7,true,none,lvs (An y23)⟩,some ⟨3,1,true,none,lvs (encI a0.votes)⟩,some ⟨3,1,true,none,lvs (encI a0.watch.heard)⟩,some ⟨33,1,true,none,lvs (AM a0.watch.says)⟩]]) mixed [⟨[0],[],[(1,none)],false⟩,⟨[0],[0],[(74,some 0)],false⟩,⟨[0],[0,1],[(75,some 1)],false⟩,⟨[0],[0,1,2],[(76,some 2)],true⟩,⟨[0,1],[],[(1,none)],false⟩,⟨[0,1],[4],[(78,some 4)],false⟩,⟨[0,1],[4,5],[(79,some 5)],false⟩,⟨[1],[0,1,2,3,4,5,6],[(80,some 6)],true⟩,⟨[1,2],[0,1,2,3,4,5,6],[(1,none)],false⟩,⟨[1,2],[0,1,2,3,4,5,6,8],[(82,some 8)],false⟩,⟨[],[0,1,2,3,4,5,6,7,8,9],[],false⟩,⟨[],[0,1,2,3,4,5,6,7,8,9,10],[],false⟩,⟨[],[0,1,2,3,4,5,6,7,8,9,10,11],[],false⟩,⟨[],[0,1,2,3,4,5,6,7,8,9,10,11,12],[],false⟩] 10 2 (by kernel_rfl) (by kernel_rfl)
   ·rfl
   ·refine⟨?_,?_,?_,?_,⟨?_,?_⟩,⟨?_,?_⟩,⟨?_,?_⟩,?_,⟨?_,?_⟩,⟨?_,?_⟩,trivial⟩;iterate 3 (· intro tm hr;simp[AllL,rdV] at hr;simp[hr,outR];intros;exact KA)
    ·intro tm hr;simp[AllL,rdV] at hr;simp[hr,outR];intros;refine AS Ku (Mt a0.watch.heard (B0 e35)) rfl (by simp) ⟨.d _ _ _,trivial⟩ ?_;try simp[outR]
     intros;exact KA
    iterate 6 (· intro tm hr;simp[AllL,rdV] at hr;simp[hr,outR];intros;exact KA)
    ·intro tm hr;simp[AllL,rdV] at hr;simp[hr,outR];intros;refine AS QR (R4 a0.watch.says (B0 e36)) rfl (by simp) ⟨.same rfl,trivial⟩ ?_;try simp[outR]
     intros;exact KA
    iterate 4 (· intro tm hr;simp[AllL,rdV] at hr;simp[hr,outR];intros;exact KA)
   ·rfl
   ·simp[tmD,putD,outR];rfl
   ·simp[outR];intros;rfl
   apply AW.seq;obtain⟨v37,e37,h⟩:=ltE h;refine AW.step (by simp[Ad e37];intros;rfl) ?_;apply AW.block;obtain⟨y39,g39,h⟩:=bnE h;refine zD g39 (mk:=fun gh ls q=>(⟨[(1,.l (.p 0 0)),(2,.l (.p 1 0)),(88,.l (.r 2 1 0 q.2.length)),(89,.l (iA v37)),(90,.l (iA q.1))],[some ⟨38,22,false,none,[iA a0.count,iA a0.id,iA a0.master,iA a0.epoch,iA a0.voted,.r 3 4 0 a0.claims.length,.r 4 6 0 y9.length,.r 5 4 0 a0.moves.length,iA a0.last,.r 6 3 0 a0.seen.length,iA a0.feed.rid.node,iA a0.feed.rid.epoch,iA a0.feed.off,.r 7 7 0 y23.length,iA a0.feed.prev.node,iA a0.feed.prev.epoch,iA a0.feed.upto,.r 8 1 0 a0.watch.heard.length,.r 2 1 0 q.2.length,iA a0.asked,.r 9 1 0 a0.votes.length,iA a0.wait]⟩,some ⟨38,22,false,none,cB0⟩,some ⟨33,1,true,none,lvs (AM q.2)⟩,some ⟨81,4,true,none,lvs (Aq a0.claims)⟩,some ⟨114,6,true,none,lvs (Ao y9)⟩,some ⟨92,4,true,none,lvs (Am a0.moves)⟩,some ⟨100,3,true,none,lvs (Ap a0.seen)⟩,some ⟨59,7,true,none,lvs (An y23)⟩,some ⟨3,1,true,none,lvs (encI a0.watch.heard)⟩,some ⟨3,1,true,none,lvs (encI a0.votes)⟩],104,gh,ls⟩:St)) (N:=fun gh ls=>(xP 4 (cx:=cx) (fun q=>(⟨[(1,.l (.p 0 0)),(2,.l (.p 1 0))],[some ⟨38,22,false,none,[iA a0.count,iA a0.id,iA a0.master,iA a0.epoch,iA a0.voted,.r 2 4 0 a0.claims.length,.r 3 6 0 y9.length,.r 4 4 0 a0.moves.length,iA a0.last,.r 5 3 0 a0.seen.length,iA a0.feed.rid.node,iA a0.feed.rid.epoch,iA a0.feed.off,.r 6 7 0 y23.length,iA a0.feed.prev.node,iA a0.feed.prev.epoch,iA a0.feed.upto,.r 7 1 0 a0.watch.heard.length,.r 8 1 0 q.length,iA a0.asked,.r 9 1 0 a0.votes.length,iA a0.wait]⟩,some ⟨38,22,false,none,cB0⟩,some ⟨81,4,true,none,lvs (Aq a0.claims)⟩,some ⟨114,6,true,none,lvs (Ao y9)⟩,some ⟨92,4,true,none,lvs (Am a0.moves)⟩,some ⟨100,3,true,none,lvs (Ap a0.seen)⟩,some ⟨59,7,true,none,lvs (An y23)⟩,some ⟨3,1,true,none,lvs (encI a0.watch.heard)⟩,some ⟨33,1,true,none,lvs (AM q)⟩,some ⟨3,1,true,none,lvs (encI a0.votes)⟩],104,gh,ls⟩:St)))) ?_ noX ?_ ?_
   ·exact WM [0,1,9,2,3,4,5,6,8,7] hz
   ·clear h;intro y38 y40 h
    obtain⟨v41,e41,h⟩:=ltE h;refine AW.step (by simp[← e41];intros;rfl) ?_;apply AW.seq;cases v41 with
    |true=>
     replace h:=iT h;refine CT ?_;apply AW.skip;try simp only[nm]
     apply AW.seq;apply AW.block;obtain⟨v42,e42,h⟩:=bnE h;have f43:=A0 e42;try simp[Aa e42] at f43
     refine AW.step (by simp[Aa e42,f43,Nh (Aa e42).2,lvs1];intros;rfl) ?_;obtain⟨e44,h⟩:=chkE h;have f45:=A0 e42;try simp[Aa e42] at f45
     obtain⟨v46,e46,h⟩:=ltE h;have f47:=OC (Aa e42).2 e46 (cs:=[dC v42]) (by simp) rfl;try simp at f47
     have f48:=f45;try simp only[AC e46] at f48
     apply zF (V:=[_,_,_,_,_,_]) mixed [⟨[0],[],[(1,none)],false⟩,⟨[0],[0],[(95,some 0)],false⟩,⟨[0],[0,1],[(96,some 1)],false⟩,⟨[0],[],[(5,none)],false⟩,⟨[0],[],[(6,none)],false⟩,⟨[0],[4],[(99,some 4)],false⟩,⟨[],[0,1,2,3,4,5],[],false⟩,⟨[],[0,1,2,3,4,5,6],[],false⟩] 6 (by kernel_rfl) (by kernel_rfl)
     ·refine⟨?_,?_,?_,?_,?_,?_,trivial⟩;iterate 5 (· intro tm hr;simp[AllL,rdV] at hr;simp[hr,Aa e42,f45,FY (Aa e42).2 (show 1≤1 by decide),f47,f48];intros;exact KA)
      ·intro tm hr;simp[AllL,rdV] at hr;simp[hr,Aa e42,f45,FY (Aa e42).2 (show 1≤1 by decide),f47,f48];intros;refine Ab Ku (S9 v42 (B0 e44)) rfl ⟨.d _ _ _,trivial⟩ ?_;try simp[Aa e42,f45,FY (Aa e42).2 (show 1≤1 by decide),f47,f48]
       intros;exact KA
     ·rfl
     ·simp[tmD,putD,Aa e42,f45,FY (Aa e42).2 (show 1≤1 by decide),f47,f48];rfl
     ·simp[Aa e42,f45,FY (Aa e42).2 (show 1≤1 by decide),f47,f48];intros;rfl
     try simp only[nm]
     obtain⟨v49,e49,h⟩:=ltE h;refine AW.last (by simp[← e49];intros;rfl) ?_;obtain rfl:=oi h;refine nP_i ?_;refine zG [some 0,some 1,some 2,some 3,some 4,some 5,some 6,some 7,some 8,some 9] hz (by decide) ?_ ?_ rfl;all_goals first|(simp[Ae,Af,pickOb,AC e46];done)|rfl
    |false=>
     replace h:=iF h;refine CF ?_;apply AW.exit;try simp only[nm]
     obtain rfl:=oi h;refine xP_i ?_;exact WM [0,1,3,4,5,6,7,8,2,9] hz
   ·rintro e s⟨rfl,hw⟩;refine⟨_,hw,?_⟩;try simp only[nm]
    refine ST ?_;obtain⟨e50,h⟩:=chkE h;refine FZ 2 81 4 (BK a0.claims) e50 ?_;obtain⟨e51,h⟩:=chkE h;refine FZ 3 114 6 (AH y9) e51 ?_;obtain⟨e52,h⟩:=chkE h;refine FZ 6 59 7 (Bh y23) e52 ?_;obtain⟨e53,h⟩:=chkE h;refine FZ 7 3 1 (El a0.watch.heard) e53 ?_;obtain⟨e54,h⟩:=chkE h;refine FZ 8 33 1 (QK y39) e54 ?_;obtain⟨e55,h⟩:=chkE h;refine FZ 9 3 1 (El a0.votes) e55 ?_;obtain rfl:=oi h;apply AW.ret;refine Left.of (av:=_) (by simp[Tryz.f33,resV,resC,comp];rfl) ?_;exact zJ 0 [some 4,some 5] hz rfl (by decide) rfl (by simp[pickOb,Ae,Af]) (by simp[Ae,Af])
theorem De:Enters Tryz.prog 33:=enters Tryz.func33 (by kernel_rfl) rfl
def B4 (n:Nat) (a0:Int):Option Bool :=
lt (neI a0 a0) fun v1 =>
some v1
theorem GT {n:Nat} {a0:Int} {r:Bool} (h:B4 n a0=some r):Sound Tryz.prog 88 [.l (iA a0)] [] (.l (bA r)) []:=by
 unfold B4 at h;refine SO 6 Tryz.func88 fun cx hG (hz:cx.nb=0)=>?_;simp only[it];refine ST ?_;obtain⟨v1,e1,h⟩:=ltE h;refine AW.step (by simp[← e1];intros;rfl) ?_;obtain rfl:=oi h;apply AW.ret;exact LP hz
theorem GC:Enters Tryz.prog 88:=enters Tryz.func88 (by kernel_rfl) rfl
def Bf (n:Nat) (a0:Int) (a1:Int):Option Int :=
bn (B4 n a0) fun v1 =>
bn (B4 n a1) fun v2 =>
ite' v1 (ite' v2 (some 0) (some (-1))) (ite' v2 (some 1) (lt (ltI a0 a1) fun v3 =>
ite' v3 (some (-1)) (lt (gtI a0 a1) fun v4 =>
ite' v4 (some 1) (some 0))))
theorem Df {n:Nat} {a0:Int} {a1:Int} {r:Int} (h:Bf n a0 a1=some r):Sound Tryz.prog 52 [.l (iA a0),.l (iA a1)] [] (.l (iA r)) []:=by
 unfold Bf at h;refine SO 20 Tryz.func52 fun cx hG (hz:cx.nb=0)=>?_;simp only[it];refine ST ?_;obtain⟨v1,e1,h⟩:=bnE h;apply AW.step
 ·simp;intros;refine Ab GC (GT e1) rfl ⟨.same rfl,trivial⟩ ?_;try simp
  intros;rfl
 obtain⟨v2,e2,h⟩:=bnE h;apply AW.step
 ·simp;intros;refine Ab GC (GT e2) rfl ⟨.same rfl,trivial⟩ ?_;try simp
  intros;rfl
 apply AW.seq;refine ST ?_;cases v1 with
 |true=>
  replace h:=iT h;refine CT ?_;apply AW.seq;refine ST ?_;cases v2 with
  |true=>
   replace h:=iT h;refine CT ?_;refine ST ?_;obtain rfl:=oi h;apply AW.ret;exact LP hz
  |false=>
   replace h:=iF h;refine CF ?_;apply AW.skip;try simp only[nm]
   refine ST ?_;obtain rfl:=oi h;apply AW.ret;exact LP hz
 |false=>
  replace h:=iF h;refine CF ?_;apply AW.skip;try simp only[nm]
  apply AW.seq;refine ST ?_;cases v2 with
  |true=>
   replace h:=iT h;refine CT ?_;refine ST ?_;obtain rfl:=oi h;apply AW.ret;exact LP hz
  |false=>
   replace h:=iF h;refine CF ?_;apply AW.skip;try simp only[nm]
   apply AW.seq;obtain⟨v3,e3,h⟩:=ltE h;refine AW.step (by simp[← e3];intros;rfl) ?_;cases v3 with
   |true=>
    replace h:=iT h;refine CT ?_;refine ST ?_;obtain rfl:=oi h;apply AW.ret;exact LP hz
   |false=>
    replace h:=iF h;refine CF ?_;apply AW.skip;try simp only[nm]
    apply AW.seq;obtain⟨v4,e4,h⟩:=ltE h;refine AW.step (by simp[← e4];intros;rfl) ?_;cases v4 with
    |true=>
     replace h:=iT h;refine CT ?_;refine ST ?_;obtain rfl:=oi h;apply AW.ret;exact LP hz
    |false=>
     replace h:=iF h;refine CF ?_;apply AW.skip;try simp only[nm]
     refine ST ?_;obtain rfl:=oi h;apply AW.ret;exact LP hz
theorem C1:Enters Tryz.prog 52:=enters Tryz.func52 (by kernel_rfl) rfl
def B5 (n:Nat) (a0:Move) (a1:Int):Option Int :=
bn (Bf n a0.slot a1) fun v1 =>
some v1
theorem HX {n:Nat} {a0:Move} {a1:Int} {r:Int} (h:B5 n a0 a1=some r):Sound Tryz.prog 73 [.g [iA a0.slot,iA a0.to,iA a0.num,tA a0.key],.l (iA a1)] [] (.l (iA r)) []:=by
 unfold B5 at h;refine SO 9 Tryz.func73 fun cx hG (hz:cx.nb=0)=>?_;simp only[it];refine ST ?_;obtain⟨v1,e1,h⟩:=bnE h;apply AW.step
 ·simp;intros;refine Ab C1 (Df e1) rfl ⟨.same rfl,.same rfl,trivial⟩ ?_;try simp
  intros;rfl
 obtain rfl:=oi h;apply AW.ret;exact LP hz
theorem Ho:Enters Tryz.prog 73:=enters Tryz.func73 (by kernel_rfl) rfl
def Bo (n:Nat) (a0:List Move) (a1:Int):Option (Int×Bool) :=
lt (lenI a0) fun v1 =>
bn (iter n (fun (y2:Int×Int) =>
lt (ltI y2.1 y2.2) fun v5 =>
ite' v5 (lt (addI .i64 y2.1 y2.2) fun v6 =>
lt (cvI .u64 v6) fun v7 =>
bn (shrI .u64 v7 1) fun v8 =>
lt (cvI .i64 v8) fun v9 =>
bn (nth a0 v9) fun v10 =>
bn (B5 n v10 a1) fun v11 =>
lt (ltI v11 0) fun v12 =>
ite' v12 (lt (addI .i64 v9 1) fun v13 =>
some (.inl (v13,y2.2))) (some (.inl (y2.1,v9)))) (some (.inr y2.1))) (0,v1)) fun (y3:Int) =>
bn (lt (ltI y3 v1) fun v15 =>
ite' v15 (bn (nth a0 y3) fun v16 =>
bn (B5 n v16 a1) fun v17 =>
lt (eqI v17 0) fun v18 =>
some (v18)) (some (false))) fun (y14:Bool) =>
some (y3,y14)
theorem FB {n:Nat} {a0:List Move} {a1:Int} {r:Int×Bool} (h:Bo n a0 a1=some r):Sound Tryz.prog 72 [.l (.d true 4 (Am a0)),.l (iA a1),.l (.s (.func (.func 73) #[] #[]))] [] (.t [(false,[iA r.1]),(false,[bA r.2])]) []:=by
 unfold Bo at h;refine SO 49 Tryz.func72 fun cx hG (hz:cx.nb=0)=>?_;simp only[it];refine ST ?_;obtain⟨v1,e1,h⟩:=ltE h;refine AW.step (by simp[Ad e1];intros;rfl) ?_;refine ST ?_;apply AW.seq;apply AW.block;obtain⟨y3,g3,h⟩:=bnE h;refine zD g3 (mk:=fun gh ls q=>(⟨[(0,.l (.d true 4 (Am a0))),(1,.l (iA a1)),(2,.l (.s (.func (.func 73) #[] #[]))),(8,.l (iA v1)),(9,.l (iA q.1)),(10,.l (iA q.2))],[],49,gh,ls⟩:St)) (N:=fun gh ls=>(xP 0 (cx:=cx) (fun q=>(⟨[(0,.l (.d true 4 (Am a0))),(1,.l (iA a1)),(2,.l (.s (.func (.func 73) #[] #[]))),(8,.l (iA v1)),(9,.l (iA q))],[],49,gh,ls⟩:St)))) ?_ noX ?_ ?_
 ·exact WM [] hz
 ·clear h;intro y2 y4 h
  apply AW.seq;obtain⟨v5,e5,h⟩:=ltE h;refine AW.step (by simp[← e5];intros;rfl) ?_;cases v5 with
  |true=>
   replace h:=iT h;refine CT ?_;apply AW.skip;try simp only[nm]
   apply AW.block;obtain⟨v6,e6,v7,e7,h⟩:=oll h;obtain⟨v8,e8,v9,e9,h⟩:=obl h;refine AW.step (by simp[← e6,← e7,e8,← e9];intros;rfl) ?_;obtain⟨v10,e10,v11,e11,v12,e12,h⟩:=obbl h;apply AW.step
   ·simp[Aa e10,← e12];intros;refine Ab Ho (HX e11) rfl ⟨.same rfl,.same rfl,trivial⟩ ?_;try simp[Aa e10,← e12]
    intros;rfl
   cases v12 with
   |true=>
    replace h:=iT h;refine CT ?_;obtain⟨v13,e13,h⟩:=ltE h;refine AW.last (by simp[← e13];intros;rfl) ?_;obtain rfl:=oi h;exact nP_i (WM [] hz)
   |false=>
    replace h:=iF h;refine CF ?_;refine SL ?_;obtain rfl:=oi h;exact nP_i (WM [] hz)
  |false=>
   replace h:=iF h;refine CF ?_;apply AW.exit;try simp only[nm]
   obtain rfl:=oi h;refine xP_i ?_;exact WM [] hz
 ·rintro e s⟨rfl,hw⟩;refine⟨_,hw,?_⟩;try simp only[nm]
  obtain⟨y14,g14,h⟩:=bnE h;refine zC (p:=fun gh ls=>(nP (cx:=cx) (fun q=>(⟨[(6,.l (iA y3)),(7,.l (bA q))],[],49,gh,ls⟩:St))) y14) ?_ ?_
  ·replace h:=g14;clear g14
   obtain⟨v15,e15,h⟩:=ltE h;cases v15 with
   |true=>
    replace h:=iT h;obtain⟨v16,e16,v17,e17,v18,e18,h⟩:=obbl h;apply AW.last
    ·simp[← e15,Aa e16,← e18];intros;refine Ab Ho (HX e17) rfl ⟨.same rfl,.same rfl,trivial⟩ ?_;try simp[← e15,Aa e16,← e18]
     intros;rfl
    obtain rfl:=oi h;exact nP_i (WM [] hz)
   |false=>
    replace h:=iF h;refine AW.last (by simp[← e15];intros;rfl) ?_;obtain rfl:=oi h;exact nP_i (WM [] hz)
  ·rintro e s⟨rfl,hw⟩;refine⟨_,hw,?_⟩;try simp only[nm]
   obtain rfl:=oi h;apply AW.ret;exact LP hz
theorem Fs:Enters Tryz.prog 72:=enters Tryz.func72 (by kernel_rfl) rfl
def Dm (n:Nat) (a0:List Move) (a1:Int):Option (Int×Bool) :=
bn (Bo n a0 a1) fun v1 =>
some (v1.1,v1.2)
theorem I8 {n:Nat} {a0:List Move} {a1:Int} {r:Int×Bool} (h:Dm n a0 a1=some r):Sound Tryz.prog 35 [.l (.d true 4 (Am a0)),.l (iA a1)] [] (.t [(false,[iA r.1]),(false,[bA r.2])]) []:=by
 unfold Dm at h;refine SO 11 Tryz.func35 fun cx hG (hz:cx.nb=0)=>?_;simp only[it];refine ST ?_;obtain⟨v1,e1,h⟩:=bnE h;apply AW.step
 ·simp;intros;refine Ab Fs (FB e1) rfl ⟨.d _ _ _,.same rfl,.same rfl,trivial⟩ ?_;try simp
  intros;rfl
 obtain rfl:=oi h;apply AW.ret;exact LP hz
theorem Iq:Enters Tryz.prog 35:=enters Tryz.func35 (by kernel_rfl) rfl
def Cq (n:Nat) (a0:Node) (a1:Int) (a2:Int):Option (Node×Int) :=
bn (Bm n (⟨a0.count,a0.id,a0.master,a0.epoch,a0.voted,a0.claims,a0.db,a0.moves,a0.last,a0.seen,a0.feed,a0.watch,a0.asked,a0.votes,a0.wait⟩:Node)) fun v1 =>
bn (lt (ltI a1 0) fun v3 =>
ite' v3 (some (true)) (lt (geI a1 16384) fun v4 =>
ite' v4 (some (true)) (lt (ltI a2 0) fun v5 =>
ite' v5 (some (true)) (lt (geI a2 v1.count) fun v6 =>
ite' v6 (some (true)) (lt (eqI a2 v1.id) fun v7 =>
some (v7)))))) fun (y2:Bool) =>
lt (y2) fun v8 =>
ite' v8 (chk (room v1.moves.length 1) <|
chk (room v1.seen.length 1) <|
some (v1,1)) (bn (Dj n v1.claims a1) fun v11 =>
bn (lt (neI v1.master (-1)) fun v13 =>
ite' v13 (some (true)) (lt (notB v11.2.2) fun v14 =>
ite' v14 (some (true)) (lt (neI v11.1 v1.id) fun v15 =>
some (v15)))) fun (y12:Bool) =>
lt (y12) fun v16 =>
ite' v16 (chk (room v1.moves.length 1) <|
chk (room v1.seen.length 1) <|
some (v1,9)) (chk (room v1.moves.length 1) <|
bn (Dm n v1.moves a1) fun v20 =>
lt (v20.2) fun v21 =>
ite' v21 (chk (room v1.moves.length 1) <|
chk (room v1.seen.length 1) <|
some (v1,3)) (chk (insB v1.moves v20.1) <|
lt (insL v1.moves v20.1.toNat (⟨a1,a2,0,⟨#[]⟩⟩:Move)) fun v25 =>
chk (room v25.length 1) <|
chk (room v1.seen.length 1) <|
some ((⟨v1.count,v1.id,v1.master,v1.epoch,v1.voted,v1.claims,v1.db,v25,v1.last,v1.seen,v1.feed,v1.watch,v1.asked,v1.votes,v1.wait⟩:Node),0))))
theorem GD {n:Nat} {a0:Node} {a1:Int} {a2:Int} {r:Node×Int} (h:Cq n a0 a1 a2=some r):Sound Tryz.prog 11 [.g (cA0 a0),.l (iA a1),.l (iA a2)] [] (.t [(true,(cA0 r.1)),(false,[iA r.2])]) []:=by
 unfold Cq at h;refine SO 79 Tryz.func11 fun cx hG (hz:cx.nb=0)=>?_;simp only[it];refine ST ?_;obtain⟨v1,e1,h⟩:=bnE h;apply AW.step
 ·simp[outR];intros;refine AS De (DE e1) rfl (by simp) ⟨.same rfl,trivial⟩ ?_;try simp[outR]
  intros;rfl
 apply AW.seq;obtain⟨y2,g2,h⟩:=bnE h;refine zC (p:=fun gh ls=>(nP (cx:=cx) (fun q=>(⟨[(1,.l (iA a1)),(2,.l (iA a2)),(3,.l (.p 0 0)),(6,.l (.p 1 0)),(36,.l (bA q))],[some ⟨38,22,false,none,(cI0 v1 (.r 2 4 0 v1.moves.length) (.r 3 3 0 v1.seen.length))⟩,some ⟨38,22,false,none,cB0⟩,some ⟨92,4,true,none,lvs (Am v1.moves)⟩,some ⟨100,3,true,none,lvs (Ap v1.seen)⟩],79,gh,ls⟩:St))) y2) ?_ ?_
 ·replace h:=g2;clear g2
  obtain⟨v3,e3,h⟩:=ltE h;cases v3 with
  |true=>
   replace h:=iT h;refine AW.last (by simp[← e3];intros;rfl) ?_;obtain rfl:=oi h;exact nP_i (WM [0,1,2,3] hz)
  |false=>
   replace h:=iF h;obtain⟨v4,e4,h⟩:=ltE h;cases v4 with
   |true=>
    replace h:=iT h;refine AW.last (by simp[← e3,← e4];intros;rfl) ?_;obtain rfl:=oi h;exact nP_i (WM [0,1,2,3] hz)
   |false=>
    replace h:=iF h;obtain⟨v5,e5,h⟩:=ltE h;cases v5 with
    |true=>
     replace h:=iT h;refine AW.last (by simp[← e3,← e4,← e5];intros;rfl) ?_;obtain rfl:=oi h;exact nP_i (WM [0,1,2,3] hz)
    |false=>
     replace h:=iF h;obtain⟨v6,e6,h⟩:=ltE h;cases v6 with
     |true=>
      replace h:=iT h;refine AW.last (by simp[← e3,← e4,← e5,← e6];intros;rfl) ?_;obtain rfl:=oi h;exact nP_i (WM [0,1,2,3] hz)
     |false=>
      replace h:=iF h;obtain⟨v7,e7,h⟩:=ltE h;refine AW.last (by simp[← e3,← e4,← e5,← e6,← e7];intros;rfl) ?_;obtain rfl:=oi h;exact nP_i (WM [0,1,2,3] hz)
 ·rintro e s⟨rfl,hw⟩;refine⟨_,hw,?_⟩;try simp only[nm]
  obtain⟨v8,e8,h⟩:=ltE h;rw[← e8];cases v8 with
  |true=>
   replace h:=iT h;refine CT ?_;refine ST ?_;obtain⟨e9,h⟩:=chkE h;refine FZ 2 92 4 (AB v1.moves) e9 ?_;obtain⟨e10,h⟩:=chkE h;refine FZ 3 100 3 (AI v1.seen) e10 ?_;obtain rfl:=oi h;apply AW.ret;exact LP hz
  |false=>
   replace h:=iF h;refine CF ?_;apply AW.skip;try simp only[nm]
   obtain⟨v11,e11,h⟩:=bnE h;apply AW.step
   ·simp;intros;refine Ab My (No e11) rfl ⟨.same rfl,.same rfl,trivial⟩ ?_;try simp
    intros;rfl
   apply AW.seq;obtain⟨y12,g12,h⟩:=bnE h;refine zC (p:=fun gh ls=>(nP (cx:=cx) (fun q=>(⟨[(1,.l (iA a1)),(2,.l (iA a2)),(3,.l (.p 0 0)),(6,.l (.p 1 0)),(58,.l (bA q))],[some ⟨38,22,false,none,(cI0 v1 (.r 2 4 0 v1.moves.length) (.r 3 3 0 v1.seen.length))⟩,some ⟨38,22,false,none,cB0⟩,some ⟨92,4,true,none,lvs (Am v1.moves)⟩,some ⟨100,3,true,none,lvs (Ap v1.seen)⟩],79,gh,ls⟩:St))) y12) ?_ ?_
   ·replace h:=g12;clear g12
    obtain⟨v13,e13,h⟩:=ltE h;cases v13 with
    |true=>
     replace h:=iT h;refine AW.last (by simp[← e13];intros;rfl) ?_;obtain rfl:=oi h;exact nP_i (WM [0,1,2,3] hz)
    |false=>
     replace h:=iF h;obtain⟨v14,e14,h⟩:=ltE h;cases v14 with
     |true=>
      replace h:=iT h;refine AW.last (by simp[← e13,← e14];intros;rfl) ?_;obtain rfl:=oi h;exact nP_i (WM [0,1,2,3] hz)
     |false=>
      replace h:=iF h;obtain⟨v15,e15,h⟩:=ltE h;refine AW.last (by simp[← e13,← e14,← e15];intros;rfl) ?_;obtain rfl:=oi h;exact nP_i (WM [0,1,2,3] hz)
   ·rintro e s⟨rfl,hw⟩;refine⟨_,hw,?_⟩;try simp only[nm]
    obtain⟨v16,e16,h⟩:=ltE h;rw[← e16];cases v16 with
    |true=>
     replace h:=iT h;refine CT ?_;refine ST ?_;obtain⟨e17,h⟩:=chkE h;refine FZ 2 92 4 (AB v1.moves) e17 ?_;obtain⟨e18,h⟩:=chkE h;refine FZ 3 100 3 (AI v1.seen) e18 ?_;obtain rfl:=oi h;apply AW.ret;exact LP hz
    |false=>
     replace h:=iF h;refine CF ?_;apply AW.skip;try simp only[nm]
     obtain⟨e19,h⟩:=chkE h;obtain⟨v20,e20,h⟩:=bnE h;apply AW.step
     ·simp;intros;refine Ab Iq (I8 e20) rfl ⟨.rowd (by simp) rfl (by omega) (AB _) (by simp) (by first|exact (Aw e19).2|simpa using (Aw e19).2|simp),.same rfl,trivial⟩ ?_;try simp
      intros;rfl
     apply AW.seq;refine ST ?_;obtain⟨v21,e21,h⟩:=ltE h;rw[← e21];cases v21 with
     |true=>
      replace h:=iT h;refine CT ?_;refine ST ?_;obtain⟨e22,h⟩:=chkE h;refine FZ 2 92 4 (AB v1.moves) e22 ?_;obtain⟨e23,h⟩:=chkE h;refine FZ 3 100 3 (AI v1.seen) e23 ?_;obtain rfl:=oi h;apply AW.ret;exact LP hz
     |false=>
      replace h:=iF h;refine CF ?_;apply AW.skip;try simp only[nm]
      obtain⟨e24,v25,e25,h⟩:=ocl h;apply AW.step
      ·simp[obAfter,outR,keptR,Ae,Af,← e25,BF e24 e25];intros;refine Ax ?_;try simp[obAfter,outR,keptR,Ae,Af,← e25,BF e24 e25]
       intros;refine EA [2,4] [5,6] ⟨_,rfl,rfl,_,rfl,rfl,rfl,rfl⟩ OI (R6 v1.moves v20.1 (⟨a1,a2,0,⟨#[]⟩⟩:Move) e24) (by decide) rfl rfl (by simp[pickOb,Gx]) rfl rfl rfl (by simp) (by simp) ⟨.l (.own (by simp[Ae,Af])),.l (.s _),.l (.own (by simp[Ae,Af])),trivial⟩ ?_;try simp[obAfter,outR,keptR,Ae,Af,← e25,BF e24 e25]
       intros;rfl
      refine ST ?_;obtain⟨e26,h⟩:=chkE h;refine FZ 5 92 4 (AB v25) e26 ?_;obtain⟨e27,h⟩:=chkE h;refine FZ 3 100 3 (AI v1.seen) e27 ?_;obtain rfl:=oi h;apply AW.ret;exact LP hz
theorem F9:Enters Tryz.prog 11:=enters Tryz.func11 (by kernel_rfl) rfl
def Cs (n:Nat) (a0:List Move):Option (List Move) :=
some a0
theorem GE {n:Nat} {a0:List Move} {r:List Move} (h:Cs n a0=some r):Sound Tryz.prog 76 [.l (dI a0)] [] (.l (.f 101 [0])) [some ⟨26,1,false,none,[dI r]⟩]:=by
 unfold Cs at h;refine SO 4 Tryz.func76 fun cx hG (hz:cx.nb=0)=>?_;simp only[it];refine ST ?_;refine ST ?_;obtain rfl:=oi h;apply AW.ret;refine Left.of (av:=_) (by simp[Tryz.f76,resV,resC,comp];rfl) ?_;exact zJ 0 [some 0] hz rfl (by decide) rfl (by simp[pickOb,Ae,Af]) (by simp[Ae,Af])
theorem Gl:Enters Tryz.prog 76:=enters Tryz.func76 (by kernel_rfl) rfl
def ET (n:Nat) (a0:List Move):Option (List Move) :=
bn (Cs n a0) fun v1 =>
some v1
theorem MF {n:Nat} {a0:List Move} {r:List Move} (h:ET n a0=some r):Sound Tryz.prog 37 [.l (dI a0)] [] (.l (.f 101 [0])) [some ⟨26,1,false,none,[dI r]⟩]:=by
 unfold ET at h;refine SO 5 Tryz.func37 fun cx hG (hz:cx.nb=0)=>?_;simp only[it];refine ST ?_;obtain⟨v1,e1,h⟩:=bnE h;apply AW.step
 ·simp;intros;refine AS Gl (GE e1) rfl (by simp) ⟨.same rfl,trivial⟩ ?_;try simp
  intros;rfl
 obtain rfl:=oi h;apply AW.ret;refine Left.of (av:=_) (by simp[Tryz.f37,resV,resC,comp];rfl) ?_;exact zJ 0 [some 0] hz rfl (by decide) rfl (by simp[pickOb,Ae,Af]) (by simp[Ae,Af])
theorem LE:Enters Tryz.prog 37:=enters Tryz.func37 (by kernel_rfl) rfl
def Ga (n:Nat) (a0:Int):Option Int :=
bn (lt (geI a0 4294967296) fun v2 =>
ite' v2 (bn (shrI .u64 a0 32) fun v3 =>
some ((v3,32))) (some ((a0,0)))) fun (y1:Int×Int) =>
bn (lt (geI y1.1 65536) fun v5 =>
ite' v5 (bn (shrI .u64 y1.1 16) fun v6 =>
lt (addI .i64 y1.2 16) fun v7 =>
some ((v6,v7))) (some ((y1.1,y1.2)))) fun (y4:Int×Int) =>
bn (lt (geI y4.1 256) fun v9 =>
ite' v9 (bn (shrI .u64 y4.1 8) fun v10 =>
lt (addI .i64 y4.2 8) fun v11 =>
some ((v10,v11))) (some ((y4.1,y4.2)))) fun (y8:Int×Int) =>
lt (cvI .u8 y8.1) fun v12 =>
bn (atS ⟨#[0,1,2,2,3,3,3,3,4,4,4,4,4,4,4,4,5,5,5,5,5,5,5,5,5,5,5,5,5,5,5,5,6,6,6,6,6,6,6,6,6,6,6,6,6,6,6,6,6,6,6,6,6,6,6,6,6,6,6,6,6,6,6,6,7,7,7,7,7,7,7,7,7,7,7,7,7,7,7,7,7,7,7,7,7,7,7,7,7,7,7,7,7,7,7,7,7,7,7,7,7,7,7,7,7,7,7,7,7,7,7,7,7,7,7,7,7,7,7,7,7,7,7,7,7,7,7,7,8,8,8,8,8,8,8,8,8,8,8,8,8,8,8,8,8,8,8,8,8,8,8,8,8,8,8,8,8,8,8,8,8,8,8,8,8,8,8,8,8,8,8,8,8,8,8,8,8,8,8,8,8,8,8,8,8,8,8,8,8,8,8,8,8,8,8,8,8,8,8,8,8,8,8,8,8,8,8,8,8,8,8,8,8,8,8,8,8,8,8,8,8,8,8,8,8,8,8,8,8,8,8,8,8,8,8,8,8,8,8,8,8,8,8,8,8,8,8,8,8,8,8,8,8,8,8,8]⟩ v12) fun v13 =>
lt (cvI .i64 v13) fun v15 =>
lt (addI .i64 y8.2 v15) fun v16 =>
some v16
theorem MG {n:Nat} {a0:Int} {r:Int} (h:Ga n a0=some r):Sound Tryz.prog 162 [.l (.s (.int .u64 a0))] [] (.l (iA r)) []:=by
 unfold Ga at h;refine SO 25 Tryz.func162 fun cx hG (hz:cx.nb=0)=>?_;simp only[it];refine ST ?_;obtain⟨y1,g1,h⟩:=bnE h;refine zC (p:=fun gh ls=>(nP (cx:=cx) (fun q=>(⟨[(0,.l (.s (.int .u64 q.1))),(2,.l (iA q.2))],[],25,gh,ls⟩:St))) y1) ?_ ?_
 ·replace h:=g1;clear g1
  obtain⟨v2,e2,h⟩:=ltE h;refine AW.step (by simp[← e2];intros;rfl) ?_;cases v2 with
  |true=>
   replace h:=iT h;refine CT ?_;obtain⟨v3,e3,h⟩:=bnE h;refine AW.step (by simp[e3];intros;rfl) ?_;refine SL ?_;obtain rfl:=oi h;exact nP_i (WM [] hz)
  |false=>
   replace h:=iF h;refine CF ?_;apply AW.skip;try simp only[nm]
   obtain rfl:=oi h;exact nP_i (WM [] hz)
 ·rintro e s⟨rfl,hw⟩;refine⟨_,hw,?_⟩;try simp only[nm]
  obtain⟨y4,g4,h⟩:=bnE h;refine zC (p:=fun gh ls=>(nP (cx:=cx) (fun q=>(⟨[(0,.l (.s (.int .u64 q.1))),(2,.l (iA q.2))],[],25,gh,ls⟩:St))) y4) ?_ ?_
  ·replace h:=g4;clear g4
   obtain⟨v5,e5,h⟩:=ltE h;refine AW.step (by simp[← e5];intros;rfl) ?_;cases v5 with
   |true=>
    replace h:=iT h;refine CT ?_;obtain⟨v6,e6,h⟩:=bnE h;refine AW.step (by simp[e6];intros;rfl) ?_;obtain⟨v7,e7,h⟩:=ltE h;refine AW.last (by simp[← e7];intros;rfl) ?_;obtain rfl:=oi h;exact nP_i (WM [] hz)
   |false=>
    replace h:=iF h;refine CF ?_;apply AW.skip;try simp only[nm]
    obtain rfl:=oi h;exact nP_i (WM [] hz)
  ·rintro e s⟨rfl,hw⟩;refine⟨_,hw,?_⟩;try simp only[nm]
   obtain⟨y8,g8,h⟩:=bnE h;refine zC (p:=fun gh ls=>(nP (cx:=cx) (fun q=>(⟨[(0,.l (.s (.int .u64 q.1))),(2,.l (iA q.2))],[],25,gh,ls⟩:St))) y8) ?_ ?_
   ·replace h:=g8;clear g8
    obtain⟨v9,e9,h⟩:=ltE h;refine AW.step (by simp[← e9];intros;rfl) ?_;cases v9 with
    |true=>
     replace h:=iT h;refine CT ?_;obtain⟨v10,e10,h⟩:=bnE h;refine AW.step (by simp[e10];intros;rfl) ?_;obtain⟨v11,e11,h⟩:=ltE h;refine AW.last (by simp[← e11];intros;rfl) ?_;obtain rfl:=oi h;exact nP_i (WM [] hz)
    |false=>
     replace h:=iF h;refine CF ?_;apply AW.skip;try simp only[nm]
     obtain rfl:=oi h;exact nP_i (WM [] hz)
   ·rintro e s⟨rfl,hw⟩;refine⟨_,hw,?_⟩;try simp only[nm]
    obtain⟨v12,e12,v13,e13,h⟩:=olb h;have f14:=LT e13;try simp[← e12] at f14
    obtain⟨v15,e15,v16,e16,h⟩:=oll h;refine AW.step (by simp[← e12,f14,← e15,← e16];intros;rfl) ?_;obtain rfl:=oi h;apply AW.ret;exact LP hz
theorem LF:Enters Tryz.prog 162:=enters Tryz.func162 (by kernel_rfl) rfl
def FO (n:Nat) (a0:Int):Option Int :=
bn (Ga n a0) fun v1 =>
some v1
theorem OU {n:Nat} {a0:Int} {r:Int} (h:FO n a0=some r):Sound Tryz.prog 149 [.l (.s (.int .u64 a0))] [] (.l (iA r)) []:=by
 unfold FO at h;refine SO 8 Tryz.func149 fun cx hG (hz:cx.nb=0)=>?_;simp only[it];refine ST ?_;apply AW.seq;refine CF ?_;apply AW.skip;try simp only[nm]
 obtain⟨v1,e1,h⟩:=bnE h;apply AW.step
 ·simp;intros;refine Ab LF (MG e1) rfl ⟨.same rfl,trivial⟩ ?_;try simp
  intros;rfl
 obtain rfl:=oi h;apply AW.ret;exact LP hz
theorem Nw:Enters Tryz.prog 149:=enters Tryz.func149 (by kernel_rfl) rfl
def Ft (n:Nat) (a0:Span) (a1:Span):Option Int :=
bn (Bf n a0.frm a1.frm) fun v1 =>
some v1
theorem KB {n:Nat} {a0:Span} {a1:Span} {r:Int} (h:Ft n a0 a1=some r):Sound Tryz.prog 142 [.g [iA a0.frm,iA a0.to],.g [iA a1.frm,iA a1.to]] [] (.l (iA r)) []:=by
 unfold Ft at h;refine SO 10 Tryz.func142 fun cx hG (hz:cx.nb=0)=>?_;simp only[it];refine ST ?_;obtain⟨v1,e1,h⟩:=bnE h;apply AW.step
 ·simp;intros;refine Ab C1 (Df e1) rfl ⟨.same rfl,.same rfl,trivial⟩ ?_;try simp
  intros;rfl
 obtain rfl:=oi h;apply AW.ret;exact LP hz
theorem J3:Enters Tryz.prog 142:=enters Tryz.func142 (by kernel_rfl) rfl
def Bi (n:Nat) (a0:List Span) (a1:Int) (a2:Int):Option (List Span) :=
lt (addI .i64 a1 1) fun v1 =>
bn (iter n (fun (y2:Int×List Span) =>
lt (ltI y2.1 a2) fun v5 =>
ite' v5 (bn (iter n (fun (y6:Int×List Span) =>
bn (lt (gtI y6.1 a1) fun v10 =>
ite' v10 (bn (nth y6.2 y6.1) fun v11 =>
lt (subI .i64 y6.1 1) fun v13 =>
bn (nth y6.2 v13) fun v14 =>
bn (Ft n v11 v14) fun v16 =>
lt (ltI v16 0) fun v17 =>
some (v17)) (some (false))) fun (y9:Bool) =>
lt (y9) fun v18 =>
ite' v18 (lt (subI .i64 y6.1 1) fun v19 =>
bn (nth y6.2 v19) fun v20 =>
bn (nth y6.2 y6.1) fun v22 =>
lt (y6.2.set y6.1.toNat v20) fun v25 =>
bn (nth v25 v19) fun v30 =>
lt (v25.set v19.toNat v22) fun v32 =>
some (.inl (v19,v32))) (some (.inr y6.2))) (y2.1,y2.2)) fun (y7:List Span) =>
lt (addI .i64 y2.1 1) fun v41 =>
some (.inl (v41,y7))) (some (.inr y2.2))) (v1,a0)) fun (y3:List Span) =>
some y3
def DY2t1:List DI:=[⟨[0],[],[(9,none)],false⟩,⟨[0],[],[(1,none)],false⟩,⟨[0],[0,1],[(18,some 0),(19,some 1)],false⟩,⟨[0],[0,1,2],[(20,some 2)],false⟩,⟨[0],[0,1,2,3],[(3,none),(21,some 3)],false⟩,⟨[0],[0,1,2,3],[(0,none),(21,some 3)],false⟩,⟨[0],[0,1,2,3],[(9,none),(21,some 3)],false⟩,⟨[0],[0,1,2,3,5,6],[(21,some 3),(23,some 5),(24,some 6)],false⟩,⟨[0],[0,1,2,3,5,6,7],[(21,some 3),(25,some 7)],false⟩,⟨[0],[0,1,2,3],[(0,none),(21,some 3)],false⟩,⟨[0],[0,1,2,3],[(9,none),(21,some 3)],false⟩,⟨[0],[0,1,2,3,10],[(21,some 3),(28,some 10)],false⟩,⟨[0],[0,1,2,3,9,10,11],[(21,some 3),(27,some 9),(29,some 11)],false⟩,⟨[0],[0,1,2,3,9,10,11,12],[(21,some 3),(30,some 12)],false⟩,⟨[],[0,1,2,3,4,5,6,7,8,9,10,11,12,13],[],false⟩,⟨[],[0,1,2,3,4,5,6,7,8,9,10,11,12,13,14],[],false⟩,⟨[],[0,1,2,3,4,5,6,7,8,9,10,11,12,13,14,15],[],false⟩]
theorem DY {n:Nat} {a0:List Span} {a1:Int} {a2:Int} {r:List Span} (h:Bi n a0 a1 a2=some r):Sound Tryz.prog 153 [.l (.r 0 2 0 a0.length),.l (iA a1),.l (iA a2),.l (.s (.func (.func 142) #[] #[]))] [⟨120,2,false,some 0,lvs (Ay a0)⟩] (.t []) [some ⟨120,2,false,some 0,lvs (Ay r)⟩]:=by
 unfold Bi at h;refine SO 53 Tryz.func153 fun cx hG (hz:cx.nb=1)=>?_;simp only[it];obtain⟨v1,e1,h⟩:=ltE h;refine AW.step (by simp[← e1];intros;rfl) ?_;apply AW.block;obtain⟨y3,g3,h⟩:=bnE h;refine zD g3 (mk:=fun gh ls q=>(⟨[(0,.l (.r 0 2 0 q.2.length)),(1,.l (iA a1)),(2,.l (iA a2)),(3,.l (.s (.func (.func 142) #[] #[]))),(8,.l (iA q.1))],[some ⟨120,2,false,some 0,lvs (Ay q.2)⟩],53,gh,ls⟩:St)) (N:=fun gh ls=>(xP 0 (cx:=cx) (fun q=>(⟨[],[some ⟨120,2,false,some 0,lvs (Ay q)⟩],53,gh,ls⟩:St)))) ?_ noX ?_ ?_
 ·refine zE 1 [some 0] hz (by decide) (by decide) ?_ ?_ ?_;all_goals first|(simp[Ae,Af,pickOb];done)|rfl
 ·clear h;intro y2 y4 h
  apply AW.seq;obtain⟨v5,e5,h⟩:=ltE h;refine AW.step (by simp[← e5];intros;rfl) ?_;cases v5 with
  |true=>
   replace h:=iT h;refine CT ?_;apply AW.skip;try simp only[nm]
   apply AW.seq;apply AW.block;refine ST ?_;apply AW.block;obtain⟨y7,g7,h⟩:=bnE h;refine zD g7 (mk:=fun gh ls q=>(⟨[(0,.l (.r 0 2 0 q.2.length)),(1,.l (iA a1)),(2,.l (iA a2)),(3,.l (.s (.func (.func 142) #[] #[]))),(8,.l (iA y2.1)),(9,.l (iA q.1))],[some ⟨120,2,false,some 0,lvs (Ay q.2)⟩],53,gh,ls⟩:St)) (N:=fun gh ls=>(xP 2 (cx:=cx) (fun q=>(⟨[(0,.l (.r 0 2 0 q.length)),(1,.l (iA a1)),(2,.l (iA a2)),(3,.l (.s (.func (.func 142) #[] #[]))),(8,.l (iA y2.1))],[some ⟨120,2,false,some 0,lvs (Ay q)⟩],53,gh,ls⟩:St)))) ?_ noX ?_ ?_
   ·refine zE 1 [some 0] hz (by decide) (by decide) ?_ ?_ ?_;all_goals first|(simp[Ae,Af,pickOb];done)|rfl
   ·clear h;intro y6 y8 h
    apply AW.seq;obtain⟨y9,g9,h⟩:=bnE h;refine zC (p:=fun gh ls=>(nP (cx:=cx) (fun q=>(⟨[(0,.l (.r 0 2 0 y6.2.length)),(1,.l (iA a1)),(2,.l (iA a2)),(3,.l (.s (.func (.func 142) #[] #[]))),(8,.l (iA y2.1)),(9,.l (iA y6.1)),(34,.l (bA q))],[some ⟨120,2,false,some 0,lvs (Ay y6.2)⟩],53,gh,ls⟩:St))) y9) ?_ ?_
    ·replace h:=g9;clear g9
     obtain⟨v10,e10,h⟩:=ltE h;cases v10 with
     |true=>
      replace h:=iT h;obtain⟨v11,e11,h⟩:=bnE h;have f12:=A0 e11;try simp[← e10,Aa e11] at f12
      obtain⟨v13,e13,v14,e14,h⟩:=olb h;have f15:=A0 e14;try simp[← e10,Aa e11,f12,AX (Aa e11).2 (k:=2) (by decide),AP (Aa e11).2 (show 2≤2 by decide),lvs1,← e13,Aa e14] at f15
      obtain⟨v16,e16,v17,e17,h⟩:=obl h;apply zF (V:=[_,_,_,_,_,_,_,_,_,_,_,_,_,_]) mixed DY2t1 14 (by kernel_rfl) (by kernel_rfl)
      ·refine⟨?_,?_,?_,?_,?_,?_,?_,?_,?_,?_,?_,?_,?_,?_,trivial⟩;iterate 14 (· intro tm hr;simp[AllL,rdV] at hr;simp[hr,← e10,Aa e11,f12,AX (Aa e11).2 (k:=2) (by decide),AP (Aa e11).2 (show 2≤2 by decide),lvs1,← e13,Aa e14,f15,AX (Aa e14).2 (k:=2) (by decide),AP (Aa e14).2 (show 2≤2 by decide),← e17];intros;exact KA)
      ·rfl
      ·simp[tmD,putD,← e10,Aa e11,f12,AX (Aa e11).2 (k:=2) (by decide),AP (Aa e11).2 (show 2≤2 by decide),lvs1,← e13,Aa e14,f15,AX (Aa e14).2 (k:=2) (by decide),AP (Aa e14).2 (show 2≤2 by decide),← e17];rfl
      ·simp[← e10,Aa e11,f12,AX (Aa e11).2 (k:=2) (by decide),AP (Aa e11).2 (show 2≤2 by decide),lvs1,← e13,Aa e14,f15,AX (Aa e14).2 (k:=2) (by decide),AP (Aa e14).2 (show 2≤2 by decide),← e17];intros;refine Ab J3 (KB e16) rfl ⟨.same rfl,.same rfl,trivial⟩ ?_;try simp[← e10,Aa e11,f12,AX (Aa e11).2 (k:=2) (by decide),AP (Aa e11).2 (show 2≤2 by decide),lvs1,← e13,Aa e14,f15,AX (Aa e14).2 (k:=2) (by decide),AP (Aa e14).2 (show 2≤2 by decide),← e17]
       intros;rfl
      obtain rfl:=oi h;refine nP_i ?_;refine zE 1 [some 0] hz (by decide) (by decide) ?_ ?_ ?_;all_goals first|(simp[Ae,Af,pickOb];done)|rfl
     |false=>
      replace h:=iF h;apply zF (V:=[_,_,_,_,_,_,_,_,_,_,_,_,_,_]) mixed DY2t1 14 (by kernel_rfl) (by kernel_rfl)
      ·refine⟨?_,?_,?_,?_,?_,?_,?_,?_,?_,?_,?_,?_,?_,?_,trivial⟩;iterate 14 (· intro tm hr;simp[AllL,rdV] at hr;simp[hr,← e10];intros;exact KA)
      ·rfl
      ·simp[tmD,putD,← e10];rfl
      ·simp[← e10];intros;rfl
      obtain rfl:=oi h;refine nP_i ?_;refine zE 1 [some 0] hz (by decide) (by decide) ?_ ?_ ?_;all_goals first|(simp[Ae,Af,pickOb];done)|rfl
    ·rintro e s⟨rfl,hw⟩;refine⟨_,hw,?_⟩;try simp only[nm]
     obtain⟨v18,e18,h⟩:=ltE h;rw[← e18];cases v18 with
     |true=>
      replace h:=iT h;refine CT ?_;apply AW.skip;try simp only[nm]
      apply AW.seq;apply AW.block;obtain⟨v19,e19,v20,e20,h⟩:=olb h;have f21:=A0 e20;try simp[← e19,Aa e20] at f21
      obtain⟨v22,e22,h⟩:=bnE h;have f23:=A0 e22;try simp[← e19,Aa e20,f21,AX (Aa e20).2 (k:=2) (by decide),AP (Aa e20).2 (show 2≤2 by decide),lvs1,Aa e22] at f23
      have f24:=A0 e22;try simp[← e19,Aa e20,f21,AX (Aa e20).2 (k:=2) (by decide),AP (Aa e20).2 (show 2≤2 by decide),lvs1,Aa e22,f23,AX (Aa e22).2 (k:=2) (by decide),AP (Aa e22).2 (show 2≤2 by decide)] at f24
      obtain⟨v25,e25,h⟩:=ltE h;have f26:=Ik (Aa e22).2 e25 (cs:=[iA v20.frm,iA v20.to]) (by simp) rfl;try simp at f26
      have f27:=f21;try simp only[AC e25] at f27
      have f28:=f23;try simp only[AC e25] at f28
      have f29:=f24;try simp only[AC e25] at f29
      obtain⟨v30,e30,h⟩:=bnE h;have f31:=A0 e30;try simp[← e19,Aa e20,f21,AX (Aa e20).2 (k:=2) (by decide),AP (Aa e20).2 (show 2≤2 by decide),lvs1,Aa e22,f23,AX (Aa e22).2 (k:=2) (by decide),AP (Aa e22).2 (show 2≤2 by decide),f24,f26,f27,f28,f29,Aa e30] at f31
      obtain⟨v32,e32,h⟩:=ltE h;have f33:=Ik (Aa e30).2 e32 (cs:=[iA v22.frm,iA v22.to]) (by simp) rfl;try simp at f33
      have f34:=f21;try simp only[AC e32] at f34
      have f35:=f23;try simp only[AC e32] at f35
      have f36:=f24;try simp only[AC e32] at f36
      have f37:=f27;try simp only[AC e32] at f37
      have f38:=f28;try simp only[AC e32] at f38
      have f39:=f29;try simp only[AC e32] at f39
      have f40:=f31;try simp only[AC e32] at f40
      apply zT (V:=[_,_,_,_,_,_,_,_,_,_,_,_,_,_,_,_]) (M:=[[some ⟨120,2,false,some 0,lvs (Ay y6.2)⟩],[some ⟨120,2,false,some 0,lvs (Ay v25)⟩]]) mixed [⟨[0],[],[(0,none)],false⟩,⟨[0],[],[(9,none)],false⟩,⟨[0,1],[],[(0,none)],false⟩,⟨[0,1],[],[(9,none)],false⟩,⟨[0,1],[3],[(40,some 3)],false⟩,⟨[0],[],[(0,none)],false⟩,⟨[0],[],[(9,none)],false⟩,⟨[0],[6],[(43,some 6)],false⟩,⟨[0],[5,6,7],[(42,some 5),(44,some 7)],false⟩,⟨[0],[5,6,7,8],[(45,some 8)],false⟩,⟨[0],[],[(0,none)],false⟩,⟨[0],[],[(9,none)],false⟩,⟨[0],[10,11],[(47,some 10),(48,some 11)],false⟩,⟨[0],[10,11,12],[(49,some 12)],false⟩,⟨[0],[0,1,5,6,7,8,9,10,11,12,13],[(37,some 0),(38,some 1)],false⟩,⟨[0],[0,1,5,6,7,8,9,10,11,12,13,14],[(46,some 9),(51,some 14)],true⟩,⟨[],[0,1,2,3,4,5,6,7,8,9,10,11,12,13,14,15],[],false⟩,⟨[],[0,1,2,3,4,5,6,7,8,9,10,11,12,13,14,15,16],[],false⟩] 16 1 (by kernel_rfl) (by kernel_rfl)
      ·rfl
      ·refine⟨?_,?_,⟨?_,?_⟩,⟨?_,?_⟩,⟨?_,?_⟩,?_,?_,?_,?_,?_,?_,?_,?_,?_,?_,?_,trivial⟩;iterate 19 (· intro tm hr;simp[AllL,rdV] at hr;simp[hr,← e19,Aa e20,f21,AX (Aa e20).2 (k:=2) (by decide),AP (Aa e20).2 (show 2≤2 by decide),lvs1,Aa e22,f23,AX (Aa e22).2 (k:=2) (by decide),AP (Aa e22).2 (show 2≤2 by decide),f24,f26,f27,f28,f29,Aa e30,f31,AC e25,AP (Aa e30).2 (show 2≤2 by decide),f33,f34,f35,f36,f37,f38,f39,f40];intros;exact KA)
      ·rfl
      ·simp[tmD,putD,← e19,Aa e20,f21,AX (Aa e20).2 (k:=2) (by decide),AP (Aa e20).2 (show 2≤2 by decide),lvs1,Aa e22,f23,AX (Aa e22).2 (k:=2) (by decide),AP (Aa e22).2 (show 2≤2 by decide),f24,f26,f27,f28,f29,Aa e30,f31,AC e25,AP (Aa e30).2 (show 2≤2 by decide),f33,f34,f35,f36,f37,f38,f39,f40];rfl
      ·simp[← e19,Aa e20,f21,AX (Aa e20).2 (k:=2) (by decide),AP (Aa e20).2 (show 2≤2 by decide),lvs1,Aa e22,f23,AX (Aa e22).2 (k:=2) (by decide),AP (Aa e22).2 (show 2≤2 by decide),f24,f26,f27,f28,f29,Aa e30,f31,AC e25,AP (Aa e30).2 (show 2≤2 by decide),f33,f34,f35,f36,f37,f38,f39,f40];intros;rfl
      try simp only[nm]
      refine AW.last (by simp[← e19];intros;rfl) ?_;obtain rfl:=oi h;refine nP_i ?_;refine zE 1 [some 0] hz (by decide) (by decide) ?_ ?_ ?_;all_goals first|(simp[Ae,Af,pickOb,AC e25,AC e32];done)|rfl
     |false=>
      replace h:=iF h;refine CF ?_;apply AW.exit;try simp only[nm]
      obtain rfl:=oi h;refine xP_i ?_;refine zE 1 [some 0] hz (by decide) (by decide) ?_ ?_ ?_;all_goals first|(simp[Ae,Af,pickOb];done)|rfl
   ·rintro e s⟨rfl,hw⟩;refine⟨_,hw,?_⟩;try simp only[nm]
    obtain⟨v41,e41,h⟩:=ltE h;refine AW.last (by simp[← e41];intros;rfl) ?_;obtain rfl:=oi h;refine nP_i ?_;refine zE 1 [some 0] hz (by decide) (by decide) ?_ ?_ ?_;all_goals first|(simp[Ae,Af,pickOb];done)|rfl
  |false=>
   replace h:=iF h;refine CF ?_;apply AW.exit;try simp only[nm]
   obtain rfl:=oi h;refine xP_i ?_;refine zE 1 [some 0] hz (by decide) (by decide) ?_ ?_ ?_;all_goals first|(simp[Ae,Af,pickOb];done)|rfl
 ·rintro e s⟨rfl,hw⟩;refine⟨_,hw,?_⟩;try simp only[nm]
  obtain rfl:=oi h;refine Left.of (av:=_) (by simp[Tryz.f153,resV,resC,comp];rfl) ?_;exact zJ 1 [some 0] hz rfl (by decide) rfl (by simp[pickOb,Ae,Af]) (by simp[Ae,Af])
theorem DL:Enters Tryz.prog 153:=enters Tryz.func153 (by kernel_rfl) rfl
def BC (n:Nat) (a0:List Span) (a1:Int) (a2:Int) (a3:Int):Option (List Span) :=
bn (iter n (fun (y1:Unit) =>
lt (subI .i64 a2 a1) fun v4 =>
lt (leI v4 12) fun v5 =>
ite' v5 (bn (Bi n a0 a1 a2) fun v6 =>
chk (lenB v6 a0) <|
some (.inr v6)) (none)) ()) fun (y2:List Span) =>
some y2
theorem E0 {n:Nat} {a0:List Span} {a1:Int} {a2:Int} {a3:Int} {r:List Span} (h:BC n a0 a1 a2 a3=some r):Sound Tryz.prog 148 [.l (.r 0 2 0 a0.length),.l (iA a1),.l (iA a2),.l (iA a3),.l (.s (.func (.func 142) #[] #[]))] [⟨120,2,false,some 0,lvs (Ay a0)⟩] (.t []) [some ⟨120,2,false,some 0,lvs (Ay r)⟩]:=by
 unfold BC at h;refine SO 148 Tryz.func148 fun cx hG (hz:cx.nb=1)=>?_;simp only[it];refine ST ?_;refine ST ?_;apply AW.block;obtain⟨y2,g2,h⟩:=bnE h;refine zD g2 (mk:=fun gh ls _=>(⟨[(0,.l (.r 0 2 0 a0.length)),(1,.l (iA a1)),(2,.l (iA a2)),(3,.l (iA a3)),(4,.l (.s (.func (.func 142) #[] #[]))),(10,.l (bA true)),(11,.l (bA true))],[some ⟨120,2,false,some 0,lvs (Ay a0)⟩],148,gh,ls⟩:St)) (N:=fun gh ls=>(rP (cx:=cx) (P:=Tryz.prog) Tryz.f148 (fun q=>.t []) (fun q=>[some ⟨120,2,false,some 0,lvs (Ay q)⟩]))) ?_ noR ?_ ?_
 ·refine zE 1 [some 0] hz (by decide) (by decide) ?_ ?_ ?_;all_goals first|(simp[Ae,Af,pickOb];done)|rfl
 ·clear h;intro y1 y3 h
  apply AW.block;obtain⟨v4,e4,h⟩:=ltE h;refine AW.step (by simp[← e4];intros;rfl) ?_;apply AW.seq;obtain⟨v5,e5,h⟩:=ltE h;refine AW.step (by simp[← e5];intros;rfl) ?_;cases v5 with
  |true=>
   replace h:=iT h;refine CT ?_;obtain⟨v6,e6,h⟩:=bnE h;obtain⟨e7,h⟩:=chkE h;apply AW.step
   ·simp;intros;refine Cf [0] DL (DY e6) (by decide) (by simp[pickOb,Ae,Af]) rfl rfl (by simp) ⟨.l (.own' (by simp[Ae,Af]) (by simp)),.l (.s _),.l (.s _),.l (.s _),trivial⟩ ?_;try simp
    intros;rfl
   obtain rfl:=oi h;apply AW.ret;try simp only[nm]
   refine rP_i ?_;refine Left.of (av:=_) (by simp[Tryz.f148,resV,resC,comp];rfl) ?_;exact zJ 1 [some 0] hz rfl (by decide) rfl (by simp[pickOb,Ae,Af,Hi e7]) (by simp[Ae,Af,Hi e7])
  |false=>
   replace h:=iF h;refine CF ?_;cases h
 ·rintro e s hp;obtain⟨rfl,hl⟩:=hp;refine⟨_,Weak.refl _,?_⟩;obtain rfl:=oi h;exact hl
theorem EG:Enters Tryz.prog 148:=enters Tryz.func148 (by kernel_rfl) rfl
def Bg (n:Nat) (a0:List Span):Option (List Span) :=
lt (lenI a0) fun v1 =>
lt (cvI .u64 v1) fun v2 =>
bn (FO n v2) fun v3 =>
bn (BC n a0 0 v1 v3) fun v4 =>
chk (lenB v4 a0) <|
some v4
theorem Gb {n:Nat} {a0:List Span} {r:List Span} (h:Bg n a0=some r):Sound Tryz.prog 141 [.l (.r 0 2 0 a0.length),.l (.s (.func (.func 142) #[] #[]))] [⟨120,2,false,some 0,lvs (Ay a0)⟩] (.t []) [some ⟨120,2,false,some 0,lvs (Ay r)⟩]:=by
 unfold Bg at h;refine SO 14 Tryz.func141 fun cx hG (hz:cx.nb=1)=>?_;simp only[it];obtain⟨v1,e1,h⟩:=ltE h;refine AW.step (by simp[Ad e1];intros;rfl) ?_;obtain⟨v2,e2,v3,e3,h⟩:=olb h;obtain⟨v4,e4,h⟩:=bnE h;obtain⟨e5,h⟩:=chkE h;apply AW.last
 ·simp[← e2];intros;refine Ab Nw (OU e3) rfl ⟨.same rfl,trivial⟩ ?_;try simp[← e2]
  intros;refine Cf [0] EG (E0 e4) (by decide) (by simp[pickOb,Ae,Af]) rfl rfl (by simp) ⟨.l (.own' (by simp[Ae,Af]) (by simp)),.l (.s _),.l (.s _),.l (.s _),.l (.s _),trivial⟩ ?_;try simp[← e2]
  intros;rfl
 obtain rfl:=oi h;refine Left.of (av:=_) (by simp[Tryz.f141,resV,resC,comp];rfl) ?_;exact zJ 1 [some 0] hz rfl (by decide) rfl (by simp[pickOb,Ae,Af,Hi e5]) (by simp[Ae,Af,Hi e5])
theorem F2:Enters Tryz.prog 141:=enters Tryz.func141 (by kernel_rfl) rfl
def DM (n:Nat) (a0:List Span):Option (List Span) :=
lt (lenI a0) fun v1 =>
bn (iter n (fun (y2:Int×List Span) =>
lt (ltI y2.1 v1) fun v5 =>
ite' v5 (bn (bn (nth a0 y2.1) fun v7 =>
lt (maxI v7.frm 0) fun v8 =>
lt (minI v7.to 16383) fun v9 =>
lt (leI v8 v9) fun v10 =>
ite' v10 (chk (room (y2.2.length+1) 16) <|
lt (y2.2++[(⟨v8,v9⟩:Span)]) fun v12 =>
some (v12)) (some (y2.2))) fun (y6:List Span) =>
lt (addI .i64 y2.1 1) fun v13 =>
some (.inl (v13,y6))) (some (.inr y2.2))) (0,[])) fun (y3:List Span) =>
bn (Bg n y3) fun v14 =>
chk (lenB v14 y3) <|
chk (room v14.length 1) <|
some v14
theorem MH {n:Nat} {a0:List Span} {r:List Span} (h:DM n a0=some r):Sound Tryz.prog 122 [.l (dJ a0)] [] (.l (dG r)) []:=by
 unfold DM at h;refine SO 32 Tryz.func122 fun cx hG (hz:cx.nb=0)=>?_;simp only[it];refine ST ?_;refine ST ?_;apply AW.seq;obtain⟨v1,e1,h⟩:=ltE h;refine AW.step (by simp[Ad e1];intros;rfl) ?_;apply AW.block;obtain⟨y3,g3,h⟩:=bnE h;refine zD g3 (mk:=fun gh ls q=>(⟨[(3,.l (.r 0 2 0 q.2.length)),(6,.l (dJ a0)),(7,.l (iA v1)),(8,.l (iA q.1))],[some ⟨120,2,true,none,lvs (Ay q.2)⟩],32,gh,ls⟩:St)) (N:=fun gh ls=>(xP 0 (cx:=cx) (fun q=>(⟨[(3,.l (.r 0 2 0 q.length))],[some ⟨120,2,true,none,lvs (Ay q)⟩],32,gh,ls⟩:St)))) ?_ noX ?_ ?_
 ·refine W.nilRow 3 120 2 0 (by simp) rfl rfl ?_;exact WM [0] hz
 ·clear h;intro y2 y4 h
  obtain⟨v5,e5,h⟩:=ltE h;refine AW.step (by simp[← e5];intros;rfl) ?_;apply AW.seq;cases v5 with
  |true=>
   replace h:=iT h;refine CT ?_;apply AW.skip;try simp only[nm]
   obtain⟨y6,g6,h⟩:=bnE h;refine zC (p:=fun gh ls=>(nP (cx:=cx) (fun q=>(⟨[(3,.l (.r 0 2 0 q.length)),(6,.l (dJ a0)),(7,.l (iA v1)),(8,.l (iA y2.1))],[some ⟨120,2,true,none,lvs (Ay q)⟩],32,gh,ls⟩:St))) y6) ?_ ?_
   ·replace h:=g6;clear g6
    apply AW.block;obtain⟨v7,e7,h⟩:=bnE h;refine AW.step (by simp[Aa e7];intros;rfl) ?_;obtain⟨v8,e8,v9,e9,h⟩:=oll h;refine AW.step (by simp[← e8,← e9];intros;rfl) ?_;obtain⟨v10,e10,h⟩:=ltE h;refine AW.step (by simp[← e10];intros;rfl) ?_;cases v10 with
    |true=>
     replace h:=iT h;refine CT ?_;obtain⟨e11,v12,e12,h⟩:=ocl h;apply AW.last
     ·simp[← A9,← e12,Ar e12];intros;refine Ax ?_;try simp[← A9,← e12,Ar e12]
      intros;refine AD (acc:=Ay y2.2) (ys:=Ay [(⟨v8,v9⟩:Span)]) (cap:=none) (k:=1) Jq Jp (by simp) (by simp[Ay,lvs]) (CY _) (by simp) (by simp) (by first|(simp;done)|simpa using (Aw e11).1) ?_;try simp[← A9,← e12,Ar e12]
      intros;rfl
     obtain rfl:=oi h;refine nP_i ?_;refine zG [some 3] hz (by decide) ?_ ?_ rfl;all_goals first|(simp[Ae,Af,pickOb,Di];done)|rfl
    |false=>
     replace h:=iF h;refine CF ?_;apply AW.skip;try simp only[nm]
     obtain rfl:=oi h;exact nP_i (WM [0] hz)
   ·rintro e s⟨rfl,hw⟩;refine⟨_,hw,?_⟩;try simp only[nm]
    obtain⟨v13,e13,h⟩:=ltE h;refine AW.last (by simp[← e13];intros;rfl) ?_;obtain rfl:=oi h;exact nP_i (WM [0] hz)
  |false=>
   replace h:=iF h;refine CF ?_;apply AW.exit;try simp only[nm]
   obtain rfl:=oi h;refine xP_i ?_;exact WM [0] hz
 ·rintro e s⟨rfl,hw⟩;refine⟨_,hw,?_⟩;try simp only[nm]
  refine AW.pin 0 (ty:=120) (sz:=2) (cs:=lvs (Ay y3)) (by simp) hz (by omega) rfl ?_;obtain⟨v14,e14,h⟩:=bnE h;obtain⟨e15,h⟩:=chkE h;apply AW.step
  ·simp;intros;refine Cf [0] F2 (Gb e14) (by decide) (by simp[pickOb,Ae,Af]) rfl rfl (by simp) ⟨.l (.own' (by simp[Ae,Af]) (by simp)),.l (.s _),trivial⟩ ?_;try simp
   intros;rfl
  refine ST ?_;obtain⟨e16,h⟩:=chkE h;refine AW.unpin 0 (ty:=120) (sz:=2) (cs:=lvs (Ay v14)) (by simp) rfl ?_;refine AW.frzRow 0 (ty:=120) (cap:=none) (sz:=2) (es:=Ay v14) (by simp) (by omega) (CY _) (by first|exact (Aw e16).2|simpa using (Aw e16).2|simp) (by simp[Tm.frz,AV.frz,LV.frz,Hi e15];rfl) (by simp[Ob.frz,LV.frz,Hi e15];rfl) rfl ?_;obtain rfl:=oi h;apply AW.ret;exact LP hz
theorem LG:Enters Tryz.prog 122:=enters Tryz.func122 (by kernel_rfl) rfl
def CS (n:Nat) (a0:List Span):Option (List Span) :=
bn (DM n a0) fun v1 =>
lt (lenI v1) fun v2 =>
bn (iter n (fun (y3:Int×List Span) =>
lt (ltI y3.1 v2) fun v6 =>
ite' v6 (bn (bn (nth v1 y3.1) fun v8 =>
lt (lenI y3.2) fun v9 =>
bn (lt (gtI v9 0) fun v11 =>
ite' v11 (lt (subI .i64 v9 1) fun v12 =>
bn (nth y3.2 v12) fun v13 =>
lt (addI .i64 v13.to 1) fun v15 =>
lt (leI v8.frm v15) fun v16 =>
some (v16)) (some (false))) fun (y10:Bool) =>
lt (y10) fun v17 =>
ite' v17 (lt (subI .i64 v9 1) fun v18 =>
bn (nth y3.2 v18) fun v19 =>
lt (maxI v19.to v8.to) fun v21 =>
lt (y3.2.set v18.toNat (⟨v19.frm,v21⟩:Span)) fun v23 =>
some (v23)) (chk (room (y3.2.length+1) 16) <|
lt (y3.2++[v8]) fun v28 =>
some (v28))) fun (y7:List Span) =>
lt (addI .i64 y3.1 1) fun v29 =>
some (.inl (v29,y7))) (some (.inr y3.2))) (0,[])) fun (y4:List Span) =>
chk (room y4.length 1) <|
some y4
def DY2t2:List DI:=[⟨[0],[],[(6,none)],false⟩,⟨[0],[0],[(16,some 0)],false⟩,⟨[0],[0,1],[(17,some 1)],false⟩,⟨[0],[0,1,2],[(5,none),(18,some 2)],false⟩,⟨[0],[0,1,2,3],[(18,some 2),(19,some 3)],false⟩,⟨[0],[0,1,2],[(3,none),(18,some 2)],false⟩,⟨[0],[0,1,2],[(6,none),(18,some 2)],false⟩,⟨[0],[0,1,2,6],[(18,some 2),(22,some 6)],false⟩,⟨[0],[0,1,2,5,6,7],[(18,some 2),(21,some 5),(23,some 7)],false⟩,⟨[0],[0,1,2,5,6,7,8],[(18,some 2),(24,some 8)],false⟩,⟨[0],[0,1,2,5,6,7,8,9],[(18,some 2),(25,some 9)],false⟩,⟨[0],[0,1,2,5,6,7,8,9,10],[(18,some 2),(26,some 10)],false⟩,⟨[],[0,1,2,3,4,5,6,7,8,9,10,11],[],false⟩,⟨[],[0,1,2,3,4,5,6,7,8,9,10,11,12],[],false⟩]
theorem MI {n:Nat} {a0:List Span} {r:List Span} (h:CS n a0=some r):Sound Tryz.prog 104 [.l (dJ a0)] [] (.l (dG r)) []:=by
 unfold CS at h;refine SO 50 Tryz.func104 fun cx hG (hz:cx.nb=0)=>?_;simp only[it];refine ST ?_;refine ST ?_;apply AW.seq;obtain⟨v1,e1,v2,e2,h⟩:=obl h;apply AW.step
 ·simp[Ad e2];intros;refine Ab LG (MH e1) rfl ⟨.d _ _ _,trivial⟩ ?_;try simp[Ad e2]
  intros;rfl
 apply AW.block;obtain⟨y4,g4,h⟩:=bnE h;refine zD g4 (mk:=fun gh ls q=>(⟨[(3,.l (.r 0 2 0 q.2.length)),(8,.l (dG v1)),(9,.l (iA v2)),(10,.l (iA q.1))],[some ⟨120,2,true,none,lvs (Ay q.2)⟩],50,gh,ls⟩:St)) (N:=fun gh ls=>(xP 0 (cx:=cx) (fun q=>(⟨[(3,.l (.r 0 2 0 q.length))],[some ⟨120,2,true,none,lvs (Ay q)⟩],50,gh,ls⟩:St)))) ?_ noX ?_ ?_
 ·refine W.nilRow 3 120 2 0 (by simp) rfl rfl ?_;exact WM [0] hz
 ·clear h;intro y3 y5 h
  obtain⟨v6,e6,h⟩:=ltE h;refine AW.step (by simp[← e6];intros;rfl) ?_;apply AW.seq;cases v6 with
  |true=>
   replace h:=iT h;refine CT ?_;apply AW.skip;try simp only[nm]
   obtain⟨y7,g7,h⟩:=bnE h;refine zC (p:=fun gh ls=>(nP (cx:=cx) (fun q=>(⟨[(3,.l (.r 0 2 0 q.length)),(8,.l (dG v1)),(9,.l (iA v2)),(10,.l (iA y3.1))],[some ⟨120,2,true,none,lvs (Ay q)⟩],50,gh,ls⟩:St))) y7) ?_ ?_
   ·replace h:=g7;clear g7
    apply AW.block;obtain⟨v8,e8,h⟩:=bnE h;refine AW.step (by simp[Aa e8];intros;rfl) ?_;apply AW.seq;obtain⟨v9,e9,h⟩:=ltE h;refine AW.step (by simp[Ad e9];intros;rfl) ?_;obtain⟨y10,g10,h⟩:=bnE h;refine zC (p:=fun gh ls=>(nP (cx:=cx) (fun q=>(⟨[(3,.l (.r 0 2 0 y3.2.length)),(5,.l (.p 1 0)),(6,.l (iA v9)),(8,.l (dG v1)),(9,.l (iA v2)),(10,.l (iA y3.1)),(29,.l (bA q))],[some ⟨120,2,true,none,lvs (Ay y3.2)⟩,some ⟨120,2,false,none,[iA v8.frm,iA v8.to]⟩],50,gh,ls⟩:St))) y10) ?_ ?_
    ·replace h:=g10;clear g10
     obtain⟨v11,e11,h⟩:=ltE h;cases v11 with
     |true=>
      replace h:=iT h;obtain⟨v12,e12,v13,e13,h⟩:=olb h;have f14:=A0 e13;try simp[← e11,← e12,Aa e13] at f14
      obtain⟨v15,e15,v16,e16,h⟩:=oll h;apply zF (V:=[_,_,_,_,_,_,_,_,_,_,_,_]) mixed DY2t2 12 (by kernel_rfl) (by kernel_rfl)
      ·refine⟨?_,?_,?_,?_,?_,?_,?_,?_,?_,?_,?_,?_,trivial⟩;iterate 12 (· intro tm hr;simp[AllL,rdV] at hr;simp[hr,← e11,← e12,Aa e13,f14,BA (Aa e13).2 (j:=1) (by decide),lvs1,← e15,← e16];intros;exact KA)
      ·rfl
      ·simp[tmD,putD,← e11,← e12,Aa e13,f14,BA (Aa e13).2 (j:=1) (by decide),lvs1,← e15,← e16];rfl
      ·simp[← e11,← e12,Aa e13,f14,BA (Aa e13).2 (j:=1) (by decide),lvs1,← e15,← e16];intros;rfl
      obtain rfl:=oi h;exact nP_i (WM [0,1] hz)
     |false=>
      replace h:=iF h;apply zF (V:=[_,_,_,_,_,_,_,_,_,_,_,_]) mixed DY2t2 12 (by kernel_rfl) (by kernel_rfl)
      ·refine⟨?_,?_,?_,?_,?_,?_,?_,?_,?_,?_,?_,?_,trivial⟩;iterate 12 (· intro tm hr;simp[AllL,rdV] at hr;simp[hr,← e11];intros;exact KA)
      ·rfl
      ·simp[tmD,putD,← e11];rfl
      ·simp[← e11];intros;rfl
      obtain rfl:=oi h;exact nP_i (WM [0,1] hz)
    ·rintro e s⟨rfl,hw⟩;refine⟨_,hw,?_⟩;try simp only[nm]
     obtain⟨v17,e17,h⟩:=ltE h;rw[← e17];cases v17 with
     |true=>
      replace h:=iT h;refine CT ?_;obtain⟨v18,e18,v19,e19,h⟩:=olb h;have f20:=A0 e19;try simp[← e18,Aa e19] at f20
      obtain⟨v21,e21,h⟩:=ltE h;have f22:=A0 e19;try simp[← e18,Aa e19,f20,BA (Aa e19).2 (j:=1) (by decide),lvs1,← e21] at f22
      obtain⟨v23,e23,h⟩:=ltE h;have f24:=I4 (Aa e19).2 e23 (j:=1) (cs:=[iA v21]) (by simp) rfl;try simp at f24
      have f25:=f20;try simp only[AC e23] at f25
      have f26:=f22;try simp only[AC e23] at f26
      apply zH (V:=[_,_,_,_,_,_,_,_,_,_,_,_]) mixed [⟨[0],[],[(3,none)],false⟩,⟨[0],[],[(6,none)],false⟩,⟨[0],[1],[(31,some 1)],false⟩,⟨[0],[],[(3,none)],false⟩,⟨[0],[],[(6,none)],false⟩,⟨[0],[4],[(34,some 4)],false⟩,⟨[0],[3,4,5],[(33,some 3),(35,some 5)],false⟩,⟨[0],[3,4,5,6],[(36,some 6)],false⟩,⟨[0],[3,4,5,6,7],[(37,some 7)],false⟩,⟨[0],[],[(5,none)],false⟩,⟨[0],[9],[(39,some 9)],false⟩,⟨[0],[3,4,5,6,7,8,9,10],[(38,some 8),(40,some 10)],false⟩,⟨[],[0,1,2,3,4,5,6,7,8,9,10,11],[],false⟩,⟨[],[0,1,2,3,4,5,6,7,8,9,10,11,12],[],false⟩,⟨[],[0,1,2,3,4,5,6,7,8,9,10,11,12,13],[],false⟩] 12 (by kernel_rfl) (by kernel_rfl)
      ·refine⟨?_,?_,?_,?_,?_,?_,?_,?_,?_,?_,?_,?_,trivial⟩;iterate 12 (· intro tm hr;simp[AllL,rdV] at hr;simp[hr,← e18,Aa e19,f20,BA (Aa e19).2 (j:=1) (by decide),lvs1,← e21,f22,Fp (Aa e19).2 (j:=1) (m:=1) (by decide),f24,f25,f26];intros;exact KA)
      ·rfl
      ·simp[tmD,putD,← e18,Aa e19,f20,BA (Aa e19).2 (j:=1) (by decide),lvs1,← e21,f22,Fp (Aa e19).2 (j:=1) (m:=1) (by decide),f24,f25,f26];rfl
      ·simp[← e18,Aa e19,f20,BA (Aa e19).2 (j:=1) (by decide),lvs1,← e21,f22,Fp (Aa e19).2 (j:=1) (m:=1) (by decide),f24,f25,f26];intros;rfl
      apply AW.exit;try simp only[nm]
      obtain rfl:=oi h;refine nP_i ?_;refine zG [some 0] hz (by decide) ?_ ?_ rfl;all_goals first|(simp[Ae,Af,pickOb,AC e23];done)|rfl
     |false=>
      replace h:=iF h;refine CF ?_;apply AW.skip;try simp only[nm]
      obtain⟨e27,v28,e28,h⟩:=ocl h;apply AW.last
      ·simp[← A9,← e28,Ar e28];intros;refine Ax ?_;try simp[← A9,← e28,Ar e28]
       intros;refine AD (acc:=Ay y3.2) (ys:=Ay [v8]) (cap:=none) (k:=1) Jq Jp (by simp) (by simp[Ay,lvs]) (CY _) (by simp) (by simp) (by first|(simp;done)|simpa using (Aw e27).1) ?_;try simp[← A9,← e28,Ar e28]
       intros;rfl
      obtain rfl:=oi h;refine nP_i ?_;refine zG [some 3] hz (by decide) ?_ ?_ rfl;all_goals first|(simp[Ae,Af,pickOb,Di];done)|rfl
   ·rintro e s⟨rfl,hw⟩;refine⟨_,hw,?_⟩;try simp only[nm]
    obtain⟨v29,e29,h⟩:=ltE h;refine AW.last (by simp[← e29];intros;rfl) ?_;obtain rfl:=oi h;exact nP_i (WM [0] hz)
  |false=>
   replace h:=iF h;refine CF ?_;apply AW.exit;try simp only[nm]
   obtain rfl:=oi h;refine xP_i ?_;exact WM [0] hz
 ·rintro e s⟨rfl,hw⟩;refine⟨_,hw,?_⟩;try simp only[nm]
  refine ST ?_;obtain⟨e30,h⟩:=chkE h;refine FZ 0 120 2 (CY y4) e30 ?_;obtain rfl:=oi h;apply AW.ret;exact LP hz
theorem LH:Enters Tryz.prog 104:=enters Tryz.func104 (by kernel_rfl) rfl
def E1 (n:Nat) (a0:List Claim) (a1:List Claim):Option (List Claim×List Claim) :=
some (a0,a1)
theorem J4 {n:Nat} {a0:List Claim} {a1:List Claim} {r:List Claim×List Claim} (h:E1 n a0 a1=some r):Sound Tryz.prog 105 [.l (dB a0),.l (dB a1)] [] (.l (.f 123 [0,1])) [some ⟨24,1,false,none,[dB r.1]⟩,some ⟨24,1,false,none,[dB r.2]⟩]:=by
 unfold E1 at h;refine SO 6 Tryz.func105 fun cx hG (hz:cx.nb=0)=>?_;simp only[it];refine ST ?_;refine ST ?_;obtain rfl:=oi h;apply AW.ret;refine Left.of (av:=_) (by simp[Tryz.f105,resV,resC,comp];rfl) ?_;exact zJ 0 [some 0,some 1] hz rfl (by decide) rfl (by simp[pickOb,Ae,Af]) (by simp[Ae,Af])
theorem Jv:Enters Tryz.prog 105:=enters Tryz.func105 (by kernel_rfl) rfl
def CA (n:Nat) (a0:List Claim) (a1:Int):Option (Claim×List Claim) :=
bn (iter n (fun (y1:List Claim) =>
bn (lt (lenI y1) fun v5 =>
lt (gtI v5 0) fun v6 =>
ite' v6 (bn (nth y1 0) fun v7 =>
lt (ltI v7.to a1) fun v8 =>
some (v8)) (some (false))) fun (y4:Bool) =>
lt (y4) fun v9 =>
ite' v9 (bn (segl y1 1) fun v10 =>
some (.inl v10)) (some (.inr y1))) a0) fun (y2:List Claim) =>
bn (bn (lt (lenI y2) fun v14 =>
lt (gtI v14 0) fun v15 =>
ite' v15 (bn (nth y2 0) fun v16 =>
lt (leI v16.frm a1) fun v17 =>
some (v17)) (some (false))) fun (y13:Bool) =>
lt (y13) fun v18 =>
ite' v18 (bn (nth y2 0) fun v19 =>
some ((⟨a1,v19.to,v19.node,v19.epoch⟩:Claim))) (lt (lenI y2) fun v20 =>
lt (gtI v20 0) fun v21 =>
ite' v21 (bn (nth y2 0) fun v22 =>
lt (subI .i64 v22.frm 1) fun v23 =>
some ((⟨a1,v23,0,0⟩:Claim))) (some ((⟨a1,16383,0,0⟩:Claim))))) fun (y12:Claim) =>
some (y12,y2)
theorem HY {n:Nat} {a0:List Claim} {a1:Int} {r:Claim×List Claim} (h:CA n a0 a1=some r):Sound Tryz.prog 124 [.l (dB a0),.l (iA a1)] [] (.t [(true,[iA r.1.frm,iA r.1.to,iA r.1.node,iA r.1.epoch]),(false,[dB r.2])]) []:=by
 unfold CA at h;refine SO 51 Tryz.func124 fun cx hG (hz:cx.nb=0)=>?_;simp only[it];refine ST ?_;apply AW.seq;apply AW.block;obtain⟨y2,g2,h⟩:=bnE h;refine zD g2 (mk:=fun gh ls q=>(⟨[(0,.l (dB q)),(1,.l (iA a1)),(4,.l (.p 0 0))],[some ⟨81,4,false,none,cS0⟩],51,gh,ls⟩:St)) (N:=fun gh ls=>(xP 0 (cx:=cx) (fun q=>(⟨[(0,.l (dB q)),(1,.l (iA a1)),(4,.l (.p 0 0))],[some ⟨81,4,false,none,cS0⟩],51,gh,ls⟩:St)))) ?_ noX ?_ ?_
 ·exact WM [0] hz
 ·clear h;intro y1 y3 h
  apply AW.seq;obtain⟨y4,g4,h⟩:=bnE h;refine zC (p:=fun gh ls=>(nP (cx:=cx) (fun q=>(⟨[(0,.l (dB y1)),(1,.l (iA a1)),(4,.l (.p 0 0)),(17,.l (bA q))],[some ⟨81,4,false,none,cS0⟩],51,gh,ls⟩:St))) y4) ?_ ?_
  ·replace h:=g4;clear g4
   obtain⟨v5,e5,v6,e6,h⟩:=oll h;cases v6 with
   |true=>
    replace h:=iT h;obtain⟨v7,e7,v8,e8,h⟩:=obl h;apply AW.last
    ·simp[Ad e5,← e6,(show y1[0]?=some v7 from (Aa e7).2),← e8];intros;rfl
    obtain rfl:=oi h;exact nP_i (WM [0] hz)
   |false=>
    replace h:=iF h;refine AW.last (by simp[Ad e5,← e6];intros;rfl) ?_;obtain rfl:=oi h;exact nP_i (WM [0] hz)
  ·rintro e s⟨rfl,hw⟩;refine⟨_,hw,?_⟩;try simp only[nm]
   obtain⟨v9,e9,h⟩:=ltE h;rw[← e9];cases v9 with
   |true=>
    replace h:=iT h;refine CT ?_;apply AW.skip;try simp only[nm]
    apply AW.block;obtain⟨v10,e10,h⟩:=bnE h;have f11:=Lu e10;try simp at f11
    refine AW.last (by simp[f11];intros;rfl) ?_;obtain rfl:=oi h;exact nP_i (WM [0] hz)
   |false=>
    replace h:=iF h;refine CF ?_;apply AW.exit;try simp only[nm]
    obtain rfl:=oi h;refine xP_i ?_;exact WM [0] hz
 ·rintro e s⟨rfl,hw⟩;refine⟨_,hw,?_⟩;try simp only[nm]
  refine ST ?_;obtain⟨y12,g12,h⟩:=bnE h;refine zC (p:=fun gh ls=>(nP (cx:=cx) (fun q=>(⟨[(0,.l (dB y2)),(4,.l (.p 0 0)),(6,.l (.p 1 0))],[some ⟨81,4,false,none,cS0⟩,some ⟨81,4,false,none,[iA q.frm,iA q.to,iA q.node,iA q.epoch]⟩],51,gh,ls⟩:St))) y12) ?_ ?_
  ·replace h:=g12;clear g12
   apply AW.block;obtain⟨y13,g13,h⟩:=bnE h;refine zC (p:=fun gh ls=>(nP (cx:=cx) (fun q=>(⟨[(0,.l (dB y2)),(1,.l (iA a1)),(4,.l (.p 0 0)),(6,.l (.p 1 0)),(22,.l (bA q))],[some ⟨81,4,false,none,cS0⟩,some ⟨81,4,false,none,[iA a1,iA 16383,iA 0,iA 0]⟩],51,gh,ls⟩:St))) y13) ?_ ?_
   ·replace h:=g13;clear g13
    obtain⟨v14,e14,v15,e15,h⟩:=oll h;cases v15 with
    |true=>
     replace h:=iT h;obtain⟨v16,e16,v17,e17,h⟩:=obl h;apply AW.last
     ·simp[Ad e14,← e15,(show y2[0]?=some v16 from (Aa e16).2),← e17];intros;rfl
     obtain rfl:=oi h;exact nP_i (WM [0,1] hz)
    |false=>
     replace h:=iF h;refine AW.last (by simp[Ad e14,← e15];intros;rfl) ?_;obtain rfl:=oi h;exact nP_i (WM [0,1] hz)
   ·rintro e s⟨rfl,hw⟩;refine⟨_,hw,?_⟩;try simp only[nm]
    obtain⟨v18,e18,h⟩:=ltE h;rw[← e18];cases v18 with
    |true=>
     replace h:=iT h;refine CT ?_;obtain⟨v19,e19,h⟩:=bnE h;apply AW.step
     ·simp[(show y2[0]?=some v19 from (Aa e19).2)];intros;rfl
     refine SL ?_;obtain rfl:=oi h;exact nP_i (WM [0,1] hz)
    |false=>
     replace h:=iF h;refine CF ?_;obtain⟨v20,e20,v21,e21,h⟩:=oll h;refine AW.step (by simp[Ad e20,← e21];intros;rfl) ?_;cases v21 with
     |true=>
      replace h:=iT h;refine CT ?_;obtain⟨v22,e22,v23,e23,h⟩:=obl h;apply AW.last
      ·simp[(show y2[0]?=some v22 from (Aa e22).2),← e23];intros;rfl
      obtain rfl:=oi h;exact nP_i (WM [0,1] hz)
     |false=>
      replace h:=iF h;refine CF ?_;apply AW.skip;try simp only[nm]
      obtain rfl:=oi h;exact nP_i (WM [0,1] hz)
  ·rintro e s⟨rfl,hw⟩;refine⟨_,hw,?_⟩;try simp only[nm]
   refine ST ?_;obtain rfl:=oi h;apply AW.ret;exact LP hz
theorem Hp:Enters Tryz.prog 124:=enters Tryz.func124 (by kernel_rfl) rfl
def C2 (n:Nat) (a0:Claim) (a1:Claim):Option Bool :=
bn (lt (addI .i64 a0.to 1) fun v2 =>
lt (eqI v2 a1.frm) fun v3 =>
ite' v3 (lt (eqI a0.node a1.node) fun v4 =>
ite' v4 (lt (eqI a0.epoch a1.epoch) fun v5 =>
some (v5)) (some (false))) (some (false))) fun (y1:Bool) =>
some y1
theorem KC {n:Nat} {a0:Claim} {a1:Claim} {r:Bool} (h:C2 n a0 a1=some r):Sound Tryz.prog 125 [.g [iA a0.frm,iA a0.to,iA a0.node,iA a0.epoch],.g [iA a1.frm,iA a1.to,iA a1.node,iA a1.epoch]] [] (.l (bA r)) []:=by
 unfold C2 at h;refine SO 25 Tryz.func125 fun cx hG (hz:cx.nb=0)=>?_;simp only[it];refine ST ?_;obtain⟨y1,g1,h⟩:=bnE h;refine zC (p:=fun gh ls=>(nP (cx:=cx) (fun q=>(⟨[(4,.l (bA q))],[],25,gh,ls⟩:St))) y1) ?_ ?_
 ·replace h:=g1;clear g1
  obtain⟨v2,e2,v3,e3,h⟩:=oll h;cases v3 with
  |true=>
   replace h:=iT h;obtain⟨v4,e4,h⟩:=ltE h;cases v4 with
   |true=>
    replace h:=iT h;obtain⟨v5,e5,h⟩:=ltE h;refine AW.last (by simp[← e2,← e3,← e4,← e5];intros;rfl) ?_;obtain rfl:=oi h;exact nP_i (WM [] hz)
   |false=>
    replace h:=iF h;refine AW.last (by simp[← e2,← e3,← e4];intros;rfl) ?_;obtain rfl:=oi h;exact nP_i (WM [] hz)
  |false=>
   replace h:=iF h;refine AW.last (by simp[← e2,← e3];intros;rfl) ?_;obtain rfl:=oi h;exact nP_i (WM [] hz)
 ·rintro e s⟨rfl,hw⟩;refine⟨_,hw,?_⟩;try simp only[nm]
  obtain rfl:=oi h;apply AW.ret;exact LP hz
theorem J5:Enters Tryz.prog 125:=enters Tryz.func125 (by kernel_rfl) rfl
def B6 (n:Nat) (a0:List Claim) (a1:Claim):Option (List Claim) :=
bn (lt (lenI a0) fun v2 =>
lt (eqI a1.epoch 0) fun v3 =>
ite' v3 (some (a0)) (bn (lt (gtI v2 0) fun v5 =>
ite' v5 (lt (subI .i64 v2 1) fun v6 =>
bn (nth a0 v6) fun v7 =>
bn (C2 n v7 a1) fun v9 =>
some (v9)) (some (false))) fun (y4:Bool) =>
lt (y4) fun v10 =>
ite' v10 (lt (subI .i64 v2 1) fun v11 =>
bn (nth a0 v11) fun v12 =>
lt (a0.set v11.toNat (⟨v12.frm,a1.to,v12.node,v12.epoch⟩:Claim)) fun v14 =>
some (v14)) (chk (room (a0.length+1) 32) <|
lt (a0++[a1]) fun v18 =>
some (v18)))) fun (y1:List Claim) =>
some y1
def DY2t3:List DI:=[⟨[0],[],[(5,none)],false⟩,⟨[0],[0],[(17,some 0)],false⟩,⟨[0],[0,1],[(18,some 1)],false⟩,⟨[0],[0,1,2],[(0,none),(19,some 2)],false⟩,⟨[0],[0,1,2],[(5,none),(19,some 2)],false⟩,⟨[0],[0,1,2,4],[(19,some 2),(21,some 4)],false⟩,⟨[0],[0,1,2,3,4,5],[(19,some 2),(20,some 3),(22,some 5)],false⟩,⟨[0],[0,1,2,3,4,5,6],[(19,some 2),(23,some 6)],false⟩,⟨[0],[0,1,2],[(3,none),(19,some 2)],false⟩,⟨[],[0,1,2,3,4,5,6,7,8],[],false⟩,⟨[],[0,1,2,3,4,5,6,7,8,9],[],false⟩,⟨[],[0,1,2,3,4,5,6,7,8,9,10],[],false⟩]
theorem J6 {n:Nat} {a0:List Claim} {a1:Claim} {r:List Claim} (h:B6 n a0 a1=some r):Sound Tryz.prog 106 [.l (.r 0 4 0 a0.length),.g [iA a1.frm,iA a1.to,iA a1.node,iA a1.epoch]] [⟨81,4,true,none,lvs (Aq a0)⟩] (.l (.r 0 4 0 r.length)) [some ⟨81,4,true,none,lvs (Aq r)⟩]:=by
 unfold B6 at h;refine SO 36 Tryz.func106 fun cx hG (hz:cx.nb=1)=>?_;simp only[it];refine ST ?_;obtain⟨y1,g1,h⟩:=bnE h;refine zC (p:=fun gh ls=>(nP (cx:=cx) (fun q=>(⟨[(0,.l (.r 0 4 0 q.length))],[some ⟨81,4,true,none,lvs (Aq q)⟩],36,gh,ls⟩:St))) y1) ?_ ?_
 ·replace h:=g1;clear g1
  obtain⟨v2,e2,h⟩:=ltE h;refine AW.step (by simp[Ad e2];intros;rfl) ?_;apply AW.block;obtain⟨v3,e3,h⟩:=ltE h;refine AW.step (by simp[← e3];intros;rfl) ?_;cases v3 with
  |true=>
   replace h:=iT h;refine CT ?_;apply AW.skip;try simp only[nm]
   obtain rfl:=oi h;refine nP_i ?_;refine zE 1 [some 0] hz (by decide) (by decide) ?_ ?_ ?_;all_goals first|(simp[Ae,Af,pickOb];done)|rfl
  |false=>
   replace h:=iF h;refine CF ?_;obtain⟨y4,g4,h⟩:=bnE h;refine zC (p:=fun gh ls=>(nP (cx:=cx) (fun q=>(⟨[(0,.l (.r 0 4 0 a0.length)),(3,.l (.p 1 0)),(5,.l (iA v2)),(16,.l (bA q))],[some ⟨81,4,true,none,lvs (Aq a0)⟩,some ⟨81,4,false,none,[iA a1.frm,iA a1.to,iA a1.node,iA a1.epoch]⟩],36,gh,ls⟩:St))) y4) ?_ ?_
   ·replace h:=g4;clear g4
    obtain⟨v5,e5,h⟩:=ltE h;cases v5 with
    |true=>
     replace h:=iT h;obtain⟨v6,e6,v7,e7,h⟩:=olb h;have f8:=A0 e7;try simp[← e5,← e6,Aa e7] at f8
     obtain⟨v9,e9,h⟩:=bnE h;apply zF (V:=[_,_,_,_,_,_,_,_,_]) mixed DY2t3 9 (by kernel_rfl) (by kernel_rfl)
     ·refine⟨?_,?_,?_,?_,?_,?_,?_,?_,?_,trivial⟩;iterate 9 (· intro tm hr;simp[AllL,rdV] at hr;simp[hr,← e5,← e6,Aa e7,f8,EQ (Aa e7).2 (k:=4) (by decide),D6 (Aa e7).2 (show 4≤4 by decide),lvs1];intros;exact KA)
     ·rfl
     ·simp[tmD,putD,← e5,← e6,Aa e7,f8,EQ (Aa e7).2 (k:=4) (by decide),D6 (Aa e7).2 (show 4≤4 by decide),lvs1];rfl
     ·simp[← e5,← e6,Aa e7,f8,EQ (Aa e7).2 (k:=4) (by decide),D6 (Aa e7).2 (show 4≤4 by decide),lvs1];intros;refine Ab J5 (KC e9) rfl ⟨.same rfl,.same rfl,trivial⟩ ?_;try simp[← e5,← e6,Aa e7,f8,EQ (Aa e7).2 (k:=4) (by decide),D6 (Aa e7).2 (show 4≤4 by decide),lvs1]
      intros;rfl
     obtain rfl:=oi h;refine nP_i ?_;refine zE 1 [some 0,some 1] hz (by decide) (by decide) ?_ ?_ ?_;all_goals first|(simp[Ae,Af,pickOb];done)|rfl
    |false=>
     replace h:=iF h;apply zF (V:=[_,_,_,_,_,_,_,_,_]) mixed DY2t3 9 (by kernel_rfl) (by kernel_rfl)
     ·refine⟨?_,?_,?_,?_,?_,?_,?_,?_,?_,trivial⟩;iterate 9 (· intro tm hr;simp[AllL,rdV] at hr;simp[hr,← e5];intros;exact KA)
     ·rfl
     ·simp[tmD,putD,← e5];rfl
     ·simp[← e5];intros;rfl
     obtain rfl:=oi h;refine nP_i ?_;refine zE 1 [some 0,some 1] hz (by decide) (by decide) ?_ ?_ ?_;all_goals first|(simp[Ae,Af,pickOb];done)|rfl
   ·rintro e s⟨rfl,hw⟩;refine⟨_,hw,?_⟩;try simp only[nm]
    obtain⟨v10,e10,h⟩:=ltE h;rw[← e10];cases v10 with
    |true=>
     replace h:=iT h;refine CT ?_;obtain⟨v11,e11,v12,e12,h⟩:=olb h;have f13:=A0 e12;try simp[← e11,Aa e12] at f13
     obtain⟨v14,e14,h⟩:=ltE h;have f15:=Ij (Aa e12).2 e14 (j:=1) (cs:=[iA a1.to]) (by simp) rfl;try simp at f15
     have f16:=f13;try simp only[AC e14] at f16
     refine AW.last (by simp[← e11,Aa e12,f13,HT (Aa e12).2 (j:=1) (m:=1) (by decide),f15,f16];intros;rfl) ?_;obtain rfl:=oi h;refine nP_i ?_;refine zE 1 [some 0] hz (by decide) (by decide) ?_ ?_ ?_;all_goals first|(simp[Ae,Af,pickOb,AC e14];done)|rfl
    |false=>
     replace h:=iF h;refine CF ?_;obtain⟨e17,v18,e18,h⟩:=ocl h;apply AW.last
     ·simp[St.grow,obsBut,← AZ,← e18,Ar e18];intros;refine Ax ?_;try simp[St.grow,obsBut,← AZ,← e18,Ar e18]
      intros;refine FT (acc:=Aq a0) (ys:=Aq [a1]) (cap:=none) (k:=1) Hf He (by simp) (by simp[Aq,lvs]) (BK _) (by simp) (by simp) (by first|(simp;done)|simpa using (Aw e17).1) ?_;try simp[St.grow,obsBut,← AZ,← e18,Ar e18]
      intros;rfl
     obtain rfl:=oi h;refine nP_i ?_;refine zE 1 [some 0] hz (by decide) (by decide) ?_ ?_ ?_;all_goals first|(simp[Ae,Af,pickOb,CQ];done)|rfl
 ·rintro e s⟨rfl,hw⟩;refine⟨_,hw,?_⟩;try simp only[nm]
  refine ST ?_;obtain rfl:=oi h;apply AW.ret;refine Left.of (av:=_) (by simp[Tryz.f106,resV,resC,comp];rfl) ?_;exact zJ 1 [some 0] hz rfl (by decide) rfl (by simp[pickOb,Ae,Af]) (by simp[Ae,Af])
theorem Jw:Enters Tryz.prog 106:=enters Tryz.func106 (by kernel_rfl) rfl
def Bs (n:Nat) (a0:List Claim) (a1:List Span) (a2:Int) (a3:Int):Option (List Claim) :=
bn (CS n a1) fun v1 =>
lt (lenI v1) fun v2 =>
bn (iter n (fun (y3:Int×List Claim) =>
lt (ltI y3.1 v2) fun v6 =>
ite' v6 (bn (nth v1 y3.1) fun v7 =>
chk (room (y3.2.length+1) 32) <|
lt (y3.2++[(⟨v7.frm,v7.to,a2,a3⟩:Claim)]) fun v9 =>
lt (addI .i64 y3.1 1) fun v10 =>
some (.inl (v10,v9))) (some (.inr y3.2))) (0,[])) fun (y4:List Claim) =>
bn (chk (room y4.length 1) <|
bn (E1 n a0 y4) fun v13 =>
bn (iter n (fun (y14:Int×List Claim×List Claim×ClaimsPiece×List Claim) =>
lt (leI y14.1 16383) fun v17 =>
ite' v17 (bn (CA n y14.2.1 y14.1) fun v18 =>
bn (CA n y14.2.2.1 y14.1) fun v19 =>
lt (minI v18.1.to v19.1.to) fun v20 =>
bn (lt (gtI v19.1.epoch 0) fun v22 =>
ite' v22 (some ((⟨(⟨v19.1.frm,v20,v19.1.node,v19.1.epoch⟩:Claim),(⟨v19.1.frm,v20,v19.1.node,v19.1.epoch⟩:Claim)⟩:ClaimsPiece))) (some ((⟨(⟨v18.1.frm,v20,v18.1.node,v18.1.epoch⟩:Claim),(⟨v19.1.frm,v20,v19.1.node,v19.1.epoch⟩:Claim)⟩:ClaimsPiece)))) fun (y21:ClaimsPiece) =>
bn (B6 n y14.2.2.2.2 y21.a) fun v23 =>
lt (addI .i64 v20 1) fun v24 =>
some (.inl (v24,v18.2,v19.2,(⟨(⟨v18.1.frm,v20,v18.1.node,v18.1.epoch⟩:Claim),(⟨v19.1.frm,v20,v19.1.node,v19.1.epoch⟩:Claim)⟩:ClaimsPiece),v23))) (some (.inr (y14.2.1,y14.2.2.1,y14.2.2.2.2)))) (0,v13.1,v13.2,(⟨(⟨0,0,0,0⟩:Claim),(⟨0,0,0,0⟩:Claim)⟩:ClaimsPiece),[])) fun (y15:List Claim×List Claim×List Claim) =>
some (y15.2.2)) fun (y11:List Claim) =>
chk (room y11.length 1) <|
some y11
theorem LI {n:Nat} {a0:List Claim} {a1:List Span} {a2:Int} {a3:Int} {r:List Claim} (h:Bs n a0 a1 a2 a3=some r):Sound Tryz.prog 79 [.l (dB a0),.l (dJ a1),.l (iA a2),.l (iA a3)] [] (.l (dB r)) []:=by
 unfold Bs at h;refine SO 48 Tryz.func79 fun cx hG (hz:cx.nb=0)=>?_;simp only[it];refine ST ?_;refine ST ?_;apply AW.seq;obtain⟨v1,e1,v2,e2,h⟩:=obl h;apply AW.step
 ·simp[Ad e2];intros;refine Ab LH (MI e1) rfl ⟨.d _ _ _,trivial⟩ ?_;try simp[Ad e2]
  intros;rfl
 apply AW.block;obtain⟨y4,g4,h⟩:=bnE h;refine zD g4 (mk:=fun gh ls q=>(⟨[(0,.l (dB a0)),(2,.l (iA a2)),(3,.l (iA a3)),(9,.l (.r 0 4 0 q.2.length)),(10,.l (.p 1 0)),(15,.l (dG v1)),(16,.l (iA v2)),(17,.l (iA q.1))],[some ⟨81,4,true,none,lvs (Aq q.2)⟩,some ⟨24,1,false,none,[.s (.slice none 0 0)]⟩],48,gh,ls⟩:St)) (N:=fun gh ls=>(xP 0 (cx:=cx) (fun q=>(⟨[(0,.l (dB a0)),(9,.l (.r 0 4 0 q.length)),(10,.l (.p 1 0))],[some ⟨81,4,true,none,lvs (Aq q)⟩,some ⟨24,1,false,none,[.s (.slice none 0 0)]⟩],48,gh,ls⟩:St)))) ?_ noX ?_ ?_
 ·refine W.nilRow 9 81 4 1 (by simp) rfl rfl ?_;exact WM [1,0] hz
 ·clear h;intro y3 y5 h
  obtain⟨v6,e6,h⟩:=ltE h;refine AW.step (by simp[← e6];intros;rfl) ?_;apply AW.seq;cases v6 with
  |true=>
   replace h:=iT h;refine CT ?_;apply AW.skip;try simp only[nm]
   apply AW.seq;apply AW.block;obtain⟨v7,e7,h⟩:=bnE h;refine AW.step (by simp[Aa e7];intros;rfl) ?_;obtain⟨e8,v9,e9,h⟩:=ocl h;apply AW.last
   ·simp[← AZ,← e9,Ar e9];intros;refine Ax ?_;try simp[← AZ,← e9,Ar e9]
    intros;refine AD (acc:=Aq y3.2) (ys:=Aq [(⟨v7.frm,v7.to,a2,a3⟩:Claim)]) (cap:=none) (k:=1) Hf He (by simp) (by simp[Aq,lvs]) (BK _) (by simp) (by simp) (by first|(simp;done)|simpa using (Aw e8).1) ?_;try simp[← AZ,← e9,Ar e9]
    intros;rfl
   try simp only[nm]
   obtain⟨v10,e10,h⟩:=ltE h;refine AW.last (by simp[← e10];intros;rfl) ?_;obtain rfl:=oi h;refine nP_i ?_;refine zG [some 4,some 1] hz (by decide) ?_ ?_ rfl;all_goals first|(simp[Ae,Af,pickOb,CQ];done)|rfl
  |false=>
   replace h:=iF h;refine CF ?_;apply AW.exit;try simp only[nm]
   obtain rfl:=oi h;refine xP_i ?_;exact WM [0,1] hz
 ·rintro e s⟨rfl,hw⟩;refine⟨_,hw,?_⟩;try simp only[nm]
  obtain⟨y11,g11,h⟩:=bnE h;refine zC (p:=fun gh ls=>(nP (cx:=cx) (fun q=>(⟨[(10,.l (.p 0 0))],[some ⟨24,1,false,none,[.r 1 4 0 q.length]⟩,some ⟨81,4,true,none,lvs (Aq q)⟩],48,gh,ls⟩:St))) y11) ?_ ?_
  ·replace h:=g11;clear g11
   obtain⟨e12,h⟩:=chkE h;refine FZ 0 81 4 (BK y4) e12 ?_;obtain⟨v13,e13,h⟩:=bnE h;apply AW.step
   ·simp;intros;refine AS Jv (J4 e13) rfl (by simp) ⟨.same rfl,.same rfl,trivial⟩ ?_;try simp
    intros;rfl
   apply AW.block;refine AW.weak (zR [(10,.l (.p 1 0)),(34,.l (.f 123 [2,3]))] (by simp)) ?_;refine zS rfl Tryz.func123 (by kernel_rfl) rfl (by decide) rfl rfl fun cxI1 yl1 hnI1 hY1=>?_;have hnJ1:cxI1.nb=0:=hnI1.trans hz;simp only[initTm,List.map_cons,List.map_nil];refine ST ?_;refine ST ?_;apply AW.block;obtain⟨y15,g15,h⟩:=bnE h;refine zD g15 (mk:=fun gh ls q=>(⟨[(0,.l (.s (.func (.yield yl1) #[] #[]))),(1,.l (.p 2 0)),(2,.l (.p 3 0)),(4,.l (.p 4 0)),(5,.l (iA q.1))],[none,some ⟨24,1,false,none,[.r 5 4 0 q.2.2.2.2.length]⟩,some ⟨24,1,false,none,[dB q.2.1]⟩,some ⟨24,1,false,none,[dB q.2.2.1]⟩,some ⟨173,8,false,none,[iA q.2.2.2.1.a.frm,iA q.2.2.2.1.a.to,iA q.2.2.2.1.a.node,iA q.2.2.2.1.a.epoch,iA q.2.2.2.1.b.frm,iA q.2.2.2.1.b.to,iA q.2.2.2.1.b.node,iA q.2.2.2.1.b.epoch]⟩,some ⟨81,4,true,none,lvs (Aq q.2.2.2.2)⟩],44,gh,ls⟩:St)) (N:=fun gh ls=>(xP 0 (cx:=cxI1) (fun q=>(⟨[],[none,some ⟨24,1,false,none,[.r 4 4 0 q.2.2.length]⟩,some ⟨24,1,false,none,[dB q.1]⟩,some ⟨24,1,false,none,[dB q.2.1]⟩,some ⟨81,4,true,none,lvs (Aq q.2.2)⟩],44,gh,ls⟩:St)))) ?_ noX ?_ ?_
   ·refine W.nilCell 1 0 81 4 5 rfl rfl rfl rfl rfl ?_;refine zE 0 [some 0,some 1,some 2,some 3,some 4,some 5] hnJ1 (by decide) (by decide) ?_ ?_ ?_;all_goals first|(simp[Ae,Af,pickOb];done)|rfl
   ·clear h;intro y14 y16 h
    apply AW.seq;obtain⟨v17,e17,h⟩:=ltE h;refine AW.step (by simp[← e17];intros;rfl) ?_;cases v17 with
    |true=>
     replace h:=iT h;refine CT ?_;apply AW.skip;try simp only[nm]
     apply AW.seq;apply AW.block;obtain⟨v18,e18,h⟩:=bnE h;apply AW.step
     ·simp;intros;refine Ab Hp (HY e18) rfl ⟨.same rfl,.same rfl,trivial⟩ ?_;try simp
      intros;rfl
     obtain⟨v19,e19,h⟩:=bnE h;apply AW.step
     ·simp;intros;refine Ab Hp (HY e19) rfl ⟨.same rfl,.same rfl,trivial⟩ ?_;try simp
      intros;rfl
     obtain⟨v20,e20,h⟩:=ltE h;refine AW.step (by simp[← e20];intros;rfl) ?_;refine ST ?_;refine zQ ?_;apply xopsY.yield hY1 0 2 rfl rfl rfl (by decide)
     ·simp;intros;rfl
     ·rfl
     ·first|trivial|simp
     ·rfl
     ·rfl
     ·simp[puts];rfl
     intro cxR1 hnR1;have hnS1:cxR1.nb=0:=hnR1.trans hnJ1;refine SL ?_;refine⟨rfl,?_⟩;apply AW.block;obtain⟨y21,g21,h⟩:=bnE h;refine zC (p:=fun gh ls=>(nP (cx:=cxR1) (fun q=>(⟨[(10,.l (.p 1 0)),(13,.l (.p 6 0))],[none,some ⟨24,1,false,none,[.r 5 4 0 y14.2.2.2.2.length]⟩,some ⟨24,1,false,none,[dB v18.2]⟩,some ⟨24,1,false,none,[dB v19.2]⟩,some ⟨173,8,false,none,[iA v18.1.frm,iA v20,iA v18.1.node,iA v18.1.epoch,iA v19.1.frm,iA v20,iA v19.1.node,iA v19.1.epoch]⟩,some ⟨81,4,true,none,lvs (Aq y14.2.2.2.2)⟩,some ⟨173,8,false,none,[iA q.a.frm,iA q.a.to,iA q.a.node,iA q.a.epoch,iA q.b.frm,iA q.b.to,iA q.b.node,iA q.b.epoch]⟩],48,gh,ls⟩:St))) y21) ?_ ?_
     ·replace h:=g21;clear g21
      obtain⟨v22,e22,h⟩:=ltE h;refine AW.step (by simp[← e22];intros;rfl) ?_;cases v22 with
      |true=>
       replace h:=iT h;refine CT ?_;refine SL ?_;obtain rfl:=oi h;refine nP_i ?_;refine zE 0 [some 0,some 1,some 2,some 3,some 4,some 5,some 6] hnS1 (by decide) (by decide) ?_ ?_ ?_;all_goals first|(simp[Ae,Af,pickOb];done)|rfl
      |false=>
       replace h:=iF h;refine CF ?_;apply AW.skip;try simp only[nm]
       obtain rfl:=oi h;refine nP_i ?_;refine zE 0 [some 0,some 1,some 2,some 3,some 4,some 5,some 6] hnS1 (by decide) (by decide) ?_ ?_ ?_;all_goals first|(simp[Ae,Af,pickOb];done)|rfl
     ·rintro e s⟨rfl,hw⟩;refine⟨_,hw,?_⟩;try simp only[nm]
      obtain⟨v23,e23,h⟩:=bnE h;apply AW.last
      ·simp[obAfter,outR,keptR,Ae,Af];intros;refine Cf [5] Jw (J6 e23) (by decide) (by simp[pickOb,Ae,Af]) rfl rfl (by simp) ⟨.l (.own' (by simp[Ae,Af]) (by simp)),.g ⟨.s _,.s _,.s _,.s _,trivial⟩,trivial⟩ ?_;try simp[obAfter,outR,keptR,Ae,Af]
       intros;rfl
      refine⟨_,_,rfl,?_⟩;refine BL _ _ _ rfl ?_;simp[puts];try intros
      unfold KK;refine CF ?_;apply AW.skip;try simp only[nm]
      obtain⟨v24,e24,h⟩:=ltE h;refine AW.last (by simp[← e24];intros;rfl) ?_;obtain rfl:=oi h;refine nP_i ?_;refine zE 0 [some 0,some 1,some 2,some 3,some 4,some 5] hnJ1 (by decide) (by decide) ?_ ?_ ?_;all_goals first|(simp[Ae,Af,pickOb];done)|rfl
    |false=>
     replace h:=iF h;refine CF ?_;apply AW.exit;try simp only[nm]
     obtain rfl:=oi h;refine xP_i ?_;refine zE 0 [some 0,some 1,some 2,some 3,some 5] hnJ1 (by decide) (by decide) ?_ ?_ ?_;all_goals first|(simp[Ae,Af,pickOb];done)|rfl
   ·rintro e s⟨rfl,hw⟩;refine⟨_,hw,?_⟩;try simp only[nm]
    refine⟨_,_,rfl,?_⟩;try simp only[]
    try simp only[nm]
    obtain rfl:=oi h;exact nP_i (WM [1,4] hz)
  ·rintro e s⟨rfl,hw⟩;refine⟨_,hw,?_⟩;try simp only[nm]
   refine ST ?_;obtain⟨e25,h⟩:=chkE h;refine FZ 1 81 4 (BK y11) e25 ?_;obtain rfl:=oi h;apply AW.ret;exact LP hz
theorem KE:Enters Tryz.prog 79:=enters Tryz.func79 (by kernel_rfl) rfl
def CI (n:Nat) (a0:Node) (a1:Move):Option Node :=
lt (addI .i64 a0.epoch 1) fun v1 =>
chk (room 1 1) <|
bn (Bs n a0.claims [(⟨a1.slot,a1.slot⟩:Span)] a1.to v1) fun v3 =>
some (⟨a0.count,a0.id,a0.master,v1,a0.voted,v3,a0.db,a0.moves,a0.last,a0.seen,a0.feed,a0.watch,a0.asked,a0.votes,a0.wait⟩:Node)
theorem J7 {n:Nat} {a0:Node} {a1:Move} {r:Node} (h:CI n a0 a1=some r):Sound Tryz.prog 39 [.g (cA0 a0),.g [iA a1.slot,iA a1.to,iA a1.num,tA a1.key]] [] (.g (cA0 r)) []:=by
 unfold CI at h;refine SO 24 Tryz.func39 fun cx hG (hz:cx.nb=0)=>?_;simp only[it];refine ST ?_;obtain⟨v1,e1,h⟩:=ltE h;refine AW.step (by simp[← e1];intros;rfl) ?_;obtain⟨e2,h⟩:=chkE h;obtain⟨v3,e3,h⟩:=bnE h;apply AW.step
 ·simp;intros;refine Ax ?_;try simp
  intros;refine Ab KE (LI e3) rfl ⟨.same rfl,.rowd (by simp[Di]) rfl (by omega) (CY _) (by simp) (by first|exact (Aw e2).2|simpa using (Aw e2).2|simp),.same rfl,.same rfl,trivial⟩ ?_;try simp
  intros;rfl
 refine ST ?_;obtain rfl:=oi h;apply AW.ret;exact LP hz
theorem Jx:Enters Tryz.prog 39:=enters Tryz.func39 (by kernel_rfl) rfl
def EH (n:Nat) (a0:Node) (a1:Move):Option Msg :=
bn (D9 n a0.db a1.key) fun v1 =>
chk (room 1 1) <|
some (⟨2,a0.id,a1.to,0,[],[],0,a1.slot,a1.num,(⟨0,0⟩:Rid),(⟨0,0⟩:Rid),0,[(⟨a1.key,false,v1.1⟩:Effect)]⟩:Msg)
theorem OV {n:Nat} {a0:Node} {a1:Move} {r:Msg} (h:EH n a0 a1=some r):Sound Tryz.prog 40 [.g (cA0 a0),.g [iA a1.slot,iA a1.to,iA a1.num,tA a1.key]] [] (.g (cC0 r)) []:=by
 unfold EH at h;refine SO 29 Tryz.func40 fun cx hG (hz:cx.nb=0)=>?_;simp only[it];refine ST ?_;obtain⟨v1,e1,h⟩:=bnE h;apply AW.step
 ·simp;intros;refine Ab MA (Nq e1) rfl ⟨.same rfl,.same rfl,trivial⟩ ?_;try simp
  intros;rfl
 apply AW.step
 ·simp;intros;refine Ax ?_;try simp
  intros;rfl
 refine AW.nilCellD 2 4 4 rfl rfl rfl rfl ?_;refine AW.nilCellD 2 5 1 rfl rfl rfl rfl ?_;obtain⟨e2,h⟩:=chkE h;refine AW.frzRow 4 (ty:=59) (cap:=none) (sz:=7) (es:=An [(⟨a1.key,false,v1.1⟩:Effect)]) (by simp[FG]) (by omega) (Bh _) (by first|exact (Aw e2).2|simpa using (Aw e2).2|simp) (by simp[Tm.frz,AV.frz,LV.frz,(show List.take 1 (An [(⟨a1.key,false,v1.1⟩:Effect)])=An [(⟨a1.key,false,v1.1⟩:Effect)] from rfl)];rfl) (by simp[Ob.frz,LV.frz,(show List.take 1 (An [(⟨a1.key,false,v1.1⟩:Effect)])=An [(⟨a1.key,false,v1.1⟩:Effect)] from rfl)];rfl) rfl ?_;obtain rfl:=oi h;apply AW.ret;exact LP hz
theorem Nx:Enters Tryz.prog 40:=enters Tryz.func40 (by kernel_rfl) rfl
def CJ (n:Nat) (a0:Node):Option (Node×List Msg) :=
bn (Bm n a0) fun v1 =>
lt (neI v1.master (-1)) fun v2 =>
ite' v2 (chk (room v1.moves.length 1) <|
chk (room v1.seen.length 1) <|
some (v1,[])) (bn (chk (room v1.moves.length 1) <|
bn (ET n v1.moves) fun v7 =>
lt (lenI v7) fun v8 =>
chk (room v1.seen.length 1) <|
bn (iter n (fun (y9:Int×Node×List Move×List Msg) =>
lt (ltI y9.1 v8) fun v13 =>
ite' v13 (bn (nth v7 y9.1) fun v14 =>
bn (bn (lt (eqI v14.num 0) fun v17 =>
ite' v17 (bn (EF n y9.2.1.db v14.slot) fun v18 =>
lt (lenI v18) fun v19 =>
lt (eqI v19 0) fun v20 =>
ite' v20 (bn (CI n y9.2.1 v14) fun v21 =>
some (.inr v21)) (lt (addI .i64 y9.2.1.last 1) fun v22 =>
bn (nth v18 0) fun v23 =>
some (.inl ((⟨y9.2.1.count,y9.2.1.id,y9.2.1.master,y9.2.1.epoch,y9.2.1.voted,y9.2.1.claims,y9.2.1.db,y9.2.1.moves,v22,y9.2.1.seen,y9.2.1.feed,y9.2.1.watch,y9.2.1.asked,y9.2.1.votes,y9.2.1.wait⟩:Node),(⟨v14.slot,v14.to,v22,v23⟩:Move))))) (some (.inl (y9.2.1,v14)))) fun (y16:(Node×Move) ⊕ Node) =>
sm y16 (fun y24=>chk (room (y9.2.2.1.length+1) 40) <|
lt (y9.2.2.1++[y24.2]) fun v27 =>
bn (EH n y24.1 y24.2) fun v28 =>
chk (room (y9.2.2.2.length+1) 168) <|
lt (y9.2.2.2++[v28]) fun v30 =>
some ((y24.1,v27,v30))) (fun y25=>some ((y25,y9.2.2.1,y9.2.2.2)))) fun (y15:Node×List Move×List Msg) =>
lt (addI .i64 y9.1 1) fun v31 =>
some (.inl (v31,y15.1,y15.2.1,y15.2.2))) (some (.inr (y9.2.1,y9.2.2.1,y9.2.2.2)))) (0,v1,[],[])) fun (y10:Node×List Move×List Msg) =>
some ((y10.1,y10.2.1,y10.2.2))) fun (y5:Node×List Move×List Msg) =>
chk (room y5.2.1.length 1) <|
chk (room y5.2.2.length 1) <|
some ((⟨y5.1.count,y5.1.id,y5.1.master,y5.1.epoch,y5.1.voted,y5.1.claims,y5.1.db,y5.2.1,y5.1.last,y5.1.seen,y5.1.feed,y5.1.watch,y5.1.asked,y5.1.votes,y5.1.wait⟩:Node),y5.2.2))
theorem I9 {n:Nat} {a0:Node} {r:Node×List Msg} (h:CJ n a0=some r):Sound Tryz.prog 12 [.g (cA0 a0)] [] (.t [(true,(cA0 r.1)),(false,[.d false 15 (AA r.2)])]) []:=by
 unfold CJ at h;refine SO 57 Tryz.func12 fun cx hG (hz:cx.nb=0)=>?_;simp only[it];refine ST ?_;refine AW.scope ?_ ?_
 ·first|exact fun l s h=>h|(intro l s h;simpa [nP,sp,xP,rP] using h)
 obtain⟨v1,e1,h⟩:=bnE h;apply AW.step
 ·simp[outR];intros;refine AS De (DE e1) rfl (by simp) ⟨.same rfl,trivial⟩ ?_;try simp[outR]
  intros;rfl
 apply AW.seq;obtain⟨v2,e2,h⟩:=ltE h;refine AW.step (by simp[← e2];intros;rfl) ?_;cases v2 with
 |true=>
  replace h:=iT h;refine CT ?_;refine ST ?_;obtain⟨e3,h⟩:=chkE h;refine FZ 2 92 4 (AB v1.moves) e3 ?_;obtain⟨e4,h⟩:=chkE h;refine FZ 3 100 3 (AI v1.seen) e4 ?_;refine AW.nilD 3 15 (by simp) ?_;obtain rfl:=oi h;apply AW.ret;exact LP hz
 |false=>
  replace h:=iF h;refine CF ?_;apply AW.skip;try simp only[nm]
  refine ST ?_;refine ST ?_;apply AW.seq;refine AW.label ?_;try simp only[nm]
  obtain⟨y5,g5,h⟩:=bnE h;refine zC (p:=fun gh ls=>(nP (cx:=cx) (fun q=>(⟨[(1,.l (.p 0 0)),(2,.l (.p 1 0)),(4,.l (.p 2 0)),(5,.l (.p 3 0))],[some ⟨38,22,false,none,(cA0 q.1)⟩,some ⟨38,22,false,none,cB0⟩,some ⟨26,1,false,none,[.r 4 4 0 q.2.1.length]⟩,some ⟨45,1,false,none,[.r 5 15 0 q.2.2.length]⟩,some ⟨92,4,true,none,lvs (Am q.2.1)⟩,some ⟨49,15,true,none,lvs (AA q.2.2)⟩],57,gh,ls⟩:St))) y5) ?_ ?_
  ·replace h:=g5;clear g5
   obtain⟨e6,h⟩:=chkE h;refine FZ 2 92 4 (AB v1.moves) e6 ?_;obtain⟨v7,e7,h⟩:=bnE h;apply AW.step
   ·simp;intros;refine AS LE (MF e7) rfl (by simp) ⟨.same rfl,trivial⟩ ?_;try simp
    intros;rfl
   apply AW.block;refine AW.weak (zR [(1,.l (.p 0 0)),(2,.l (.p 1 0)),(4,.l (.p 4 0)),(5,.l (.p 5 0)),(16,.l (.f 101 [6]))] (by simp)) ?_;refine zS rfl Tryz.func101 (by kernel_rfl) rfl (by decide) rfl rfl fun cxI1 yl1 hnI1 hY1=>?_;have hnJ1:cxI1.nb=0:=hnI1.trans hz;simp only[initTm,List.map_cons,List.map_nil];obtain⟨v8,e8,h⟩:=ltE h;refine AW.step (by simp[Ad e8];intros;rfl) ?_;apply AW.block;obtain⟨e11,h⟩:=chkE h;obtain⟨y10,g10,h⟩:=bnE h;refine zD g10 (mk:=fun gh ls q=>(⟨[(0,.l (.s (.func (.yield yl1) #[] #[]))),(5,.l (dI v7)),(6,.l (iA v8)),(7,.l (iA q.1))],[some ⟨38,22,false,none,(cA0 q.2.1)⟩,some ⟨38,22,false,none,cB0⟩,none,none,some ⟨26,1,false,none,[.r 7 4 0 q.2.2.1.length]⟩,some ⟨45,1,false,none,[.r 8 15 0 q.2.2.2.length]⟩,some ⟨26,1,false,none,[dI v7]⟩,some ⟨92,4,true,none,lvs (Am q.2.2.1)⟩,some ⟨49,15,true,none,lvs (AA q.2.2.2)⟩],16,gh,ls⟩:St)) (N:=fun gh ls=>(xP 0 (cx:=cxI1) (fun q=>(⟨[],[some ⟨38,22,false,none,(cA0 q.1)⟩,some ⟨38,22,false,none,cB0⟩,none,none,some ⟨26,1,false,none,[.r 7 4 0 q.2.1.length]⟩,some ⟨45,1,false,none,[.r 8 15 0 q.2.2.length]⟩,some ⟨26,1,false,none,[dI v7]⟩,some ⟨92,4,true,none,lvs (Am q.2.1)⟩,some ⟨49,15,true,none,lvs (AA q.2.2)⟩],16,gh,ls⟩:St)))) ?_ noX ?_ ?_
   ·refine W.frzRow 3 (ty:=100) (cap:=none) (sz:=3) (es:=Ap v1.seen) (by simp) (by omega) (AI _) (by first|exact (Aw e11).2|simpa using (Aw e11).2|simp) (by simp[Tm.frz,AV.frz,LV.frz];rfl) (by simp[Ob.frz,LV.frz];rfl) (by simp[Tm.frz,AV.frz,LV.frz];rfl) ?_;refine W.nilCell 4 0 92 4 7 rfl rfl rfl rfl rfl ?_;refine W.nilCell 5 0 49 15 8 rfl rfl rfl rfl rfl ?_;refine zE 0 [some 0,some 1,some 2,some 3,some 4,some 5,some 6,some 7,some 8] hnJ1 (by decide) (by decide) ?_ ?_ ?_;all_goals first|(simp[Ae,Af,pickOb];done)|rfl
   ·clear h;intro y9 y12 h
    obtain⟨v13,e13,h⟩:=ltE h;refine AW.step (by simp[← e13];intros;rfl) ?_;apply AW.seq;cases v13 with
    |true=>
     replace h:=iT h;refine CT ?_;apply AW.skip;try simp only[nm]
     apply AW.seq;apply AW.block;obtain⟨v14,e14,h⟩:=bnE h;refine AW.step (by simp[Aa e14];intros;rfl) ?_;refine zQ ?_;apply xopsY.yield hY1 0 2 rfl rfl rfl (by decide)
     ·simp;intros;rfl
     ·rfl
     ·first|trivial|simp
     ·rfl
     ·rfl
     ·simp[puts];rfl
     intro cxR1 hnR1;have hnS1:cxR1.nb=0:=hnR1.trans hnJ1;refine SL ?_;refine⟨rfl,?_⟩;obtain⟨y15,g15,h⟩:=bnE h;refine zP (p:=fun gh ls=>(nP (cx:=cxR1) (fun q=>(⟨[],[some ⟨38,22,false,none,(cA0 q.1)⟩,some ⟨38,22,false,none,cB0⟩,none,none,some ⟨26,1,false,none,[.r 10 4 0 q.2.1.length]⟩,some ⟨45,1,false,none,[.r 11 15 0 q.2.2.length]⟩,some ⟨26,1,false,none,[dI v7]⟩,none,none,some ⟨92,4,false,none,[iA v14.slot,iA v14.to,iA v14.num,tA v14.key]⟩,some ⟨92,4,true,none,lvs (Am q.2.1)⟩,some ⟨49,15,true,none,lvs (AA q.2.2)⟩],57,gh,ls⟩:St))) y15) ?_ ?_
     ·replace h:=g15;clear g15
      apply AW.block;obtain⟨y16,g16,h⟩:=bnE h;refine zC (p:=fun gh ls=>(sp (nP (cx:=cxR1) (fun q=>(⟨[(1,.l (.p 0 0)),(4,.l (.p 4 0)),(5,.l (.p 5 0)),(6,.l (.p 10 0))],[some ⟨38,22,false,none,(cA0 q.1)⟩,some ⟨38,22,false,none,cB0⟩,none,none,some ⟨26,1,false,none,[.r 7 4 0 y9.2.2.1.length]⟩,some ⟨45,1,false,none,[.r 8 15 0 y9.2.2.2.length]⟩,some ⟨26,1,false,none,[dI v7]⟩,some ⟨92,4,true,none,lvs (Am y9.2.2.1)⟩,some ⟨49,15,true,none,lvs (AA y9.2.2.2)⟩,some ⟨92,4,false,none,[iA v14.slot,iA v14.to,iA v14.num,tA v14.key]⟩,some ⟨92,4,false,none,[iA q.2.slot,iA q.2.to,iA q.2.num,tA q.2.key]⟩],57,gh,ls⟩:St))) (xP 1 (cx:=cxR1) (fun q=>(⟨[],[some ⟨38,22,false,none,(cA0 q)⟩,some ⟨38,22,false,none,cB0⟩,none,none,some ⟨26,1,false,none,[.r 7 4 0 y9.2.2.1.length]⟩,some ⟨45,1,false,none,[.r 8 15 0 y9.2.2.2.length]⟩,some ⟨26,1,false,none,[dI v7]⟩,some ⟨92,4,true,none,lvs (Am y9.2.2.1)⟩,some ⟨49,15,true,none,lvs (AA y9.2.2.2)⟩,some ⟨92,4,false,none,[iA v14.slot,iA v14.to,iA v14.num,tA v14.key]⟩],57,gh,ls⟩:St)))) y16) ?_ ?_
      ·replace h:=g16;clear g16
       obtain⟨v17,e17,h⟩:=ltE h;refine AW.step (by simp[← e17];intros;rfl) ?_;cases v17 with
       |true=>
        replace h:=iT h;refine CT ?_;obtain⟨v18,e18,h⟩:=bnE h;apply AW.step
        ·simp;intros;refine Ab Nt (OP e18) rfl ⟨.same rfl,.same rfl,trivial⟩ ?_;try simp
         intros;rfl
        apply AW.seq;obtain⟨v19,e19,v20,e20,h⟩:=oll h;refine AW.step (by simp[Ad e19,← e20];intros;rfl) ?_;cases v20 with
        |true=>
         replace h:=iT h;refine CT ?_;obtain⟨v21,e21,h⟩:=bnE h;apply AW.step
         ·simp;intros;refine Ab Jx (J7 e21) rfl ⟨.same rfl,.same rfl,trivial⟩ ?_;try simp
          intros;rfl
         apply AW.exit;try simp only[nm]
         obtain rfl:=oi h;try simp only[sp_l,sp_r]
         refine xP_i ?_;refine zE 0 [some 0,some 1,some 2,some 3,some 4,some 5,some 6,some 7,some 8,some 9] hnS1 (by decide) (by decide) ?_ ?_ ?_;all_goals first|(simp[Ae,Af,pickOb];done)|rfl
        |false=>
         replace h:=iF h;refine CF ?_;apply AW.skip;try simp only[nm]
         obtain⟨v22,e22,h⟩:=ltE h;refine AW.step (by simp[← e22];intros;rfl) ?_;obtain⟨v23,e23,h⟩:=bnE h;apply zT (V:=[_,_,_,_,_,_,_]) (M:=[[some ⟨38,22,false,none,(cO0 y9.2.1 (iA v22))⟩,some ⟨38,22,false,none,cB0⟩,none,none,some ⟨26,1,false,none,[.r 7 4 0 y9.2.2.1.length]⟩,some ⟨45,1,false,none,[.r 8 15 0 y9.2.2.2.length]⟩,some ⟨26,1,false,none,[dI v7]⟩,some ⟨92,4,true,none,lvs (Am y9.2.2.1)⟩,some ⟨49,15,true,none,lvs (AA y9.2.2.2)⟩,some ⟨92,4,false,none,[iA v14.slot,iA v14.to,iA v14.num,tA v14.key]⟩,some ⟨92,4,false,none,[iA v14.slot,iA v14.to,iA v14.num,tA v14.key]⟩],[some ⟨38,22,false,none,(cO0 y9.2.1 (iA v22))⟩,some ⟨38,22,false,none,cB0⟩,none,none,some ⟨26,1,false,none,[.r 7 4 0 y9.2.2.1.length]⟩,some ⟨45,1,false,none,[.r 8 15 0 y9.2.2.2.length]⟩,some ⟨26,1,false,none,[dI v7]⟩,some ⟨92,4,true,none,lvs (Am y9.2.2.1)⟩,some ⟨49,15,true,none,lvs (AA y9.2.2.2)⟩,some ⟨92,4,false,none,[iA v14.slot,iA v14.to,iA v14.num,tA v14.key]⟩,some ⟨92,4,false,none,[iA v14.slot,iA v14.to,iA v22,tA v14.key]⟩]]) mixed [⟨[0],[],[(1,none)],false⟩,⟨[0],[0],[(36,some 0)],false⟩,⟨[0,1],[],[(7,none)],false⟩,⟨[0,1],[2],[(38,some 2)],false⟩,⟨[0,1],[2,3],[(39,some 3)],false⟩,⟨[0],[0,1],[(6,none)],false⟩,⟨[0],[0,1,5],[(37,some 1),(41,some 5)],true⟩,⟨[],[0,1,2,3,4,5,6],[],false⟩,⟨[],[0,1,2,3,4,5,6,7],[],false⟩] 7 1 (by kernel_rfl) (by kernel_rfl)
         ·rfl
         ·refine⟨?_,?_,⟨?_,?_⟩,⟨?_,?_⟩,⟨?_,?_⟩,?_,?_,trivial⟩;iterate 10 (· intro tm hr;simp[AllL,rdV] at hr;simp[hr,(show v18[0]?=some v23 from (Aa e23).2)];intros;exact KA)
         ·rfl
         ·simp[tmD,putD,(show v18[0]?=some v23 from (Aa e23).2)];rfl
         ·simp[(show v18[0]?=some v23 from (Aa e23).2)];intros;rfl
         obtain rfl:=oi h;try simp only[sp_l,sp_r]
         refine nP_i ?_;refine zE 0 [some 0,some 1,some 2,some 3,some 4,some 5,some 6,some 7,some 8,some 9,some 10] hnS1 (by decide) (by decide) ?_ ?_ ?_;all_goals first|(simp[Ae,Af,pickOb];done)|rfl
       |false=>
        replace h:=iF h;refine CF ?_;apply AW.skip;try simp only[nm]
        obtain rfl:=oi h;try simp only[sp_l,sp_r]
        refine nP_i ?_;refine zE 0 [some 0,some 1,some 2,some 3,some 4,some 5,some 6,some 7,some 8,some 9,some 10] hnS1 (by decide) (by decide) ?_ ?_ ?_;all_goals first|(simp[Ae,Af,pickOb];done)|rfl
      ·rintro e s hp;rcases y16 with y24|y25
       ·replace h:=smL h;obtain⟨rfl,hw⟩:=hp;refine⟨_,hw,?_⟩;try simp only[nm]
        obtain⟨e26,v27,e27,h⟩:=ocl h;apply AW.step
        ·simp[← A8,← e27,Ar e27];intros;refine Ax ?_;try simp[← A8,← e27,Ar e27]
         intros;refine AD (acc:=Am y9.2.2.1) (ys:=Am [y24.2]) (cap:=none) (k:=1) Cm Cw (by simp) (by simp[Am,lvs]) (AB _) (by simp) (by simp) (by first|(simp;done)|simpa using (Aw e26).1) ?_;try simp[← A8,← e27,Ar e27]
         intros;rfl
        obtain⟨v28,e28,h⟩:=bnE h;obtain⟨e29,v30,e30,h⟩:=ocl h;apply zT (V:=[_,_,_,_,_]) (M:=[[some ⟨38,22,false,none,(cA0 y24.1)⟩,some ⟨38,22,false,none,cB0⟩,none,none,some ⟨26,1,false,none,[.r 12 4 0 v27.length]⟩,some ⟨45,1,false,none,[.r 8 15 0 y9.2.2.2.length]⟩,some ⟨26,1,false,none,[dI v7]⟩,none,some ⟨49,15,true,none,lvs (AA y9.2.2.2)⟩,some ⟨92,4,false,none,[iA v14.slot,iA v14.to,iA v14.num,tA v14.key]⟩,some ⟨92,4,false,none,[iA y24.2.slot,iA y24.2.to,iA y24.2.num,tA y24.2.key]⟩,some ⟨92,4,true,none,[iA y24.2.slot,iA y24.2.to,iA y24.2.num,tA y24.2.key]⟩,some ⟨92,4,true,none,lvs (Am v27)⟩],[some ⟨38,22,false,none,(cA0 y24.1)⟩,some ⟨38,22,false,none,cB0⟩,none,none,some ⟨26,1,false,none,[.r 12 4 0 v27.length]⟩,some ⟨45,1,false,none,[.r 8 15 0 y9.2.2.2.length]⟩,some ⟨26,1,false,none,[dI v7]⟩,none,some ⟨49,15,true,none,lvs (AA y9.2.2.2)⟩,some ⟨92,4,false,none,[iA v14.slot,iA v14.to,iA v14.num,tA v14.key]⟩,some ⟨92,4,false,none,[iA y24.2.slot,iA y24.2.to,iA y24.2.num,tA y24.2.key]⟩,some ⟨92,4,true,none,[iA y24.2.slot,iA y24.2.to,iA y24.2.num,tA y24.2.key]⟩,some ⟨92,4,true,none,lvs (Am v27)⟩,some ⟨49,15,true,none,(cC0 v28)⟩]]) mixed [⟨[0,1],[],[(5,none)],false⟩,⟨[0],[],[(1,none)],false⟩,⟨[0],[],[(6,none)],false⟩,⟨[0],[1,2],[(48,some 1),(49,some 2)],false⟩,⟨[0],[1,2,3],[(50,some 3)],true⟩,⟨[],[0,1,2,3,4],[],false⟩,⟨[],[0,1,2,3,4,5],[],false⟩] 5 1 (by kernel_rfl) (by kernel_rfl)
        ·rfl
        ·refine⟨⟨?_,?_⟩,?_,?_,?_,?_,trivial⟩;iterate 4 (· intro tm hr;simp[AllL,rdV] at hr;simp[hr,← AK,← e30,Ar e30];intros;exact KA)
         ·intro tm hr;simp[AllL,rdV] at hr;simp[hr,← AK,← e30,Ar e30];intros;refine Ab Nx (OV e28) rfl ⟨.same rfl,.same rfl,trivial⟩ ?_;try simp[← AK,← e30,Ar e30]
          intros;exact KA
         ·intro tm hr;simp[AllL,rdV] at hr;simp[hr,← AK,← e30,Ar e30];intros;refine Ax ?_;try simp[← AK,← e30,Ar e30]
          intros;exact KA
        ·rfl
        ·simp[tmD,putD,← AK,← e30,Ar e30];rfl
        ·simp[← AK,← e30,Ar e30];intros;refine AD (acc:=AA y9.2.2.2) (ys:=AA [v28]) (cap:=none) (k:=1) IM IL (by simp) (by simp[AA,lvs]) (Cu _) (by simp) (by simp) (by first|(simp;done)|simpa using (Aw e29).1) ?_;try simp[← AK,← e30,Ar e30]
         intros;rfl
        obtain rfl:=oi h;refine nP_i ?_;refine zE 0 [some 0,some 1,some 2,some 3,some 4,some 5,some 6,some 7,some 8,some 9,some 12,some 14] hnS1 (by decide) (by decide) ?_ ?_ ?_;all_goals first|(simp[Ae,Af,pickOb,Gx,I1];done)|rfl
       ·replace h:=smR h;obtain⟨rfl,hw⟩:=hp;refine⟨_,hw,?_⟩;try simp only[nm]
        obtain rfl:=oi h;refine nP_i ?_;refine zE 0 [some 0,some 1,some 2,some 3,some 4,some 5,some 6,none,none,some 9,some 7,some 8] hnS1 (by decide) (by decide) ?_ ?_ ?_;all_goals first|(simp[Ae,Af,pickOb];done)|rfl
     ·rintro e s⟨rfl,hw⟩;refine⟨_,hw,?_⟩;try simp only[nm]
      refine⟨_,_,rfl,?_⟩;refine BL _ _ _ rfl ?_;simp[puts];try intros
      unfold KK;refine CF ?_;apply AW.skip;try simp only[nm]
      obtain⟨v31,e31,h⟩:=ltE h;refine AW.last (by simp[← e31];intros;rfl) ?_;obtain rfl:=oi h;refine nP_i ?_;refine zE 0 [some 0,some 1,some 2,some 3,some 4,some 5,some 6,some 10,some 11] hnJ1 (by decide) (by decide) ?_ ?_ ?_;all_goals first|(simp[Ae,Af,pickOb];done)|rfl
    |false=>
     replace h:=iF h;refine CF ?_;apply AW.exit;try simp only[nm]
     obtain rfl:=oi h;refine xP_i ?_;refine zE 0 [some 0,some 1,some 2,some 3,some 4,some 5,some 6,some 7,some 8] hnJ1 (by decide) (by decide) ?_ ?_ ?_;all_goals first|(simp[Ae,Af,pickOb];done)|rfl
   ·rintro e s⟨rfl,hw⟩;refine⟨_,hw,?_⟩;try simp only[nm]
    refine⟨_,_,rfl,?_⟩;try simp only[]
    try simp only[nm]
    obtain rfl:=oi h;exact nP_i (WM [0,1,4,5,7,8] hz)
  ·rintro e s⟨rfl,hw⟩;refine⟨_,hw,?_⟩;try simp only[nm]
   refine ST ?_;apply zM (V:=[_,_,_]) (M:=[[some ⟨38,22,false,none,(cH0 y5.1 (.r 4 4 0 y5.2.1.length))⟩,some ⟨38,22,false,none,cB0⟩,some ⟨26,1,false,none,[.r 4 4 0 y5.2.1.length]⟩,some ⟨45,1,false,none,[.r 5 15 0 y5.2.2.length]⟩,some ⟨92,4,true,none,lvs (Am y5.2.1)⟩,some ⟨49,15,true,none,lvs (AA y5.2.2)⟩],[some ⟨38,22,false,none,(cH0 y5.1 (.r 4 4 0 y5.2.1.length))⟩,some ⟨38,22,false,none,(cH0 y5.1 (.r 4 4 0 y5.2.1.length))⟩,some ⟨26,1,false,none,[.r 4 4 0 y5.2.1.length]⟩,some ⟨45,1,false,none,[.r 5 15 0 y5.2.2.length]⟩,some ⟨92,4,true,none,lvs (Am y5.2.1)⟩,some ⟨49,15,true,none,lvs (AA y5.2.2)⟩]]) mixed [⟨[0],[],[(1,none)],false⟩,⟨[0,1],[],[(5,none)],false⟩,⟨[0],[0],[(2,none),(55,some 0)],true⟩,⟨[],[0,1,2],[],false⟩] 3 1 (by kernel_rfl) (by kernel_rfl)
   ·rfl
   ·refine⟨?_,⟨?_,?_⟩,?_,trivial⟩;iterate 4 (· intro tm hr;simp[AllL,rdV] at hr;simp[hr];intros;exact KA)
   ·rfl
   ·simp[tmD,putD];rfl
   ·simp;intros;rfl
   obtain⟨e32,h⟩:=chkE h;refine FZ 4 92 4 (AB y5.2.1) e32 ?_;obtain⟨e33,h⟩:=chkE h;refine FZ 5 49 15 (Cu y5.2.2) e33 ?_;obtain rfl:=oi h;apply AW.ret;exact LP hz
theorem Ir:Enters Tryz.prog 12:=enters Tryz.func12 (by kernel_rfl) rfl
def GU (n:Nat) (a0:Int):Option Int :=
some a0
theorem Jy {n:Nat} {a0:Int} {r:Int} (h:GU n a0=some r):Sound Tryz.prog 20 [.l (iA a0)] [] (.l (iA r)) []:=by
 unfold GU at h;refine SO 4 Tryz.func20 fun cx hG (hz:cx.nb=0)=>?_;simp only[it];refine ST ?_;refine ST ?_;obtain rfl:=oi h;apply AW.ret;exact LP hz
theorem Is:Enters Tryz.prog 20:=enters Tryz.func20 (by kernel_rfl) rfl
def Ec (n:Nat) :Option Bool :=
bn (Dc n 0 []) fun v1 =>
bn (CJ n v1) fun v2 =>
bn (Cq n v2.1 5 1) fun v3 =>
bn (lt (lenI v2.2) fun v5 =>
lt (eqI v5 0) fun v6 =>
ite' v6 (bn (GU n v3.2) fun v7 =>
lt (eqI v7 0) fun v8 =>
ite' v8 (lt (lenI v3.1.moves) fun v9 =>
lt (eqI v9 1) fun v10 =>
some (v10)) (some (false))) (some (false))) fun (y4:Bool) =>
some y4
theorem Ja {n:Nat}  {r:Bool} (h:Ec n =some r):Sound Tryz.prog 7 [] [] (.l (bA r)) []:=by
 unfold Ec at h;refine SO 29 Tryz.func7 fun cx hG (hz:cx.nb=0)=>?_;simp only[it];refine ST ?_;obtain⟨v1,e1,h⟩:=bnE h;obtain⟨v2,e2,h⟩:=bnE h;apply AW.step
 ·simp;intros;refine Ab G5 (HH e1) rfl ⟨.same rfl,.nil _ _,trivial⟩ ?_;try simp
  intros;refine Ab Ir (I9 e2) rfl ⟨.same rfl,trivial⟩ ?_;try simp
  intros;rfl
 obtain⟨v3,e3,h⟩:=bnE h;apply AW.step
 ·simp;intros;refine Ab F9 (GD e3) rfl ⟨.same rfl,.same rfl,.same rfl,trivial⟩ ?_;try simp
  intros;rfl
 obtain⟨y4,g4,h⟩:=bnE h;refine zC (p:=fun gh ls=>(nP (cx:=cx) (fun q=>(⟨[(0,.l (bA q))],[],29,gh,ls⟩:St))) y4) ?_ ?_
 ·replace h:=g4;clear g4
  obtain⟨v5,e5,v6,e6,h⟩:=oll h;cases v6 with
  |true=>
   replace h:=iT h;obtain⟨v7,e7,v8,e8,h⟩:=obl h;cases v8 with
   |true=>
    replace h:=iT h;obtain⟨v9,e9,v10,e10,h⟩:=oll h;apply AW.last
    ·simp[Ad e5,← e6,← e8,Ad e9,← e10];intros;refine Ab Is (Jy e7) rfl ⟨.same rfl,trivial⟩ ?_;try simp[Ad e5,← e6,← e8,Ad e9,← e10]
     intros;rfl
    obtain rfl:=oi h;exact nP_i (WM [] hz)
   |false=>
    replace h:=iF h;apply AW.last
    ·simp[Ad e5,← e6,← e8];intros;refine Ab Is (Jy e7) rfl ⟨.same rfl,trivial⟩ ?_;try simp[Ad e5,← e6,← e8]
     intros;rfl
    obtain rfl:=oi h;exact nP_i (WM [] hz)
  |false=>
   replace h:=iF h;refine AW.last (by simp[Ad e5,← e6];intros;rfl) ?_;obtain rfl:=oi h;exact nP_i (WM [] hz)
 ·rintro e s⟨rfl,hw⟩;refine⟨_,hw,?_⟩;try simp only[nm]
  obtain rfl:=oi h;apply AW.ret;exact LP hz
theorem It:Enters Tryz.prog 7:=enters Tryz.func7 (by kernel_rfl) rfl
end Go.Proofs.YtlbdhlbbkibgpaaGreat
namespace Go.Proofs.YtlbdhlbbkibgpaaGreat
open Go Go.RowKit
def C3 (n:Nat) (a0:Node) (a1:List Effect):Option Node :=
bn (Cz n a0.db a1) fun v1 =>
bn (DT n a0.feed a1) fun v2 =>
some (⟨a0.count,a0.id,a0.master,a0.epoch,a0.voted,a0.claims,v1,a0.moves,a0.last,a0.seen,v2,a0.watch,a0.asked,a0.votes,a0.wait⟩:Node)
theorem KF {n:Nat} {a0:Node} {a1:List Effect} {r:Node} (h:C3 n a0 a1=some r):Sound Tryz.prog 41 [.g (cH0 a0 (.r 0 4 0 a0.moves.length)),.l (dD a1)] [⟨92,4,true,none,lvs (Am a0.moves)⟩] (.g (cH0 r (.r 0 4 0 r.moves.length))) [some ⟨92,4,true,none,lvs (Am r.moves)⟩]:=by
 unfold C3 at h;refine SO 16 Tryz.func41 fun cx hG (hz:cx.nb=1)=>?_;simp only[it];refine ST ?_;obtain⟨v1,e1,h⟩:=bnE h;obtain⟨v2,e2,h⟩:=bnE h;apply zH (V:=[_,_,_,_,_,_,_,_,_]) mixed [⟨[0],[],[(2,none)],false⟩,⟨[0],[0],[(5,some 0)],false⟩,⟨[0],[],[(1,none)],false⟩,⟨[0],[0,1,2],[(6,some 1),(7,some 2)],false⟩,⟨[0],[],[(2,none)],false⟩,⟨[0],[4],[(9,some 4)],false⟩,⟨[0],[],[(1,none)],false⟩,⟨[0],[0,1,2,3,4,5,6],[(10,some 5),(11,some 6)],false⟩,⟨[0],[0,1,2,3,4,5],[(2,none)],false⟩,⟨[],[0,1,2,3,4,5,6,7,8],[],false⟩,⟨[],[0,1,2,3,4,5,6,7,8,9],[],false⟩,⟨[],[0,1,2,3,4,5,6,7,8,9,10],[],false⟩] 9 (by kernel_rfl) (by kernel_rfl)
 ·refine⟨?_,?_,?_,?_,?_,?_,?_,?_,?_,trivial⟩;iterate 3 (· intro tm hr;simp[AllL,rdV] at hr;simp[hr];intros;exact KA)
  ·intro tm hr;simp[AllL,rdV] at hr;simp[hr];intros;refine Ab Hm (HV e1) rfl ⟨.same rfl,.same rfl,trivial⟩ ?_;try simp[]
   intros;exact KA
  iterate 3 (· intro tm hr;simp[AllL,rdV] at hr;simp[hr];intros;exact KA)
  ·intro tm hr;simp[AllL,rdV] at hr;simp[hr];intros;refine Ab I7 (J0 e2) rfl ⟨.same rfl,.same rfl,trivial⟩ ?_;try simp[]
   intros;exact KA
  ·intro tm hr;simp[AllL,rdV] at hr;simp[hr];intros;exact KA
 ·rfl
 ·simp[tmD,putD];rfl
 ·simp;intros;rfl
 refine ST ?_;obtain rfl:=oi h;apply AW.ret;refine Left.of (av:=_) (by simp[Tryz.f41,resV,resC,comp];rfl) ?_;exact zJ 1 [some 0] hz rfl (by decide) rfl (by simp[pickOb,Ae,Af]) (by simp[Ae,Af])
theorem J8:Enters Tryz.prog 41:=enters Tryz.func41 (by kernel_rfl) rfl
def BW (n:Nat) (a0:Node) (a1:Msg):Option Node :=
bn (Bm n a0) fun v1 =>
chk (room v1.moves.length 1) <|
bn (Dm n v1.moves a1.slot) fun v3 =>
bn (lt (notB v3.2) fun v5 =>
ite' v5 (some (true)) (bn (nth v1.moves v3.1) fun v6 =>
lt (ltI v6.num 1) fun v8 =>
ite' v8 (some (true)) (lt (neI v6.num a1.num) fun v10 =>
ite' v10 (some (true)) (lt (neI v6.to a1.frm) fun v12 =>
some (v12))))) fun (y4:Bool) =>
lt (y4) fun v13 =>
ite' v13 (chk (room v1.moves.length 1) <|
chk (room v1.seen.length 1) <|
some v1) (chk (room v1.seen.length 1) <|
bn (nth v1.moves v3.1) fun v17 =>
bn (C3 n v1 [(⟨v17.key,true,(⟨0,⟨#[]⟩,[],[],0⟩:Item)⟩:Effect)]) fun v19 =>
bn (nth v19.moves v3.1) fun v20 =>
lt (v19.moves.set v3.1.toNat (⟨v20.slot,v20.to,0,v20.key⟩:Move)) fun v22 =>
bn (nth v22 v3.1) fun v25 =>
lt (v22.set v3.1.toNat (⟨v25.slot,v25.to,v25.num,⟨#[]⟩⟩:Move)) fun v27 =>
chk (room v27.length 1) <|
some (⟨v19.count,v19.id,v19.master,v19.epoch,v19.voted,v19.claims,v19.db,v27,v19.last,v19.seen,v19.feed,v19.watch,v19.asked,v19.votes,v19.wait⟩:Node))
def DY3t1:List DI:=[⟨[0],[],[(6,none)],false⟩,⟨[0],[0],[(17,some 0)],false⟩,⟨[0],[0,1],[(18,some 1)],false⟩,⟨[0],[0,1,2],[(2,none),(19,some 2)],false⟩,⟨[0],[0,1,2,3],[(19,some 2),(20,some 3)],false⟩,⟨[0],[0,1,2],[(5,none),(19,some 2)],false⟩,⟨[0],[0,1,2,3,4,5],[(19,some 2),(21,some 4),(22,some 5)],false⟩,⟨[0],[0,1,2,3,4,5,6],[(19,some 2),(23,some 6)],false⟩,⟨[0],[0,1,2,3,4,5,6,7],[(19,some 2),(24,some 7)],false⟩,⟨[0],[0,1,2,3,4,5,6,7,8],[(19,some 2),(25,some 8)],false⟩,⟨[0],[0,1,2,3,4,5,6,7,8,9],[(19,some 2),(26,some 9)],false⟩,⟨[0],[0,1,2,3,4,5,6,7,8,9,10],[(27,some 10)],false⟩,⟨[0],[0,1,2,3,4,5,6,7,8,9,10,11],[(2,none),(28,some 11)],false⟩,⟨[0],[0,1,2,3,4,5,6,7,8,9,10,11,12],[(28,some 11),(29,some 12)],false⟩,⟨[0],[0,1,2,3,4,5,6,7,8,9,10,11],[(5,none),(28,some 11)],false⟩,⟨[0],[0,1,2,3,4,5,6,7,8,9,10,11,12,13,14],[(28,some 11),(30,some 13),(31,some 14)],false⟩,⟨[0],[0,1,2,3,4,5,6,7,8,9,10,11,12,13,14,15],[(28,some 11),(32,some 15)],false⟩,⟨[0],[0,1,2,3,4,5,6,7,8,9,10,11,12,13,14,15,16],[(28,some 11),(33,some 16)],false⟩,⟨[0],[0,1,2,3,4,5,6,7,8,9,10,11],[(3,none),(28,some 11)],false⟩,⟨[0],[0,1,2,3,4,5,6,7,8,9,10,11,18],[(28,some 11),(35,some 18)],false⟩,⟨[0],[0,1,2,3,4,5,6,7,8,9,10,11,12,13,14,15,16,17,18,19],[(28,some 11),(34,some 17),(36,some 19)],false⟩,⟨[0],[0,1,2,3,4,5,6,7,8,9,10,11,12,13,14,15,16,17,18,19,20],[(28,some 11),(37,some 20)],false⟩,⟨[0],[0,1,2,3,4,5,6,7,8,9,10,11,12,13,14,15,16,17,18,19,20,21],[(38,some 21)],false⟩,⟨[0],[0,1,2,3,4,5,6,7,8,9,10,11,12,13,14,15,16,17,18,19,20,21,22],[(2,none),(39,some 22)],false⟩,⟨[0],[0,1,2,3,4,5,6,7,8,9,10,11,12,13,14,15,16,17,18,19,20,21,22,23],[(39,some 22),(40,some 23)],false⟩,⟨[0],[0,1,2,3,4,5,6,7,8,9,10,11,12,13,14,15,16,17,18,19,20,21,22],[(5,none),(39,some 22)],false⟩,⟨[0],[0,1,2,3,4,5,6,7,8,9,10,11,12,13,14,15,16,17,18,19,20,21,22,23,24,25],[(39,some 22),(41,some 24),(42,some 25)],false⟩,⟨[0],[0,1,2,3,4,5,6,7,8,9,10,11,12,13,14,15,16,17,18,19,20,21,22,23,24,25,26],[(39,some 22),(43,some 26)],false⟩,⟨[0],[0,1,2,3,4,5,6,7,8,9,10,11,12,13,14,15,16,17,18,19,20,21,22,23,24,25,26,27],[(39,some 22),(44,some 27)],false⟩,⟨[0],[0,1,2,3,4,5,6,7,8,9,10,11,12,13,14,15,16,17,18,19,20,21,22],[(3,none),(39,some 22)],false⟩,⟨[0],[0,1,2,3,4,5,6,7,8,9,10,11,12,13,14,15,16,17,18,19,20,21,22,29],[(39,some 22),(46,some 29)],false⟩,⟨[],[0,1,2,3,4,5,6,7,8,9,10,11,12,13,14,15,16,17,18,19,20,21,22,23,24,25,26,27,28,29,30],[],false⟩,⟨[],[0,1,2,3,4,5,6,7,8,9,10,11,12,13,14,15,16,17,18,19,20,21,22,23,24,25,26,27,28,29,30,31],[],false⟩]
theorem MJ {n:Nat} {a0:Node} {a1:Msg} {r:Node} (h:BW n a0 a1=some r):Sound Tryz.prog 13 [.g (cA0 a0),.g (cC0 a1)] [] (.g (cA0 r)) []:=by
 unfold BW at h;refine SO 72 Tryz.func13 fun cx hG (hz:cx.nb=0)=>?_;simp only[it];refine ST ?_;obtain⟨v1,e1,h⟩:=bnE h;apply AW.step
 ·simp[outR];intros;refine AS De (DE e1) rfl (by simp) ⟨.same rfl,trivial⟩ ?_;try simp[outR]
  intros;rfl
 obtain⟨e2,h⟩:=chkE h;obtain⟨v3,e3,h⟩:=bnE h;apply AW.step
 ·simp;intros;refine Ab Iq (I8 e3) rfl ⟨.rowd (by simp) rfl (by omega) (AB _) (by simp) (by first|exact (Aw e2).2|simpa using (Aw e2).2|simp),.same rfl,trivial⟩ ?_;try simp
  intros;rfl
 apply AW.seq;obtain⟨y4,g4,h⟩:=bnE h;refine zC (p:=fun gh ls=>(nP (cx:=cx) (fun q=>(⟨[(2,.l (.p 0 0)),(4,.l (.p 1 0)),(5,.l (iA v3.1)),(49,.l (bA q))],[some ⟨38,22,false,none,(cI0 v1 (.r 2 4 0 v1.moves.length) (.r 3 3 0 v1.seen.length))⟩,some ⟨38,22,false,none,cB0⟩,some ⟨92,4,true,none,lvs (Am v1.moves)⟩,some ⟨100,3,true,none,lvs (Ap v1.seen)⟩],72,gh,ls⟩:St))) y4) ?_ ?_
 ·replace h:=g4;clear g4
  obtain⟨v5,e5,h⟩:=ltE h;cases v5 with
  |true=>
   replace h:=iT h;apply zF (V:=[_,_,_,_,_,_,_,_,_,_,_,_,_,_,_,_,_,_,_,_,_,_,_,_,_,_,_,_,_,_,_]) mixed DY3t1 31 (by kernel_rfl) (by kernel_rfl)
   ·refine⟨?_,?_,?_,?_,?_,?_,?_,?_,?_,?_,?_,?_,?_,?_,?_,?_,?_,?_,?_,?_,?_,?_,?_,?_,?_,?_,?_,?_,?_,?_,?_,trivial⟩;iterate 31 (· intro tm hr;simp[AllL,rdV] at hr;simp[hr,← e5];intros;exact KA)
   ·rfl
   ·simp[tmD,putD,← e5];rfl
   ·simp[← e5];intros;rfl
   obtain rfl:=oi h;exact nP_i (WM [0,2,3,4] hz)
  |false=>
   replace h:=iF h;obtain⟨v6,e6,h⟩:=bnE h;have f7:=A0 e6;try simp[← e5,Aa e6] at f7
   obtain⟨v8,e8,h⟩:=ltE h;cases v8 with
   |true=>
    replace h:=iT h;apply zF (V:=[_,_,_,_,_,_,_,_,_,_,_,_,_,_,_,_,_,_,_,_,_,_,_,_,_,_,_,_,_,_,_]) mixed DY3t1 31 (by kernel_rfl) (by kernel_rfl)
    ·refine⟨?_,?_,?_,?_,?_,?_,?_,?_,?_,?_,?_,?_,?_,?_,?_,?_,?_,?_,?_,?_,?_,?_,?_,?_,?_,?_,?_,?_,?_,?_,?_,trivial⟩;iterate 31 (· intro tm hr;simp[AllL,rdV] at hr;simp[hr,← e5,Aa e6,f7,AU (Aa e6).2 (j:=2) (by decide),lvs1,← e8];intros;exact KA)
    ·rfl
    ·simp[tmD,putD,← e5,Aa e6,f7,AU (Aa e6).2 (j:=2) (by decide),lvs1,← e8];rfl
    ·simp[← e5,Aa e6,f7,AU (Aa e6).2 (j:=2) (by decide),lvs1,← e8];intros;rfl
    obtain rfl:=oi h;exact nP_i (WM [0,2,3,4] hz)
   |false=>
    replace h:=iF h;have f9:=A0 e6;try simp[← e5,Aa e6,f7,AU (Aa e6).2 (j:=2) (by decide),lvs1,← e8] at f9
    obtain⟨v10,e10,h⟩:=ltE h;cases v10 with
    |true=>
     replace h:=iT h;apply zF (V:=[_,_,_,_,_,_,_,_,_,_,_,_,_,_,_,_,_,_,_,_,_,_,_,_,_,_,_,_,_,_,_]) mixed DY3t1 31 (by kernel_rfl) (by kernel_rfl)
     ·refine⟨?_,?_,?_,?_,?_,?_,?_,?_,?_,?_,?_,?_,?_,?_,?_,?_,?_,?_,?_,?_,?_,?_,?_,?_,?_,?_,?_,?_,?_,?_,?_,trivial⟩;iterate 31 (· intro tm hr;simp[AllL,rdV] at hr;simp[hr,← e5,Aa e6,f7,AU (Aa e6).2 (j:=2) (by decide),lvs1,← e8,f9,← e10];intros;exact KA)
     ·rfl
     ·simp[tmD,putD,← e5,Aa e6,f7,AU (Aa e6).2 (j:=2) (by decide),lvs1,← e8,f9,← e10];rfl
     ·simp[← e5,Aa e6,f7,AU (Aa e6).2 (j:=2) (by decide),lvs1,← e8,f9,← e10];intros;rfl
     obtain rfl:=oi h;exact nP_i (WM [0,2,3,4] hz)
    |false=>
     replace h:=iF h;have f11:=A0 e6;try simp[← e5,Aa e6,f7,AU (Aa e6).2 (j:=2) (by decide),lvs1,← e8,f9,← e10] at f11
     obtain⟨v12,e12,h⟩:=ltE h;apply zF (V:=[_,_,_,_,_,_,_,_,_,_,_,_,_,_,_,_,_,_,_,_,_,_,_,_,_,_,_,_,_,_,_]) mixed DY3t1 31 (by kernel_rfl) (by kernel_rfl)
     ·refine⟨?_,?_,?_,?_,?_,?_,?_,?_,?_,?_,?_,?_,?_,?_,?_,?_,?_,?_,?_,?_,?_,?_,?_,?_,?_,?_,?_,?_,?_,?_,?_,trivial⟩;iterate 31 (· intro tm hr;simp[AllL,rdV] at hr;simp[hr,← e5,Aa e6,f7,AU (Aa e6).2 (j:=2) (by decide),lvs1,← e8,f9,← e10,f11,AU (Aa e6).2 (j:=1) (by decide),← e12];intros;exact KA)
     ·rfl
     ·simp[tmD,putD,← e5,Aa e6,f7,AU (Aa e6).2 (j:=2) (by decide),lvs1,← e8,f9,← e10,f11,AU (Aa e6).2 (j:=1) (by decide),← e12];rfl
     ·simp[← e5,Aa e6,f7,AU (Aa e6).2 (j:=2) (by decide),lvs1,← e8,f9,← e10,f11,AU (Aa e6).2 (j:=1) (by decide),← e12];intros;rfl
     obtain rfl:=oi h;exact nP_i (WM [0,2,3,4] hz)
 ·rintro e s⟨rfl,hw⟩;refine⟨_,hw,?_⟩;try simp only[nm]
  obtain⟨v13,e13,h⟩:=ltE h;rw[← e13];cases v13 with
  |true=>
   replace h:=iT h;refine CT ?_;refine ST ?_;obtain⟨e14,h⟩:=chkE h;refine FZ 2 92 4 (AB v1.moves) e14 ?_;obtain⟨e15,h⟩:=chkE h;refine FZ 3 100 3 (AI v1.seen) e15 ?_;obtain rfl:=oi h;apply AW.ret;exact LP hz
  |false=>
   replace h:=iF h;refine CF ?_;apply AW.skip;try simp only[nm]
   obtain⟨e16,h⟩:=chkE h;refine FZ 3 100 3 (AI v1.seen) e16 ?_;obtain⟨v17,e17,h⟩:=bnE h;have f18:=A0 e17;try simp[Aa e17] at f18
   obtain⟨v19,e19,h⟩:=bnE h;apply zH (V:=[_,_,_,_,_,_,_,_,_]) mixed [⟨[0],[],[(2,none)],false⟩,⟨[0],[],[(2,none)],false⟩,⟨[0],[1],[(52,some 1)],false⟩,⟨[0],[],[(5,none)],false⟩,⟨[0],[1,2,3],[(53,some 2),(54,some 3)],false⟩,⟨[0],[1,2,3,4],[(55,some 4)],false⟩,⟨[0],[1,2,3,4,5],[(56,some 5)],false⟩,⟨[0],[1,2,3,4,5,6],[(57,some 6)],false⟩,⟨[0],[1,2,3,4,5,6,7],[(58,some 7)],false⟩,⟨[],[0,1,2,3,4,5,6,7,8],[],false⟩,⟨[],[0,1,2,3,4,5,6,7,8,9],[],false⟩] 9 (by kernel_rfl) (by kernel_rfl)
   ·refine⟨?_,?_,?_,?_,?_,?_,?_,?_,?_,trivial⟩;iterate 8 (· intro tm hr;simp[AllL,rdV] at hr;simp[hr,Aa e17,f18,AU (Aa e17).2 (j:=3) (by decide),lvs1,obAfter,outR,keptR,Ae,Af];intros;exact KA)
    ·intro tm hr;simp[AllL,rdV] at hr;simp[hr,Aa e17,f18,AU (Aa e17).2 (j:=3) (by decide),lvs1,obAfter,outR,keptR,Ae,Af];intros;refine E8 (es:=An [(⟨v17.key,true,(⟨0,⟨#[]⟩,[],[],0⟩:Item)⟩:Effect)]) (by simp[An,lvs,All2]) (Bh _) (by omega) (by simp) ?_;try simp[Aa e17,f18,AU (Aa e17).2 (j:=3) (by decide),lvs1,obAfter,outR,keptR,Ae,Af]
     intros;exact KA
   ·rfl
   ·simp[tmD,putD,Aa e17,f18,AU (Aa e17).2 (j:=3) (by decide),lvs1,obAfter,outR,keptR,Ae,Af];rfl
   ·simp[Aa e17,f18,AU (Aa e17).2 (j:=3) (by decide),lvs1,obAfter,outR,keptR,Ae,Af];intros;refine Cf [2] J8 (KF e19) (by decide) (by simp[pickOb,Ae,Af]) rfl rfl (by simp) ⟨.g ⟨.s _,.s _,.s _,.s _,.s _,.e _ _,.e _ _,(.own' (by simp[Ae,Af]) (by simp)),.s _,.e _ _,.s _,.s _,.s _,.e _ _,.s _,.s _,.s _,.e _ _,.e _ _,.s _,.e _ _,.s _,trivial⟩,.l (.e _ _),trivial⟩ ?_;try simp[Aa e17,f18,AU (Aa e17).2 (j:=3) (by decide),lvs1,obAfter,outR,keptR,Ae,Af]
    intros;rfl
   obtain⟨v20,e20,h⟩:=bnE h;have f21:=A0 e20;try simp[Aa e20] at f21
   obtain⟨v22,e22,h⟩:=ltE h;have f23:=I2 (Aa e20).2 e22 (j:=2) (cs:=[iA 0]) (by simp) rfl;try simp at f23
   have f24:=f21;try simp only[AC e22] at f24
   obtain⟨v25,e25,h⟩:=bnE h;have f26:=A0 e25;try simp[Aa e20,f21,CG (Aa e20).2 (j:=2) (m:=1) (by decide),f23,f24,Aa e25] at f26
   obtain⟨v27,e27,h⟩:=ltE h;have f28:=I2 (Aa e25).2 e27 (j:=3) (cs:=[tA ⟨#[]⟩]) (by simp) rfl;try simp at f28
   have f29:=f21;try simp only[AC e27] at f29
   have f30:=f24;try simp only[AC e27] at f30
   have f31:=f26;try simp only[AC e27] at f31
   apply zM (V:=[_,_,_,_,_,_,_,_,_]) (M:=[[some ⟨38,22,false,none,(cH0 v19 (.r 2 4 0 v19.moves.length))⟩,some ⟨38,22,false,none,cB0⟩,some ⟨92,4,true,none,lvs (Am v19.moves)⟩,none],[some ⟨38,22,false,none,(cH0 v19 (.r 2 4 0 v19.moves.length))⟩,some ⟨38,22,false,none,cB0⟩,some ⟨92,4,true,none,lvs (Am v22)⟩,none]]) mixed [⟨[0],[],[(2,none)],false⟩,⟨[0],[0],[(61,some 0)],false⟩,⟨[0],[],[(5,none)],false⟩,⟨[0,1],[],[(2,none)],false⟩,⟨[0,1],[3],[(64,some 3)],false⟩,⟨[0,1],[],[(5,none)],false⟩,⟨[0],[0,1,2],[(62,some 1),(63,some 2)],false⟩,⟨[0],[0,1,2,6],[(67,some 6)],false⟩,⟨[0],[0,1,2,6,7],[(68,some 7)],true⟩,⟨[],[0,1,2,3,4,5,6,7,8],[],false⟩,⟨[],[0,1,2,3,4,5,6,7,8,9],[],false⟩,⟨[],[0,1,2,3,4,5,6,7,8,9,10],[],false⟩] 9 1 (by kernel_rfl) (by kernel_rfl)
   ·rfl
   ·refine⟨?_,?_,?_,⟨?_,?_⟩,⟨?_,?_⟩,⟨?_,?_⟩,?_,?_,?_,trivial⟩;iterate 12 (· intro tm hr;simp[AllL,rdV] at hr;simp[hr,Aa e20,f21,CG (Aa e20).2 (j:=2) (m:=1) (by decide),f23,f24,Aa e25,f26,AC e22,CG (Aa e25).2 (j:=3) (m:=1) (by decide),f28,f29,f30,f31];intros;exact KA)
   ·rfl
   ·simp[tmD,putD,Aa e20,f21,CG (Aa e20).2 (j:=2) (m:=1) (by decide),f23,f24,Aa e25,f26,AC e22,CG (Aa e25).2 (j:=3) (m:=1) (by decide),f28,f29,f30,f31];rfl
   ·simp[Aa e20,f21,CG (Aa e20).2 (j:=2) (m:=1) (by decide),f23,f24,Aa e25,f26,AC e22,CG (Aa e25).2 (j:=3) (m:=1) (by decide),f28,f29,f30,f31];intros;rfl
   refine ST ?_;obtain⟨e32,h⟩:=chkE h;refine AW.frzRow 2 (ty:=92) (cap:=none) (sz:=4) (es:=Am v27) (by simp) (by omega) (AB _) (by first|exact (Aw e32).2|simpa using (Aw e32).2|simp) (by simp[Tm.frz,AV.frz,LV.frz,AC e22,AC e27];rfl) (by simp[Ob.frz,LV.frz,AC e22,AC e27];rfl) rfl ?_;obtain rfl:=oi h;apply AW.ret;exact LP hz
theorem LJ:Enters Tryz.prog 13:=enters Tryz.func13 (by kernel_rfl) rfl
end Go.Proofs.YtlbdhlbbkibgpaaGreat
namespace Go.Proofs.YtlbdhlbbkibgpaaGreat
open Go Go.RowKit
def CK (n:Nat) (a0:Int):Option Bool :=
bn (lt (geI a0 1) fun v2 =>
ite' v2 (lt (leI a0 40) fun v3 =>
some (v3)) (some (false))) fun (y1:Bool) =>
some y1
theorem EJ {n:Nat} {a0:Int} {r:Bool} (h:CK n a0=some r):Sound Tryz.prog 133 [.l (iA a0)] [] (.l (bA r)) []:=by
 unfold CK at h;refine SO 9 Tryz.func133 fun cx hG (hz:cx.nb=0)=>?_;simp only[it];refine ST ?_;obtain⟨y1,g1,h⟩:=bnE h;refine zC (p:=fun gh ls=>(nP (cx:=cx) (fun q=>(⟨[(2,.l (bA q))],[],9,gh,ls⟩:St))) y1) ?_ ?_
 ·replace h:=g1;clear g1
  obtain⟨v2,e2,h⟩:=ltE h;cases v2 with
  |true=>
   replace h:=iT h;obtain⟨v3,e3,h⟩:=ltE h;refine AW.last (by simp[← e2,← e3];intros;rfl) ?_;obtain rfl:=oi h;exact nP_i (WM [] hz)
  |false=>
   replace h:=iF h;refine AW.last (by simp[← e2];intros;rfl) ?_;obtain rfl:=oi h;exact nP_i (WM [] hz)
 ·rintro e s⟨rfl,hw⟩;refine⟨_,hw,?_⟩;try simp only[nm]
  obtain rfl:=oi h;apply AW.ret;exact LP hz
theorem Ed:Enters Tryz.prog 133:=enters Tryz.func133 (by kernel_rfl) rfl
def EU (n:Nat) (a0:List Field):Option (List Field) :=
some a0
theorem MK {n:Nat} {a0:List Field} {r:List Field} (h:EU n a0=some r):Sound Tryz.prog 135 [.l (dE a0)] [] (.l (.f 145 [0])) [some ⟨54,1,false,none,[dE r]⟩]:=by
 unfold EU at h;refine SO 4 Tryz.func135 fun cx hG (hz:cx.nb=0)=>?_;simp only[it];refine ST ?_;refine ST ?_;obtain rfl:=oi h;apply AW.ret;refine Left.of (av:=_) (by simp[Tryz.f135,resV,resC,comp];rfl) ?_;exact zJ 0 [some 0] hz rfl (by decide) rfl (by simp[pickOb,Ae,Af]) (by simp[Ae,Af])
theorem LK:Enters Tryz.prog 135:=enters Tryz.func135 (by kernel_rfl) rfl
def Ep (n:Nat) (b0_0:List Field):Option Bool :=
bn (lt (lenI b0_0) fun v2 =>
bn (iter n (fun (y3:Int×Bool×ByteArray) =>
lt (ltI y3.1 v2) fun v6 =>
ite' v6 (bn (nth b0_0 y3.1) fun v7 =>
bn (bn (lt (notB y3.2.1) fun v10 =>
ite' v10 (lt (leS v7.name y3.2.2) fun v11 =>
some (v11)) (some (false))) fun (y9:Bool) =>
lt (y9) fun v12 =>
ite' v12 (some (.inr ())) (some (.inl ()))) fun (y8:Unit ⊕ Unit) =>
sm y8 (fun y13=>lt (addI .i64 y3.1 1) fun v15 =>
some (.inl (v15,false,v7.name))) (fun y14=>some (.inr (.inr (y3.2.1,y3.2.2))))) (some (.inr (.inl (y3.2.1,y3.2.2))))) (0,true,⟨#[]⟩)) fun (y4:(Bool×ByteArray) ⊕ (Bool×ByteArray)) =>
sm y4 (fun y16=>some (.inl ())) (fun y17=>some (.inr false))) fun (y1:Unit ⊕ Bool) =>
sm y1 (fun y18=>some true) (fun y19=>some y19)
theorem LL {n:Nat} {b0_0:List Field} {r:Bool} (h:Ep n b0_0=some r):Sound Tryz.prog 134 [.l (.f 145 [0])] [⟨54,1,false,none,[dE b0_0]⟩] (.l (bA r)) [some ⟨54,1,false,none,[dE b0_0]⟩]:=by
 unfold Ep at h;refine SO 16 Tryz.func134 fun cx hG (hz:cx.nb=1)=>?_;simp only[it];refine ST ?_;refine ST ?_;obtain⟨y1,g1,h⟩:=bnE h;refine zC (p:=fun gh ls=>(sp (nP (cx:=cx) (fun _=>(⟨[(2,.l (.p 1 0))],[some ⟨54,1,false,none,[dE b0_0]⟩,some ⟨4,1,false,none,[bA false]⟩],16,gh,ls⟩:St))) (rP (cx:=cx) (P:=Tryz.prog) Tryz.f134 (fun q=>.l (bA q)) (fun q=>[some ⟨54,1,false,none,[dE b0_0]⟩]))) y1) ?_ ?_
 ·replace h:=g1;clear g1
  refine ST ?_;apply AW.block;refine AW.weak (zR [(2,.l (.p 1 0)),(3,.l (.p 2 0)),(4,.l (.p 3 0)),(6,.l (.f 145 [0]))] (by simp)) ?_;refine zS rfl Tryz.func145 (by kernel_rfl) rfl (by decide) rfl rfl fun cxI1 yl1 hnI1 hY1=>?_;have hnJ1:cxI1.nb=1:=hnI1.trans hz;simp only[initTm,List.map_cons,List.map_nil];obtain⟨v2,e2,h⟩:=ltE h;refine AW.step (by simp[Ad e2];intros;rfl) ?_;apply AW.block;obtain⟨y4,g4,h⟩:=bnE h;refine zD g4 (mk:=fun gh ls q=>(⟨[(0,.l (.s (.func (.yield yl1) #[] #[]))),(5,.l (dE b0_0)),(6,.l (iA v2)),(7,.l (iA q.1))],[some ⟨54,1,false,none,[dE b0_0]⟩,some ⟨4,1,false,none,[bA false]⟩,some ⟨4,1,false,none,[bA q.2.1]⟩,some ⟨9,1,false,none,[tA q.2.2]⟩],17,gh,ls⟩:St)) (N:=fun gh ls=>(sp (xP 0 (cx:=cxI1) (fun q=>(⟨[],[some ⟨54,1,false,none,[dE b0_0]⟩,some ⟨4,1,false,none,[bA false]⟩,some ⟨4,1,false,none,[bA q.1]⟩,some ⟨9,1,false,none,[tA q.2]⟩],17,gh,ls⟩:St))) (tP (cx:=cxI1) (fun q=>(⟨[],[some ⟨54,1,false,none,[dE b0_0]⟩,some ⟨4,1,false,none,[bA false]⟩,some ⟨4,1,false,none,[bA q.1]⟩,some ⟨9,1,false,none,[tA q.2]⟩],17,gh,some .ret⟩:St))))) ?_ (noS noX noT) ?_ ?_
  ·refine zE 1 [some 0,some 1,some 2,some 3] hnJ1 (by decide) (by decide) ?_ ?_ ?_;all_goals first|(simp[Ae,Af,pickOb];done)|rfl
  ·clear h;intro y3 y5 h
   obtain⟨v6,e6,h⟩:=ltE h;refine AW.step (by simp[← e6];intros;rfl) ?_;apply AW.seq;cases v6 with
   |true=>
    replace h:=iT h;refine CT ?_;apply AW.skip;try simp only[nm]
    apply AW.seq;apply AW.block;obtain⟨v7,e7,h⟩:=bnE h;refine AW.step (by simp[Aa e7];intros;rfl) ?_;refine zQ ?_;apply xopsY.yield hY1 0 3 rfl rfl rfl (by decide)
    ·simp;intros;rfl
    ·rfl
    ·first|trivial|simp
    ·rfl
    ·rfl
    ·simp[puts];rfl
    intro cxR1 hnR1;have hnS1:cxR1.nb=1:=hnR1.trans hnJ1;refine SL ?_;refine⟨rfl,?_⟩;obtain⟨y8,g8,h⟩:=bnE h;refine zP (p:=fun gh ls=>(sp (nP (cx:=cxR1) (fun _=>(⟨[],[some ⟨54,1,false,none,[dE b0_0]⟩,some ⟨4,1,false,none,[bA false]⟩,some ⟨4,1,false,none,[bA false]⟩,some ⟨9,1,false,none,[tA v7.name]⟩,some ⟨157,2,false,none,[tA v7.name,tA v7.val]⟩],16,gh,ls⟩:St))) (tP (cx:=cxR1) (fun _=>(⟨[],[some ⟨54,1,false,none,[dE b0_0]⟩,some ⟨4,1,false,none,[bA false]⟩,some ⟨4,1,false,none,[bA y3.2.1]⟩,some ⟨9,1,false,none,[tA y3.2.2]⟩,some ⟨157,2,false,none,[tA v7.name,tA v7.val]⟩],16,gh,ls⟩:St)))) y8) ?_ ?_
    ·replace h:=g8;clear g8
     apply AW.block;apply AW.seq;obtain⟨y9,g9,h⟩:=bnE h;refine zC (p:=fun gh ls=>(nP (cx:=cxR1) (fun q=>(⟨[(2,.l (.p 1 0)),(3,.l (.p 2 0)),(4,.l (.p 3 0)),(5,.l (tA v7.name)),(6,.l (.f 145 [0])),(14,.l (bA q))],[some ⟨54,1,false,none,[dE b0_0]⟩,some ⟨4,1,false,none,[bA false]⟩,some ⟨4,1,false,none,[bA y3.2.1]⟩,some ⟨9,1,false,none,[tA y3.2.2]⟩,some ⟨157,2,false,none,[tA v7.name,tA v7.val]⟩],16,gh,ls⟩:St))) y9) ?_ ?_
     ·replace h:=g9;clear g9
      obtain⟨v10,e10,h⟩:=ltE h;cases v10 with
      |true=>
       replace h:=iT h;obtain⟨v11,e11,h⟩:=ltE h;refine AW.last (by simp[← e10,← e11];intros;rfl) ?_;obtain rfl:=oi h;refine nP_i ?_;refine zE 1 [some 0,some 1,some 2,some 3,some 4] hnS1 (by decide) (by decide) ?_ ?_ ?_;all_goals first|(simp[Ae,Af,pickOb];done)|rfl
      |false=>
       replace h:=iF h;refine AW.last (by simp[← e10];intros;rfl) ?_;obtain rfl:=oi h;refine nP_i ?_;refine zE 1 [some 0,some 1,some 2,some 3,some 4] hnS1 (by decide) (by decide) ?_ ?_ ?_;all_goals first|(simp[Ae,Af,pickOb];done)|rfl
     ·rintro e s⟨rfl,hw⟩;refine⟨_,hw,?_⟩;try simp only[nm]
      obtain⟨v12,e12,h⟩:=ltE h;rw[← e12];cases v12 with
      |true=>
       replace h:=iT h;refine CT ?_;refine ST ?_;obtain rfl:=oi h;apply AW.ret;try simp only[nm]
       try simp only[sp_l,sp_r]
       refine tP_i ?_;refine zE 1 [some 0,some 1,some 2,some 3,some 4] hnS1 (by decide) (by decide) ?_ ?_ ?_;all_goals first|(simp[Ae,Af,pickOb];done)|rfl
      |false=>
       replace h:=iF h;refine CF ?_;apply AW.skip;try simp only[nm]
       refine SL ?_;obtain rfl:=oi h;try simp only[sp_l,sp_r]
       refine nP_i ?_;refine zE 1 [some 0,some 1,some 2,some 3,some 4] hnS1 (by decide) (by decide) ?_ ?_ ?_;all_goals first|(simp[Ae,Af,pickOb];done)|rfl
    ·rintro e s hp;rcases y8 with y13|y14
     ·replace h:=smL h;obtain⟨rfl,hw⟩:=hp;refine⟨_,hw,?_⟩;try simp only[nm]
      refine⟨_,_,rfl,?_⟩;refine BL _ _ _ rfl ?_;simp[puts];try intros
      unfold KK;refine CF ?_;apply AW.skip;try simp only[nm]
      obtain⟨v15,e15,h⟩:=ltE h;refine AW.last (by simp[← e15];intros;rfl) ?_;obtain rfl:=oi h;refine nP_i ?_;refine zE 1 [some 0,some 1,some 2,some 3] hnJ1 (by decide) (by decide) ?_ ?_ ?_;all_goals first|(simp[Ae,Af,pickOb];done)|rfl
     ·replace h:=smR h;obtain⟨rfl,hw⟩:=hp;refine⟨_,hw,?_⟩;try simp only[nm]
      refine⟨_,_,rfl,?_⟩;refine BL _ _ _ rfl ?_;simp[puts];try intros
      unfold KK;refine CT ?_;obtain rfl:=oi h;apply AW.ret;try simp only[nm]
      try simp only[sp_l,sp_r]
      refine tP_i ?_;refine zE 1 [some 0,some 1,some 2,some 3] hnJ1 (by decide) (by decide) ?_ ?_ ?_;all_goals first|(simp[Ae,Af,pickOb];done)|rfl
   |false=>
    replace h:=iF h;refine CF ?_;apply AW.exit;try simp only[nm]
    obtain rfl:=oi h;try simp only[sp_l,sp_r]
    refine xP_i ?_;refine zE 1 [some 0,some 1,some 2,some 3] hnJ1 (by decide) (by decide) ?_ ?_ ?_;all_goals first|(simp[Ae,Af,pickOb];done)|rfl
  ·rintro e s hp;rcases y4 with y16|y17
   ·replace h:=smL h;obtain⟨rfl,hw⟩:=hp;refine⟨_,hw,?_⟩;try simp only[nm]
    refine⟨_,_,rfl,?_⟩;try simp only[]
    try simp only[nm]
    obtain rfl:=oi h;try simp only[sp_l,sp_r]
    refine nP_i ?_;refine zE 1 [some 0,some 1] hz (by decide) (by decide) ?_ ?_ ?_;all_goals first|(simp[Ae,Af,pickOb];done)|rfl
   ·replace h:=smR h;obtain⟨rfl,hw⟩:=hp;refine⟨_,hw,?_⟩;try simp only[nm]
    refine⟨_,_,rfl,?_⟩;try simp only[]
    obtain rfl:=oi h;apply AW.ret;try simp only[nm]
    refine rP_i ?_;refine Left.of (av:=_) (by simp[Tryz.f134,resV,resC,comp];rfl) ?_;exact zJ 1 [some 0] hz rfl (by decide) rfl (by simp[pickOb,Ae,Af]) (by simp[Ae,Af])
 ·rintro e s hp;rcases y1 with y18|y19
  ·replace h:=smL h;obtain⟨rfl,hw⟩:=hp;refine⟨_,hw,?_⟩;try simp only[nm]
   refine ST ?_;obtain rfl:=oi h;apply AW.ret;refine Left.of (av:=_) (by simp[Tryz.f134,resV,resC,comp];rfl) ?_;exact zJ 1 [some 0] hz rfl (by decide) rfl (by simp[pickOb,Ae,Af]) (by simp[Ae,Af])
  ·replace h:=smR h;obtain⟨rfl,hl⟩:=hp;refine⟨_,Weak.refl _,?_⟩;obtain rfl:=oi h;exact hl
theorem KG:Enters Tryz.prog 134:=enters Tryz.func134 (by kernel_rfl) rfl
def BX (n:Nat) (a0:List ByteArray):Option (List ByteArray) :=
some a0
theorem G6 {n:Nat} {a0:List ByteArray} {r:List ByteArray} (h:BX n a0=some r):Sound Tryz.prog 136 [.l (dH a0)] [] (.l (.f 146 [0])) [some ⟨55,1,false,none,[dH r]⟩]:=by
 unfold BX at h;refine SO 4 Tryz.func136 fun cx hG (hz:cx.nb=0)=>?_;simp only[it];refine ST ?_;refine ST ?_;obtain rfl:=oi h;apply AW.ret;refine Left.of (av:=_) (by simp[Tryz.f136,resV,resC,comp];rfl) ?_;exact zJ 0 [some 0] hz rfl (by decide) rfl (by simp[pickOb,Ae,Af]) (by simp[Ae,Af])
theorem GM:Enters Tryz.prog 136:=enters Tryz.func136 (by kernel_rfl) rfl
def CN (n:Nat) (b0_0:List ByteArray):Option Bool :=
bn (lt (lenI b0_0) fun v2 =>
bn (iter n (fun (y3:Int×Bool×ByteArray) =>
lt (ltI y3.1 v2) fun v6 =>
ite' v6 (bn (nth b0_0 y3.1) fun v7 =>
bn (bn (lt (notB y3.2.1) fun v10 =>
ite' v10 (lt (leS v7 y3.2.2) fun v11 =>
some (v11)) (some (false))) fun (y9:Bool) =>
lt (y9) fun v12 =>
ite' v12 (some (.inr ())) (some (.inl ()))) fun (y8:Unit ⊕ Unit) =>
sm y8 (fun y13=>lt (addI .i64 y3.1 1) fun v15 =>
some (.inl (v15,false,v7))) (fun y14=>some (.inr (.inr (y3.2.1,y3.2.2))))) (some (.inr (.inl (y3.2.1,y3.2.2))))) (0,true,⟨#[]⟩)) fun (y4:(Bool×ByteArray) ⊕ (Bool×ByteArray)) =>
sm y4 (fun y16=>some (.inl ())) (fun y17=>some (.inr false))) fun (y1:Unit ⊕ Bool) =>
sm y1 (fun y18=>some true) (fun y19=>some y19)
theorem Iu {n:Nat} {b0_0:List ByteArray} {r:Bool} (h:CN n b0_0=some r):Sound Tryz.prog 134 [.l (.f 146 [0])] [⟨55,1,false,none,[dH b0_0]⟩] (.l (bA r)) [some ⟨55,1,false,none,[dH b0_0]⟩]:=by
 unfold CN at h;refine SO 16 Tryz.func134 fun cx hG (hz:cx.nb=1)=>?_;simp only[it];refine ST ?_;refine ST ?_;obtain⟨y1,g1,h⟩:=bnE h;refine zC (p:=fun gh ls=>(sp (nP (cx:=cx) (fun _=>(⟨[(2,.l (.p 1 0))],[some ⟨55,1,false,none,[dH b0_0]⟩,some ⟨4,1,false,none,[bA false]⟩],16,gh,ls⟩:St))) (rP (cx:=cx) (P:=Tryz.prog) Tryz.f134 (fun q=>.l (bA q)) (fun q=>[some ⟨55,1,false,none,[dH b0_0]⟩]))) y1) ?_ ?_
 ·replace h:=g1;clear g1
  refine ST ?_;apply AW.block;refine AW.weak (zR [(2,.l (.p 1 0)),(3,.l (.p 2 0)),(4,.l (.p 3 0)),(6,.l (.f 146 [0]))] (by simp)) ?_;refine zS rfl Tryz.func146 (by kernel_rfl) rfl (by decide) rfl rfl fun cxI1 yl1 hnI1 hY1=>?_;have hnJ1:cxI1.nb=1:=hnI1.trans hz;simp only[initTm,List.map_cons,List.map_nil];obtain⟨v2,e2,h⟩:=ltE h;refine AW.step (by simp[Ad e2];intros;rfl) ?_;apply AW.block;obtain⟨y4,g4,h⟩:=bnE h;refine zD g4 (mk:=fun gh ls q=>(⟨[(0,.l (.s (.func (.yield yl1) #[] #[]))),(5,.l (dH b0_0)),(6,.l (iA v2)),(7,.l (iA q.1))],[some ⟨55,1,false,none,[dH b0_0]⟩,some ⟨4,1,false,none,[bA false]⟩,some ⟨4,1,false,none,[bA q.2.1]⟩,some ⟨9,1,false,none,[tA q.2.2]⟩],16,gh,ls⟩:St)) (N:=fun gh ls=>(sp (xP 0 (cx:=cxI1) (fun q=>(⟨[],[some ⟨55,1,false,none,[dH b0_0]⟩,some ⟨4,1,false,none,[bA false]⟩,some ⟨4,1,false,none,[bA q.1]⟩,some ⟨9,1,false,none,[tA q.2]⟩],16,gh,ls⟩:St))) (tP (cx:=cxI1) (fun q=>(⟨[],[some ⟨55,1,false,none,[dH b0_0]⟩,some ⟨4,1,false,none,[bA false]⟩,some ⟨4,1,false,none,[bA q.1]⟩,some ⟨9,1,false,none,[tA q.2]⟩],16,gh,some .ret⟩:St))))) ?_ (noS noX noT) ?_ ?_
  ·refine zE 1 [some 0,some 1,some 2,some 3] hnJ1 (by decide) (by decide) ?_ ?_ ?_;all_goals first|(simp[Ae,Af,pickOb];done)|rfl
  ·clear h;intro y3 y5 h
   obtain⟨v6,e6,h⟩:=ltE h;refine AW.step (by simp[← e6];intros;rfl) ?_;apply AW.seq;cases v6 with
   |true=>
    replace h:=iT h;refine CT ?_;apply AW.skip;try simp only[nm]
    apply AW.seq;apply AW.block;obtain⟨v7,e7,h⟩:=bnE h;refine AW.step (by simp[Aa e7];intros;rfl) ?_;refine zQ ?_;apply xopsY.yield hY1 0 2 rfl rfl rfl (by decide)
    ·simp;intros;rfl
    ·rfl
    ·first|trivial|simp
    ·rfl
    ·rfl
    ·simp[puts];rfl
    intro cxR1 hnR1;have hnS1:cxR1.nb=1:=hnR1.trans hnJ1;refine SL ?_;refine⟨rfl,?_⟩;obtain⟨y8,g8,h⟩:=bnE h;refine zP (p:=fun gh ls=>(sp (nP (cx:=cxR1) (fun _=>(⟨[],[some ⟨55,1,false,none,[dH b0_0]⟩,some ⟨4,1,false,none,[bA false]⟩,some ⟨4,1,false,none,[bA false]⟩,some ⟨9,1,false,none,[tA v7]⟩],16,gh,ls⟩:St))) (tP (cx:=cxR1) (fun _=>(⟨[],[some ⟨55,1,false,none,[dH b0_0]⟩,some ⟨4,1,false,none,[bA false]⟩,some ⟨4,1,false,none,[bA y3.2.1]⟩,some ⟨9,1,false,none,[tA y3.2.2]⟩],16,gh,ls⟩:St)))) y8) ?_ ?_
    ·replace h:=g8;clear g8
     apply AW.block;apply AW.seq;obtain⟨y9,g9,h⟩:=bnE h;refine zC (p:=fun gh ls=>(nP (cx:=cxR1) (fun q=>(⟨[(2,.l (.p 1 0)),(3,.l (.p 2 0)),(4,.l (.p 3 0)),(5,.l (tA v7)),(6,.l (.f 146 [0])),(14,.l (bA q))],[some ⟨55,1,false,none,[dH b0_0]⟩,some ⟨4,1,false,none,[bA false]⟩,some ⟨4,1,false,none,[bA y3.2.1]⟩,some ⟨9,1,false,none,[tA y3.2.2]⟩],16,gh,ls⟩:St))) y9) ?_ ?_
     ·replace h:=g9;clear g9
      obtain⟨v10,e10,h⟩:=ltE h;cases v10 with
      |true=>
       replace h:=iT h;obtain⟨v11,e11,h⟩:=ltE h;refine AW.last (by simp[← e10,← e11];intros;rfl) ?_;obtain rfl:=oi h;refine nP_i ?_;refine zE 1 [some 0,some 1,some 2,some 3] hnS1 (by decide) (by decide) ?_ ?_ ?_;all_goals first|(simp[Ae,Af,pickOb];done)|rfl
      |false=>
       replace h:=iF h;refine AW.last (by simp[← e10];intros;rfl) ?_;obtain rfl:=oi h;refine nP_i ?_;refine zE 1 [some 0,some 1,some 2,some 3] hnS1 (by decide) (by decide) ?_ ?_ ?_;all_goals first|(simp[Ae,Af,pickOb];done)|rfl
     ·rintro e s⟨rfl,hw⟩;refine⟨_,hw,?_⟩;try simp only[nm]
      obtain⟨v12,e12,h⟩:=ltE h;rw[← e12];cases v12 with
      |true=>
       replace h:=iT h;refine CT ?_;refine ST ?_;obtain rfl:=oi h;apply AW.ret;try simp only[nm]
       try simp only[sp_l,sp_r]
       refine tP_i ?_;refine zE 1 [some 0,some 1,some 2,some 3] hnS1 (by decide) (by decide) ?_ ?_ ?_;all_goals first|(simp[Ae,Af,pickOb];done)|rfl
      |false=>
       replace h:=iF h;refine CF ?_;apply AW.skip;try simp only[nm]
       refine SL ?_;obtain rfl:=oi h;try simp only[sp_l,sp_r]
       refine nP_i ?_;refine zE 1 [some 0,some 1,some 2,some 3] hnS1 (by decide) (by decide) ?_ ?_ ?_;all_goals first|(simp[Ae,Af,pickOb];done)|rfl
    ·rintro e s hp;rcases y8 with y13|y14
     ·replace h:=smL h;obtain⟨rfl,hw⟩:=hp;refine⟨_,hw,?_⟩;try simp only[nm]
      refine⟨_,_,rfl,?_⟩;refine BL _ _ _ rfl ?_;simp[puts];try intros
      unfold KK;refine CF ?_;apply AW.skip;try simp only[nm]
      obtain⟨v15,e15,h⟩:=ltE h;refine AW.last (by simp[← e15];intros;rfl) ?_;obtain rfl:=oi h;refine nP_i ?_;refine zE 1 [some 0,some 1,some 2,some 3] hnJ1 (by decide) (by decide) ?_ ?_ ?_;all_goals first|(simp[Ae,Af,pickOb];done)|rfl
     ·replace h:=smR h;obtain⟨rfl,hw⟩:=hp;refine⟨_,hw,?_⟩;try simp only[nm]
      refine⟨_,_,rfl,?_⟩;refine BL _ _ _ rfl ?_;simp[puts];try intros
      unfold KK;refine CT ?_;obtain rfl:=oi h;apply AW.ret;try simp only[nm]
      try simp only[sp_l,sp_r]
      refine tP_i ?_;refine zE 1 [some 0,some 1,some 2,some 3] hnJ1 (by decide) (by decide) ?_ ?_ ?_;all_goals first|(simp[Ae,Af,pickOb];done)|rfl
   |false=>
    replace h:=iF h;refine CF ?_;apply AW.exit;try simp only[nm]
    obtain rfl:=oi h;try simp only[sp_l,sp_r]
    refine xP_i ?_;refine zE 1 [some 0,some 1,some 2,some 3] hnJ1 (by decide) (by decide) ?_ ?_ ?_;all_goals first|(simp[Ae,Af,pickOb];done)|rfl
  ·rintro e s hp;rcases y4 with y16|y17
   ·replace h:=smL h;obtain⟨rfl,hw⟩:=hp;refine⟨_,hw,?_⟩;try simp only[nm]
    refine⟨_,_,rfl,?_⟩;try simp only[]
    try simp only[nm]
    obtain rfl:=oi h;try simp only[sp_l,sp_r]
    refine nP_i ?_;refine zE 1 [some 0,some 1] hz (by decide) (by decide) ?_ ?_ ?_;all_goals first|(simp[Ae,Af,pickOb];done)|rfl
   ·replace h:=smR h;obtain⟨rfl,hw⟩:=hp;refine⟨_,hw,?_⟩;try simp only[nm]
    refine⟨_,_,rfl,?_⟩;try simp only[]
    obtain rfl:=oi h;apply AW.ret;try simp only[nm]
    refine rP_i ?_;refine Left.of (av:=_) (by simp[Tryz.f134,resV,resC,comp];rfl) ?_;exact zJ 1 [some 0] hz rfl (by decide) rfl (by simp[pickOb,Ae,Af]) (by simp[Ae,Af])
 ·rintro e s hp;rcases y1 with y18|y19
  ·replace h:=smL h;obtain⟨rfl,hw⟩:=hp;refine⟨_,hw,?_⟩;try simp only[nm]
   refine ST ?_;obtain rfl:=oi h;apply AW.ret;refine Left.of (av:=_) (by simp[Tryz.f134,resV,resC,comp];rfl) ?_;exact zJ 1 [some 0] hz rfl (by decide) rfl (by simp[pickOb,Ae,Af]) (by simp[Ae,Af])
  ·replace h:=smR h;obtain⟨rfl,hl⟩:=hp;refine⟨_,Weak.refl _,?_⟩;obtain rfl:=oi h;exact hl
theorem H3:Enters Tryz.prog 134:=enters Tryz.func134 (by kernel_rfl) rfl
def Dn (n:Nat) (a0:Item):Option Bool :=
lt (eqI a0.kind 1) fun v1 =>
ite' v1 (lt (lenI a0.f) fun v2 =>
lt (lenI a0.l) fun v3 =>
lt (addI .i64 v2 v3) fun v4 =>
lt (eqI v4 0) fun v5 =>
some v5) (lt (eqI a0.kind 2) fun v6 =>
ite' v6 (bn (lt (eqS a0.s ⟨#[]⟩) fun v8 =>
ite' v8 (lt (lenI a0.l) fun v9 =>
lt (eqI v9 0) fun v10 =>
ite' v10 (lt (lenI a0.f) fun v11 =>
bn (CK n v11) fun v12 =>
ite' v12 (bn (EU n a0.f) fun v13 =>
bn (Ep n v13) fun v14 =>
some (v14)) (some (false))) (some (false))) (some (false))) fun (y7:Bool) =>
some y7) (lt (eqI a0.kind 3) fun v15 =>
ite' v15 (bn (lt (eqS a0.s ⟨#[]⟩) fun v17 =>
ite' v17 (lt (lenI a0.f) fun v18 =>
lt (eqI v18 0) fun v19 =>
ite' v19 (lt (lenI a0.l) fun v20 =>
bn (CK n v20) fun v21 =>
some (v21)) (some (false))) (some (false))) fun (y16:Bool) =>
some y16) (lt (eqI a0.kind 4) fun v22 =>
ite' v22 (bn (lt (eqS a0.s ⟨#[]⟩) fun v24 =>
ite' v24 (lt (lenI a0.f) fun v25 =>
lt (eqI v25 0) fun v26 =>
ite' v26 (lt (lenI a0.l) fun v27 =>
bn (CK n v27) fun v28 =>
ite' v28 (bn (BX n a0.l) fun v29 =>
bn (CN n v29) fun v30 =>
some (v30)) (some (false))) (some (false))) (some (false))) fun (y23:Bool) =>
some y23) (some false))))
theorem Gc {n:Nat} {a0:Item} {r:Bool} (h:Dn n a0=some r):Sound Tryz.prog 114 [.g (cE0 a0)] [] (.l (bA r)) []:=by
 unfold Dn at h;refine SO 78 Tryz.func114 fun cx hG (hz:cx.nb=0)=>?_;simp only[it];refine ST ?_;apply AW.seq;refine ST ?_;apply AW.block;obtain⟨v1,e1,h⟩:=ltE h;refine AW.step (by simp[← e1];intros;rfl) ?_;cases v1 with
 |true=>
  replace h:=iT h;refine CT ?_;obtain⟨v2,e2,v3,e3,v4,e4,h⟩:=olll h;obtain⟨v5,e5,h⟩:=ltE h;refine AW.step (by simp[Ad e2,Ad e3,← e4,← e5];intros;rfl) ?_;obtain rfl:=oi h;apply AW.ret;exact LP hz
 |false=>
  replace h:=iF h;refine CF ?_;obtain⟨v6,e6,h⟩:=ltE h;refine AW.step (by simp[← e6];intros;rfl) ?_;cases v6 with
  |true=>
   replace h:=iT h;refine CT ?_;obtain⟨y7,g7,h⟩:=bnE h;refine zC (p:=fun gh ls=>(nP (cx:=cx) (fun q=>(⟨[(2,.l (bA q))],[],78,gh,ls⟩:St))) y7) ?_ ?_
   ·replace h:=g7;clear g7
    obtain⟨v8,e8,h⟩:=ltE h;cases v8 with
    |true=>
     replace h:=iT h;obtain⟨v9,e9,v10,e10,h⟩:=oll h;cases v10 with
     |true=>
      replace h:=iT h;obtain⟨v11,e11,v12,e12,h⟩:=olb h;cases v12 with
      |true=>
       replace h:=iT h;obtain⟨v13,e13,h⟩:=bnE h;obtain⟨v14,e14,h⟩:=bnE h;apply AW.last
       ·simp[← e8,Ad e9,← e10,Ad e11];intros;refine Ab Ed (EJ e12) rfl ⟨.same rfl,trivial⟩ ?_;try simp[← e8,Ad e9,← e10,Ad e11]
        intros;refine AS LK (MK e13) rfl (by simp) ⟨.same rfl,trivial⟩ ?_;try simp[← e8,Ad e9,← e10,Ad e11]
        intros;refine Cf [1] KG (LL e14) (by decide) (by simp[pickOb,Ae,Af]) rfl rfl (by simp) ⟨.l (.fn (by simp)),trivial⟩ ?_;try simp[← e8,Ad e9,← e10,Ad e11]
        intros;rfl
       obtain rfl:=oi h;exact nP_i (WM [] hz)
      |false=>
       replace h:=iF h;apply AW.last
       ·simp[← e8,Ad e9,← e10,Ad e11];intros;refine Ab Ed (EJ e12) rfl ⟨.same rfl,trivial⟩ ?_;try simp[← e8,Ad e9,← e10,Ad e11]
        intros;rfl
       obtain rfl:=oi h;exact nP_i (WM [] hz)
     |false=>
      replace h:=iF h;refine AW.last (by simp[← e8,Ad e9,← e10];intros;rfl) ?_;obtain rfl:=oi h;exact nP_i (WM [] hz)
    |false=>
     replace h:=iF h;refine AW.last (by simp[← e8];intros;rfl) ?_;obtain rfl:=oi h;exact nP_i (WM [] hz)
   ·rintro e s⟨rfl,hw⟩;refine⟨_,hw,?_⟩;try simp only[nm]
    obtain rfl:=oi h;apply AW.ret;exact LP hz
  |false=>
   replace h:=iF h;refine CF ?_;obtain⟨v15,e15,h⟩:=ltE h;refine AW.step (by simp[← e15];intros;rfl) ?_;cases v15 with
   |true=>
    replace h:=iT h;refine CT ?_;obtain⟨y16,g16,h⟩:=bnE h;refine zC (p:=fun gh ls=>(nP (cx:=cx) (fun q=>(⟨[(2,.l (bA q))],[],78,gh,ls⟩:St))) y16) ?_ ?_
    ·replace h:=g16;clear g16
     obtain⟨v17,e17,h⟩:=ltE h;cases v17 with
     |true=>
      replace h:=iT h;obtain⟨v18,e18,v19,e19,h⟩:=oll h;cases v19 with
      |true=>
       replace h:=iT h;obtain⟨v20,e20,v21,e21,h⟩:=olb h;apply AW.last
       ·simp[← e17,Ad e18,← e19,Ad e20];intros;refine Ab Ed (EJ e21) rfl ⟨.same rfl,trivial⟩ ?_;try simp[← e17,Ad e18,← e19,Ad e20]
        intros;rfl
       obtain rfl:=oi h;exact nP_i (WM [] hz)
      |false=>
       replace h:=iF h;refine AW.last (by simp[← e17,Ad e18,← e19];intros;rfl) ?_;obtain rfl:=oi h;exact nP_i (WM [] hz)
     |false=>
      replace h:=iF h;refine AW.last (by simp[← e17];intros;rfl) ?_;obtain rfl:=oi h;exact nP_i (WM [] hz)
    ·rintro e s⟨rfl,hw⟩;refine⟨_,hw,?_⟩;try simp only[nm]
     obtain rfl:=oi h;apply AW.ret;exact LP hz
   |false=>
    replace h:=iF h;refine CF ?_;obtain⟨v22,e22,h⟩:=ltE h;refine AW.step (by simp[← e22];intros;rfl) ?_;cases v22 with
    |true=>
     replace h:=iT h;refine CT ?_;obtain⟨y23,g23,h⟩:=bnE h;refine zC (p:=fun gh ls=>(nP (cx:=cx) (fun q=>(⟨[(2,.l (bA q))],[],78,gh,ls⟩:St))) y23) ?_ ?_
     ·replace h:=g23;clear g23
      obtain⟨v24,e24,h⟩:=ltE h;cases v24 with
      |true=>
       replace h:=iT h;obtain⟨v25,e25,v26,e26,h⟩:=oll h;cases v26 with
       |true=>
        replace h:=iT h;obtain⟨v27,e27,v28,e28,h⟩:=olb h;cases v28 with
        |true=>
         replace h:=iT h;obtain⟨v29,e29,h⟩:=bnE h;obtain⟨v30,e30,h⟩:=bnE h;apply AW.last
         ·simp[← e24,Ad e25,← e26,Ad e27];intros;refine Ab Ed (EJ e28) rfl ⟨.same rfl,trivial⟩ ?_;try simp[← e24,Ad e25,← e26,Ad e27]
          intros;refine AS GM (G6 e29) rfl (by simp) ⟨.same rfl,trivial⟩ ?_;try simp[← e24,Ad e25,← e26,Ad e27]
          intros;refine Cf [1] H3 (Iu e30) (by decide) (by simp[pickOb,Ae,Af]) rfl rfl (by simp) ⟨.l (.fn (by simp)),trivial⟩ ?_;try simp[← e24,Ad e25,← e26,Ad e27]
          intros;rfl
         obtain rfl:=oi h;exact nP_i (WM [] hz)
        |false=>
         replace h:=iF h;apply AW.last
         ·simp[← e24,Ad e25,← e26,Ad e27];intros;refine Ab Ed (EJ e28) rfl ⟨.same rfl,trivial⟩ ?_;try simp[← e24,Ad e25,← e26,Ad e27]
          intros;rfl
         obtain rfl:=oi h;exact nP_i (WM [] hz)
       |false=>
        replace h:=iF h;refine AW.last (by simp[← e24,Ad e25,← e26];intros;rfl) ?_;obtain rfl:=oi h;exact nP_i (WM [] hz)
      |false=>
       replace h:=iF h;refine AW.last (by simp[← e24];intros;rfl) ?_;obtain rfl:=oi h;exact nP_i (WM [] hz)
     ·rintro e s⟨rfl,hw⟩;refine⟨_,hw,?_⟩;try simp only[nm]
      obtain rfl:=oi h;apply AW.ret;exact LP hz
    |false=>
     replace h:=iF h;refine CF ?_;apply AW.skip;try simp only[nm]
     refine ST ?_;obtain rfl:=oi h;apply AW.ret;exact LP hz
theorem FI:Enters Tryz.prog 114:=enters Tryz.func114 (by kernel_rfl) rfl
def EV (n:Nat) (a0:Item):Option Item :=
some a0
theorem ML {n:Nat} {a0:Item} {r:Item} (h:EV n a0=some r):Sound Tryz.prog 115 [.g (cE0 a0)] [] (.l (.f 137 [0])) [some ⟨57,5,false,none,(cE0 r)⟩]:=by
 unfold EV at h;refine SO 4 Tryz.func115 fun cx hG (hz:cx.nb=0)=>?_;simp only[it];refine ST ?_;refine ST ?_;obtain rfl:=oi h;apply AW.ret;refine Left.of (av:=_) (by simp[Tryz.f115,resV,resC,comp];rfl) ?_;exact zJ 0 [some 0] hz rfl (by decide) rfl (by simp[pickOb,Ae,Af]) (by simp[Ae,Af])
theorem LM:Enters Tryz.prog 115:=enters Tryz.func115 (by kernel_rfl) rfl
def EK (n:Nat) (a0:Item):Option Bool :=
bn (bn (Dn n a0) fun v2 =>
lt (notB v2) fun v3 =>
ite' v3 (some (true)) (lt (ltI a0.exp 0) fun v4 =>
ite' v4 (some (true)) (lt (gtI a0.exp 9007199254740992) fun v5 =>
some (v5)))) fun (y1:Bool) =>
lt (y1) fun v6 =>
ite' v6 (some false) (bn (bn (EV n a0) fun v8 =>
bn (lt (lenS v8.s) fun v10 =>
lt (gtI v10 300) fun v11 =>
ite' v11 (some (.inr ())) (some (.inl ()))) fun (y9:Unit ⊕ Unit) =>
sm y9 (fun y12=>lt (lenI v8.f) fun v14 =>
bn (iter n (fun (y15:Int) =>
lt (ltI y15 v14) fun v18 =>
ite' v18 (bn (nth v8.f y15) fun v19 =>
bn (lt (lenS v19.name) fun v21 =>
lt (gtI v21 300) fun v22 =>
ite' v22 (some (.inr ())) (some (.inl ()))) fun (y20:Unit ⊕ Unit) =>
sm y20 (fun y23=>bn (lt (lenS v19.val) fun v26 =>
lt (gtI v26 300) fun v27 =>
ite' v27 (some (.inr ())) (some (.inl ()))) fun (y25:Unit ⊕ Unit) =>
sm y25 (fun y28=>lt (addI .i64 y15 1) fun v30 =>
some (.inl v30)) (fun y29=>some (.inr (.inr ())))) (fun y24=>some (.inr (.inr ())))) (some (.inr (.inl ())))) 0) fun (y16:Unit ⊕ Unit) =>
sm y16 (fun y31=>lt (lenI v8.l) fun v33 =>
bn (iter n (fun (y34:Int) =>
lt (ltI y34 v33) fun v37 =>
ite' v37 (bn (nth v8.l y34) fun v38 =>
bn (lt (lenS v38) fun v40 =>
lt (gtI v40 300) fun v41 =>
ite' v41 (some (.inr ())) (some (.inl ()))) fun (y39:Unit ⊕ Unit) =>
sm y39 (fun y42=>lt (addI .i64 y34 1) fun v44 =>
some (.inl v44)) (fun y43=>some (.inr (.inr ())))) (some (.inr (.inl ())))) 0) fun (y35:Unit ⊕ Unit) =>
sm y35 (fun y45=>some (.inl ())) (fun y46=>some (.inr false))) (fun y32=>some (.inr false))) (fun y13=>some (.inr false))) fun (y7:Unit ⊕ Bool) =>
sm y7 (fun y47=>some true) (fun y48=>some y48))
theorem J9 {n:Nat} {a0:Item} {r:Bool} (h:EK n a0=some r):Sound Tryz.prog 86 [.g (cE0 a0)] [] (.l (bA r)) []:=by
 unfold EK at h;refine SO 23 Tryz.func86 fun cx hG (hz:cx.nb=0)=>?_;simp only[it];refine ST ?_;apply AW.seq;obtain⟨y1,g1,h⟩:=bnE h;refine zC (p:=fun gh ls=>(nP (cx:=cx) (fun q=>(⟨[(1,.l (.p 0 0)),(2,.l (.p 1 0)),(16,.l (bA q))],[some ⟨57,5,false,none,(cE0 a0)⟩,some ⟨4,1,false,none,[bA false]⟩],23,gh,ls⟩:St))) y1) ?_ ?_
 ·replace h:=g1;clear g1
  obtain⟨v2,e2,v3,e3,h⟩:=obl h;cases v3 with
  |true=>
   replace h:=iT h;apply AW.last
   ·simp[← e3];intros;refine Ab FI (Gc e2) rfl ⟨.same rfl,trivial⟩ ?_;try simp[← e3]
    intros;rfl
   obtain rfl:=oi h;exact nP_i (WM [0,1] hz)
  |false=>
   replace h:=iF h;obtain⟨v4,e4,h⟩:=ltE h;cases v4 with
   |true=>
    replace h:=iT h;apply AW.last
    ·simp[← e3,← e4];intros;refine Ab FI (Gc e2) rfl ⟨.same rfl,trivial⟩ ?_;try simp[← e3,← e4]
     intros;rfl
    obtain rfl:=oi h;exact nP_i (WM [0,1] hz)
   |false=>
    replace h:=iF h;obtain⟨v5,e5,h⟩:=ltE h;apply AW.last
    ·simp[← e3,← e4,← e5];intros;refine Ab FI (Gc e2) rfl ⟨.same rfl,trivial⟩ ?_;try simp[← e3,← e4,← e5]
     intros;rfl
    obtain rfl:=oi h;exact nP_i (WM [0,1] hz)
 ·rintro e s⟨rfl,hw⟩;refine⟨_,hw,?_⟩;try simp only[nm]
  obtain⟨v6,e6,h⟩:=ltE h;rw[← e6];cases v6 with
  |true=>
   replace h:=iT h;refine CT ?_;refine ST ?_;obtain rfl:=oi h;apply AW.ret;exact LP hz
  |false=>
   replace h:=iF h;refine CF ?_;apply AW.skip;try simp only[nm]
   obtain⟨y7,g7,h⟩:=bnE h;refine zC (p:=fun gh ls=>(sp (nP (cx:=cx) (fun _=>(⟨[(2,.l (.p 0 0))],[some ⟨4,1,false,none,[bA false]⟩],23,gh,ls⟩:St))) (rP (cx:=cx) (P:=Tryz.prog) Tryz.f86 (fun q=>.l (bA q)) (fun q=>[]))) y7) ?_ ?_
   ·replace h:=g7;clear g7
    obtain⟨v8,e8,h⟩:=bnE h;apply AW.step
    ·simp;intros;refine AS LM (ML e8) rfl (by simp) ⟨.same rfl,trivial⟩ ?_;try simp
     intros;rfl
    apply AW.block;refine AW.weak (zR [(2,.l (.p 1 0)),(18,.l (.f 137 [2]))] (by simp)) ?_;refine zS rfl Tryz.func137 (by kernel_rfl) rfl (by decide) rfl rfl fun cxI1 yl1 hnI1 hY1=>?_;have hnJ1:cxI1.nb=0:=hnI1.trans hz;simp only[initTm,List.map_cons,List.map_nil];apply AW.seq;refine zQ ?_;apply xopsY.yield hY1 0 3 rfl rfl rfl (by decide)
    ·simp;intros;rfl
    ·rfl
    ·first|trivial|simp
    ·rfl
    ·rfl
    ·simp[puts];rfl
    intro cxR1 hnR1;have hnS1:cxR1.nb=0:=hnR1.trans hnJ1;refine SL ?_;refine⟨rfl,?_⟩;obtain⟨y9,g9,h⟩:=bnE h;refine zP (p:=fun gh ls=>(sp (nP (cx:=cxR1) (fun _=>(⟨[],[some ⟨57,5,false,none,(cE0 a0)⟩,some ⟨4,1,false,none,[bA false]⟩,some ⟨57,5,false,none,(cE0 v8)⟩],23,gh,ls⟩:St))) (tP (cx:=cxR1) (fun _=>(⟨[],[some ⟨57,5,false,none,(cE0 a0)⟩,some ⟨4,1,false,none,[bA false]⟩,some ⟨57,5,false,none,(cE0 v8)⟩],23,gh,ls⟩:St)))) y9) ?_ ?_
    ·replace h:=g9;clear g9
     apply AW.block;obtain⟨v10,e10,v11,e11,h⟩:=oll h;refine AW.step (by simp[← e10,← e11];intros;rfl) ?_;cases v11 with
     |true=>
      replace h:=iT h;refine CT ?_;refine ST ?_;obtain rfl:=oi h;apply AW.ret;try simp only[nm]
      try simp only[sp_l,sp_r]
      refine tP_i ?_;refine zE 0 [some 0,some 1,some 2] hnS1 (by decide) (by decide) ?_ ?_ ?_;all_goals first|(simp[Ae,Af,pickOb];done)|rfl
     |false=>
      replace h:=iF h;refine CF ?_;apply AW.skip;try simp only[nm]
      obtain rfl:=oi h;try simp only[sp_l,sp_r]
      refine nP_i ?_;refine zE 0 [some 0,some 1,some 2] hnS1 (by decide) (by decide) ?_ ?_ ?_;all_goals first|(simp[Ae,Af,pickOb];done)|rfl
    ·rintro e s hp;rcases y9 with y12|y13
     ·replace h:=smL h;obtain⟨rfl,hw⟩:=hp;refine⟨_,hw,?_⟩;try simp only[nm]
      refine⟨_,_,rfl,?_⟩;refine BL _ _ _ rfl ?_;simp[puts];try intros
      unfold KK;refine CF ?_;apply AW.skip;try simp only[nm]
      apply AW.seq;obtain⟨v14,e14,h⟩:=ltE h;refine AW.step (by simp[Ad e14];intros;rfl) ?_;apply AW.block;obtain⟨y16,g16,h⟩:=bnE h;refine zD g16 (mk:=fun gh ls q=>(⟨[(0,.l (.s (.func (.yield yl1) #[] #[]))),(1,.l (.p 2 0)),(13,.l (dE v8.f)),(14,.l (iA v14)),(15,.l (iA q))],[some ⟨57,5,false,none,(cE0 a0)⟩,some ⟨4,1,false,none,[bA false]⟩,some ⟨57,5,false,none,(cE0 v8)⟩],44,gh,ls⟩:St)) (N:=fun gh ls=>(sp (xP 0 (cx:=cxI1) (fun _=>(⟨[(0,.l (.s (.func (.yield yl1) #[] #[]))),(1,.l (.p 2 0))],[some ⟨57,5,false,none,(cE0 a0)⟩,some ⟨4,1,false,none,[bA false]⟩,some ⟨57,5,false,none,(cE0 v8)⟩],44,gh,ls⟩:St))) (tP (cx:=cxI1) (fun _=>(⟨[],[some ⟨57,5,false,none,(cE0 a0)⟩,some ⟨4,1,false,none,[bA false]⟩,some ⟨57,5,false,none,(cE0 v8)⟩],44,gh,some .ret⟩:St))))) ?_ (noS noX noT) ?_ ?_
      ·refine zE 0 [some 0,some 1,some 2] hnJ1 (by decide) (by decide) ?_ ?_ ?_;all_goals first|(simp[Ae,Af,pickOb];done)|rfl
      ·clear h;intro y15 y17 h
       obtain⟨v18,e18,h⟩:=ltE h;refine AW.step (by simp[← e18];intros;rfl) ?_;apply AW.seq;cases v18 with
       |true=>
        replace h:=iT h;refine CT ?_;apply AW.skip;try simp only[nm]
        apply AW.seq;apply AW.block;obtain⟨v19,e19,h⟩:=bnE h;refine AW.step (by simp[Aa e19];intros;rfl) ?_;refine zQ ?_;apply xopsY.yield hY1 0 3 rfl rfl rfl (by decide)
        ·simp;intros;rfl
        ·rfl
        ·first|trivial|simp
        ·rfl
        ·rfl
        ·simp[puts];rfl
        intro cxR1 hnR1;have hnS1:cxR1.nb=0:=hnR1.trans hnJ1;refine SL ?_;refine⟨rfl,?_⟩;obtain⟨y20,g20,h⟩:=bnE h;refine zP (p:=fun gh ls=>(sp (nP (cx:=cxR1) (fun _=>(⟨[],[some ⟨57,5,false,none,(cE0 a0)⟩,some ⟨4,1,false,none,[bA false]⟩,some ⟨57,5,false,none,(cE0 v8)⟩,some ⟨157,2,false,none,[tA v19.name,tA v19.val]⟩],23,gh,ls⟩:St))) (tP (cx:=cxR1) (fun _=>(⟨[],[some ⟨57,5,false,none,(cE0 a0)⟩,some ⟨4,1,false,none,[bA false]⟩,some ⟨57,5,false,none,(cE0 v8)⟩,some ⟨157,2,false,none,[tA v19.name,tA v19.val]⟩],23,gh,ls⟩:St)))) y20) ?_ ?_
        ·replace h:=g20;clear g20
         apply AW.block;obtain⟨v21,e21,v22,e22,h⟩:=oll h;refine AW.step (by simp[← e21,← e22];intros;rfl) ?_;cases v22 with
         |true=>
          replace h:=iT h;refine CT ?_;refine ST ?_;obtain rfl:=oi h;apply AW.ret;try simp only[nm]
          try simp only[sp_l,sp_r]
          refine tP_i ?_;refine zE 0 [some 0,some 1,some 2,some 3] hnS1 (by decide) (by decide) ?_ ?_ ?_;all_goals first|(simp[Ae,Af,pickOb];done)|rfl
         |false=>
          replace h:=iF h;refine CF ?_;apply AW.skip;try simp only[nm]
          obtain rfl:=oi h;try simp only[sp_l,sp_r]
          refine nP_i ?_;refine zE 0 [some 0,some 1,some 2,some 3] hnS1 (by decide) (by decide) ?_ ?_ ?_;all_goals first|(simp[Ae,Af,pickOb];done)|rfl
        ·rintro e s hp;rcases y20 with y23|y24
         ·replace h:=smL h;obtain⟨rfl,hw⟩:=hp;refine⟨_,hw,?_⟩;try simp only[nm]
          refine⟨_,_,rfl,?_⟩;apply xopsY.yield hY1 4 9 rfl rfl rfl (by decide)
          ·simp;intros;rfl
          ·rfl
          ·first|trivial|simp
          ·rfl
          ·rfl
          ·simp[puts];rfl
          intro cxR1 hnR1;have hnS1:cxR1.nb=0:=hnR1.trans hnJ1;refine SL ?_;refine⟨rfl,?_⟩;obtain⟨y25,g25,h⟩:=bnE h;refine zP (p:=fun gh ls=>(sp (nP (cx:=cxR1) (fun _=>(⟨[],[some ⟨57,5,false,none,(cE0 a0)⟩,some ⟨4,1,false,none,[bA false]⟩,some ⟨57,5,false,none,(cE0 v8)⟩,some ⟨157,2,false,none,[tA v19.name,tA v19.val]⟩],23,gh,ls⟩:St))) (tP (cx:=cxR1) (fun _=>(⟨[],[some ⟨57,5,false,none,(cE0 a0)⟩,some ⟨4,1,false,none,[bA false]⟩,some ⟨57,5,false,none,(cE0 v8)⟩,some ⟨157,2,false,none,[tA v19.name,tA v19.val]⟩],23,gh,ls⟩:St)))) y25) ?_ ?_
          ·replace h:=g25;clear g25
           apply AW.block;obtain⟨v26,e26,v27,e27,h⟩:=oll h;refine AW.step (by simp[← e26,← e27];intros;rfl) ?_;cases v27 with
           |true=>
            replace h:=iT h;refine CT ?_;refine ST ?_;obtain rfl:=oi h;apply AW.ret;try simp only[nm]
            try simp only[sp_l,sp_r]
            refine tP_i ?_;refine zE 0 [some 0,some 1,some 2,some 3] hnS1 (by decide) (by decide) ?_ ?_ ?_;all_goals first|(simp[Ae,Af,pickOb];done)|rfl
           |false=>
            replace h:=iF h;refine CF ?_;apply AW.skip;try simp only[nm]
            obtain rfl:=oi h;try simp only[sp_l,sp_r]
            refine nP_i ?_;refine zE 0 [some 0,some 1,some 2,some 3] hnS1 (by decide) (by decide) ?_ ?_ ?_;all_goals first|(simp[Ae,Af,pickOb];done)|rfl
          ·rintro e s hp;rcases y25 with y28|y29
           ·replace h:=smL h;obtain⟨rfl,hw⟩:=hp;refine⟨_,hw,?_⟩;try simp only[nm]
            refine⟨_,_,rfl,?_⟩;refine BL _ _ _ rfl ?_;simp[puts];try intros
            unfold KK;refine CF ?_;apply AW.skip;try simp only[nm]
            obtain⟨v30,e30,h⟩:=ltE h;refine AW.last (by simp[← e30];intros;rfl) ?_;obtain rfl:=oi h;refine nP_i ?_;refine zE 0 [some 0,some 1,some 2] hnJ1 (by decide) (by decide) ?_ ?_ ?_;all_goals first|(simp[Ae,Af,pickOb];done)|rfl
           ·replace h:=smR h;obtain⟨rfl,hw⟩:=hp;refine⟨_,hw,?_⟩;try simp only[nm]
            refine⟨_,_,rfl,?_⟩;refine BL _ _ _ rfl ?_;simp[puts];try intros
            unfold KK;refine CT ?_;obtain rfl:=oi h;apply AW.ret;try simp only[nm]
            try simp only[sp_l,sp_r]
            refine tP_i ?_;refine zE 0 [some 0,some 1,some 2] hnJ1 (by decide) (by decide) ?_ ?_ ?_;all_goals first|(simp[Ae,Af,pickOb];done)|rfl
         ·replace h:=smR h;obtain⟨rfl,hw⟩:=hp;refine⟨_,hw,?_⟩;try simp only[nm]
          refine⟨_,_,rfl,?_⟩;refine BL _ _ _ rfl ?_;simp[puts];try intros
          unfold KK;refine CT ?_;obtain rfl:=oi h;apply AW.ret;try simp only[nm]
          try simp only[sp_l,sp_r]
          refine tP_i ?_;refine zE 0 [some 0,some 1,some 2] hnJ1 (by decide) (by decide) ?_ ?_ ?_;all_goals first|(simp[Ae,Af,pickOb];done)|rfl
       |false=>
        replace h:=iF h;refine CF ?_;apply AW.exit;try simp only[nm]
        obtain rfl:=oi h;try simp only[sp_l,sp_r]
        refine xP_i ?_;refine zE 0 [some 0,some 1,some 2] hnJ1 (by decide) (by decide) ?_ ?_ ?_;all_goals first|(simp[Ae,Af,pickOb];done)|rfl
      ·rintro e s hp;rcases y16 with y31|y32
       ·replace h:=smL h;obtain⟨rfl,hw⟩:=hp;refine⟨_,hw,?_⟩;try simp only[nm]
        obtain⟨v33,e33,h⟩:=ltE h;refine AW.step (by simp[Ad e33];intros;rfl) ?_;apply AW.block;obtain⟨y35,g35,h⟩:=bnE h;refine zD g35 (mk:=fun gh ls q=>(⟨[(0,.l (.s (.func (.yield yl1) #[] #[]))),(33,.l (dH v8.l)),(34,.l (iA v33)),(35,.l (iA q))],[some ⟨57,5,false,none,(cE0 a0)⟩,some ⟨4,1,false,none,[bA false]⟩,some ⟨57,5,false,none,(cE0 v8)⟩],44,gh,ls⟩:St)) (N:=fun gh ls=>(sp (xP 2 (cx:=cxI1) (fun _=>(⟨[],[some ⟨57,5,false,none,(cE0 a0)⟩,some ⟨4,1,false,none,[bA false]⟩,some ⟨57,5,false,none,(cE0 v8)⟩],44,gh,ls⟩:St))) (tP (cx:=cxI1) (fun _=>(⟨[],[some ⟨57,5,false,none,(cE0 a0)⟩,some ⟨4,1,false,none,[bA false]⟩,some ⟨57,5,false,none,(cE0 v8)⟩],44,gh,some .ret⟩:St))))) ?_ (noS noX noT) ?_ ?_
        ·refine zE 0 [some 0,some 1,some 2] hnJ1 (by decide) (by decide) ?_ ?_ ?_;all_goals first|(simp[Ae,Af,pickOb];done)|rfl
        ·clear h;intro y34 y36 h
         obtain⟨v37,e37,h⟩:=ltE h;refine AW.step (by simp[← e37];intros;rfl) ?_;apply AW.seq;cases v37 with
         |true=>
          replace h:=iT h;refine CT ?_;apply AW.skip;try simp only[nm]
          apply AW.seq;apply AW.block;obtain⟨v38,e38,h⟩:=bnE h;refine AW.step (by simp[Aa e38];intros;rfl) ?_;refine zQ ?_;apply xopsY.yield hY1 0 2 rfl rfl rfl (by decide)
          ·simp;intros;rfl
          ·rfl
          ·first|trivial|simp
          ·rfl
          ·rfl
          ·simp[puts];rfl
          intro cxR1 hnR1;have hnS1:cxR1.nb=0:=hnR1.trans hnJ1;refine SL ?_;refine⟨rfl,?_⟩;obtain⟨y39,g39,h⟩:=bnE h;refine zP (p:=fun gh ls=>(sp (nP (cx:=cxR1) (fun _=>(⟨[],[some ⟨57,5,false,none,(cE0 a0)⟩,some ⟨4,1,false,none,[bA false]⟩,some ⟨57,5,false,none,(cE0 v8)⟩],23,gh,ls⟩:St))) (tP (cx:=cxR1) (fun _=>(⟨[],[some ⟨57,5,false,none,(cE0 a0)⟩,some ⟨4,1,false,none,[bA false]⟩,some ⟨57,5,false,none,(cE0 v8)⟩],23,gh,ls⟩:St)))) y39) ?_ ?_
          ·replace h:=g39;clear g39
           apply AW.block;obtain⟨v40,e40,v41,e41,h⟩:=oll h;refine AW.step (by simp[← e40,← e41];intros;rfl) ?_;cases v41 with
           |true=>
            replace h:=iT h;refine CT ?_;refine ST ?_;obtain rfl:=oi h;apply AW.ret;try simp only[nm]
            try simp only[sp_l,sp_r]
            refine tP_i ?_;refine zE 0 [some 0,some 1,some 2] hnS1 (by decide) (by decide) ?_ ?_ ?_;all_goals first|(simp[Ae,Af,pickOb];done)|rfl
           |false=>
            replace h:=iF h;refine CF ?_;apply AW.skip;try simp only[nm]
            obtain rfl:=oi h;try simp only[sp_l,sp_r]
            refine nP_i ?_;refine zE 0 [some 0,some 1,some 2] hnS1 (by decide) (by decide) ?_ ?_ ?_;all_goals first|(simp[Ae,Af,pickOb];done)|rfl
          ·rintro e s hp;rcases y39 with y42|y43
           ·replace h:=smL h;obtain⟨rfl,hw⟩:=hp;refine⟨_,hw,?_⟩;try simp only[nm]
            refine⟨_,_,rfl,?_⟩;refine BL _ _ _ rfl ?_;simp[puts];try intros
            unfold KK;refine CF ?_;apply AW.skip;try simp only[nm]
            obtain⟨v44,e44,h⟩:=ltE h;refine AW.last (by simp[← e44];intros;rfl) ?_;obtain rfl:=oi h;refine nP_i ?_;refine zE 0 [some 0,some 1,some 2] hnJ1 (by decide) (by decide) ?_ ?_ ?_;all_goals first|(simp[Ae,Af,pickOb];done)|rfl
           ·replace h:=smR h;obtain⟨rfl,hw⟩:=hp;refine⟨_,hw,?_⟩;try simp only[nm]
            refine⟨_,_,rfl,?_⟩;refine BL _ _ _ rfl ?_;simp[puts];try intros
            unfold KK;refine CT ?_;obtain rfl:=oi h;apply AW.ret;try simp only[nm]
            try simp only[sp_l,sp_r]
            refine tP_i ?_;refine zE 0 [some 0,some 1,some 2] hnJ1 (by decide) (by decide) ?_ ?_ ?_;all_goals first|(simp[Ae,Af,pickOb];done)|rfl
         |false=>
          replace h:=iF h;refine CF ?_;apply AW.exit;try simp only[nm]
          obtain rfl:=oi h;try simp only[sp_l,sp_r]
          refine xP_i ?_;refine zE 0 [some 0,some 1,some 2] hnJ1 (by decide) (by decide) ?_ ?_ ?_;all_goals first|(simp[Ae,Af,pickOb];done)|rfl
        ·rintro e s hp;rcases y35 with y45|y46
         ·replace h:=smL h;obtain⟨rfl,hw⟩:=hp;refine⟨_,hw,?_⟩;try simp only[nm]
          refine⟨_,_,rfl,?_⟩;try simp only[]
          try simp only[nm]
          obtain rfl:=oi h;try simp only[sp_l,sp_r]
          exact nP_i (WM [1] hz)
         ·replace h:=smR h;obtain⟨rfl,hw⟩:=hp;refine⟨_,hw,?_⟩;try simp only[nm]
          refine⟨_,_,rfl,?_⟩;try simp only[]
          obtain rfl:=oi h;apply AW.ret;try simp only[nm]
          refine rP_i ?_;exact LP hz
       ·replace h:=smR h;obtain⟨rfl,hw⟩:=hp;refine⟨_,hw,?_⟩;try simp only[nm]
        refine⟨_,_,rfl,?_⟩;try simp only[]
        obtain rfl:=oi h;apply AW.ret;try simp only[nm]
        refine rP_i ?_;exact LP hz
     ·replace h:=smR h;obtain⟨rfl,hw⟩:=hp;refine⟨_,hw,?_⟩;try simp only[nm]
      refine⟨_,_,rfl,?_⟩;refine BL _ _ _ rfl ?_;simp[puts];try intros
      unfold KK;refine CT ?_;apply AW.ret;refine⟨_,_,rfl,?_⟩;try simp only[]
      obtain rfl:=oi h;apply AW.ret;try simp only[nm]
      refine rP_i ?_;exact LP hz
   ·rintro e s hp;rcases y7 with y47|y48
    ·replace h:=smL h;obtain⟨rfl,hw⟩:=hp;refine⟨_,hw,?_⟩;try simp only[nm]
     refine ST ?_;obtain rfl:=oi h;apply AW.ret;exact LP hz
    ·replace h:=smR h;obtain⟨rfl,hl⟩:=hp;refine⟨_,Weak.refl _,?_⟩;obtain rfl:=oi h;exact hl
theorem Jb:Enters Tryz.prog 86:=enters Tryz.func86 (by kernel_rfl) rfl
def EL (n:Nat) (a0:Msg):Option Bool :=
bn (lt (lenI a0.effects) fun v2 =>
lt (neI v2 1) fun v3 =>
ite' v3 (some (true)) (lt (ltI a0.num 1) fun v4 =>
some (v4))) fun (y1:Bool) =>
lt (y1) fun v5 =>
ite' v5 (some false) (bn (nth a0.effects 0) fun v6 =>
bn (lt (lenS v6.key) fun v8 =>
lt (leI v8 40) fun v9 =>
ite' v9 (lt (notB v6.gone) fun v10 =>
ite' v10 (bn (EK n v6.item) fun v11 =>
ite' v11 (bn (DC n v6.key) fun v12 =>
lt (eqI v12 a0.slot) fun v13 =>
some (v13)) (some (false))) (some (false))) (some (false))) fun (y7:Bool) =>
some y7)
def DY4t1:List DI:=[⟨[0],[],[(3,none)],false⟩,⟨[0],[0],[(17,some 0)],false⟩,⟨[0],[0,1],[(18,some 1)],false⟩,⟨[0],[0,1,2],[(19,some 2)],false⟩,⟨[0],[0,1,2,3],[(20,some 3)],false⟩,⟨[0],[0,1,2,3,4],[(3,none),(21,some 4)],false⟩,⟨[0],[0,1,2,3,4,5],[(21,some 4),(22,some 5)],false⟩,⟨[0],[0,1,2,3,4,5,6],[(21,some 4),(23,some 6)],false⟩,⟨[0],[0,1,2,3,4,5,6,7],[(21,some 4),(24,some 7)],false⟩,⟨[0],[0,1,2,3,4,5,6,7,8],[(25,some 8)],false⟩,⟨[0],[0,1,2,3,4,5,6,7,8,9],[(3,none),(26,some 9)],false⟩,⟨[0],[0,1,2,3,4,5,6,7,8,9,10],[(26,some 9),(27,some 10)],false⟩,⟨[0],[0,1,2,3,4,5,6,7,8,9,10,11],[(26,some 9),(28,some 11)],false⟩,⟨[0],[0,1,2,3,4,5,6,7,8,9,10,11,12],[(26,some 9),(29,some 12)],false⟩,⟨[0],[0,1,2,3,4,5,6,7,8,9,10,11,12,13],[(30,some 13)],false⟩,⟨[0],[0,1,2,3,4,5,6,7,8,9,10,11,12,13,14],[(3,none),(31,some 14)],false⟩,⟨[0],[0,1,2,3,4,5,6,7,8,9,10,11,12,13,14,15],[(31,some 14),(32,some 15)],false⟩,⟨[0],[0,1,2,3,4,5,6,7,8,9,10,11,12,13,14,15,16],[(31,some 14),(33,some 16)],false⟩,⟨[0],[0,1,2,3,4,5,6,7,8,9,10,11,12,13,14],[(1,none),(31,some 14)],false⟩,⟨[0],[0,1,2,3,4,5,6,7,8,9,10,11,12,13,14,18],[(31,some 14),(35,some 18)],false⟩,⟨[],[0,1,2,3,4,5,6,7,8,9,10,11,12,13,14,15,16,17,18,19],[],false⟩,⟨[],[0,1,2,3,4,5,6,7,8,9,10,11,12,13,14,15,16,17,18,19,20],[],false⟩,⟨[],[0,1,2,3,4,5,6,7,8,9,10,11,12,13,14,15,16,17,18,19,20,21],[],false⟩]
theorem OW {n:Nat} {a0:Msg} {r:Bool} (h:EL n a0=some r):Sound Tryz.prog 48 [.g (cC0 a0)] [] (.l (bA r)) []:=by
 unfold EL at h;refine SO 39 Tryz.func48 fun cx hG (hz:cx.nb=0)=>?_;simp only[it];refine ST ?_;apply AW.seq;obtain⟨y1,g1,h⟩:=bnE h;refine zC (p:=fun gh ls=>(nP (cx:=cx) (fun q=>(⟨[(1,.l (.p 0 0)),(12,.l (bA q))],[some ⟨49,15,false,none,(cC0 a0)⟩],39,gh,ls⟩:St))) y1) ?_ ?_
 ·replace h:=g1;clear g1
  obtain⟨v2,e2,v3,e3,h⟩:=oll h;cases v3 with
  |true=>
   replace h:=iT h;refine AW.last (by simp[Ad e2,← e3];intros;rfl) ?_;obtain rfl:=oi h;exact nP_i (WM [0] hz)
  |false=>
   replace h:=iF h;obtain⟨v4,e4,h⟩:=ltE h;refine AW.last (by simp[Ad e2,← e3,← e4];intros;rfl) ?_;obtain rfl:=oi h;exact nP_i (WM [0] hz)
 ·rintro e s⟨rfl,hw⟩;refine⟨_,hw,?_⟩;try simp only[nm]
  obtain⟨v5,e5,h⟩:=ltE h;rw[← e5];cases v5 with
  |true=>
   replace h:=iT h;refine CT ?_;refine ST ?_;obtain rfl:=oi h;apply AW.ret;exact LP hz
  |false=>
   replace h:=iF h;refine CF ?_;apply AW.skip;try simp only[nm]
   obtain⟨v6,e6,h⟩:=bnE h;apply AW.step
   ·simp[(show a0.effects[0]?=some v6 from (Aa e6).2)];intros;rfl
   obtain⟨y7,g7,h⟩:=bnE h;refine zC (p:=fun gh ls=>(nP (cx:=cx) (fun q=>(⟨[(2,.l (bA q))],[],39,gh,ls⟩:St))) y7) ?_ ?_
   ·replace h:=g7;clear g7
    obtain⟨v8,e8,v9,e9,h⟩:=oll h;cases v9 with
    |true=>
     replace h:=iT h;obtain⟨v10,e10,h⟩:=ltE h;cases v10 with
     |true=>
      replace h:=iT h;obtain⟨v11,e11,h⟩:=bnE h;cases v11 with
      |true=>
       replace h:=iT h;obtain⟨v12,e12,v13,e13,h⟩:=obl h;apply zF (V:=[_,_,_,_,_,_,_,_,_,_,_,_,_,_,_,_,_,_,_,_]) mixed DY4t1 20 (by kernel_rfl) (by kernel_rfl)
       ·refine⟨?_,?_,?_,?_,?_,?_,?_,?_,?_,?_,?_,?_,?_,?_,?_,?_,?_,?_,?_,?_,trivial⟩;iterate 12 (· intro tm hr;simp[AllL,rdV] at hr;simp[hr,← e8,← e9,← e10,← e13];intros;exact KA)
        ·intro tm hr;simp[AllL,rdV] at hr;simp[hr,← e8,← e9,← e10,← e13];intros;refine Ab Jb (J9 e11) rfl ⟨.same rfl,trivial⟩ ?_;try simp[← e8,← e9,← e10,← e13]
         intros;exact KA
        iterate 4 (· intro tm hr;simp[AllL,rdV] at hr;simp[hr,← e8,← e9,← e10,← e13];intros;exact KA)
        ·intro tm hr;simp[AllL,rdV] at hr;simp[hr,← e8,← e9,← e10,← e13];intros;refine Ab HG (Io e12) rfl ⟨.same rfl,trivial⟩ ?_;try simp[← e8,← e9,← e10,← e13]
         intros;exact KA
        iterate 2 (· intro tm hr;simp[AllL,rdV] at hr;simp[hr,← e8,← e9,← e10,← e13];intros;exact KA)
       ·rfl
       ·simp[tmD,putD,← e8,← e9,← e10,← e13];rfl
       ·simp[← e8,← e9,← e10,← e13];intros;rfl
       obtain rfl:=oi h;exact nP_i (WM [] hz)
      |false=>
       replace h:=iF h;apply zF (V:=[_,_,_,_,_,_,_,_,_,_,_,_,_,_,_,_,_,_,_,_]) mixed DY4t1 20 (by kernel_rfl) (by kernel_rfl)
       ·refine⟨?_,?_,?_,?_,?_,?_,?_,?_,?_,?_,?_,?_,?_,?_,?_,?_,?_,?_,?_,?_,trivial⟩;iterate 12 (· intro tm hr;simp[AllL,rdV] at hr;simp[hr,← e8,← e9,← e10];intros;exact KA)
        ·intro tm hr;simp[AllL,rdV] at hr;simp[hr,← e8,← e9,← e10];intros;refine Ab Jb (J9 e11) rfl ⟨.same rfl,trivial⟩ ?_;try simp[← e8,← e9,← e10]
         intros;exact KA
        iterate 7 (· intro tm hr;simp[AllL,rdV] at hr;simp[hr,← e8,← e9,← e10];intros;exact KA)
       ·rfl
       ·simp[tmD,putD,← e8,← e9,← e10];rfl
       ·simp[← e8,← e9,← e10];intros;rfl
       obtain rfl:=oi h;exact nP_i (WM [] hz)
     |false=>
      replace h:=iF h;apply zF (V:=[_,_,_,_,_,_,_,_,_,_,_,_,_,_,_,_,_,_,_,_]) mixed DY4t1 20 (by kernel_rfl) (by kernel_rfl)
      ·refine⟨?_,?_,?_,?_,?_,?_,?_,?_,?_,?_,?_,?_,?_,?_,?_,?_,?_,?_,?_,?_,trivial⟩;iterate 20 (· intro tm hr;simp[AllL,rdV] at hr;simp[hr,← e8,← e9,← e10];intros;exact KA)
      ·rfl
      ·simp[tmD,putD,← e8,← e9,← e10];rfl
      ·simp[← e8,← e9,← e10];intros;rfl
      obtain rfl:=oi h;exact nP_i (WM [] hz)
    |false=>
     replace h:=iF h;apply zF (V:=[_,_,_,_,_,_,_,_,_,_,_,_,_,_,_,_,_,_,_,_]) mixed DY4t1 20 (by kernel_rfl) (by kernel_rfl)
     ·refine⟨?_,?_,?_,?_,?_,?_,?_,?_,?_,?_,?_,?_,?_,?_,?_,?_,?_,?_,?_,?_,trivial⟩;iterate 20 (· intro tm hr;simp[AllL,rdV] at hr;simp[hr,← e8,← e9];intros;exact KA)
     ·rfl
     ·simp[tmD,putD,← e8,← e9];rfl
     ·simp[← e8,← e9];intros;rfl
     obtain rfl:=oi h;exact nP_i (WM [] hz)
   ·rintro e s⟨rfl,hw⟩;refine⟨_,hw,?_⟩;try simp only[nm]
    obtain rfl:=oi h;apply AW.ret;exact LP hz
theorem Ny:Enters Tryz.prog 48:=enters Tryz.func48 (by kernel_rfl) rfl
def DN (n:Nat) (a0:List Int):Option Int :=
lt (lenI a0) fun v1 =>
bn (iter n (fun (y2:Int) =>
lt (ltI y2 v1) fun v5 =>
ite' v5 (bn (nth a0 y2) fun v6 =>
lt (neI v6 0) fun v7 =>
ite' v7 (some (.inr (.inr v6))) (lt (addI .i64 y2 1) fun v8 =>
some (.inl v8))) (some (.inr (.inl ())))) 0) fun (y3:Unit ⊕ Int) =>
sm y3 (fun y9=>some 0) (fun y10=>some y10)
theorem MM {n:Nat} {a0:List Int} {r:Int} (h:DN n a0=some r):Sound Tryz.prog 51 [.l (.d true 1 (encI a0))] [] (.l (iA r)) []:=by
 unfold DN at h;refine SO 18 Tryz.func51 fun cx hG (hz:cx.nb=0)=>?_;simp only[it];refine ST ?_;refine ST ?_;apply AW.seq;obtain⟨v1,e1,h⟩:=ltE h;refine AW.step (by simp[Ad e1];intros;rfl) ?_;apply AW.block;obtain⟨y3,g3,h⟩:=bnE h;refine zD g3 (mk:=fun gh ls q=>(⟨[(3,.l (iA 0)),(6,.l (.d true 1 (encI a0))),(7,.l (iA v1)),(8,.l (iA q))],[],18,gh,ls⟩:St)) (N:=fun gh ls=>(sp (xP 0 (cx:=cx) (fun _=>(⟨[(3,.l (iA 0))],[],18,gh,ls⟩:St))) (rP (cx:=cx) (P:=Tryz.prog) Tryz.f51 (fun q=>.l (iA q)) (fun q=>[])))) ?_ (noS noX noR) ?_ ?_
 ·exact WM [] hz
 ·clear h;intro y2 y4 h
  obtain⟨v5,e5,h⟩:=ltE h;refine AW.step (by simp[← e5];intros;rfl) ?_;apply AW.seq;cases v5 with
  |true=>
   replace h:=iT h;refine CT ?_;apply AW.skip;try simp only[nm]
   apply AW.seq;apply AW.block;obtain⟨v6,e6,h⟩:=bnE h;refine AW.step (by simp[Aa e6];intros;rfl) ?_;obtain⟨v7,e7,h⟩:=ltE h;refine AW.step (by simp[← e7];intros;rfl) ?_;cases v7 with
   |true=>
    replace h:=iT h;refine CT ?_;refine ST ?_;obtain rfl:=oi h;apply AW.ret;try simp only[nm]
    refine rP_i ?_;exact LP hz
   |false=>
    replace h:=iF h;refine CF ?_;apply AW.skip;try simp only[nm]
    obtain⟨v8,e8,h⟩:=ltE h;refine AW.last (by simp[← e8];intros;rfl) ?_;obtain rfl:=oi h;exact nP_i (WM [] hz)
  |false=>
   replace h:=iF h;refine CF ?_;apply AW.exit;try simp only[nm]
   obtain rfl:=oi h;try simp only[sp_l,sp_r]
   refine xP_i ?_;exact WM [] hz
 ·rintro e s hp;rcases y3 with y9|y10
  ·replace h:=smL h;obtain⟨rfl,hw⟩:=hp;refine⟨_,hw,?_⟩;try simp only[nm]
   refine ST ?_;obtain rfl:=oi h;apply AW.ret;exact LP hz
  ·replace h:=smR h;obtain⟨rfl,hl⟩:=hp;refine⟨_,Weak.refl _,?_⟩;obtain rfl:=oi h;exact hl
theorem LN:Enters Tryz.prog 51:=enters Tryz.func51 (by kernel_rfl) rfl
def BI (n:Nat) (a0:Seen) (a1:Msg):Option Int :=
bn (Bf n a0.node a1.frm) fun v1 =>
bn (Bf n a0.slot a1.slot) fun v2 =>
chk (room 2 1) <|
bn (DN n [v1,v2]) fun v4 =>
some v4
theorem HZ {n:Nat} {a0:Seen} {a1:Msg} {r:Int} (h:BI n a0 a1=some r):Sound Tryz.prog 50 [.g [iA a0.node,iA a0.slot,iA a0.num],.g (cC0 a1)] [] (.l (iA r)) []:=by
 unfold BI at h;refine SO 17 Tryz.func50 fun cx hG (hz:cx.nb=0)=>?_;simp only[it];refine ST ?_;obtain⟨v1,e1,h⟩:=bnE h;obtain⟨v2,e2,h⟩:=bnE h;obtain⟨e3,h⟩:=chkE h;obtain⟨v4,e4,h⟩:=bnE h;apply zH (V:=[_,_,_,_,_,_,_,_,_]) mixed [⟨[0],[],[(2,none)],false⟩,⟨[0],[0],[(5,some 0)],false⟩,⟨[0],[],[(3,none)],false⟩,⟨[0],[2],[(7,some 2)],false⟩,⟨[0],[0,1,2,3],[(6,some 1),(8,some 3)],false⟩,⟨[0],[],[(2,none)],false⟩,⟨[0],[5],[(10,some 5)],false⟩,⟨[0],[],[(3,none)],false⟩,⟨[0],[7],[(12,some 7)],false⟩,⟨[],[0,1,2,3,4,5,6,7,8],[],false⟩,⟨[],[0,1,2,3,4,5,6,7,8,9],[],false⟩,⟨[],[0,1,2,3,4,5,6,7,8,9,10],[],false⟩,⟨[],[0,1,2,3,4,5,6,7,8,9,10,11],[],false⟩] 9 (by kernel_rfl) (by kernel_rfl)
 ·refine⟨?_,?_,?_,?_,?_,?_,?_,?_,?_,trivial⟩;iterate 4 (· intro tm hr;simp[AllL,rdV] at hr;simp[hr];intros;exact KA)
  ·intro tm hr;simp[AllL,rdV] at hr;simp[hr];intros;refine Ab C1 (Df e1) rfl ⟨.same rfl,.same rfl,trivial⟩ ?_;try simp[]
   intros;exact KA
  iterate 4 (· intro tm hr;simp[AllL,rdV] at hr;simp[hr];intros;exact KA)
 ·rfl
 ·simp[tmD,putD];rfl
 ·simp;intros;refine Ab C1 (Df e2) rfl ⟨.same rfl,.same rfl,trivial⟩ ?_;try simp[]
  intros;refine Ax ?_;try simp[]
  intros;refine Ab LN (MM e4) rfl ⟨.rowd (by simp[Pu]) rfl (by omega) (El _) (by simp) (by first|exact (Aw e3).2|simpa using (Aw e3).2|simp),trivial⟩ ?_;try simp[]
  intros;rfl
 obtain rfl:=oi h;apply AW.ret;exact LP hz
theorem Hq:Enters Tryz.prog 50:=enters Tryz.func50 (by kernel_rfl) rfl
def A4 (n:Nat) (a0:List Seen) (a1:Msg):Option (Int×Bool) :=
lt (lenI a0) fun v1 =>
bn (iter n (fun (y2:Int×Int) =>
lt (ltI y2.1 y2.2) fun v5 =>
ite' v5 (lt (addI .i64 y2.1 y2.2) fun v6 =>
lt (cvI .u64 v6) fun v7 =>
bn (shrI .u64 v7 1) fun v8 =>
lt (cvI .i64 v8) fun v9 =>
bn (nth a0 v9) fun v10 =>
bn (BI n v10 a1) fun v11 =>
lt (ltI v11 0) fun v12 =>
ite' v12 (lt (addI .i64 v9 1) fun v13 =>
some (.inl (v13,y2.2))) (some (.inl (y2.1,v9)))) (some (.inr y2.1))) (0,v1)) fun (y3:Int) =>
bn (lt (ltI y3 v1) fun v15 =>
ite' v15 (bn (nth a0 y3) fun v16 =>
bn (BI n v16 a1) fun v17 =>
lt (eqI v17 0) fun v18 =>
some (v18)) (some (false))) fun (y14:Bool) =>
some (y3,y14)
def DY4t2:List DI:=[⟨[0],[],[(9,none)],false⟩,⟨[0],[],[(9,none)],false⟩,⟨[0],[],[(8,none)],false⟩,⟨[0],[1,2],[(36,some 1),(37,some 2)],false⟩,⟨[0],[1,2,3],[(38,some 3)],false⟩,⟨[0],[1,2,3,4],[(2,none),(39,some 4)],false⟩,⟨[0],[1,2,3,4],[(0,none),(39,some 4)],false⟩,⟨[0],[1,2,3,4],[(9,none),(39,some 4)],false⟩,⟨[0],[1,2,3,4,6,7],[(39,some 4),(41,some 6),(42,some 7)],false⟩,⟨[0],[1,2,3,4,6,7,8],[(39,some 4),(43,some 8)],false⟩,⟨[0],[1,2,3,4],[(4,none),(39,some 4)],false⟩,⟨[0],[1,2,3,4,5,6,7,8,9,10],[(39,some 4),(40,some 5),(44,some 9),(45,some 10)],false⟩,⟨[0],[1,2,3,4,5,6,7,8,9,10,11],[(39,some 4),(46,some 11)],false⟩,⟨[0],[1,2,3,4,5,6,7,8,9,10,11,12],[(39,some 4),(47,some 12)],false⟩,⟨[0],[0,1,2,3,4,5,6,7,8,9,10,11],[(35,some 0)],false⟩,⟨[],[0,1,2,3,4,5,6,7,8,9,10,11,12,13,14],[],false⟩]
theorem EM {n:Nat} {a0:List Seen} {a1:Msg} {r:Int×Bool} (h:A4 n a0 a1=some r):Sound Tryz.prog 49 [.l (.d true 3 (Ap a0)),.g (cC0 a1),.l (.s (.func (.func 50) #[] #[]))] [] (.t [(false,[iA r.1]),(false,[bA r.2])]) []:=by
 unfold A4 at h;refine SO 49 Tryz.func49 fun cx hG (hz:cx.nb=0)=>?_;simp only[it];refine ST ?_;obtain⟨v1,e1,h⟩:=ltE h;refine AW.step (by simp[Ad e1];intros;rfl) ?_;refine ST ?_;apply AW.seq;apply AW.block;obtain⟨y3,g3,h⟩:=bnE h;refine zD g3 (mk:=fun gh ls q=>(⟨[(0,.l (.d true 3 (Ap a0))),(2,.l (.s (.func (.func 50) #[] #[]))),(4,.l (.p 0 0)),(8,.l (iA v1)),(9,.l (iA q.1)),(10,.l (iA q.2))],[some ⟨49,15,false,none,(cC0 a1)⟩],49,gh,ls⟩:St)) (N:=fun gh ls=>(xP 0 (cx:=cx) (fun q=>(⟨[(0,.l (.d true 3 (Ap a0))),(2,.l (.s (.func (.func 50) #[] #[]))),(4,.l (.p 0 0)),(8,.l (iA v1)),(9,.l (iA q))],[some ⟨49,15,false,none,(cC0 a1)⟩],49,gh,ls⟩:St)))) ?_ noX ?_ ?_
 ·exact WM [0] hz
 ·clear h;intro y2 y4 h
  apply AW.seq;obtain⟨v5,e5,h⟩:=ltE h;refine AW.step (by simp[← e5];intros;rfl) ?_;cases v5 with
  |true=>
   replace h:=iT h;refine CT ?_;apply AW.skip;try simp only[nm]
   apply AW.block;obtain⟨v6,e6,v7,e7,h⟩:=oll h;obtain⟨v8,e8,v9,e9,h⟩:=obl h;refine AW.step (by simp[← e6,← e7,e8,← e9];intros;rfl) ?_;obtain⟨v10,e10,v11,e11,v12,e12,h⟩:=obbl h;apply zH (V:=[_,_,_,_,_,_]) mixed [⟨[0],[],[(2,none)],false⟩,⟨[0],[],[(0,none)],false⟩,⟨[0],[],[(11,none)],false⟩,⟨[0],[1,2],[(25,some 1),(26,some 2)],false⟩,⟨[0],[1,2,3],[(27,some 3)],false⟩,⟨[0],[],[(4,none)],false⟩,⟨[],[0,1,2,3,4,5],[],false⟩,⟨[],[0,1,2,3,4,5,6],[],false⟩] 6 (by kernel_rfl) (by kernel_rfl)
   ·refine⟨?_,?_,?_,?_,?_,?_,trivial⟩;iterate 6 (· intro tm hr;simp[AllL,rdV] at hr;simp[hr,Aa e10,← e12];intros;exact KA)
   ·rfl
   ·simp[tmD,putD,Aa e10,← e12];rfl
   ·simp[Aa e10,← e12];intros;refine Ab Hq (HZ e11) rfl ⟨.same rfl,.same rfl,trivial⟩ ?_;try simp[Aa e10,← e12]
    intros;rfl
   cases v12 with
   |true=>
    replace h:=iT h;refine CT ?_;obtain⟨v13,e13,h⟩:=ltE h;refine AW.last (by simp[← e13];intros;rfl) ?_;obtain rfl:=oi h;exact nP_i (WM [0] hz)
   |false=>
    replace h:=iF h;refine CF ?_;refine SL ?_;obtain rfl:=oi h;exact nP_i (WM [0] hz)
  |false=>
   replace h:=iF h;refine CF ?_;apply AW.exit;try simp only[nm]
   obtain rfl:=oi h;refine xP_i ?_;exact WM [0] hz
 ·rintro e s⟨rfl,hw⟩;refine⟨_,hw,?_⟩;try simp only[nm]
  obtain⟨y14,g14,h⟩:=bnE h;refine zC (p:=fun gh ls=>(nP (cx:=cx) (fun q=>(⟨[(6,.l (iA y3)),(7,.l (bA q))],[],49,gh,ls⟩:St))) y14) ?_ ?_
  ·replace h:=g14;clear g14
   obtain⟨v15,e15,h⟩:=ltE h;cases v15 with
   |true=>
    replace h:=iT h;obtain⟨v16,e16,v17,e17,v18,e18,h⟩:=obbl h;apply zF (V:=[_,_,_,_,_,_,_,_,_,_,_,_,_,_,_]) mixed DY4t2 15 (by kernel_rfl) (by kernel_rfl)
    ·refine⟨?_,?_,?_,?_,?_,?_,?_,?_,?_,?_,?_,?_,?_,?_,?_,trivial⟩;iterate 11 (· intro tm hr;simp[AllL,rdV] at hr;simp[hr,← e15,Aa e16,← e18];intros;exact KA)
     ·intro tm hr;simp[AllL,rdV] at hr;simp[hr,← e15,Aa e16,← e18];intros;refine Ab Hq (HZ e17) rfl ⟨.same rfl,.same rfl,trivial⟩ ?_;try simp[← e15,Aa e16,← e18]
      intros;exact KA
     iterate 3 (· intro tm hr;simp[AllL,rdV] at hr;simp[hr,← e15,Aa e16,← e18];intros;exact KA)
    ·rfl
    ·simp[tmD,putD,← e15,Aa e16,← e18];rfl
    ·simp[← e15,Aa e16,← e18];intros;rfl
    obtain rfl:=oi h;exact nP_i (WM [] hz)
   |false=>
    replace h:=iF h;apply zF (V:=[_,_,_,_,_,_,_,_,_,_,_,_,_,_,_]) mixed DY4t2 15 (by kernel_rfl) (by kernel_rfl)
    ·refine⟨?_,?_,?_,?_,?_,?_,?_,?_,?_,?_,?_,?_,?_,?_,?_,trivial⟩;iterate 15 (· intro tm hr;simp[AllL,rdV] at hr;simp[hr,← e15];intros;exact KA)
    ·rfl
    ·simp[tmD,putD,← e15];rfl
    ·simp[← e15];intros;rfl
    obtain rfl:=oi h;exact nP_i (WM [] hz)
  ·rintro e s⟨rfl,hw⟩;refine⟨_,hw,?_⟩;try simp only[nm]
   obtain rfl:=oi h;apply AW.ret;exact LP hz
theorem Ex:Enters Tryz.prog 49:=enters Tryz.func49 (by kernel_rfl) rfl
def BJ (n:Nat) (a0:Node) (a1:List Effect):Option Node :=
bn (Cz n a0.db a1) fun v1 =>
bn (DT n a0.feed a1) fun v2 =>
some (⟨a0.count,a0.id,a0.master,a0.epoch,a0.voted,a0.claims,v1,a0.moves,a0.last,a0.seen,v2,a0.watch,a0.asked,a0.votes,a0.wait⟩:Node)
theorem IV {n:Nat} {a0:Node} {a1:List Effect} {r:Node} (h:BJ n a0 a1=some r):Sound Tryz.prog 41 [.g (cM0 a0 (.r 0 3 0 a0.seen.length)),.l (dD a1)] [⟨100,3,true,none,lvs (Ap a0.seen)⟩] (.g (cM0 r (.r 0 3 0 r.seen.length))) [some ⟨100,3,true,none,lvs (Ap r.seen)⟩]:=by
 unfold BJ at h;refine SO 16 Tryz.func41 fun cx hG (hz:cx.nb=1)=>?_;simp only[it];refine ST ?_;obtain⟨v1,e1,h⟩:=bnE h;obtain⟨v2,e2,h⟩:=bnE h;apply zH (V:=[_,_,_,_,_,_,_,_,_]) mixed [⟨[0],[],[(2,none)],false⟩,⟨[0],[0],[(5,some 0)],false⟩,⟨[0],[],[(1,none)],false⟩,⟨[0],[0,1,2],[(6,some 1),(7,some 2)],false⟩,⟨[0],[],[(2,none)],false⟩,⟨[0],[4],[(9,some 4)],false⟩,⟨[0],[],[(1,none)],false⟩,⟨[0],[0,1,2,3,4,5,6],[(10,some 5),(11,some 6)],false⟩,⟨[0],[0,1,2,3,4,5],[(2,none)],false⟩,⟨[],[0,1,2,3,4,5,6,7,8],[],false⟩,⟨[],[0,1,2,3,4,5,6,7,8,9],[],false⟩,⟨[],[0,1,2,3,4,5,6,7,8,9,10],[],false⟩] 9 (by kernel_rfl) (by kernel_rfl)
 ·refine⟨?_,?_,?_,?_,?_,?_,?_,?_,?_,trivial⟩;iterate 3 (· intro tm hr;simp[AllL,rdV] at hr;simp[hr];intros;exact KA)
  ·intro tm hr;simp[AllL,rdV] at hr;simp[hr];intros;refine Ab Hm (HV e1) rfl ⟨.same rfl,.same rfl,trivial⟩ ?_;try simp[]
   intros;exact KA
  iterate 3 (· intro tm hr;simp[AllL,rdV] at hr;simp[hr];intros;exact KA)
  ·intro tm hr;simp[AllL,rdV] at hr;simp[hr];intros;refine Ab I7 (J0 e2) rfl ⟨.same rfl,.same rfl,trivial⟩ ?_;try simp[]
   intros;exact KA
  ·intro tm hr;simp[AllL,rdV] at hr;simp[hr];intros;exact KA
 ·rfl
 ·simp[tmD,putD];rfl
 ·simp;intros;rfl
 refine ST ?_;obtain rfl:=oi h;apply AW.ret;refine Left.of (av:=_) (by simp[Tryz.f41,resV,resC,comp];rfl) ?_;exact zJ 1 [some 0] hz rfl (by decide) rfl (by simp[pickOb,Ae,Af]) (by simp[Ae,Af])
theorem Iv:Enters Tryz.prog 41:=enters Tryz.func41 (by kernel_rfl) rfl
def Do (n:Nat) (a0:Node) (a1:Msg):Option (Node×List Msg) :=
bn (Bm n a0) fun v1 =>
bn (lt (neI v1.master (-1)) fun v3 =>
ite' v3 (some (true)) (bn (EL n a1) fun v4 =>
lt (notB v4) fun v5 =>
some (v5))) fun (y2:Bool) =>
lt (y2) fun v6 =>
ite' v6 (chk (room v1.moves.length 1) <|
chk (room v1.seen.length 1) <|
some (v1,[])) (chk (room v1.seen.length 1) <|
bn (A4 n v1.seen a1) fun v10 =>
bn (bn (lt (notB v10.2) fun v13 =>
ite' v13 (some (true)) (bn (nth v1.seen v10.1) fun v14 =>
lt (ltI v14.num a1.num) fun v16 =>
some (v16))) fun (y12:Bool) =>
lt (y12) fun v17 =>
ite' v17 (chk (room v1.moves.length 1) <|
bn (BJ n v1 a1.effects) fun v19 =>
bn (lt (notB v10.2) fun v21 =>
ite' v21 (chk (insB v19.seen v10.1) <|
lt (insL v19.seen v10.1.toNat (⟨a1.frm,a1.slot,0⟩:Seen)) fun v23 =>
some (v23)) (some (v19.seen))) fun (y20:List Seen) =>
bn (nth y20 v10.1) fun v24 =>
lt (y20.set v10.1.toNat (⟨v24.node,v24.slot,a1.num⟩:Seen)) fun v26 =>
some ((v19.count,v19.id,v19.master,v19.epoch,v19.voted,v19.claims,v19.db,v19.moves,v19.last,v19.feed.rid.node,v19.feed.rid.epoch,v19.feed.off,v19.feed.back,v19.feed.prev.node,v19.feed.prev.epoch,v19.feed.upto,v19.watch.heard,v19.watch.says,v19.asked,v19.votes,v19.wait,v26))) (chk (room v1.moves.length 1) <|
some ((v1.count,v1.id,v1.master,v1.epoch,v1.voted,v1.claims,v1.db,v1.moves,v1.last,v1.feed.rid.node,v1.feed.rid.epoch,v1.feed.off,v1.feed.back,v1.feed.prev.node,v1.feed.prev.epoch,v1.feed.upto,v1.watch.heard,v1.watch.says,v1.asked,v1.votes,v1.wait,v1.seen)))) fun (y11:Int×Int×Int×Int×Int×List Claim×List Pair×List Move×Int×Int×Int×Int×List Effect×Int×Int×Int×List Int×List (List Int)×Int×List Int×Int×List Seen) =>
chk (room y11.2.2.2.2.2.2.2.2.2.2.2.2.2.2.2.2.2.2.2.2.2.length 1) <|
some ((⟨y11.1,y11.2.1,y11.2.2.1,y11.2.2.2.1,y11.2.2.2.2.1,y11.2.2.2.2.2.1,y11.2.2.2.2.2.2.1,y11.2.2.2.2.2.2.2.1,y11.2.2.2.2.2.2.2.2.1,y11.2.2.2.2.2.2.2.2.2.2.2.2.2.2.2.2.2.2.2.2.2,(⟨(⟨y11.2.2.2.2.2.2.2.2.2.1,y11.2.2.2.2.2.2.2.2.2.2.1⟩:Rid),y11.2.2.2.2.2.2.2.2.2.2.2.1,y11.2.2.2.2.2.2.2.2.2.2.2.2.1,(⟨y11.2.2.2.2.2.2.2.2.2.2.2.2.2.1,y11.2.2.2.2.2.2.2.2.2.2.2.2.2.2.1⟩:Rid),y11.2.2.2.2.2.2.2.2.2.2.2.2.2.2.2.1⟩:Feed),(⟨y11.2.2.2.2.2.2.2.2.2.2.2.2.2.2.2.2.1,y11.2.2.2.2.2.2.2.2.2.2.2.2.2.2.2.2.2.1⟩:Watch),y11.2.2.2.2.2.2.2.2.2.2.2.2.2.2.2.2.2.2.1,y11.2.2.2.2.2.2.2.2.2.2.2.2.2.2.2.2.2.2.2.1,y11.2.2.2.2.2.2.2.2.2.2.2.2.2.2.2.2.2.2.2.2.1⟩:Node),[(⟨3,y11.2.1,a1.frm,0,[],[],0,a1.slot,a1.num,(⟨0,0⟩:Rid),(⟨0,0⟩:Rid),0,[]⟩:Msg)]))
def DY4t3:List DI:=[⟨[0],[],[(7,none)],false⟩,⟨[0],[0],[(26,some 0)],false⟩,⟨[0],[0,1],[(27,some 1)],false⟩,⟨[0],[0,1,2],[(2,none),(28,some 2)],false⟩,⟨[0],[0,1,2,3],[(28,some 2),(29,some 3)],false⟩,⟨[0],[0,1,2],[(6,none),(28,some 2)],false⟩,⟨[0],[0,1,2,3,4,5],[(28,some 2),(30,some 4),(31,some 5)],false⟩,⟨[0],[0,1,2,3,4,5,6],[(28,some 2),(32,some 6)],false⟩,⟨[0],[0,1,2,3,4,5,6,7],[(28,some 2),(33,some 7)],false⟩,⟨[0],[0,1,2],[(3,none),(28,some 2)],false⟩,⟨[0],[0,1,2,9],[(28,some 2),(35,some 9)],false⟩,⟨[],[0,1,2,3,4,5,6,7,8,9,10],[],false⟩,⟨[],[0,1,2,3,4,5,6,7,8,9,10,11],[],false⟩]
theorem Nz {n:Nat} {a0:Node} {a1:Msg} {r:Node×List Msg} (h:Do n a0 a1=some r):Sound Tryz.prog 16 [.g (cA0 a0),.g (cC0 a1)] [] (.t [(true,(cA0 r.1)),(false,[.d false 15 (AA r.2)])]) []:=by
 unfold Do at h;refine SO 74 Tryz.func16 fun cx hG (hz:cx.nb=0)=>?_;simp only[it];refine ST ?_;obtain⟨v1,e1,h⟩:=bnE h;apply AW.step
 ·simp[outR];intros;refine AS De (DE e1) rfl (by simp) ⟨.same rfl,trivial⟩ ?_;try simp[outR]
  intros;rfl
 apply AW.seq;obtain⟨y2,g2,h⟩:=bnE h;refine zC (p:=fun gh ls=>(nP (cx:=cx) (fun q=>(⟨[(2,.l (.p 0 0)),(3,.l (.p 1 0)),(4,.l (.p 2 0)),(17,.l (bA q))],[some ⟨38,22,false,none,(cI0 v1 (.r 3 4 0 v1.moves.length) (.r 4 3 0 v1.seen.length))⟩,some ⟨49,15,false,none,(cC0 a1)⟩,some ⟨38,22,false,none,cB0⟩,some ⟨92,4,true,none,lvs (Am v1.moves)⟩,some ⟨100,3,true,none,lvs (Ap v1.seen)⟩],74,gh,ls⟩:St))) y2) ?_ ?_
 ·replace h:=g2;clear g2
  obtain⟨v3,e3,h⟩:=ltE h;cases v3 with
  |true=>
   replace h:=iT h;refine AW.last (by simp[← e3];intros;rfl) ?_;obtain rfl:=oi h;exact nP_i (WM [0,1,2,3,4] hz)
  |false=>
   replace h:=iF h;obtain⟨v4,e4,v5,e5,h⟩:=obl h;apply AW.last
   ·simp[← e3,← e5];intros;refine Ab Ny (OW e4) rfl ⟨.same rfl,trivial⟩ ?_;try simp[← e3,← e5]
    intros;rfl
   obtain rfl:=oi h;exact nP_i (WM [0,1,2,3,4] hz)
 ·rintro e s⟨rfl,hw⟩;refine⟨_,hw,?_⟩;try simp only[nm]
  obtain⟨v6,e6,h⟩:=ltE h;rw[← e6];cases v6 with
  |true=>
   replace h:=iT h;refine CT ?_;refine ST ?_;obtain⟨e7,h⟩:=chkE h;refine FZ 3 92 4 (AB v1.moves) e7 ?_;obtain⟨e8,h⟩:=chkE h;refine FZ 4 100 3 (AI v1.seen) e8 ?_;refine AW.nilD 5 15 (by simp) ?_;obtain rfl:=oi h;apply AW.ret;exact LP hz
  |false=>
   replace h:=iF h;refine CF ?_;apply AW.skip;try simp only[nm]
   obtain⟨e9,h⟩:=chkE h;obtain⟨v10,e10,h⟩:=bnE h;apply AW.step
   ·simp;intros;refine Ab Ex (EM e10) rfl ⟨.rowd (by simp) rfl (by omega) (AI _) (by simp) (by first|exact (Aw e9).2|simpa using (Aw e9).2|simp),.same rfl,.same rfl,trivial⟩ ?_;try simp
    intros;rfl
   obtain⟨y11,g11,h⟩:=bnE h;refine zC (p:=fun gh ls=>(nP (cx:=cx) (fun q=>(⟨[(2,.l (.p 0 0)),(3,.l (.p 1 0)),(4,.l (.p 2 0))],[some ⟨38,22,false,none,[iA q.1,iA q.2.1,iA q.2.2.1,iA q.2.2.2.1,iA q.2.2.2.2.1,dB q.2.2.2.2.2.1,dA q.2.2.2.2.2.2.1,dI q.2.2.2.2.2.2.2.1,iA q.2.2.2.2.2.2.2.2.1,.r 3 3 0 q.2.2.2.2.2.2.2.2.2.2.2.2.2.2.2.2.2.2.2.2.2.length,iA q.2.2.2.2.2.2.2.2.2.1,iA q.2.2.2.2.2.2.2.2.2.2.1,iA q.2.2.2.2.2.2.2.2.2.2.2.1,dD q.2.2.2.2.2.2.2.2.2.2.2.2.1,iA q.2.2.2.2.2.2.2.2.2.2.2.2.2.1,iA q.2.2.2.2.2.2.2.2.2.2.2.2.2.2.1,iA q.2.2.2.2.2.2.2.2.2.2.2.2.2.2.2.1,dC q.2.2.2.2.2.2.2.2.2.2.2.2.2.2.2.2.1,.d false 1 (AM q.2.2.2.2.2.2.2.2.2.2.2.2.2.2.2.2.2.1),iA q.2.2.2.2.2.2.2.2.2.2.2.2.2.2.2.2.2.2.1,dC q.2.2.2.2.2.2.2.2.2.2.2.2.2.2.2.2.2.2.2.1,iA q.2.2.2.2.2.2.2.2.2.2.2.2.2.2.2.2.2.2.2.2.1]⟩,some ⟨49,15,false,none,(cC0 a1)⟩,some ⟨38,22,false,none,cB0⟩,some ⟨100,3,true,none,lvs (Ap q.2.2.2.2.2.2.2.2.2.2.2.2.2.2.2.2.2.2.2.2.2)⟩],74,gh,ls⟩:St))) y11) ?_ ?_
   ·replace h:=g11;clear g11
    obtain⟨y12,g12,h⟩:=bnE h;refine zC (p:=fun gh ls=>(nP (cx:=cx) (fun q=>(⟨[(2,.l (.p 0 0)),(3,.l (.p 1 0)),(4,.l (.p 2 0)),(6,.l (iA v10.1)),(7,.l (bA v10.2)),(38,.l (bA q))],[some ⟨38,22,false,none,(cI0 v1 (.r 3 4 0 v1.moves.length) (.r 4 3 0 v1.seen.length))⟩,some ⟨49,15,false,none,(cC0 a1)⟩,some ⟨38,22,false,none,cB0⟩,some ⟨92,4,true,none,lvs (Am v1.moves)⟩,some ⟨100,3,true,none,lvs (Ap v1.seen)⟩],74,gh,ls⟩:St))) y12) ?_ ?_
    ·replace h:=g12;clear g12
     obtain⟨v13,e13,h⟩:=ltE h;cases v13 with
     |true=>
      replace h:=iT h;apply zF (V:=[_,_,_,_,_,_,_,_,_,_,_]) mixed DY4t3 11 (by kernel_rfl) (by kernel_rfl)
      ·refine⟨?_,?_,?_,?_,?_,?_,?_,?_,?_,?_,?_,trivial⟩;iterate 11 (· intro tm hr;simp[AllL,rdV] at hr;simp[hr,← e13];intros;exact KA)
      ·rfl
      ·simp[tmD,putD,← e13];rfl
      ·simp[← e13];intros;rfl
      obtain rfl:=oi h;exact nP_i (WM [0,1,2,3,4] hz)
     |false=>
      replace h:=iF h;obtain⟨v14,e14,h⟩:=bnE h;have f15:=A0 e14;try simp[← e13,Aa e14] at f15
      obtain⟨v16,e16,h⟩:=ltE h;apply zF (V:=[_,_,_,_,_,_,_,_,_,_,_]) mixed DY4t3 11 (by kernel_rfl) (by kernel_rfl)
      ·refine⟨?_,?_,?_,?_,?_,?_,?_,?_,?_,?_,?_,trivial⟩;iterate 11 (· intro tm hr;simp[AllL,rdV] at hr;simp[hr,← e13,Aa e14,f15,Gz (Aa e14).2 (j:=2) (by decide),lvs1,← e16];intros;exact KA)
      ·rfl
      ·simp[tmD,putD,← e13,Aa e14,f15,Gz (Aa e14).2 (j:=2) (by decide),lvs1,← e16];rfl
      ·simp[← e13,Aa e14,f15,Gz (Aa e14).2 (j:=2) (by decide),lvs1,← e16];intros;rfl
      obtain rfl:=oi h;exact nP_i (WM [0,1,2,3,4] hz)
    ·rintro e s⟨rfl,hw⟩;refine⟨_,hw,?_⟩;try simp only[nm]
     obtain⟨v17,e17,h⟩:=ltE h;rw[← e17];cases v17 with
     |true=>
      replace h:=iT h;refine CT ?_;obtain⟨e18,h⟩:=chkE h;refine FZ 3 92 4 (AB v1.moves) e18 ?_;obtain⟨v19,e19,h⟩:=bnE h;apply AW.step
      ·simp[obAfter,outR,keptR,Ae,Af];intros;refine Cf [4] Iv (IV e19) (by decide) (by simp[pickOb,Ae,Af]) rfl rfl (by simp) ⟨.g ⟨.s _,.s _,.s _,.s _,.s _,.e _ _,.e _ _,.e _ _,.s _,(.own' (by simp[Ae,Af]) (by simp)),.s _,.s _,.s _,.e _ _,.s _,.s _,.s _,.e _ _,.e _ _,.s _,.e _ _,.s _,trivial⟩,.l (.e _ _),trivial⟩ ?_;try simp[obAfter,outR,keptR,Ae,Af]
       intros;rfl
      obtain⟨y20,g20,h⟩:=bnE h;refine zC (p:=fun gh ls=>(nP (cx:=cx) (fun q=>(⟨[(2,.l (.p 0 0)),(3,.l (.p 1 0)),(4,.l (.p 2 0)),(6,.l (iA v10.1))],[some ⟨38,22,false,none,(cM0 v19 (.r 3 3 0 q.length))⟩,some ⟨49,15,false,none,(cC0 a1)⟩,some ⟨38,22,false,none,cB0⟩,some ⟨100,3,true,none,lvs (Ap q)⟩],74,gh,ls⟩:St))) y20) ?_ ?_
      ·replace h:=g20;clear g20
       obtain⟨v21,e21,h⟩:=ltE h;refine AW.step (by simp[← e21];intros;rfl) ?_;cases v21 with
       |true=>
        replace h:=iT h;refine CT ?_;obtain⟨e22,v23,e23,h⟩:=ocl h;apply AW.last
        ·simp[obAfter,outR,keptR,Ae,Af,← e23,BF e22 e23];intros;refine Ax ?_;try simp[obAfter,outR,keptR,Ae,Af,← e23,BF e22 e23]
         intros;refine EA [4,5] [6,7] ⟨_,rfl,rfl,_,rfl,rfl,rfl,rfl⟩ OK (R8 v19.seen v10.1 (⟨a1.frm,a1.slot,0⟩:Seen) e22) (by decide) rfl rfl (by simp[pickOb,Gy]) rfl rfl rfl (by simp) (by simp) ⟨.l (.own (by simp[Ae,Af])),.l (.s _),.l (.own (by simp[Ae,Af])),trivial⟩ ?_;try simp[obAfter,outR,keptR,Ae,Af,← e23,BF e22 e23]
         intros;rfl
        obtain rfl:=oi h;exact nP_i (WM [0,1,2,6] hz)
       |false=>
        replace h:=iF h;refine CF ?_;apply AW.skip;try simp only[nm]
        obtain rfl:=oi h;exact nP_i (WM [0,1,2,4] hz)
      ·rintro e s⟨rfl,hw⟩;refine⟨_,hw,?_⟩;try simp only[nm]
       obtain⟨v24,e24,h⟩:=bnE h;have f25:=A0 e24;try simp[Aa e24] at f25
       obtain⟨v26,e26,h⟩:=ltE h;have f27:=Nf (Aa e24).2 e26 (j:=2) (cs:=[iA a1.num]) (by simp) rfl;try simp at f27
       have f28:=f25;try simp only[AC e26] at f28
       refine AW.last (by simp[Aa e24,f25,Mp (Aa e24).2 (j:=2) (m:=1) (by decide),f27,f28];intros;rfl) ?_;obtain rfl:=oi h;refine nP_i ?_;refine zG [some 0,some 1,some 2,some 3] hz (by decide) ?_ ?_ rfl;all_goals first|(simp[Ae,Af,pickOb,AC e26];done)|rfl
     |false=>
      replace h:=iF h;refine CF ?_;apply AW.skip;try simp only[nm]
      obtain⟨e29,h⟩:=chkE h;obtain rfl:=oi h;refine nP_i ?_;refine W.frzRow 3 (ty:=92) (cap:=none) (sz:=4) (es:=Am v1.moves) (by simp) (by omega) (AB _) (by first|exact (Aw e29).2|simpa using (Aw e29).2|simp) (by simp[Tm.frz,AV.frz,LV.frz];rfl) (by simp[Ob.frz,LV.frz];rfl) rfl ?_;exact WM [0,1,2,4] hz
   ·rintro e s⟨rfl,hw⟩;refine⟨_,hw,?_⟩;try simp only[nm]
    apply zM (V:=[_,_,_,_,_,_,_,_,_,_,_,_]) (M:=[[some ⟨38,22,false,none,[iA y11.1,iA y11.2.1,iA y11.2.2.1,iA y11.2.2.2.1,iA y11.2.2.2.2.1,dB y11.2.2.2.2.2.1,dA y11.2.2.2.2.2.2.1,dI y11.2.2.2.2.2.2.2.1,iA y11.2.2.2.2.2.2.2.2.1,.r 3 3 0 y11.2.2.2.2.2.2.2.2.2.2.2.2.2.2.2.2.2.2.2.2.2.length,iA y11.2.2.2.2.2.2.2.2.2.1,iA y11.2.2.2.2.2.2.2.2.2.2.1,iA y11.2.2.2.2.2.2.2.2.2.2.2.1,dD y11.2.2.2.2.2.2.2.2.2.2.2.2.1,iA y11.2.2.2.2.2.2.2.2.2.2.2.2.2.1,iA y11.2.2.2.2.2.2.2.2.2.2.2.2.2.2.1,iA y11.2.2.2.2.2.2.2.2.2.2.2.2.2.2.2.1,dC y11.2.2.2.2.2.2.2.2.2.2.2.2.2.2.2.2.1,.d false 1 (AM y11.2.2.2.2.2.2.2.2.2.2.2.2.2.2.2.2.2.1),iA y11.2.2.2.2.2.2.2.2.2.2.2.2.2.2.2.2.2.2.1,dC y11.2.2.2.2.2.2.2.2.2.2.2.2.2.2.2.2.2.2.2.1,iA y11.2.2.2.2.2.2.2.2.2.2.2.2.2.2.2.2.2.2.2.2.1]⟩,some ⟨49,15,false,none,(cC0 a1)⟩,some ⟨38,22,false,none,cB0⟩,some ⟨100,3,true,none,lvs (Ap y11.2.2.2.2.2.2.2.2.2.2.2.2.2.2.2.2.2.2.2.2.2)⟩],[some ⟨38,22,false,none,[iA y11.1,iA y11.2.1,iA y11.2.2.1,iA y11.2.2.2.1,iA y11.2.2.2.2.1,dB y11.2.2.2.2.2.1,dA y11.2.2.2.2.2.2.1,dI y11.2.2.2.2.2.2.2.1,iA y11.2.2.2.2.2.2.2.2.1,.r 3 3 0 y11.2.2.2.2.2.2.2.2.2.2.2.2.2.2.2.2.2.2.2.2.2.length,iA y11.2.2.2.2.2.2.2.2.2.1,iA y11.2.2.2.2.2.2.2.2.2.2.1,iA y11.2.2.2.2.2.2.2.2.2.2.2.1,dD y11.2.2.2.2.2.2.2.2.2.2.2.2.1,iA y11.2.2.2.2.2.2.2.2.2.2.2.2.2.1,iA y11.2.2.2.2.2.2.2.2.2.2.2.2.2.2.1,iA y11.2.2.2.2.2.2.2.2.2.2.2.2.2.2.2.1,dC y11.2.2.2.2.2.2.2.2.2.2.2.2.2.2.2.2.1,.d false 1 (AM y11.2.2.2.2.2.2.2.2.2.2.2.2.2.2.2.2.2.1),iA y11.2.2.2.2.2.2.2.2.2.2.2.2.2.2.2.2.2.2.1,dC y11.2.2.2.2.2.2.2.2.2.2.2.2.2.2.2.2.2.2.2.1,iA y11.2.2.2.2.2.2.2.2.2.2.2.2.2.2.2.2.2.2.2.2.1]⟩,some ⟨49,15,false,none,(cC0 a1)⟩,some ⟨38,22,false,none,[iA y11.1,iA y11.2.1,iA y11.2.2.1,iA y11.2.2.2.1,iA y11.2.2.2.2.1,dB y11.2.2.2.2.2.1,dA y11.2.2.2.2.2.2.1,dI y11.2.2.2.2.2.2.2.1,iA y11.2.2.2.2.2.2.2.2.1,.r 3 3 0 y11.2.2.2.2.2.2.2.2.2.2.2.2.2.2.2.2.2.2.2.2.2.length,iA y11.2.2.2.2.2.2.2.2.2.1,iA y11.2.2.2.2.2.2.2.2.2.2.1,iA y11.2.2.2.2.2.2.2.2.2.2.2.1,dD y11.2.2.2.2.2.2.2.2.2.2.2.2.1,iA y11.2.2.2.2.2.2.2.2.2.2.2.2.2.1,iA y11.2.2.2.2.2.2.2.2.2.2.2.2.2.2.1,iA y11.2.2.2.2.2.2.2.2.2.2.2.2.2.2.2.1,dC y11.2.2.2.2.2.2.2.2.2.2.2.2.2.2.2.2.1,.d false 1 (AM y11.2.2.2.2.2.2.2.2.2.2.2.2.2.2.2.2.2.1),iA y11.2.2.2.2.2.2.2.2.2.2.2.2.2.2.2.2.2.2.1,dC y11.2.2.2.2.2.2.2.2.2.2.2.2.2.2.2.2.2.2.2.1,iA y11.2.2.2.2.2.2.2.2.2.2.2.2.2.2.2.2.2.2.2.2.1]⟩,some ⟨100,3,true,none,lvs (Ap y11.2.2.2.2.2.2.2.2.2.2.2.2.2.2.2.2.2.2.2.2.2)⟩]]) mixed [⟨[0],[],[(2,none)],false⟩,⟨[0,1],[],[(2,none)],false⟩,⟨[0,1],[1],[(64,some 1)],false⟩,⟨[0,1],[],[(3,none)],false⟩,⟨[0,1],[3],[(66,some 3)],false⟩,⟨[0,1],[],[(3,none)],false⟩,⟨[0,1],[5],[(68,some 5)],false⟩,⟨[0,1],[],[(3,none)],false⟩,⟨[0,1],[7],[(70,some 7)],false⟩,⟨[0,1],[1,2,3,4,5,6,7,8],[(65,some 2),(67,some 4),(69,some 6),(71,some 8)],false⟩,⟨[0,1],[1,2,3,4,5,6,7,8,9],[(72,some 9)],false⟩,⟨[0],[0],[(4,none),(63,some 0)],true⟩,⟨[],[0,1,2,3,4,5,6,7,8,9,10,11],[],false⟩] 12 1 (by kernel_rfl) (by kernel_rfl)
    ·rfl
    ·refine⟨?_,⟨?_,?_⟩,⟨?_,?_⟩,⟨?_,?_⟩,⟨?_,?_⟩,⟨?_,?_⟩,⟨?_,?_⟩,⟨?_,?_⟩,⟨?_,?_⟩,⟨?_,?_⟩,⟨?_,?_⟩,?_,trivial⟩;iterate 19 (· intro tm hr;simp[AllL,rdV] at hr;simp[hr];intros;exact KA)
     ·intro tm hr;simp[AllL,rdV] at hr;simp[hr];intros;refine E8 (es:=AA [(⟨3,y11.2.1,a1.frm,0,[],[],0,a1.slot,a1.num,(⟨0,0⟩:Rid),(⟨0,0⟩:Rid),0,[]⟩:Msg)]) (by simp[AA,lvs,All2]) (Cu _) (by omega) (by simp) ?_;try simp[]
      intros;exact KA
     ·intro tm hr;simp[AllL,rdV] at hr;simp[hr];intros;refine E8 (es:=AA [(⟨3,y11.2.1,a1.frm,0,[],[],0,a1.slot,a1.num,(⟨0,0⟩:Rid),(⟨0,0⟩:Rid),0,[]⟩:Msg)]) (by simp[AA,lvs,All2]) (Cu _) (by omega) (by simp) ?_;try simp[]
      intros;exact KA
     ·intro tm hr;simp[AllL,rdV] at hr;simp[hr];intros;exact KA
    ·rfl
    ·simp[tmD,putD];rfl
    ·simp;intros;rfl
    obtain⟨e30,h⟩:=chkE h;refine FZ 3 100 3 (AI y11.2.2.2.2.2.2.2.2.2.2.2.2.2.2.2.2.2.2.2.2.2) e30 ?_;obtain rfl:=oi h;apply AW.ret;exact LP hz
theorem MN:Enters Tryz.prog 16:=enters Tryz.func16 (by kernel_rfl) rfl
end Go.Proofs.YtlbdhlbbkibgpaaGreat
namespace Go.Proofs.YtlbdhlbbkibgpaaGreat
open Go Go.RowKit
def CL (n:Nat) (a0:List Field) (a1:List Field):Option Bool :=
lt (lenI a0) fun v1 =>
lt (lenI a1) fun v2 =>
lt (neI v1 v2) fun v3 =>
ite' v3 (some false) (bn (iter n (fun (y4:Int) =>
lt (lenI a0) fun v7 =>
lt (ltI y4 v7) fun v8 =>
ite' v8 (bn (nth a0 y4) fun v9 =>
bn (nth a1 y4) fun v10 =>
lt (notB (andB (eqS v9.name v10.name) (andB (eqS v9.val v10.val) true))) fun v11 =>
ite' v11 (some (.inr (.inr false))) (lt (addI .i64 y4 1) fun v12 =>
some (.inl v12))) (some (.inr (.inl ())))) 0) fun (y5:Unit ⊕ Bool) =>
sm y5 (fun y13=>some true) (fun y14=>some y14))
def DY5t1:List DI:=[⟨[0],[],[(0,none)],false⟩,⟨[0],[],[(5,none)],false⟩,⟨[0],[0,1],[(17,some 0),(18,some 1)],false⟩,⟨[0],[0,1,2],[(19,some 2)],false⟩,⟨[0],[],[(1,none)],false⟩,⟨[0],[],[(5,none)],false⟩,⟨[0],[4,5],[(21,some 4),(22,some 5)],false⟩,⟨[0],[4,5,6],[(23,some 6)],false⟩,⟨[],[0,1,2,3,4,5,6,7],[],false⟩]
theorem GV {n:Nat} {a0:List Field} {a1:List Field} {r:Bool} (h:CL n a0 a1=some r):Sound Tryz.prog 54 [.l (dE a0),.l (dE a1)] [] (.l (bA r)) []:=by
 unfold CL at h;refine SO 26 Tryz.func54 fun cx hG (hz:cx.nb=0)=>?_;simp only[it];refine ST ?_;apply AW.seq;obtain⟨v1,e1,v2,e2,v3,e3,h⟩:=olll h;refine AW.step (by simp[Ad e1,Ad e2,← e3];intros;rfl) ?_;cases v3 with
 |true=>
  replace h:=iT h;refine CT ?_;refine ST ?_;obtain rfl:=oi h;apply AW.ret;exact LP hz
 |false=>
  replace h:=iF h;refine CF ?_;apply AW.skip;try simp only[nm]
  apply AW.seq;refine ST ?_;apply AW.block;obtain⟨y5,g5,h⟩:=bnE h;refine zD g5 (mk:=fun gh ls q=>(⟨[(0,.l (dE a0)),(1,.l (dE a1)),(5,.l (iA q))],[],26,gh,ls⟩:St)) (N:=fun gh ls=>(sp (xP 0 (cx:=cx) (fun _=>(⟨[],[],26,gh,ls⟩:St))) (rP (cx:=cx) (P:=Tryz.prog) Tryz.f54 (fun q=>.l (bA q)) (fun q=>[])))) ?_ (noS noX noR) ?_ ?_
  ·exact WM [] hz
  ·clear h;intro y4 y6 h
   apply AW.seq;obtain⟨v7,e7,v8,e8,h⟩:=oll h;refine AW.step (by simp[Ad e7,← e8];intros;rfl) ?_;cases v8 with
   |true=>
    replace h:=iT h;refine CT ?_;apply AW.skip;try simp only[nm]
    apply AW.seq;apply AW.block;obtain⟨v9,e9,v10,e10,v11,e11,h⟩:=obbl h;apply zH (V:=[_,_,_,_,_,_,_,_]) mixed DY5t1 8 (by kernel_rfl) (by kernel_rfl)
    ·refine⟨?_,?_,?_,?_,?_,?_,?_,?_,trivial⟩;iterate 8 (· intro tm hr;simp[AllL,rdV] at hr;simp[hr,Aa e9,Aa e10,← e11];intros;exact KA)
    ·rfl
    ·simp[tmD,putD,Aa e9,Aa e10,← e11];rfl
    ·simp[Aa e9,Aa e10,← e11];intros;rfl
    cases v11 with
    |true=>
     replace h:=iT h;refine CT ?_;refine ST ?_;obtain rfl:=oi h;apply AW.ret;try simp only[nm]
     refine rP_i ?_;exact LP hz
    |false=>
     replace h:=iF h;refine CF ?_;apply AW.skip;try simp only[nm]
     obtain⟨v12,e12,h⟩:=ltE h;refine AW.last (by simp[← e12];intros;rfl) ?_;obtain rfl:=oi h;exact nP_i (WM [] hz)
   |false=>
    replace h:=iF h;refine CF ?_;apply AW.exit;try simp only[nm]
    obtain rfl:=oi h;try simp only[sp_l,sp_r]
    refine xP_i ?_;exact WM [] hz
  ·rintro e s hp;rcases y5 with y13|y14
   ·replace h:=smL h;obtain⟨rfl,hw⟩:=hp;refine⟨_,hw,?_⟩;try simp only[nm]
    refine ST ?_;obtain rfl:=oi h;apply AW.ret;exact LP hz
   ·replace h:=smR h;obtain⟨rfl,hl⟩:=hp;refine⟨_,Weak.refl _,?_⟩;obtain rfl:=oi h;exact hl
theorem GF:Enters Tryz.prog 54:=enters Tryz.func54 (by kernel_rfl) rfl
def EN (n:Nat) (a0:List ByteArray) (a1:List ByteArray):Option Bool :=
lt (lenI a0) fun v1 =>
lt (lenI a1) fun v2 =>
lt (neI v1 v2) fun v3 =>
ite' v3 (some false) (bn (iter n (fun (y4:Int) =>
lt (lenI a0) fun v7 =>
lt (ltI y4 v7) fun v8 =>
ite' v8 (bn (nth a0 y4) fun v9 =>
bn (nth a1 y4) fun v10 =>
lt (neS v9 v10) fun v11 =>
ite' v11 (some (.inr (.inr false))) (lt (addI .i64 y4 1) fun v12 =>
some (.inl v12))) (some (.inr (.inl ())))) 0) fun (y5:Unit ⊕ Bool) =>
sm y5 (fun y13=>some true) (fun y14=>some y14))
theorem OX {n:Nat} {a0:List ByteArray} {a1:List ByteArray} {r:Bool} (h:EN n a0 a1=some r):Sound Tryz.prog 55 [.l (dH a0),.l (dH a1)] [] (.l (bA r)) []:=by
 unfold EN at h;refine SO 26 Tryz.func55 fun cx hG (hz:cx.nb=0)=>?_;simp only[it];refine ST ?_;apply AW.seq;obtain⟨v1,e1,v2,e2,v3,e3,h⟩:=olll h;refine AW.step (by simp[Ad e1,Ad e2,← e3];intros;rfl) ?_;cases v3 with
 |true=>
  replace h:=iT h;refine CT ?_;refine ST ?_;obtain rfl:=oi h;apply AW.ret;exact LP hz
 |false=>
  replace h:=iF h;refine CF ?_;apply AW.skip;try simp only[nm]
  apply AW.seq;refine ST ?_;apply AW.block;obtain⟨y5,g5,h⟩:=bnE h;refine zD g5 (mk:=fun gh ls q=>(⟨[(0,.l (dH a0)),(1,.l (dH a1)),(5,.l (iA q))],[],26,gh,ls⟩:St)) (N:=fun gh ls=>(sp (xP 0 (cx:=cx) (fun _=>(⟨[],[],26,gh,ls⟩:St))) (rP (cx:=cx) (P:=Tryz.prog) Tryz.f55 (fun q=>.l (bA q)) (fun q=>[])))) ?_ (noS noX noR) ?_ ?_
  ·exact WM [] hz
  ·clear h;intro y4 y6 h
   apply AW.seq;obtain⟨v7,e7,v8,e8,h⟩:=oll h;refine AW.step (by simp[Ad e7,← e8];intros;rfl) ?_;cases v8 with
   |true=>
    replace h:=iT h;refine CT ?_;apply AW.skip;try simp only[nm]
    apply AW.seq;apply AW.block;obtain⟨v9,e9,v10,e10,v11,e11,h⟩:=obbl h;apply zH (V:=[_,_,_,_,_,_,_,_]) mixed DY5t1 8 (by kernel_rfl) (by kernel_rfl)
    ·refine⟨?_,?_,?_,?_,?_,?_,?_,?_,trivial⟩;iterate 8 (· intro tm hr;simp[AllL,rdV] at hr;simp[hr,Aa e9,Aa e10,← e11];intros;exact KA)
    ·rfl
    ·simp[tmD,putD,Aa e9,Aa e10,← e11];rfl
    ·simp[Aa e9,Aa e10,← e11];intros;rfl
    cases v11 with
    |true=>
     replace h:=iT h;refine CT ?_;refine ST ?_;obtain rfl:=oi h;apply AW.ret;try simp only[nm]
     refine rP_i ?_;exact LP hz
    |false=>
     replace h:=iF h;refine CF ?_;apply AW.skip;try simp only[nm]
     obtain⟨v12,e12,h⟩:=ltE h;refine AW.last (by simp[← e12];intros;rfl) ?_;obtain rfl:=oi h;exact nP_i (WM [] hz)
   |false=>
    replace h:=iF h;refine CF ?_;apply AW.exit;try simp only[nm]
    obtain rfl:=oi h;try simp only[sp_l,sp_r]
    refine xP_i ?_;exact WM [] hz
  ·rintro e s hp;rcases y5 with y13|y14
   ·replace h:=smL h;obtain⟨rfl,hw⟩:=hp;refine⟨_,hw,?_⟩;try simp only[nm]
    refine ST ?_;obtain rfl:=oi h;apply AW.ret;exact LP hz
   ·replace h:=smR h;obtain⟨rfl,hl⟩:=hp;refine⟨_,Weak.refl _,?_⟩;obtain rfl:=oi h;exact hl
theorem NA:Enters Tryz.prog 55:=enters Tryz.func55 (by kernel_rfl) rfl
def Bt (n:Nat) (a0:Item) (a1:Item):Option Bool :=
bn (lt (eqI a0.kind a1.kind) fun v2 =>
ite' v2 (lt (eqS a0.s a1.s) fun v3 =>
ite' v3 (lt (eqI a0.exp a1.exp) fun v4 =>
ite' v4 (bn (CL n a0.f a1.f) fun v5 =>
ite' v5 (bn (EN n a0.l a1.l) fun v6 =>
some (v6)) (some (false))) (some (false))) (some (false))) (some (false))) fun (y1:Bool) =>
some y1
theorem Cr {n:Nat} {a0:Item} {a1:Item} {r:Bool} (h:Bt n a0 a1=some r):Sound Tryz.prog 18 [.g (cE0 a0),.g (cE0 a1)] [] (.l (bA r)) []:=by
 unfold Bt at h;refine SO 38 Tryz.func18 fun cx hG (hz:cx.nb=0)=>?_;simp only[it];refine ST ?_;obtain⟨y1,g1,h⟩:=bnE h;refine zC (p:=fun gh ls=>(nP (cx:=cx) (fun q=>(⟨[(4,.l (bA q))],[],38,gh,ls⟩:St))) y1) ?_ ?_
 ·replace h:=g1;clear g1
  obtain⟨v2,e2,h⟩:=ltE h;cases v2 with
  |true=>
   replace h:=iT h;obtain⟨v3,e3,h⟩:=ltE h;cases v3 with
   |true=>
    replace h:=iT h;obtain⟨v4,e4,h⟩:=ltE h;cases v4 with
    |true=>
     replace h:=iT h;obtain⟨v5,e5,h⟩:=bnE h;cases v5 with
     |true=>
      replace h:=iT h;obtain⟨v6,e6,h⟩:=bnE h;apply AW.last
      ·simp[← e2,← e3,← e4];intros;refine Ab GF (GV e5) rfl ⟨.same rfl,.same rfl,trivial⟩ ?_;try simp[← e2,← e3,← e4]
       intros;refine Ab NA (OX e6) rfl ⟨.same rfl,.same rfl,trivial⟩ ?_;try simp[← e2,← e3,← e4]
       intros;rfl
      obtain rfl:=oi h;exact nP_i (WM [] hz)
     |false=>
      replace h:=iF h;apply AW.last
      ·simp[← e2,← e3,← e4];intros;refine Ab GF (GV e5) rfl ⟨.same rfl,.same rfl,trivial⟩ ?_;try simp[← e2,← e3,← e4]
       intros;rfl
      obtain rfl:=oi h;exact nP_i (WM [] hz)
    |false=>
     replace h:=iF h;refine AW.last (by simp[← e2,← e3,← e4];intros;rfl) ?_;obtain rfl:=oi h;exact nP_i (WM [] hz)
   |false=>
    replace h:=iF h;refine AW.last (by simp[← e2,← e3];intros;rfl) ?_;obtain rfl:=oi h;exact nP_i (WM [] hz)
  |false=>
   replace h:=iF h;refine AW.last (by simp[← e2];intros;rfl) ?_;obtain rfl:=oi h;exact nP_i (WM [] hz)
 ·rintro e s⟨rfl,hw⟩;refine⟨_,hw,?_⟩;try simp only[nm]
  obtain rfl:=oi h;apply AW.ret;exact LP hz
theorem B7:Enters Tryz.prog 18:=enters Tryz.func18 (by kernel_rfl) rfl
def C4 (n:Nat) (a0:List Pair) (a1:List Pair):Option Bool :=
lt (lenI a0) fun v1 =>
lt (lenI a1) fun v2 =>
lt (neI v1 v2) fun v3 =>
ite' v3 (some false) (bn (iter n (fun (y4:Int) =>
lt (lenI a0) fun v7 =>
lt (ltI y4 v7) fun v8 =>
ite' v8 (bn (bn (nth a0 y4) fun v10 =>
bn (nth a1 y4) fun v11 =>
lt (neS v10.key v11.key) fun v12 =>
ite' v12 (some (true)) (bn (Bt n v10.item v11.item) fun v13 =>
lt (notB v13) fun v14 =>
some (v14))) fun (y9:Bool) =>
lt (y9) fun v15 =>
ite' v15 (some (.inr (.inr false))) (lt (addI .i64 y4 1) fun v16 =>
some (.inl v16))) (some (.inr (.inl ())))) 0) fun (y5:Unit ⊕ Bool) =>
sm y5 (fun y17=>some true) (fun y18=>some y18))
def DY5t2:List DI:=[⟨[0],[],[(0,none)],false⟩,⟨[0],[],[(5,none)],false⟩,⟨[0],[0,1],[(17,some 0),(18,some 1)],false⟩,⟨[0],[0,1,2],[(19,some 2)],false⟩,⟨[0],[0,1,2,3],[(20,some 3)],false⟩,⟨[0],[],[(1,none)],false⟩,⟨[0],[],[(5,none)],false⟩,⟨[0],[5,6],[(22,some 5),(23,some 6)],false⟩,⟨[0],[5,6,7],[(24,some 7)],false⟩,⟨[0],[5,6,7,8],[(25,some 8)],false⟩,⟨[0],[0,1,2,3,4,5,6,7,8,9],[(21,some 4),(26,some 9)],false⟩,⟨[0],[0,1,2,3,4,5,6,7,8,9,10],[(27,some 10)],false⟩,⟨[0],[0,1,2,3,4,5,6,7,8,9,10,11],[(0,none),(28,some 11)],false⟩,⟨[0],[0,1,2,3,4,5,6,7,8,9,10,11],[(5,none),(28,some 11)],false⟩,⟨[0],[0,1,2,3,4,5,6,7,8,9,10,11,12,13],[(28,some 11),(29,some 12),(30,some 13)],false⟩,⟨[0],[0,1,2,3,4,5,6,7,8,9,10,11,12,13,14],[(28,some 11),(31,some 14)],false⟩,⟨[0],[0,1,2,3,4,5,6,7,8,9,10,11,12,13,14,15],[(28,some 11),(32,some 15)],false⟩,⟨[0],[0,1,2,3,4,5,6,7,8,9,10,11],[(1,none),(28,some 11)],false⟩,⟨[0],[0,1,2,3,4,5,6,7,8,9,10,11],[(5,none),(28,some 11)],false⟩,⟨[0],[0,1,2,3,4,5,6,7,8,9,10,11,17,18],[(28,some 11),(34,some 17),(35,some 18)],false⟩,⟨[0],[0,1,2,3,4,5,6,7,8,9,10,11,17,18,19],[(28,some 11),(36,some 19)],false⟩,⟨[0],[0,1,2,3,4,5,6,7,8,9,10,11,17,18,19,20],[(28,some 11),(37,some 20)],false⟩,⟨[],[0,1,2,3,4,5,6,7,8,9,10,11,12,13,14,15,16,17,18,19,20,21],[],false⟩,⟨[],[0,1,2,3,4,5,6,7,8,9,10,11,12,13,14,15,16,17,18,19,20,21,22],[],false⟩,⟨[],[0,1,2,3,4,5,6,7,8,9,10,11,12,13,14,15,16,17,18,19,20,21,22,23],[],false⟩]
theorem Eq {n:Nat} {a0:List Pair} {a1:List Pair} {r:Bool} (h:C4 n a0 a1=some r):Sound Tryz.prog 43 [.l (dA a0),.l (dA a1)] [] (.l (bA r)) []:=by
 unfold C4 at h;refine SO 42 Tryz.func43 fun cx hG (hz:cx.nb=0)=>?_;simp only[it];refine ST ?_;apply AW.seq;obtain⟨v1,e1,v2,e2,v3,e3,h⟩:=olll h;refine AW.step (by simp[Ad e1,Ad e2,← e3];intros;rfl) ?_;cases v3 with
 |true=>
  replace h:=iT h;refine CT ?_;refine ST ?_;obtain rfl:=oi h;apply AW.ret;exact LP hz
 |false=>
  replace h:=iF h;refine CF ?_;apply AW.skip;try simp only[nm]
  apply AW.seq;refine ST ?_;apply AW.block;obtain⟨y5,g5,h⟩:=bnE h;refine zD g5 (mk:=fun gh ls q=>(⟨[(0,.l (dA a0)),(1,.l (dA a1)),(5,.l (iA q))],[],42,gh,ls⟩:St)) (N:=fun gh ls=>(sp (xP 0 (cx:=cx) (fun _=>(⟨[],[],42,gh,ls⟩:St))) (rP (cx:=cx) (P:=Tryz.prog) Tryz.f43 (fun q=>.l (bA q)) (fun q=>[])))) ?_ (noS noX noR) ?_ ?_
  ·exact WM [] hz
  ·clear h;intro y4 y6 h
   apply AW.seq;obtain⟨v7,e7,v8,e8,h⟩:=oll h;refine AW.step (by simp[Ad e7,← e8];intros;rfl) ?_;cases v8 with
   |true=>
    replace h:=iT h;refine CT ?_;apply AW.skip;try simp only[nm]
    apply AW.seq;apply AW.block;obtain⟨y9,g9,h⟩:=bnE h;refine zC (p:=fun gh ls=>(nP (cx:=cx) (fun q=>(⟨[(0,.l (dA a0)),(1,.l (dA a1)),(5,.l (iA y4)),(41,.l (bA q))],[],42,gh,ls⟩:St))) y9) ?_ ?_
    ·replace h:=g9;clear g9
     obtain⟨v10,e10,v11,e11,v12,e12,h⟩:=obbl h;cases v12 with
     |true=>
      replace h:=iT h;apply zF (V:=[_,_,_,_,_,_,_,_,_,_,_,_,_,_,_,_,_,_,_,_,_,_]) mixed DY5t2 22 (by kernel_rfl) (by kernel_rfl)
      ·refine⟨?_,?_,?_,?_,?_,?_,?_,?_,?_,?_,?_,?_,?_,?_,?_,?_,?_,?_,?_,?_,?_,?_,trivial⟩;iterate 22 (· intro tm hr;simp[AllL,rdV] at hr;simp[hr,Aa e10,Aa e11,← e12];intros;exact KA)
      ·rfl
      ·simp[tmD,putD,Aa e10,Aa e11,← e12];rfl
      ·simp[Aa e10,Aa e11,← e12];intros;rfl
      obtain rfl:=oi h;exact nP_i (WM [] hz)
     |false=>
      replace h:=iF h;obtain⟨v13,e13,v14,e14,h⟩:=obl h;apply zF (V:=[_,_,_,_,_,_,_,_,_,_,_,_,_,_,_,_,_,_,_,_,_,_]) mixed DY5t2 22 (by kernel_rfl) (by kernel_rfl)
      ·refine⟨?_,?_,?_,?_,?_,?_,?_,?_,?_,?_,?_,?_,?_,?_,?_,?_,?_,?_,?_,?_,?_,?_,trivial⟩;iterate 22 (· intro tm hr;simp[AllL,rdV] at hr;simp[hr,Aa e10,Aa e11,← e12,← e14];intros;exact KA)
      ·rfl
      ·simp[tmD,putD,Aa e10,Aa e11,← e12,← e14];rfl
      ·simp[Aa e10,Aa e11,← e12,← e14];intros;refine Ab B7 (Cr e13) rfl ⟨.same rfl,.same rfl,trivial⟩ ?_;try simp[Aa e10,Aa e11,← e12,← e14]
       intros;rfl
      obtain rfl:=oi h;exact nP_i (WM [] hz)
    ·rintro e s⟨rfl,hw⟩;refine⟨_,hw,?_⟩;try simp only[nm]
     obtain⟨v15,e15,h⟩:=ltE h;rw[← e15];cases v15 with
     |true=>
      replace h:=iT h;refine CT ?_;refine ST ?_;obtain rfl:=oi h;apply AW.ret;try simp only[nm]
      refine rP_i ?_;exact LP hz
     |false=>
      replace h:=iF h;refine CF ?_;apply AW.skip;try simp only[nm]
      obtain⟨v16,e16,h⟩:=ltE h;refine AW.last (by simp[← e16];intros;rfl) ?_;obtain rfl:=oi h;exact nP_i (WM [] hz)
   |false=>
    replace h:=iF h;refine CF ?_;apply AW.exit;try simp only[nm]
    obtain rfl:=oi h;try simp only[sp_l,sp_r]
    refine xP_i ?_;exact WM [] hz
  ·rintro e s hp;rcases y5 with y17|y18
   ·replace h:=smL h;obtain⟨rfl,hw⟩:=hp;refine⟨_,hw,?_⟩;try simp only[nm]
    refine ST ?_;obtain rfl:=oi h;apply AW.ret;exact LP hz
   ·replace h:=smR h;obtain⟨rfl,hl⟩:=hp;refine⟨_,Weak.refl _,?_⟩;obtain rfl:=oi h;exact hl
theorem D0:Enters Tryz.prog 43:=enters Tryz.func43 (by kernel_rfl) rfl
def BS (n:Nat) (a0:List Effect) (a1:List Effect):Option Bool :=
lt (lenI a0) fun v1 =>
lt (lenI a1) fun v2 =>
lt (neI v1 v2) fun v3 =>
ite' v3 (some false) (bn (iter n (fun (y4:Int) =>
lt (lenI a0) fun v7 =>
lt (ltI y4 v7) fun v8 =>
ite' v8 (bn (bn (nth a0 y4) fun v10 =>
bn (nth a1 y4) fun v11 =>
lt (neS v10.key v11.key) fun v12 =>
ite' v12 (some (true)) (lt (neB v10.gone v11.gone) fun v13 =>
ite' v13 (some (true)) (bn (Bt n v10.item v11.item) fun v14 =>
lt (notB v14) fun v15 =>
some (v15)))) fun (y9:Bool) =>
lt (y9) fun v16 =>
ite' v16 (some (.inr (.inr false))) (lt (addI .i64 y4 1) fun v17 =>
some (.inl v17))) (some (.inr (.inl ())))) 0) fun (y5:Unit ⊕ Bool) =>
sm y5 (fun y18=>some true) (fun y19=>some y19))
def DY5t3:List DI:=[⟨[0],[],[(0,none)],false⟩,⟨[0],[],[(5,none)],false⟩,⟨[0],[0,1],[(17,some 0),(18,some 1)],false⟩,⟨[0],[0,1,2],[(19,some 2)],false⟩,⟨[0],[0,1,2,3],[(20,some 3)],false⟩,⟨[0],[],[(1,none)],false⟩,⟨[0],[],[(5,none)],false⟩,⟨[0],[5,6],[(22,some 5),(23,some 6)],false⟩,⟨[0],[5,6,7],[(24,some 7)],false⟩,⟨[0],[5,6,7,8],[(25,some 8)],false⟩,⟨[0],[0,1,2,3,4,5,6,7,8,9],[(21,some 4),(26,some 9)],false⟩,⟨[0],[0,1,2,3,4,5,6,7,8,9,10],[(27,some 10)],false⟩,⟨[0],[0,1,2,3,4,5,6,7,8,9,10,11],[(0,none),(28,some 11)],false⟩,⟨[0],[0,1,2,3,4,5,6,7,8,9,10,11],[(5,none),(28,some 11)],false⟩,⟨[0],[0,1,2,3,4,5,6,7,8,9,10,11,12,13],[(28,some 11),(29,some 12),(30,some 13)],false⟩,⟨[0],[0,1,2,3,4,5,6,7,8,9,10,11,12,13,14],[(28,some 11),(31,some 14)],false⟩,⟨[0],[0,1,2,3,4,5,6,7,8,9,10,11,12,13,14,15],[(28,some 11),(32,some 15)],false⟩,⟨[0],[0,1,2,3,4,5,6,7,8,9,10,11],[(1,none),(28,some 11)],false⟩,⟨[0],[0,1,2,3,4,5,6,7,8,9,10,11],[(5,none),(28,some 11)],false⟩,⟨[0],[0,1,2,3,4,5,6,7,8,9,10,11,17,18],[(28,some 11),(34,some 17),(35,some 18)],false⟩,⟨[0],[0,1,2,3,4,5,6,7,8,9,10,11,17,18,19],[(28,some 11),(36,some 19)],false⟩,⟨[0],[0,1,2,3,4,5,6,7,8,9,10,11,17,18,19,20],[(28,some 11),(37,some 20)],false⟩,⟨[0],[0,1,2,3,4,5,6,7,8,9,10,11,12,13,14,15,16,17,18,19,20,21],[(28,some 11),(33,some 16),(38,some 21)],false⟩,⟨[0],[0,1,2,3,4,5,6,7,8,9,10,11,12,13,14,15,16,17,18,19,20,21,22],[(28,some 11),(39,some 22)],false⟩,⟨[0],[0,1,2,3,4,5,6,7,8,9,10,11,12,13,14,15,16,17,18,19,20,21,22,23],[(40,some 23)],false⟩,⟨[0],[0,1,2,3,4,5,6,7,8,9,10,11,12,13,14,15,16,17,18,19,20,21,22,23,24],[(0,none),(41,some 24)],false⟩,⟨[0],[0,1,2,3,4,5,6,7,8,9,10,11,12,13,14,15,16,17,18,19,20,21,22,23,24],[(5,none),(41,some 24)],false⟩,⟨[0],[0,1,2,3,4,5,6,7,8,9,10,11,12,13,14,15,16,17,18,19,20,21,22,23,24,25,26],[(41,some 24),(42,some 25),(43,some 26)],false⟩,⟨[0],[0,1,2,3,4,5,6,7,8,9,10,11,12,13,14,15,16,17,18,19,20,21,22,23,24,25,26,27],[(41,some 24),(44,some 27)],false⟩,⟨[0],[0,1,2,3,4,5,6,7,8,9,10,11,12,13,14,15,16,17,18,19,20,21,22,23,24,25,26,27,28],[(41,some 24),(45,some 28)],false⟩,⟨[0],[0,1,2,3,4,5,6,7,8,9,10,11,12,13,14,15,16,17,18,19,20,21,22,23,24],[(1,none),(41,some 24)],false⟩,⟨[0],[0,1,2,3,4,5,6,7,8,9,10,11,12,13,14,15,16,17,18,19,20,21,22,23,24],[(5,none),(41,some 24)],false⟩,⟨[0],[0,1,2,3,4,5,6,7,8,9,10,11,12,13,14,15,16,17,18,19,20,21,22,23,24,30,31],[(41,some 24),(47,some 30),(48,some 31)],false⟩,⟨[0],[0,1,2,3,4,5,6,7,8,9,10,11,12,13,14,15,16,17,18,19,20,21,22,23,24,30,31,32],[(41,some 24),(49,some 32)],false⟩,⟨[0],[0,1,2,3,4,5,6,7,8,9,10,11,12,13,14,15,16,17,18,19,20,21,22,23,24,30,31,32,33],[(41,some 24),(50,some 33)],false⟩,⟨[],[0,1,2,3,4,5,6,7,8,9,10,11,12,13,14,15,16,17,18,19,20,21,22,23,24,25,26,27,28,29,30,31,32,33,34],[],false⟩,⟨[],[0,1,2,3,4,5,6,7,8,9,10,11,12,13,14,15,16,17,18,19,20,21,22,23,24,25,26,27,28,29,30,31,32,33,34,35],[],false⟩,⟨[],[0,1,2,3,4,5,6,7,8,9,10,11,12,13,14,15,16,17,18,19,20,21,22,23,24,25,26,27,28,29,30,31,32,33,34,35,36],[],false⟩]
theorem GG {n:Nat} {a0:List Effect} {a1:List Effect} {r:Bool} (h:BS n a0 a1=some r):Sound Tryz.prog 83 [.l (dD a0),.l (dD a1)] [] (.l (bA r)) []:=by
 unfold BS at h;refine SO 55 Tryz.func83 fun cx hG (hz:cx.nb=0)=>?_;simp only[it];refine ST ?_;apply AW.seq;obtain⟨v1,e1,v2,e2,v3,e3,h⟩:=olll h;refine AW.step (by simp[Ad e1,Ad e2,← e3];intros;rfl) ?_;cases v3 with
 |true=>
  replace h:=iT h;refine CT ?_;refine ST ?_;obtain rfl:=oi h;apply AW.ret;exact LP hz
 |false=>
  replace h:=iF h;refine CF ?_;apply AW.skip;try simp only[nm]
  apply AW.seq;refine ST ?_;apply AW.block;obtain⟨y5,g5,h⟩:=bnE h;refine zD g5 (mk:=fun gh ls q=>(⟨[(0,.l (dD a0)),(1,.l (dD a1)),(5,.l (iA q))],[],55,gh,ls⟩:St)) (N:=fun gh ls=>(sp (xP 0 (cx:=cx) (fun _=>(⟨[],[],55,gh,ls⟩:St))) (rP (cx:=cx) (P:=Tryz.prog) Tryz.f83 (fun q=>.l (bA q)) (fun q=>[])))) ?_ (noS noX noR) ?_ ?_
  ·exact WM [] hz
  ·clear h;intro y4 y6 h
   apply AW.seq;obtain⟨v7,e7,v8,e8,h⟩:=oll h;refine AW.step (by simp[Ad e7,← e8];intros;rfl) ?_;cases v8 with
   |true=>
    replace h:=iT h;refine CT ?_;apply AW.skip;try simp only[nm]
    apply AW.seq;apply AW.block;obtain⟨y9,g9,h⟩:=bnE h;refine zC (p:=fun gh ls=>(nP (cx:=cx) (fun q=>(⟨[(0,.l (dD a0)),(1,.l (dD a1)),(5,.l (iA y4)),(54,.l (bA q))],[],55,gh,ls⟩:St))) y9) ?_ ?_
    ·replace h:=g9;clear g9
     obtain⟨v10,e10,v11,e11,v12,e12,h⟩:=obbl h;cases v12 with
     |true=>
      replace h:=iT h;apply zF (V:=[_,_,_,_,_,_,_,_,_,_,_,_,_,_,_,_,_,_,_,_,_,_,_,_,_,_,_,_,_,_,_,_,_,_,_]) mixed DY5t3 35 (by kernel_rfl) (by kernel_rfl)
      ·refine⟨?_,?_,?_,?_,?_,?_,?_,?_,?_,?_,?_,?_,?_,?_,?_,?_,?_,?_,?_,?_,?_,?_,?_,?_,?_,?_,?_,?_,?_,?_,?_,?_,?_,?_,?_,trivial⟩;iterate 35 (· intro tm hr;simp[AllL,rdV] at hr;simp[hr,Aa e10,Aa e11,← e12];intros;exact KA)
      ·rfl
      ·simp[tmD,putD,Aa e10,Aa e11,← e12];rfl
      ·simp[Aa e10,Aa e11,← e12];intros;rfl
      obtain rfl:=oi h;exact nP_i (WM [] hz)
     |false=>
      replace h:=iF h;obtain⟨v13,e13,h⟩:=ltE h;cases v13 with
      |true=>
       replace h:=iT h;apply zF (V:=[_,_,_,_,_,_,_,_,_,_,_,_,_,_,_,_,_,_,_,_,_,_,_,_,_,_,_,_,_,_,_,_,_,_,_]) mixed DY5t3 35 (by kernel_rfl) (by kernel_rfl)
       ·refine⟨?_,?_,?_,?_,?_,?_,?_,?_,?_,?_,?_,?_,?_,?_,?_,?_,?_,?_,?_,?_,?_,?_,?_,?_,?_,?_,?_,?_,?_,?_,?_,?_,?_,?_,?_,trivial⟩;iterate 35 (· intro tm hr;simp[AllL,rdV] at hr;simp[hr,Aa e10,Aa e11,← e12,← e13];intros;exact KA)
       ·rfl
       ·simp[tmD,putD,Aa e10,Aa e11,← e12,← e13];rfl
       ·simp[Aa e10,Aa e11,← e12,← e13];intros;rfl
       obtain rfl:=oi h;exact nP_i (WM [] hz)
      |false=>
       replace h:=iF h;obtain⟨v14,e14,v15,e15,h⟩:=obl h;apply zF (V:=[_,_,_,_,_,_,_,_,_,_,_,_,_,_,_,_,_,_,_,_,_,_,_,_,_,_,_,_,_,_,_,_,_,_,_]) mixed DY5t3 35 (by kernel_rfl) (by kernel_rfl)
       ·refine⟨?_,?_,?_,?_,?_,?_,?_,?_,?_,?_,?_,?_,?_,?_,?_,?_,?_,?_,?_,?_,?_,?_,?_,?_,?_,?_,?_,?_,?_,?_,?_,?_,?_,?_,?_,trivial⟩;iterate 35 (· intro tm hr;simp[AllL,rdV] at hr;simp[hr,Aa e10,Aa e11,← e12,← e13,← e15];intros;exact KA)
       ·rfl
       ·simp[tmD,putD,Aa e10,Aa e11,← e12,← e13,← e15];rfl
       ·simp[Aa e10,Aa e11,← e12,← e13,← e15];intros;refine Ab B7 (Cr e14) rfl ⟨.same rfl,.same rfl,trivial⟩ ?_;try simp[Aa e10,Aa e11,← e12,← e13,← e15]
        intros;rfl
       obtain rfl:=oi h;exact nP_i (WM [] hz)
    ·rintro e s⟨rfl,hw⟩;refine⟨_,hw,?_⟩;try simp only[nm]
     obtain⟨v16,e16,h⟩:=ltE h;rw[← e16];cases v16 with
     |true=>
      replace h:=iT h;refine CT ?_;refine ST ?_;obtain rfl:=oi h;apply AW.ret;try simp only[nm]
      refine rP_i ?_;exact LP hz
     |false=>
      replace h:=iF h;refine CF ?_;apply AW.skip;try simp only[nm]
      obtain⟨v17,e17,h⟩:=ltE h;refine AW.last (by simp[← e17];intros;rfl) ?_;obtain rfl:=oi h;exact nP_i (WM [] hz)
   |false=>
    replace h:=iF h;refine CF ?_;apply AW.exit;try simp only[nm]
    obtain rfl:=oi h;try simp only[sp_l,sp_r]
    refine xP_i ?_;exact WM [] hz
  ·rintro e s hp;rcases y5 with y18|y19
   ·replace h:=smL h;obtain⟨rfl,hw⟩:=hp;refine⟨_,hw,?_⟩;try simp only[nm]
    refine ST ?_;obtain rfl:=oi h;apply AW.ret;exact LP hz
   ·replace h:=smR h;obtain⟨rfl,hl⟩:=hp;refine⟨_,Weak.refl _,?_⟩;obtain rfl:=oi h;exact hl
theorem Gf:Enters Tryz.prog 83:=enters Tryz.func83 (by kernel_rfl) rfl
def C5 (n:Nat) (a0:Feed) (a1:Feed):Option Bool :=
bn (lt (andB (eqI a0.rid.node a1.rid.node) (andB (eqI a0.rid.epoch a1.rid.epoch) true)) fun v2 =>
ite' v2 (lt (eqI a0.off a1.off) fun v3 =>
ite' v3 (lt (andB (eqI a0.prev.node a1.prev.node) (andB (eqI a0.prev.epoch a1.prev.epoch) true)) fun v4 =>
ite' v4 (lt (eqI a0.upto a1.upto) fun v5 =>
ite' v5 (bn (BS n a0.back a1.back) fun v6 =>
some (v6)) (some (false))) (some (false))) (some (false))) (some (false))) fun (y1:Bool) =>
some y1
theorem FJ {n:Nat} {a0:Feed} {a1:Feed} {r:Bool} (h:C5 n a0 a1=some r):Sound Tryz.prog 44 [.g [iA a0.rid.node,iA a0.rid.epoch,iA a0.off,dD a0.back,iA a0.prev.node,iA a0.prev.epoch,iA a0.upto],.g [iA a1.rid.node,iA a1.rid.epoch,iA a1.off,dD a1.back,iA a1.prev.node,iA a1.prev.epoch,iA a1.upto]] [] (.l (bA r)) []:=by
 unfold C5 at h;refine SO 38 Tryz.func44 fun cx hG (hz:cx.nb=0)=>?_;simp only[it];refine ST ?_;obtain⟨y1,g1,h⟩:=bnE h;refine zC (p:=fun gh ls=>(nP (cx:=cx) (fun q=>(⟨[(4,.l (bA q))],[],38,gh,ls⟩:St))) y1) ?_ ?_
 ·replace h:=g1;clear g1
  obtain⟨v2,e2,h⟩:=ltE h;cases v2 with
  |true=>
   replace h:=iT h;obtain⟨v3,e3,h⟩:=ltE h;cases v3 with
   |true=>
    replace h:=iT h;obtain⟨v4,e4,h⟩:=ltE h;cases v4 with
    |true=>
     replace h:=iT h;obtain⟨v5,e5,h⟩:=ltE h;cases v5 with
     |true=>
      replace h:=iT h;obtain⟨v6,e6,h⟩:=bnE h;apply AW.last
      ·simp[← e2,← e3,← e4,← e5];intros;refine Ab Gf (GG e6) rfl ⟨.same rfl,.same rfl,trivial⟩ ?_;try simp[← e2,← e3,← e4,← e5]
       intros;rfl
      obtain rfl:=oi h;exact nP_i (WM [] hz)
     |false=>
      replace h:=iF h;refine AW.last (by simp[← e2,← e3,← e4,← e5];intros;rfl) ?_;obtain rfl:=oi h;exact nP_i (WM [] hz)
    |false=>
     replace h:=iF h;refine AW.last (by simp[← e2,← e3,← e4];intros;rfl) ?_;obtain rfl:=oi h;exact nP_i (WM [] hz)
   |false=>
    replace h:=iF h;refine AW.last (by simp[← e2,← e3];intros;rfl) ?_;obtain rfl:=oi h;exact nP_i (WM [] hz)
  |false=>
   replace h:=iF h;refine AW.last (by simp[← e2];intros;rfl) ?_;obtain rfl:=oi h;exact nP_i (WM [] hz)
 ·rintro e s⟨rfl,hw⟩;refine⟨_,hw,?_⟩;try simp only[nm]
  obtain rfl:=oi h;apply AW.ret;exact LP hz
theorem Fu:Enters Tryz.prog 44:=enters Tryz.func44 (by kernel_rfl) rfl
def C6 (n:Nat) (a0:List Int) (a1:List Int):Option Bool :=
lt (lenI a0) fun v1 =>
lt (lenI a1) fun v2 =>
lt (neI v1 v2) fun v3 =>
ite' v3 (some false) (bn (iter n (fun (y4:Int) =>
lt (lenI a0) fun v7 =>
lt (ltI y4 v7) fun v8 =>
ite' v8 (bn (nth a0 y4) fun v9 =>
bn (nth a1 y4) fun v10 =>
lt (neI v9 v10) fun v11 =>
ite' v11 (some (.inr (.inr false))) (lt (addI .i64 y4 1) fun v12 =>
some (.inl v12))) (some (.inr (.inl ())))) 0) fun (y5:Unit ⊕ Bool) =>
sm y5 (fun y13=>some true) (fun y14=>some y14))
theorem Fb {n:Nat} {a0:List Int} {a1:List Int} {r:Bool} (h:C6 n a0 a1=some r):Sound Tryz.prog 46 [.l (dC a0),.l (dC a1)] [] (.l (bA r)) []:=by
 unfold C6 at h;refine SO 26 Tryz.func46 fun cx hG (hz:cx.nb=0)=>?_;simp only[it];refine ST ?_;apply AW.seq;obtain⟨v1,e1,v2,e2,v3,e3,h⟩:=olll h;refine AW.step (by simp[Ad e1,Ad e2,← e3];intros;rfl) ?_;cases v3 with
 |true=>
  replace h:=iT h;refine CT ?_;refine ST ?_;obtain rfl:=oi h;apply AW.ret;exact LP hz
 |false=>
  replace h:=iF h;refine CF ?_;apply AW.skip;try simp only[nm]
  apply AW.seq;refine ST ?_;apply AW.block;obtain⟨y5,g5,h⟩:=bnE h;refine zD g5 (mk:=fun gh ls q=>(⟨[(0,.l (dC a0)),(1,.l (dC a1)),(5,.l (iA q))],[],26,gh,ls⟩:St)) (N:=fun gh ls=>(sp (xP 0 (cx:=cx) (fun _=>(⟨[],[],26,gh,ls⟩:St))) (rP (cx:=cx) (P:=Tryz.prog) Tryz.f46 (fun q=>.l (bA q)) (fun q=>[])))) ?_ (noS noX noR) ?_ ?_
  ·exact WM [] hz
  ·clear h;intro y4 y6 h
   apply AW.seq;obtain⟨v7,e7,v8,e8,h⟩:=oll h;refine AW.step (by simp[Ad e7,← e8];intros;rfl) ?_;cases v8 with
   |true=>
    replace h:=iT h;refine CT ?_;apply AW.skip;try simp only[nm]
    apply AW.seq;apply AW.block;obtain⟨v9,e9,v10,e10,v11,e11,h⟩:=obbl h;apply zH (V:=[_,_,_,_,_,_,_,_]) mixed DY5t1 8 (by kernel_rfl) (by kernel_rfl)
    ·refine⟨?_,?_,?_,?_,?_,?_,?_,?_,trivial⟩;iterate 8 (· intro tm hr;simp[AllL,rdV] at hr;simp[hr,Aa e9,Aa e10,← e11];intros;exact KA)
    ·rfl
    ·simp[tmD,putD,Aa e9,Aa e10,← e11];rfl
    ·simp[Aa e9,Aa e10,← e11];intros;rfl
    cases v11 with
    |true=>
     replace h:=iT h;refine CT ?_;refine ST ?_;obtain rfl:=oi h;apply AW.ret;try simp only[nm]
     refine rP_i ?_;exact LP hz
    |false=>
     replace h:=iF h;refine CF ?_;apply AW.skip;try simp only[nm]
     obtain⟨v12,e12,h⟩:=ltE h;refine AW.last (by simp[← e12];intros;rfl) ?_;obtain rfl:=oi h;exact nP_i (WM [] hz)
   |false=>
    replace h:=iF h;refine CF ?_;apply AW.exit;try simp only[nm]
    obtain rfl:=oi h;try simp only[sp_l,sp_r]
    refine xP_i ?_;exact WM [] hz
  ·rintro e s hp;rcases y5 with y13|y14
   ·replace h:=smL h;obtain⟨rfl,hw⟩:=hp;refine⟨_,hw,?_⟩;try simp only[nm]
    refine ST ?_;obtain rfl:=oi h;apply AW.ret;exact LP hz
   ·replace h:=smR h;obtain⟨rfl,hl⟩:=hp;refine⟨_,Weak.refl _,?_⟩;obtain rfl:=oi h;exact hl
theorem Er:Enters Tryz.prog 46:=enters Tryz.func46 (by kernel_rfl) rfl
def CM (n:Nat) (a0:Watch) (a1:Watch):Option Bool :=
bn (bn (C6 n a0.heard a1.heard) fun v2 =>
lt (notB v2) fun v3 =>
ite' v3 (some (true)) (lt (lenI a0.says) fun v4 =>
lt (lenI a1.says) fun v5 =>
lt (neI v4 v5) fun v6 =>
some (v6))) fun (y1:Bool) =>
lt (y1) fun v7 =>
ite' v7 (some false) (bn (iter n (fun (y8:Int) =>
lt (lenI a0.says) fun v11 =>
lt (ltI y8 v11) fun v12 =>
ite' v12 (bn (nth a0.says y8) fun v13 =>
bn (nth a1.says y8) fun v14 =>
bn (C6 n v13 v14) fun v15 =>
lt (notB v15) fun v16 =>
ite' v16 (some (.inr (.inr false))) (lt (addI .i64 y8 1) fun v17 =>
some (.inl v17))) (some (.inr (.inl ())))) 0) fun (y9:Unit ⊕ Bool) =>
sm y9 (fun y18=>some true) (fun y19=>some y19))
theorem GW {n:Nat} {a0:Watch} {a1:Watch} {r:Bool} (h:CM n a0 a1=some r):Sound Tryz.prog 45 [.g [dC a0.heard,.d false 1 (AM a0.says)],.g [dC a1.heard,.d false 1 (AM a1.says)]] [] (.l (bA r)) []:=by
 unfold CM at h;refine SO 40 Tryz.func45 fun cx hG (hz:cx.nb=0)=>?_;simp only[it];refine ST ?_;apply AW.seq;obtain⟨y1,g1,h⟩:=bnE h;refine zC (p:=fun gh ls=>(nP (cx:=cx) (fun q=>(⟨[(2,.l (.p 0 0)),(3,.l (.p 1 0)),(20,.l (bA q))],[some ⟨36,2,false,none,[dC a0.heard,.d false 1 (AM a0.says)]⟩,some ⟨36,2,false,none,[dC a1.heard,.d false 1 (AM a1.says)]⟩],40,gh,ls⟩:St))) y1) ?_ ?_
 ·replace h:=g1;clear g1
  obtain⟨v2,e2,v3,e3,h⟩:=obl h;cases v3 with
  |true=>
   replace h:=iT h;apply AW.last
   ·simp[← e3];intros;refine Ab Er (Fb e2) rfl ⟨.same rfl,.same rfl,trivial⟩ ?_;try simp[← e3]
    intros;rfl
   obtain rfl:=oi h;exact nP_i (WM [0,1] hz)
  |false=>
   replace h:=iF h;obtain⟨v4,e4,v5,e5,v6,e6,h⟩:=olll h;apply AW.last
   ·simp[← e3,Ad e4,Ad e5,← e6];intros;refine Ab Er (Fb e2) rfl ⟨.same rfl,.same rfl,trivial⟩ ?_;try simp[← e3,Ad e4,Ad e5,← e6]
    intros;rfl
   obtain rfl:=oi h;exact nP_i (WM [0,1] hz)
 ·rintro e s⟨rfl,hw⟩;refine⟨_,hw,?_⟩;try simp only[nm]
  obtain⟨v7,e7,h⟩:=ltE h;rw[← e7];cases v7 with
  |true=>
   replace h:=iT h;refine CT ?_;refine ST ?_;obtain rfl:=oi h;apply AW.ret;exact LP hz
  |false=>
   replace h:=iF h;refine CF ?_;apply AW.skip;try simp only[nm]
   apply AW.seq;refine ST ?_;apply AW.block;obtain⟨y9,g9,h⟩:=bnE h;refine zD g9 (mk:=fun gh ls q=>(⟨[(2,.l (.p 0 0)),(3,.l (.p 1 0)),(5,.l (iA q))],[some ⟨36,2,false,none,[dC a0.heard,.d false 1 (AM a0.says)]⟩,some ⟨36,2,false,none,[dC a1.heard,.d false 1 (AM a1.says)]⟩],40,gh,ls⟩:St)) (N:=fun gh ls=>(sp (xP 0 (cx:=cx) (fun _=>(⟨[],[],40,gh,ls⟩:St))) (rP (cx:=cx) (P:=Tryz.prog) Tryz.f45 (fun q=>.l (bA q)) (fun q=>[])))) ?_ (noS noX noR) ?_ ?_
   ·exact WM [0,1] hz
   ·clear h;intro y8 y10 h
    apply AW.seq;obtain⟨v11,e11,v12,e12,h⟩:=oll h;refine AW.step (by simp[Ad e11,← e12];intros;rfl) ?_;cases v12 with
    |true=>
     replace h:=iT h;refine CT ?_;apply AW.skip;try simp only[nm]
     apply AW.seq;apply AW.block;obtain⟨v13,e13,h⟩:=bnE h;obtain⟨v14,e14,v15,e15,v16,e16,h⟩:=obbl h;apply zH (V:=[_,_,_,_,_,_,_,_,_,_]) mixed [⟨[0],[],[(2,none)],false⟩,⟨[0],[0],[(28,some 0)],false⟩,⟨[0],[],[(5,none)],false⟩,⟨[0],[0,1,2],[(29,some 1),(30,some 2)],false⟩,⟨[0],[0,1,2,3],[(31,some 3)],false⟩,⟨[0],[],[(3,none)],false⟩,⟨[0],[5],[(33,some 5)],false⟩,⟨[0],[],[(5,none)],false⟩,⟨[0],[5,6,7],[(34,some 6),(35,some 7)],false⟩,⟨[0],[5,6,7,8],[(36,some 8)],false⟩,⟨[],[0,1,2,3,4,5,6,7,8,9],[],false⟩,⟨[],[0,1,2,3,4,5,6,7,8,9,10],[],false⟩] 10 (by kernel_rfl) (by kernel_rfl)
     ·refine⟨?_,?_,?_,?_,?_,?_,?_,?_,?_,?_,trivial⟩;iterate 10 (· intro tm hr;simp[AllL,rdV] at hr;simp[hr,Aa e13,Aa e14,← e16];intros;exact KA)
     ·rfl
     ·simp[tmD,putD,Aa e13,Aa e14,← e16];rfl
     ·simp[Aa e13,Aa e14,← e16];intros;refine Ab Er (Fb e15) rfl ⟨.same rfl,.same rfl,trivial⟩ ?_;try simp[Aa e13,Aa e14,← e16]
      intros;rfl
     cases v16 with
     |true=>
      replace h:=iT h;refine CT ?_;refine ST ?_;obtain rfl:=oi h;apply AW.ret;try simp only[nm]
      refine rP_i ?_;exact LP hz
     |false=>
      replace h:=iF h;refine CF ?_;apply AW.skip;try simp only[nm]
      obtain⟨v17,e17,h⟩:=ltE h;refine AW.last (by simp[← e17];intros;rfl) ?_;obtain rfl:=oi h;exact nP_i (WM [0,1] hz)
    |false=>
     replace h:=iF h;refine CF ?_;apply AW.exit;try simp only[nm]
     obtain rfl:=oi h;try simp only[sp_l,sp_r]
     refine xP_i ?_;exact WM [] hz
   ·rintro e s hp;rcases y9 with y18|y19
    ·replace h:=smL h;obtain⟨rfl,hw⟩:=hp;refine⟨_,hw,?_⟩;try simp only[nm]
     refine ST ?_;obtain rfl:=oi h;apply AW.ret;exact LP hz
    ·replace h:=smR h;obtain⟨rfl,hl⟩:=hp;refine⟨_,Weak.refl _,?_⟩;obtain rfl:=oi h;exact hl
theorem GH:Enters Tryz.prog 45:=enters Tryz.func45 (by kernel_rfl) rfl
def By (n:Nat) (a0:Node) (a1:Node):Option Bool :=
bn (lt (neI a0.count a1.count) fun v2 =>
ite' v2 (some (true)) (lt (neI a0.id a1.id) fun v3 =>
ite' v3 (some (true)) (lt (neI a0.master a1.master) fun v4 =>
ite' v4 (some (true)) (lt (neI a0.epoch a1.epoch) fun v5 =>
ite' v5 (some (true)) (lt (neI a0.voted a1.voted) fun v6 =>
ite' v6 (some (true)) (lt (neI a0.last a1.last) fun v7 =>
ite' v7 (some (true)) (lt (neI a0.asked a1.asked) fun v8 =>
ite' v8 (some (true)) (lt (neI a0.wait a1.wait) fun v9 =>
ite' v9 (some (true)) (lt (lenI a0.moves) fun v10 =>
lt (lenI a1.moves) fun v11 =>
lt (neI v10 v11) fun v12 =>
ite' v12 (some (true)) (lt (lenI a0.seen) fun v13 =>
lt (lenI a1.seen) fun v14 =>
lt (neI v13 v14) fun v15 =>
some (v15))))))))))) fun (y1:Bool) =>
lt (y1) fun v16 =>
ite' v16 (some false) (bn (iter n (fun (y17:Int) =>
lt (lenI a0.moves) fun v20 =>
lt (ltI y17 v20) fun v21 =>
ite' v21 (bn (nth a0.moves y17) fun v22 =>
bn (nth a1.moves y17) fun v23 =>
lt (notB (andB (eqI v22.slot v23.slot) (andB (eqI v22.to v23.to) (andB (eqI v22.num v23.num) (andB (eqS v22.key v23.key) true))))) fun v24 =>
ite' v24 (some (.inr (.inr false))) (lt (addI .i64 y17 1) fun v25 =>
some (.inl v25))) (some (.inr (.inl ())))) 0) fun (y18:Unit ⊕ Bool) =>
sm y18 (fun y26=>bn (iter n (fun (y28:Int) =>
lt (lenI a0.seen) fun v31 =>
lt (ltI y28 v31) fun v32 =>
ite' v32 (bn (nth a0.seen y28) fun v33 =>
bn (nth a1.seen y28) fun v34 =>
lt (notB (andB (eqI v33.node v34.node) (andB (eqI v33.slot v34.slot) (andB (eqI v33.num v34.num) true)))) fun v35 =>
ite' v35 (some (.inr (.inr false))) (lt (addI .i64 y28 1) fun v36 =>
some (.inl v36))) (some (.inr (.inl ())))) 0) fun (y29:Unit ⊕ Bool) =>
sm y29 (fun y37=>bn (bn (BR n a0.claims a1.claims) fun v40 =>
ite' v40 (bn (C4 n a0.db a1.db) fun v41 =>
ite' v41 (bn (C5 n a0.feed a1.feed) fun v42 =>
ite' v42 (bn (CM n a0.watch a1.watch) fun v43 =>
ite' v43 (bn (C6 n a0.votes a1.votes) fun v44 =>
some (v44)) (some (false))) (some (false))) (some (false))) (some (false))) fun (y39:Bool) =>
some y39) (fun y38=>some y38)) (fun y27=>some y27))
theorem B8 {n:Nat} {a0:Node} {a1:Node} {r:Bool} (h:By n a0 a1=some r):Sound Tryz.prog 14 [.g (cA0 a0),.g (cA0 a1)] [] (.l (bA r)) []:=by
 unfold By at h;refine SO 148 Tryz.func14 fun cx hG (hz:cx.nb=0)=>?_;simp only[it];refine ST ?_;apply AW.seq;obtain⟨y1,g1,h⟩:=bnE h;refine zC (p:=fun gh ls=>(nP (cx:=cx) (fun q=>(⟨[(2,.l (.p 0 0)),(3,.l (.p 1 0)),(78,.l (bA q))],[some ⟨38,22,false,none,(cA0 a0)⟩,some ⟨38,22,false,none,(cA0 a1)⟩],148,gh,ls⟩:St))) y1) ?_ ?_
 ·replace h:=g1;clear g1
  obtain⟨v2,e2,h⟩:=ltE h;cases v2 with
  |true=>
   replace h:=iT h;refine AW.last (by simp[← e2];intros;rfl) ?_;obtain rfl:=oi h;exact nP_i (WM [0,1] hz)
  |false=>
   replace h:=iF h;obtain⟨v3,e3,h⟩:=ltE h;cases v3 with
   |true=>
    replace h:=iT h;refine AW.last (by simp[← e2,← e3];intros;rfl) ?_;obtain rfl:=oi h;exact nP_i (WM [0,1] hz)
   |false=>
    replace h:=iF h;obtain⟨v4,e4,h⟩:=ltE h;cases v4 with
    |true=>
     replace h:=iT h;refine AW.last (by simp[← e2,← e3,← e4];intros;rfl) ?_;obtain rfl:=oi h;exact nP_i (WM [0,1] hz)
    |false=>
     replace h:=iF h;obtain⟨v5,e5,h⟩:=ltE h;cases v5 with
     |true=>
      replace h:=iT h;refine AW.last (by simp[← e2,← e3,← e4,← e5];intros;rfl) ?_;obtain rfl:=oi h;exact nP_i (WM [0,1] hz)
     |false=>
      replace h:=iF h;obtain⟨v6,e6,h⟩:=ltE h;cases v6 with
      |true=>
       replace h:=iT h;refine AW.last (by simp[← e2,← e3,← e4,← e5,← e6];intros;rfl) ?_;obtain rfl:=oi h;exact nP_i (WM [0,1] hz)
      |false=>
       replace h:=iF h;obtain⟨v7,e7,h⟩:=ltE h;cases v7 with
       |true=>
        replace h:=iT h;refine AW.last (by simp[← e2,← e3,← e4,← e5,← e6,← e7];intros;rfl) ?_;obtain rfl:=oi h;exact nP_i (WM [0,1] hz)
       |false=>
        replace h:=iF h;obtain⟨v8,e8,h⟩:=ltE h;cases v8 with
        |true=>
         replace h:=iT h;refine AW.last (by simp[← e2,← e3,← e4,← e5,← e6,← e7,← e8];intros;rfl) ?_;obtain rfl:=oi h;exact nP_i (WM [0,1] hz)
        |false=>
         replace h:=iF h;obtain⟨v9,e9,h⟩:=ltE h;cases v9 with
         |true=>
          replace h:=iT h;refine AW.last (by simp[← e2,← e3,← e4,← e5,← e6,← e7,← e8,← e9];intros;rfl) ?_;obtain rfl:=oi h;exact nP_i (WM [0,1] hz)
         |false=>
          replace h:=iF h;obtain⟨v10,e10,v11,e11,v12,e12,h⟩:=olll h;cases v12 with
          |true=>
           replace h:=iT h;refine AW.last (by simp[← e2,← e3,← e4,← e5,← e6,← e7,← e8,← e9,Ad e10,Ad e11,← e12];intros;rfl) ?_;obtain rfl:=oi h;exact nP_i (WM [0,1] hz)
          |false=>
           replace h:=iF h;obtain⟨v13,e13,v14,e14,v15,e15,h⟩:=olll h;refine AW.last (by simp[← e2,← e3,← e4,← e5,← e6,← e7,← e8,← e9,Ad e10,Ad e11,← e12,Ad e13,Ad e14,← e15];intros;rfl) ?_;obtain rfl:=oi h;exact nP_i (WM [0,1] hz)
 ·rintro e s⟨rfl,hw⟩;refine⟨_,hw,?_⟩;try simp only[nm]
  obtain⟨v16,e16,h⟩:=ltE h;rw[← e16];cases v16 with
  |true=>
   replace h:=iT h;refine CT ?_;refine ST ?_;obtain rfl:=oi h;apply AW.ret;exact LP hz
  |false=>
   replace h:=iF h;refine CF ?_;apply AW.skip;try simp only[nm]
   apply AW.seq;refine ST ?_;apply AW.block;obtain⟨y18,g18,h⟩:=bnE h;refine zD g18 (mk:=fun gh ls q=>(⟨[(2,.l (.p 0 0)),(3,.l (.p 1 0)),(5,.l (iA q))],[some ⟨38,22,false,none,(cA0 a0)⟩,some ⟨38,22,false,none,(cA0 a1)⟩],148,gh,ls⟩:St)) (N:=fun gh ls=>(sp (xP 0 (cx:=cx) (fun _=>(⟨[(2,.l (.p 0 0)),(3,.l (.p 1 0))],[some ⟨38,22,false,none,(cA0 a0)⟩,some ⟨38,22,false,none,(cA0 a1)⟩],148,gh,ls⟩:St))) (rP (cx:=cx) (P:=Tryz.prog) Tryz.f14 (fun q=>.l (bA q)) (fun q=>[])))) ?_ (noS noX noR) ?_ ?_
   ·exact WM [0,1] hz
   ·clear h;intro y17 y19 h
    apply AW.seq;obtain⟨v20,e20,v21,e21,h⟩:=oll h;refine AW.step (by simp[Ad e20,← e21];intros;rfl) ?_;cases v21 with
    |true=>
     replace h:=iT h;refine CT ?_;apply AW.skip;try simp only[nm]
     apply AW.seq;apply AW.block;obtain⟨v22,e22,v23,e23,v24,e24,h⟩:=obbl h;apply zH (V:=[_,_,_,_,_,_,_,_,_,_]) mixed [⟨[0],[],[(2,none)],false⟩,⟨[0],[0],[(86,some 0)],false⟩,⟨[0],[],[(5,none)],false⟩,⟨[0],[0,1,2],[(87,some 1),(88,some 2)],false⟩,⟨[0],[0,1,2,3],[(89,some 3)],false⟩,⟨[0],[],[(3,none)],false⟩,⟨[0],[5],[(91,some 5)],false⟩,⟨[0],[],[(5,none)],false⟩,⟨[0],[5,6,7],[(92,some 6),(93,some 7)],false⟩,⟨[0],[5,6,7,8],[(94,some 8)],false⟩,⟨[],[0,1,2,3,4,5,6,7,8,9],[],false⟩] 10 (by kernel_rfl) (by kernel_rfl)
     ·refine⟨?_,?_,?_,?_,?_,?_,?_,?_,?_,?_,trivial⟩;iterate 10 (· intro tm hr;simp[AllL,rdV] at hr;simp[hr,Aa e22,Aa e23,← e24];intros;exact KA)
     ·rfl
     ·simp[tmD,putD,Aa e22,Aa e23,← e24];rfl
     ·simp[Aa e22,Aa e23,← e24];intros;rfl
     cases v24 with
     |true=>
      replace h:=iT h;refine CT ?_;refine ST ?_;obtain rfl:=oi h;apply AW.ret;try simp only[nm]
      refine rP_i ?_;exact LP hz
     |false=>
      replace h:=iF h;refine CF ?_;apply AW.skip;try simp only[nm]
      obtain⟨v25,e25,h⟩:=ltE h;refine AW.last (by simp[← e25];intros;rfl) ?_;obtain rfl:=oi h;exact nP_i (WM [0,1] hz)
    |false=>
     replace h:=iF h;refine CF ?_;apply AW.exit;try simp only[nm]
     obtain rfl:=oi h;try simp only[sp_l,sp_r]
     refine xP_i ?_;exact WM [0,1] hz
   ·rintro e s hp;rcases y18 with y26|y27
    ·replace h:=smL h;obtain⟨rfl,hw⟩:=hp;refine⟨_,hw,?_⟩;try simp only[nm]
     apply AW.seq;refine ST ?_;apply AW.block;obtain⟨y29,g29,h⟩:=bnE h;refine zD g29 (mk:=fun gh ls q=>(⟨[(2,.l (.p 0 0)),(3,.l (.p 1 0)),(6,.l (iA q))],[some ⟨38,22,false,none,(cA0 a0)⟩,some ⟨38,22,false,none,(cA0 a1)⟩],148,gh,ls⟩:St)) (N:=fun gh ls=>(sp (xP 2 (cx:=cx) (fun _=>(⟨[(2,.l (.p 0 0)),(3,.l (.p 1 0))],[some ⟨38,22,false,none,(cA0 a0)⟩,some ⟨38,22,false,none,(cA0 a1)⟩],148,gh,ls⟩:St))) (rP (cx:=cx) (P:=Tryz.prog) Tryz.f14 (fun q=>.l (bA q)) (fun q=>[])))) ?_ (noS noX noR) ?_ ?_
     ·exact WM [0,1] hz
     ·clear h;intro y28 y30 h
      apply AW.seq;obtain⟨v31,e31,v32,e32,h⟩:=oll h;refine AW.step (by simp[Ad e31,← e32];intros;rfl) ?_;cases v32 with
      |true=>
       replace h:=iT h;refine CT ?_;apply AW.skip;try simp only[nm]
       apply AW.seq;apply AW.block;obtain⟨v33,e33,v34,e34,v35,e35,h⟩:=obbl h;apply zH (V:=[_,_,_,_,_,_,_,_,_,_]) mixed [⟨[0],[],[(2,none)],false⟩,⟨[0],[0],[(104,some 0)],false⟩,⟨[0],[],[(6,none)],false⟩,⟨[0],[0,1,2],[(105,some 1),(106,some 2)],false⟩,⟨[0],[0,1,2,3],[(107,some 3)],false⟩,⟨[0],[],[(3,none)],false⟩,⟨[0],[5],[(109,some 5)],false⟩,⟨[0],[],[(6,none)],false⟩,⟨[0],[5,6,7],[(110,some 6),(111,some 7)],false⟩,⟨[0],[5,6,7,8],[(112,some 8)],false⟩,⟨[],[0,1,2,3,4,5,6,7,8,9],[],false⟩] 10 (by kernel_rfl) (by kernel_rfl)
       ·refine⟨?_,?_,?_,?_,?_,?_,?_,?_,?_,?_,trivial⟩;iterate 10 (· intro tm hr;simp[AllL,rdV] at hr;simp[hr,Aa e33,Aa e34,← e35];intros;exact KA)
       ·rfl
       ·simp[tmD,putD,Aa e33,Aa e34,← e35];rfl
       ·simp[Aa e33,Aa e34,← e35];intros;rfl
       cases v35 with
       |true=>
        replace h:=iT h;refine CT ?_;refine ST ?_;obtain rfl:=oi h;apply AW.ret;try simp only[nm]
        refine rP_i ?_;exact LP hz
       |false=>
        replace h:=iF h;refine CF ?_;apply AW.skip;try simp only[nm]
        obtain⟨v36,e36,h⟩:=ltE h;refine AW.last (by simp[← e36];intros;rfl) ?_;obtain rfl:=oi h;exact nP_i (WM [0,1] hz)
      |false=>
       replace h:=iF h;refine CF ?_;apply AW.exit;try simp only[nm]
       obtain rfl:=oi h;try simp only[sp_l,sp_r]
       refine xP_i ?_;exact WM [0,1] hz
     ·rintro e s hp;rcases y29 with y37|y38
      ·replace h:=smL h;obtain⟨rfl,hw⟩:=hp;refine⟨_,hw,?_⟩;try simp only[nm]
       obtain⟨y39,g39,h⟩:=bnE h;refine zC (p:=fun gh ls=>(nP (cx:=cx) (fun q=>(⟨[(4,.l (bA q))],[],148,gh,ls⟩:St))) y39) ?_ ?_
       ·replace h:=g39;clear g39
        obtain⟨v40,e40,h⟩:=bnE h;cases v40 with
        |true=>
         replace h:=iT h;obtain⟨v41,e41,h⟩:=bnE h;cases v41 with
         |true=>
          replace h:=iT h;obtain⟨v42,e42,h⟩:=bnE h;cases v42 with
          |true=>
           replace h:=iT h;obtain⟨v43,e43,h⟩:=bnE h;cases v43 with
           |true=>
            replace h:=iT h;obtain⟨v44,e44,h⟩:=bnE h;apply AW.last
            ·simp;intros;refine Ab Bl (Bq e40) rfl ⟨.same rfl,.same rfl,trivial⟩ ?_;try simp
             intros;refine Ab D0 (Eq e41) rfl ⟨.same rfl,.same rfl,trivial⟩ ?_;try simp
             intros;refine Ab Fu (FJ e42) rfl ⟨.same rfl,.same rfl,trivial⟩ ?_;try simp
             intros;refine Ab GH (GW e43) rfl ⟨.same rfl,.same rfl,trivial⟩ ?_;try simp
             intros;refine Ab Er (Fb e44) rfl ⟨.same rfl,.same rfl,trivial⟩ ?_;try simp
             intros;rfl
            obtain rfl:=oi h;exact nP_i (WM [] hz)
           |false=>
            replace h:=iF h;apply AW.last
            ·simp;intros;refine Ab Bl (Bq e40) rfl ⟨.same rfl,.same rfl,trivial⟩ ?_;try simp
             intros;refine Ab D0 (Eq e41) rfl ⟨.same rfl,.same rfl,trivial⟩ ?_;try simp
             intros;refine Ab Fu (FJ e42) rfl ⟨.same rfl,.same rfl,trivial⟩ ?_;try simp
             intros;refine Ab GH (GW e43) rfl ⟨.same rfl,.same rfl,trivial⟩ ?_;try simp
             intros;rfl
            obtain rfl:=oi h;exact nP_i (WM [] hz)
          |false=>
           replace h:=iF h;apply AW.last
           ·simp;intros;refine Ab Bl (Bq e40) rfl ⟨.same rfl,.same rfl,trivial⟩ ?_;try simp
            intros;refine Ab D0 (Eq e41) rfl ⟨.same rfl,.same rfl,trivial⟩ ?_;try simp
            intros;refine Ab Fu (FJ e42) rfl ⟨.same rfl,.same rfl,trivial⟩ ?_;try simp
            intros;rfl
           obtain rfl:=oi h;exact nP_i (WM [] hz)
         |false=>
          replace h:=iF h;apply AW.last
          ·simp;intros;refine Ab Bl (Bq e40) rfl ⟨.same rfl,.same rfl,trivial⟩ ?_;try simp
           intros;refine Ab D0 (Eq e41) rfl ⟨.same rfl,.same rfl,trivial⟩ ?_;try simp
           intros;rfl
          obtain rfl:=oi h;exact nP_i (WM [] hz)
        |false=>
         replace h:=iF h;apply AW.last
         ·simp;intros;refine Ab Bl (Bq e40) rfl ⟨.same rfl,.same rfl,trivial⟩ ?_;try simp
          intros;rfl
         obtain rfl:=oi h;exact nP_i (WM [] hz)
       ·rintro e s⟨rfl,hw⟩;refine⟨_,hw,?_⟩;try simp only[nm]
        obtain rfl:=oi h;apply AW.ret;exact LP hz
      ·replace h:=smR h;obtain⟨rfl,hl⟩:=hp;refine⟨_,Weak.refl _,?_⟩;obtain rfl:=oi h;exact hl
    ·replace h:=smR h;obtain⟨rfl,hl⟩:=hp;refine⟨_,Weak.refl _,?_⟩;obtain rfl:=oi h;exact hl
theorem BQ:Enters Tryz.prog 14:=enters Tryz.func14 (by kernel_rfl) rfl
end Go.Proofs.YtlbdhlbbkibgpaaGreat
