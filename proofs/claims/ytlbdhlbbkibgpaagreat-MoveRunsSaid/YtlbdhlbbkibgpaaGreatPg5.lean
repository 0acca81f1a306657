/- Part 5 of the proof. -/
import Derived.Test.YtlbdhlbbkibgpaaGreatPg4
set_option linter.unusedVariables false
set_option linter.unusedSimpArgs false
set_option linter.constructorNameAsVariable false
set_option maxRecDepth 8000
set_option maxHeartbeats 8000000
namespace Go.Proofs.YtlbdhlbbkibgpaaGreat
open Go Go.RowKit
def Dp (n:Nat) (a0:List Move):Option (List Move) :=
chk (room a0.length 40) <|
some a0
theorem Jc {n:Nat} {a0:List Move} {r:List Move} (h:Dp n a0=some r):Sound Tryz.prog 56 [.l (dI a0)] [] (.l (.r 0 4 0 r.length)) [some ⟨92,4,true,none,lvs (Am r)⟩]:=by
 unfold Dp at h;refine SO 6 Tryz.func56 fun cx hG (hz:cx.nb=0)=>?_;simp only[it];refine ST ?_;obtain⟨e1,h⟩:=chkE h;apply AW.step
 ·simp;intros;refine Ax ?_;try simp
  intros;refine AD (acc:=[]) (ys:=Am a0) (cap:=none) (k:=a0.length) Cm Cw (by simp) (by rw[Ek];simp) (by simp) (by simp) (by simp) (by first|(simp;done)|simpa using (Aw e1).1) ?_;try simp
  intros;rfl
 obtain rfl:=oi h;apply AW.ret;refine Left.of (av:=_) (by simp[Tryz.f56,resV,resC,comp];rfl) ?_;exact zJ 0 [some 1] hz rfl (by decide) rfl (by simp[pickOb,Ae,Af]) (by simp[Ae,Af])
theorem Iw:Enters Tryz.prog 56:=enters Tryz.func56 (by kernel_rfl) rfl
def Dq (n:Nat) (a0:Node) (a1:Int) (a2:Int):Option R13Moved :=
bn (lt (ltI a1 0) fun v2 =>
ite' v2 (some (true)) (lt (geI a1 16384) fun v3 =>
ite' v3 (some (true)) (lt (ltI a2 0) fun v4 =>
ite' v4 (some (true)) (lt (geI a2 a0.count) fun v5 =>
ite' v5 (some (true)) (lt (eqI a2 a0.id) fun v6 =>
some (v6)))))) fun (y1:Bool) =>
lt (y1) fun v7 =>
ite' v7 (some (⟨a0,[],1⟩:R13Moved)) (bn (Dw n a0.claims a1) fun v8 =>
bn (lt (neI a0.master (-1)) fun v10 =>
ite' v10 (some (true)) (lt (neI v8.1 a0.id) fun v11 =>
some (v11))) fun (y9:Bool) =>
lt (y9) fun v12 =>
ite' v12 (some (⟨a0,[],9⟩:R13Moved)) (bn (iter n (fun (y13:Int) =>
bn (lt (lenI a0.moves) fun v17 =>
lt (ltI y13 v17) fun v18 =>
ite' v18 (bn (nth a0.moves y13) fun v19 =>
lt (ltI v19.slot a1) fun v20 =>
some (v20)) (some (false))) fun (y16:Bool) =>
lt (y16) fun v21 =>
ite' v21 (lt (addI .i64 y13 1) fun v22 =>
some (.inl v22)) (some (.inr y13))) 0) fun (y14:Int) =>
bn (lt (lenI a0.moves) fun v24 =>
lt (ltI y14 v24) fun v25 =>
ite' v25 (bn (nth a0.moves y14) fun v26 =>
lt (eqI v26.slot a1) fun v27 =>
some (v27)) (some (false))) fun (y23:Bool) =>
lt (y23) fun v28 =>
ite' v28 (some (⟨a0,[],3⟩:R13Moved)) (bn (segh a0.moves y14) fun v29 =>
bn (Dp n v29) fun v31 =>
chk (room (v31.length+1) 40) <|
lt (v31++[(⟨a1,a2,0,⟨#[]⟩⟩:Move)]) fun v33 =>
bn (segl a0.moves y14) fun v34 =>
chk (room (v33.length+v34.length) 40) <|
lt (v33++v34) fun v37 =>
chk (room v37.length 1) <|
some (⟨(⟨a0.count,a0.id,a0.master,a0.epoch,a0.voted,a0.claims,a0.db,v37,a0.last,a0.seen,a0.feed,a0.watch,a0.asked,a0.votes,a0.wait⟩:Node),[],0⟩:R13Moved))))
theorem Jd {n:Nat} {a0:Node} {a1:Int} {a2:Int} {r:R13Moved} (h:Dq n a0 a1 a2=some r):Sound Tryz.prog 19 [.g (cA0 a0),.l (iA a1),.l (iA a2)] [] (.g (cG0 r)) []:=by
 unfold Dq at h;refine SO 107 Tryz.func19 fun cx hG (hz:cx.nb=0)=>?_;simp only[it];refine ST ?_;apply AW.seq;obtain⟨y1,g1,h⟩:=bnE h;refine zC (p:=fun gh ls=>(nP (cx:=cx) (fun q=>(⟨[(1,.l (iA a1)),(2,.l (iA a2)),(3,.l (.p 0 0)),(6,.l (.p 1 0)),(32,.l (bA q))],[some ⟨38,22,false,none,(cA0 a0)⟩,some ⟨67,24,false,none,cD0⟩],107,gh,ls⟩:St))) y1) ?_ ?_
 ·replace h:=g1;clear g1
  obtain⟨v2,e2,h⟩:=ltE h;cases v2 with
  |true=>
   replace h:=iT h;refine AW.last (by simp[← e2];intros;rfl) ?_;obtain rfl:=oi h;exact nP_i (WM [0,1] hz)
  |false=>
   replace h:=iF h;obtain⟨v3,e3,h⟩:=ltE h;cases v3 with
   |true=>
    replace h:=iT h;refine AW.last (by simp[← e2,← e3];intros;rfl) ?_;obtain rfl:=oi h;exact nP_i (WM [0,1] hz)
   |false=>
    replace h:=iF h;obtain⟨v4,e4,h⟩:=ltE h;cases v4 with
    |true=>
     replace h:=iT h;refine AW.last (by simp[← e2,← e3,← e4];intros;rfl) ?_;obtain rfl:=oi h;exact nP_i (WM [0,1] hz)
    |false=>
     replace h:=iF h;obtain⟨v5,e5,h⟩:=ltE h;cases v5 with
     |true=>
      replace h:=iT h;refine AW.last (by simp[← e2,← e3,← e4,← e5];intros;rfl) ?_;obtain rfl:=oi h;exact nP_i (WM [0,1] hz)
     |false=>
      replace h:=iF h;obtain⟨v6,e6,h⟩:=ltE h;refine AW.last (by simp[← e2,← e3,← e4,← e5,← e6];intros;rfl) ?_;obtain rfl:=oi h;exact nP_i (WM [0,1] hz)
 ·rintro e s⟨rfl,hw⟩;refine⟨_,hw,?_⟩;try simp only[nm]
  obtain⟨v7,e7,h⟩:=ltE h;rw[← e7];cases v7 with
  |true=>
   replace h:=iT h;refine CT ?_;refine ST ?_;refine AW.nilCellD 1 22 15 rfl rfl rfl rfl ?_;obtain rfl:=oi h;apply AW.ret;exact LP hz
  |false=>
   replace h:=iF h;refine CF ?_;apply AW.skip;try simp only[nm]
   obtain⟨v8,e8,h⟩:=bnE h;apply AW.step
   ·simp;intros;refine Ab Lc (Mx e8) rfl ⟨.same rfl,.same rfl,trivial⟩ ?_;try simp
    intros;rfl
   apply AW.seq;obtain⟨y9,g9,h⟩:=bnE h;refine zC (p:=fun gh ls=>(nP (cx:=cx) (fun q=>(⟨[(1,.l (iA a1)),(2,.l (iA a2)),(3,.l (.p 0 0)),(6,.l (.p 1 0)),(50,.l (bA q))],[some ⟨38,22,false,none,(cA0 a0)⟩,some ⟨67,24,false,none,cD0⟩],107,gh,ls⟩:St))) y9) ?_ ?_
   ·replace h:=g9;clear g9
    obtain⟨v10,e10,h⟩:=ltE h;cases v10 with
    |true=>
     replace h:=iT h;refine AW.last (by simp[← e10];intros;rfl) ?_;obtain rfl:=oi h;exact nP_i (WM [0,1] hz)
    |false=>
     replace h:=iF h;obtain⟨v11,e11,h⟩:=ltE h;refine AW.last (by simp[← e10,← e11];intros;rfl) ?_;obtain rfl:=oi h;exact nP_i (WM [0,1] hz)
   ·rintro e s⟨rfl,hw⟩;refine⟨_,hw,?_⟩;try simp only[nm]
    obtain⟨v12,e12,h⟩:=ltE h;rw[← e12];cases v12 with
    |true=>
     replace h:=iT h;refine CT ?_;refine ST ?_;refine AW.nilCellD 1 22 15 rfl rfl rfl rfl ?_;obtain rfl:=oi h;apply AW.ret;exact LP hz
    |false=>
     replace h:=iF h;refine CF ?_;apply AW.skip;try simp only[nm]
     refine ST ?_;apply AW.seq;apply AW.block;obtain⟨y14,g14,h⟩:=bnE h;refine zD g14 (mk:=fun gh ls q=>(⟨[(1,.l (iA a1)),(2,.l (iA a2)),(3,.l (.p 0 0)),(6,.l (.p 1 0)),(9,.l (iA q))],[some ⟨38,22,false,none,(cA0 a0)⟩,some ⟨67,24,false,none,cD0⟩],107,gh,ls⟩:St)) (N:=fun gh ls=>(xP 0 (cx:=cx) (fun q=>(⟨[(1,.l (iA a1)),(2,.l (iA a2)),(3,.l (.p 0 0)),(6,.l (.p 1 0)),(9,.l (iA q))],[some ⟨38,22,false,none,(cA0 a0)⟩,some ⟨67,24,false,none,cD0⟩],107,gh,ls⟩:St)))) ?_ noX ?_ ?_
     ·exact WM [0,1] hz
     ·clear h;intro y13 y15 h
      apply AW.seq;obtain⟨y16,g16,h⟩:=bnE h;refine zC (p:=fun gh ls=>(nP (cx:=cx) (fun q=>(⟨[(1,.l (iA a1)),(2,.l (iA a2)),(3,.l (.p 0 0)),(6,.l (.p 1 0)),(9,.l (iA y13)),(67,.l (bA q))],[some ⟨38,22,false,none,(cA0 a0)⟩,some ⟨67,24,false,none,cD0⟩],107,gh,ls⟩:St))) y16) ?_ ?_
      ·replace h:=g16;clear g16
       obtain⟨v17,e17,v18,e18,h⟩:=oll h;cases v18 with
       |true=>
        replace h:=iT h;obtain⟨v19,e19,v20,e20,h⟩:=obl h;refine AW.last (by simp[Ad e17,← e18,Aa e19,← e20];intros;rfl) ?_;obtain rfl:=oi h;exact nP_i (WM [0,1] hz)
       |false=>
        replace h:=iF h;refine AW.last (by simp[Ad e17,← e18];intros;rfl) ?_;obtain rfl:=oi h;exact nP_i (WM [0,1] hz)
      ·rintro e s⟨rfl,hw⟩;refine⟨_,hw,?_⟩;try simp only[nm]
       obtain⟨v21,e21,h⟩:=ltE h;rw[← e21];cases v21 with
       |true=>
        replace h:=iT h;refine CT ?_;apply AW.skip;try simp only[nm]
        apply AW.block;obtain⟨v22,e22,h⟩:=ltE h;refine AW.last (by simp[← e22];intros;rfl) ?_;obtain rfl:=oi h;exact nP_i (WM [0,1] hz)
       |false=>
        replace h:=iF h;refine CF ?_;apply AW.exit;try simp only[nm]
        obtain rfl:=oi h;refine xP_i ?_;exact WM [0,1] hz
     ·rintro e s⟨rfl,hw⟩;refine⟨_,hw,?_⟩;try simp only[nm]
      apply AW.seq;obtain⟨y23,g23,h⟩:=bnE h;refine zC (p:=fun gh ls=>(nP (cx:=cx) (fun q=>(⟨[(1,.l (iA a1)),(2,.l (iA a2)),(3,.l (.p 0 0)),(6,.l (.p 1 0)),(9,.l (iA y14)),(84,.l (bA q))],[some ⟨38,22,false,none,(cA0 a0)⟩,some ⟨67,24,false,none,cD0⟩],107,gh,ls⟩:St))) y23) ?_ ?_
      ·replace h:=g23;clear g23
       obtain⟨v24,e24,v25,e25,h⟩:=oll h;cases v25 with
       |true=>
        replace h:=iT h;obtain⟨v26,e26,v27,e27,h⟩:=obl h;refine AW.last (by simp[Ad e24,← e25,Aa e26,← e27];intros;rfl) ?_;obtain rfl:=oi h;exact nP_i (WM [0,1] hz)
       |false=>
        replace h:=iF h;refine AW.last (by simp[Ad e24,← e25];intros;rfl) ?_;obtain rfl:=oi h;exact nP_i (WM [0,1] hz)
      ·rintro e s⟨rfl,hw⟩;refine⟨_,hw,?_⟩;try simp only[nm]
       obtain⟨v28,e28,h⟩:=ltE h;rw[← e28];cases v28 with
       |true=>
        replace h:=iT h;refine CT ?_;refine ST ?_;refine AW.nilCellD 1 22 15 rfl rfl rfl rfl ?_;obtain rfl:=oi h;apply AW.ret;exact LP hz
       |false=>
        replace h:=iF h;refine CF ?_;apply AW.skip;try simp only[nm]
        obtain⟨v29,e29,h⟩:=bnE h;have f30:=Mn e29;try simp at f30
        obtain⟨v31,e31,h⟩:=bnE h;apply AW.step
        ·simp[f30,outR];intros;refine AS Iw (Jc e31) rfl (by simp) ⟨.same rfl,trivial⟩ ?_;try simp[f30,outR]
         intros;rfl
        obtain⟨e32,v33,e33,h⟩:=ocl h;apply AW.step
        ·simp[← A8,← e33,Ar e33];intros;refine Ax ?_;try simp[← A8,← e33,Ar e33]
         intros;refine AD (acc:=Am v31) (ys:=Am [(⟨a1,a2,0,⟨#[]⟩⟩:Move)]) (cap:=none) (k:=1) Cm Cw (by simp) (by simp[Am,lvs]) (AB _) (by simp) (by simp) (by first|(simp;done)|simpa using (Aw e32).1) ?_;try simp[← A8,← e33,Ar e33]
         intros;rfl
        obtain⟨v34,e34,h⟩:=bnE h;have f35:=Mm e34;try simp at f35
        obtain⟨e36,v37,e37,h⟩:=ocl h;apply AW.step
        ·simp[f35,← A8,← e37,Cn e37];intros;refine AD (acc:=Am v33) (ys:=Am v34) (cap:=none) (k:=v34.length) Cm Cw (by simp) (by rw[Ek];simp) (AB _) (by simp) (by simp) (by first|(simp;done)|simpa using (Aw e36).1) ?_;try simp[f35,← A8,← e37,Cn e37]
         intros;rfl
        refine ST ?_;obtain⟨e38,h⟩:=chkE h;refine FZ 5 92 4 (AB v37) e38 ?_;refine AW.nilCellD 1 22 15 rfl rfl rfl rfl ?_;obtain rfl:=oi h;apply AW.ret;exact LP hz
theorem Ix:Enters Tryz.prog 19:=enters Tryz.func19 (by kernel_rfl) rfl
def Ce (n:Nat) (a0:List Int) (a1:Int):Option (List Int) :=
lt (lenI a0) fun v1 =>
bn (iter n (fun (y2:Int) =>
bn (lt (gtI y2 0) fun v6 =>
ite' v6 (lt (subI .i64 y2 1) fun v7 =>
bn (nth a0 v7) fun v8 =>
lt (geI v8 a1) fun v9 =>
some (v9)) (some (false))) fun (y5:Bool) =>
lt (y5) fun v10 =>
ite' v10 (lt (subI .i64 y2 1) fun v11 =>
some (.inl v11)) (some (.inr y2))) v1) fun (y3:Int) =>
bn (lt (ltI a1 0) fun v13 =>
ite' v13 (some (true)) (lt (gtI a1 16384) fun v14 =>
ite' v14 (some (true)) (lt (lenI a0) fun v15 =>
lt (ltI y3 v15) fun v16 =>
ite' v16 (bn (nth a0 y3) fun v17 =>
lt (eqI v17 a1) fun v18 =>
some (v18)) (some (false))))) fun (y12:Bool) =>
lt (y12) fun v19 =>
ite' v19 (some a0) (bn (segh a0 y3) fun v20 =>
chk (room v20.length 8) <|
chk (room (v20.length+1) 8) <|
lt (v20++[a1]) fun v24 =>
bn (segl a0 y3) fun v25 =>
chk (room (v24.length+v25.length) 8) <|
lt (v24++v25) fun v28 =>
chk (room v28.length 1) <|
some v28)
theorem Fc {n:Nat} {a0:List Int} {a1:Int} {r:List Int} (h:Ce n a0 a1=some r):Sound Tryz.prog 93 [.l (dC a0),.l (iA a1)] [] (.l (dC r)) []:=by
 unfold Ce at h;refine SO 57 Tryz.func93 fun cx hG (hz:cx.nb=0)=>?_;simp only[it];refine ST ?_;obtain⟨v1,e1,h⟩:=ltE h;refine AW.step (by simp[Ad e1];intros;rfl) ?_;apply AW.seq;apply AW.block;obtain⟨y3,g3,h⟩:=bnE h;refine zD g3 (mk:=fun gh ls q=>(⟨[(0,.l (dC a0)),(1,.l (iA a1)),(5,.l (iA q))],[],57,gh,ls⟩:St)) (N:=fun gh ls=>(xP 0 (cx:=cx) (fun q=>(⟨[(0,.l (dC a0)),(1,.l (iA a1)),(5,.l (iA q))],[],57,gh,ls⟩:St)))) ?_ noX ?_ ?_
 ·exact WM [] hz
 ·clear h;intro y2 y4 h
  apply AW.seq;obtain⟨y5,g5,h⟩:=bnE h;refine zC (p:=fun gh ls=>(nP (cx:=cx) (fun q=>(⟨[(0,.l (dC a0)),(1,.l (iA a1)),(5,.l (iA y2)),(19,.l (bA q))],[],57,gh,ls⟩:St))) y5) ?_ ?_
  ·replace h:=g5;clear g5
   obtain⟨v6,e6,h⟩:=ltE h;cases v6 with
   |true=>
    replace h:=iT h;obtain⟨v7,e7,v8,e8,h⟩:=olb h;obtain⟨v9,e9,h⟩:=ltE h;refine AW.last (by simp[← e6,← e7,Aa e8,← e9];intros;rfl) ?_;obtain rfl:=oi h;exact nP_i (WM [] hz)
   |false=>
    replace h:=iF h;refine AW.last (by simp[← e6];intros;rfl) ?_;obtain rfl:=oi h;exact nP_i (WM [] hz)
  ·rintro e s⟨rfl,hw⟩;refine⟨_,hw,?_⟩;try simp only[nm]
   obtain⟨v10,e10,h⟩:=ltE h;rw[← e10];cases v10 with
   |true=>
    replace h:=iT h;refine CT ?_;apply AW.skip;try simp only[nm]
    apply AW.block;obtain⟨v11,e11,h⟩:=ltE h;refine AW.last (by simp[← e11];intros;rfl) ?_;obtain rfl:=oi h;exact nP_i (WM [] hz)
   |false=>
    replace h:=iF h;refine CF ?_;apply AW.exit;try simp only[nm]
    obtain rfl:=oi h;refine xP_i ?_;exact WM [] hz
 ·rintro e s⟨rfl,hw⟩;refine⟨_,hw,?_⟩;try simp only[nm]
  apply AW.seq;obtain⟨y12,g12,h⟩:=bnE h;refine zC (p:=fun gh ls=>(nP (cx:=cx) (fun q=>(⟨[(0,.l (dC a0)),(1,.l (iA a1)),(5,.l (iA y3)),(41,.l (bA q))],[],57,gh,ls⟩:St))) y12) ?_ ?_
  ·replace h:=g12;clear g12
   obtain⟨v13,e13,h⟩:=ltE h;cases v13 with
   |true=>
    replace h:=iT h;refine AW.last (by simp[← e13];intros;rfl) ?_;obtain rfl:=oi h;exact nP_i (WM [] hz)
   |false=>
    replace h:=iF h;obtain⟨v14,e14,h⟩:=ltE h;cases v14 with
    |true=>
     replace h:=iT h;refine AW.last (by simp[← e13,← e14];intros;rfl) ?_;obtain rfl:=oi h;exact nP_i (WM [] hz)
    |false=>
     replace h:=iF h;obtain⟨v15,e15,v16,e16,h⟩:=oll h;cases v16 with
     |true=>
      replace h:=iT h;obtain⟨v17,e17,v18,e18,h⟩:=obl h;refine AW.last (by simp[← e13,← e14,Ad e15,← e16,Aa e17,← e18];intros;rfl) ?_;obtain rfl:=oi h;exact nP_i (WM [] hz)
     |false=>
      replace h:=iF h;refine AW.last (by simp[← e13,← e14,Ad e15,← e16];intros;rfl) ?_;obtain rfl:=oi h;exact nP_i (WM [] hz)
  ·rintro e s⟨rfl,hw⟩;refine⟨_,hw,?_⟩;try simp only[nm]
   obtain⟨v19,e19,h⟩:=ltE h;rw[← e19];cases v19 with
   |true=>
    replace h:=iT h;refine CT ?_;refine ST ?_;obtain rfl:=oi h;apply AW.ret;exact LP hz
   |false=>
    replace h:=iF h;refine CF ?_;apply AW.skip;try simp only[nm]
    obtain⟨v20,e20,h⟩:=bnE h;have f21:=PC e20;try simp at f21
    obtain⟨e22,h⟩:=chkE h;apply AW.step
    ·simp[f21];intros;refine Ax ?_;try simp[f21]
     intros;refine AD (acc:=[]) (ys:=encI v20) (cap:=none) (k:=v20.length) Hh Ig (by simp) (by rw[Ek];simp) (by simp) (by simp) (by simp) (by first|(simp;done)|simpa using (Aw e22).1) ?_;try simp[f21]
     intros;rfl
    obtain⟨e23,v24,e24,h⟩:=ocl h;apply AW.step
    ·simp[← Ez,← e24,Ar e24];intros;refine Ax ?_;try simp[← Ez,← e24,Ar e24]
     intros;refine AD (acc:=encI v20) (ys:=encI [a1]) (cap:=none) (k:=1) Hh Ig (by simp) (by simp[encI,lvs]) (El _) (by simp) (by simp) (by first|(simp;done)|simpa using (Aw e23).1) ?_;try simp[← Ez,← e24,Ar e24]
     intros;rfl
    obtain⟨v25,e25,h⟩:=bnE h;have f26:=PB e25;try simp at f26
    obtain⟨e27,v28,e28,h⟩:=ocl h;apply AW.step
    ·simp[f26,← Ez,← e28,Cn e28];intros;refine AD (acc:=encI v24) (ys:=encI v25) (cap:=none) (k:=v25.length) Hh Ig (by simp) (by rw[Ek];simp) (El _) (by simp) (by simp) (by first|(simp;done)|simpa using (Aw e27).1) ?_;try simp[f26,← Ez,← e28,Cn e28]
     intros;rfl
    obtain⟨e29,h⟩:=chkE h;refine FZ 4 3 1 (El v28) e29 ?_;obtain rfl:=oi h;apply AW.ret;exact LP hz
theorem Es:Enters Tryz.prog 93:=enters Tryz.func93 (by kernel_rfl) rfl
def EO (n:Nat) (a0:List Span) (a1:List Span):Option (List Int) :=
chk (room 2 1) <|
bn (iter n (fun (y1:List Int×Int) =>
lt (lenI a0) fun v5 =>
lt (lenI a1) fun v6 =>
lt (addI .i64 v5 v6) fun v7 =>
lt (ltI y1.2 v7) fun v8 =>
ite' v8 (bn (bn (lt (ltI y1.2 v5) fun v11 =>
ite' v11 (bn (nth a0 y1.2) fun v12 =>
some (v12)) (lt (subI .i64 y1.2 v5) fun v13 =>
bn (nth a1 v13) fun v14 =>
some (v14))) fun (y10:Span) =>
bn (lt (leI y10.frm y10.to) fun v16 =>
ite' v16 (bn (Ce n y1.1 y10.frm) fun v17 =>
some (v17)) (some (y1.1))) fun (y15:List Int) =>
bn (lt (leI y10.frm y10.to) fun v19 =>
ite' v19 (lt (ltI y10.to 16384) fun v20 =>
some (v20)) (some (false))) fun (y18:Bool) =>
lt (y18) fun v21 =>
ite' v21 (lt (addI .i64 y10.to 1) fun v22 =>
bn (Ce n y15 v22) fun v23 =>
some (v23)) (some (y15))) fun (y9:List Int) =>
lt (addI .i64 y1.2 1) fun v24 =>
some (.inl (y9,v24))) (some (.inr y1.1))) ([0,16384],0)) fun (y2:List Int) =>
some y2
theorem OY {n:Nat} {a0:List Span} {a1:List Span} {r:List Int} (h:EO n a0 a1=some r):Sound Tryz.prog 140 [.l (dJ a0),.l (dG a1)] [] (.l (dC r)) []:=by
 unfold EO at h;refine SO 59 Tryz.func140 fun cx hG (hz:cx.nb=0)=>?_;simp only[it];refine ST ?_;apply AW.step
 ·simp;intros;refine Ax ?_;try simp
  intros;rfl
 apply AW.seq;refine ST ?_;apply AW.block;obtain⟨e3,h⟩:=chkE h;obtain⟨y2,g2,h⟩:=bnE h;refine zD g2 (mk:=fun gh ls q=>(⟨[(0,.l (dJ a0)),(1,.l (dG a1)),(5,.l (dC q.1)),(6,.l (iA q.2))],[],59,gh,ls⟩:St)) (N:=fun gh ls=>(xP 0 (cx:=cx) (fun q=>(⟨[(5,.l (dC q))],[],59,gh,ls⟩:St)))) ?_ noX ?_ ?_
 ·refine W.frzRow 0 (ty:=3) (cap:=none) (sz:=1) (es:=encI [0,16384]) (by simp[encI,lvs]) (by omega) (El _) (by first|exact (Aw e3).2|simpa using (Aw e3).2|simp) (by simp[Tm.frz,AV.frz,LV.frz,(show List.take 2 (encI [0,16384])=encI [0,16384] from rfl)];rfl) (by simp[Ob.frz,LV.frz,(show List.take 2 (encI [0,16384])=encI [0,16384] from rfl)];rfl) rfl ?_;exact WM [] hz
 ·clear h;intro y1 y4 h
  apply AW.seq;obtain⟨v5,e5,v6,e6,v7,e7,h⟩:=olll h;obtain⟨v8,e8,h⟩:=ltE h;refine AW.step (by simp[Ad e5,Ad e6,← e7,← e8];intros;rfl) ?_;cases v8 with
  |true=>
   replace h:=iT h;refine CT ?_;apply AW.skip;try simp only[nm]
   obtain⟨y9,g9,h⟩:=bnE h;refine zC (p:=fun gh ls=>(nP (cx:=cx) (fun q=>(⟨[(0,.l (dJ a0)),(1,.l (dG a1)),(5,.l (dC q)),(6,.l (iA y1.2))],[],59,gh,ls⟩:St))) y9) ?_ ?_
   ·replace h:=g9;clear g9
    apply AW.block;refine ST ?_;obtain⟨y10,g10,h⟩:=bnE h;refine zC (p:=fun gh ls=>(nP (cx:=cx) (fun q=>(⟨[(0,.l (dJ a0)),(1,.l (dG a1)),(5,.l (dC y1.1)),(6,.l (iA y1.2)),(7,.l (.p 0 0))],[some ⟨120,2,false,none,[iA q.frm,iA q.to]⟩],59,gh,ls⟩:St))) y10) ?_ ?_
    ·replace h:=g10;clear g10
     obtain⟨v11,e11,h⟩:=ltE h;refine AW.step (by simp[Ad e5,← e11];intros;rfl) ?_;cases v11 with
     |true=>
      replace h:=iT h;refine CT ?_;obtain⟨v12,e12,h⟩:=bnE h;refine AW.last (by simp[Aa e12];intros;rfl) ?_;obtain rfl:=oi h;exact nP_i (WM [0] hz)
     |false=>
      replace h:=iF h;refine CF ?_;obtain⟨v13,e13,v14,e14,h⟩:=olb h;refine AW.last (by simp[Ad e5,← e13,Aa e14];intros;rfl) ?_;obtain rfl:=oi h;exact nP_i (WM [0] hz)
    ·rintro e s⟨rfl,hw⟩;refine⟨_,hw,?_⟩;try simp only[nm]
     obtain⟨y15,g15,h⟩:=bnE h;refine zC (p:=fun gh ls=>(nP (cx:=cx) (fun q=>(⟨[(0,.l (dJ a0)),(1,.l (dG a1)),(5,.l (dC q)),(6,.l (iA y1.2)),(7,.l (.p 0 0))],[some ⟨120,2,false,none,[iA y10.frm,iA y10.to]⟩],59,gh,ls⟩:St))) y15) ?_ ?_
     ·replace h:=g15;clear g15
      obtain⟨v16,e16,h⟩:=ltE h;refine AW.step (by simp[← e16];intros;rfl) ?_;cases v16 with
      |true=>
       replace h:=iT h;refine CT ?_;obtain⟨v17,e17,h⟩:=bnE h;apply AW.last
       ·simp;intros;refine Ab Es (Fc e17) rfl ⟨.same rfl,.same rfl,trivial⟩ ?_;try simp
        intros;rfl
       obtain rfl:=oi h;exact nP_i (WM [0] hz)
      |false=>
       replace h:=iF h;refine CF ?_;apply AW.skip;try simp only[nm]
       obtain rfl:=oi h;exact nP_i (WM [0] hz)
     ·rintro e s⟨rfl,hw⟩;refine⟨_,hw,?_⟩;try simp only[nm]
      obtain⟨y18,g18,h⟩:=bnE h;refine zC (p:=fun gh ls=>(nP (cx:=cx) (fun q=>(⟨[(0,.l (dJ a0)),(1,.l (dG a1)),(5,.l (dC y15)),(6,.l (iA y1.2)),(7,.l (.p 0 0)),(52,.l (bA q))],[some ⟨120,2,false,none,[iA y10.frm,iA y10.to]⟩],59,gh,ls⟩:St))) y18) ?_ ?_
      ·replace h:=g18;clear g18
       obtain⟨v19,e19,h⟩:=ltE h;cases v19 with
       |true=>
        replace h:=iT h;obtain⟨v20,e20,h⟩:=ltE h;refine AW.last (by simp[← e19,← e20];intros;rfl) ?_;obtain rfl:=oi h;exact nP_i (WM [0] hz)
       |false=>
        replace h:=iF h;refine AW.last (by simp[← e19];intros;rfl) ?_;obtain rfl:=oi h;exact nP_i (WM [0] hz)
      ·rintro e s⟨rfl,hw⟩;refine⟨_,hw,?_⟩;try simp only[nm]
       obtain⟨v21,e21,h⟩:=ltE h;rw[← e21];cases v21 with
       |true=>
        replace h:=iT h;refine CT ?_;obtain⟨v22,e22,v23,e23,h⟩:=olb h;apply AW.last
        ·simp[← e22];intros;refine Ab Es (Fc e23) rfl ⟨.same rfl,.same rfl,trivial⟩ ?_;try simp[← e22]
         intros;rfl
        obtain rfl:=oi h;exact nP_i (WM [] hz)
       |false=>
        replace h:=iF h;refine CF ?_;apply AW.skip;try simp only[nm]
        obtain rfl:=oi h;exact nP_i (WM [] hz)
   ·rintro e s⟨rfl,hw⟩;refine⟨_,hw,?_⟩;try simp only[nm]
    obtain⟨v24,e24,h⟩:=ltE h;refine AW.last (by simp[← e24];intros;rfl) ?_;obtain rfl:=oi h;exact nP_i (WM [] hz)
  |false=>
   replace h:=iF h;refine CF ?_;apply AW.exit;try simp only[nm]
   obtain rfl:=oi h;refine xP_i ?_;exact WM [] hz
 ·rintro e s⟨rfl,hw⟩;refine⟨_,hw,?_⟩;try simp only[nm]
  refine ST ?_;obtain rfl:=oi h;apply AW.ret;exact LP hz
theorem NB:Enters Tryz.prog 140:=enters Tryz.func140 (by kernel_rfl) rfl
def F3 (n:Nat) (a0:List Span) (a1:Int):Option Bool :=
bn (iter n (fun (y1:Int) =>
lt (lenI a0) fun v4 =>
lt (ltI y1 v4) fun v5 =>
ite' v5 (bn (lt (geI a1 0) fun v7 =>
ite' v7 (lt (ltI a1 16384) fun v8 =>
ite' v8 (bn (nth a0 y1) fun v9 =>
lt (leI v9.frm a1) fun v10 =>
ite' v10 (lt (leI a1 v9.to) fun v11 =>
some (v11)) (some (false))) (some (false))) (some (false))) fun (y6:Bool) =>
lt (y6) fun v12 =>
ite' v12 (some (.inr (.inr true))) (lt (addI .i64 y1 1) fun v13 =>
some (.inl v13))) (some (.inr (.inl ())))) 0) fun (y2:Unit ⊕ Bool) =>
sm y2 (fun y14=>some false) (fun y15=>some y15)
theorem QV {n:Nat} {a0:List Span} {a1:Int} {r:Bool} (h:F3 n a0 a1=some r):Sound Tryz.prog 94 [.l (dJ a0),.l (iA a1)] [] (.l (bA r)) []:=by
 unfold F3 at h;refine SO 36 Tryz.func94 fun cx hG (hz:cx.nb=0)=>?_;simp only[it];refine ST ?_;apply AW.seq;refine ST ?_;apply AW.block;obtain⟨y2,g2,h⟩:=bnE h;refine zD g2 (mk:=fun gh ls q=>(⟨[(0,.l (dJ a0)),(1,.l (iA a1)),(5,.l (iA q))],[],36,gh,ls⟩:St)) (N:=fun gh ls=>(sp (xP 0 (cx:=cx) (fun _=>(⟨[],[],36,gh,ls⟩:St))) (rP (cx:=cx) (P:=Tryz.prog) Tryz.f94 (fun q=>.l (bA q)) (fun q=>[])))) ?_ (noS noX noR) ?_ ?_
 ·exact WM [] hz
 ·clear h;intro y1 y3 h
  apply AW.seq;obtain⟨v4,e4,v5,e5,h⟩:=oll h;refine AW.step (by simp[Ad e4,← e5];intros;rfl) ?_;cases v5 with
  |true=>
   replace h:=iT h;refine CT ?_;apply AW.skip;try simp only[nm]
   apply AW.seq;apply AW.block;obtain⟨y6,g6,h⟩:=bnE h;refine zC (p:=fun gh ls=>(nP (cx:=cx) (fun q=>(⟨[(0,.l (dJ a0)),(1,.l (iA a1)),(5,.l (iA y1)),(35,.l (bA q))],[],36,gh,ls⟩:St))) y6) ?_ ?_
   ·replace h:=g6;clear g6
    obtain⟨v7,e7,h⟩:=ltE h;cases v7 with
    |true=>
     replace h:=iT h;obtain⟨v8,e8,h⟩:=ltE h;cases v8 with
     |true=>
      replace h:=iT h;obtain⟨v9,e9,v10,e10,h⟩:=obl h;cases v10 with
      |true=>
       replace h:=iT h;obtain⟨v11,e11,h⟩:=ltE h;refine AW.last (by simp[← e7,← e8,Aa e9,← e10,← e11];intros;rfl) ?_;obtain rfl:=oi h;exact nP_i (WM [] hz)
      |false=>
       replace h:=iF h;refine AW.last (by simp[← e7,← e8,Aa e9,← e10];intros;rfl) ?_;obtain rfl:=oi h;exact nP_i (WM [] hz)
     |false=>
      replace h:=iF h;refine AW.last (by simp[← e7,← e8];intros;rfl) ?_;obtain rfl:=oi h;exact nP_i (WM [] hz)
    |false=>
     replace h:=iF h;refine AW.last (by simp[← e7];intros;rfl) ?_;obtain rfl:=oi h;exact nP_i (WM [] hz)
   ·rintro e s⟨rfl,hw⟩;refine⟨_,hw,?_⟩;try simp only[nm]
    obtain⟨v12,e12,h⟩:=ltE h;rw[← e12];cases v12 with
    |true=>
     replace h:=iT h;refine CT ?_;refine ST ?_;obtain rfl:=oi h;apply AW.ret;try simp only[nm]
     refine rP_i ?_;exact LP hz
    |false=>
     replace h:=iF h;refine CF ?_;apply AW.skip;try simp only[nm]
     obtain⟨v13,e13,h⟩:=ltE h;refine AW.last (by simp[← e13];intros;rfl) ?_;obtain rfl:=oi h;exact nP_i (WM [] hz)
  |false=>
   replace h:=iF h;refine CF ?_;apply AW.exit;try simp only[nm]
   obtain rfl:=oi h;try simp only[sp_l,sp_r]
   refine xP_i ?_;exact WM [] hz
 ·rintro e s hp;rcases y2 with y14|y15
  ·replace h:=smL h;obtain⟨rfl,hw⟩:=hp;refine⟨_,hw,?_⟩;try simp only[nm]
   refine ST ?_;obtain rfl:=oi h;apply AW.ret;exact LP hz
  ·replace h:=smR h;obtain⟨rfl,hl⟩:=hp;refine⟨_,Weak.refl _,?_⟩;obtain rfl:=oi h;exact hl
theorem PW:Enters Tryz.prog 94:=enters Tryz.func94 (by kernel_rfl) rfl
def Ee (n:Nat) (a0:List Span) (a1:Int):Option Bool :=
bn (iter n (fun (y1:Int) =>
lt (lenI a0) fun v4 =>
lt (ltI y1 v4) fun v5 =>
ite' v5 (bn (lt (geI a1 0) fun v7 =>
ite' v7 (lt (ltI a1 16384) fun v8 =>
ite' v8 (bn (nth a0 y1) fun v9 =>
lt (leI v9.frm a1) fun v10 =>
ite' v10 (lt (leI a1 v9.to) fun v11 =>
some (v11)) (some (false))) (some (false))) (some (false))) fun (y6:Bool) =>
lt (y6) fun v12 =>
ite' v12 (some (.inr (.inr true))) (lt (addI .i64 y1 1) fun v13 =>
some (.inl v13))) (some (.inr (.inl ())))) 0) fun (y2:Unit ⊕ Bool) =>
sm y2 (fun y14=>some false) (fun y15=>some y15)
theorem Je {n:Nat} {a0:List Span} {a1:Int} {r:Bool} (h:Ee n a0 a1=some r):Sound Tryz.prog 94 [.l (dG a0),.l (iA a1)] [] (.l (bA r)) []:=by
 unfold Ee at h;refine SO 36 Tryz.func94 fun cx hG (hz:cx.nb=0)=>?_;simp only[it];refine ST ?_;apply AW.seq;refine ST ?_;apply AW.block;obtain⟨y2,g2,h⟩:=bnE h;refine zD g2 (mk:=fun gh ls q=>(⟨[(0,.l (dG a0)),(1,.l (iA a1)),(5,.l (iA q))],[],36,gh,ls⟩:St)) (N:=fun gh ls=>(sp (xP 0 (cx:=cx) (fun _=>(⟨[],[],36,gh,ls⟩:St))) (rP (cx:=cx) (P:=Tryz.prog) Tryz.f94 (fun q=>.l (bA q)) (fun q=>[])))) ?_ (noS noX noR) ?_ ?_
 ·exact WM [] hz
 ·clear h;intro y1 y3 h
  apply AW.seq;obtain⟨v4,e4,v5,e5,h⟩:=oll h;refine AW.step (by simp[Ad e4,← e5];intros;rfl) ?_;cases v5 with
  |true=>
   replace h:=iT h;refine CT ?_;apply AW.skip;try simp only[nm]
   apply AW.seq;apply AW.block;obtain⟨y6,g6,h⟩:=bnE h;refine zC (p:=fun gh ls=>(nP (cx:=cx) (fun q=>(⟨[(0,.l (dG a0)),(1,.l (iA a1)),(5,.l (iA y1)),(35,.l (bA q))],[],36,gh,ls⟩:St))) y6) ?_ ?_
   ·replace h:=g6;clear g6
    obtain⟨v7,e7,h⟩:=ltE h;cases v7 with
    |true=>
     replace h:=iT h;obtain⟨v8,e8,h⟩:=ltE h;cases v8 with
     |true=>
      replace h:=iT h;obtain⟨v9,e9,v10,e10,h⟩:=obl h;cases v10 with
      |true=>
       replace h:=iT h;obtain⟨v11,e11,h⟩:=ltE h;refine AW.last (by simp[← e7,← e8,Aa e9,← e10,← e11];intros;rfl) ?_;obtain rfl:=oi h;exact nP_i (WM [] hz)
      |false=>
       replace h:=iF h;refine AW.last (by simp[← e7,← e8,Aa e9,← e10];intros;rfl) ?_;obtain rfl:=oi h;exact nP_i (WM [] hz)
     |false=>
      replace h:=iF h;refine AW.last (by simp[← e7,← e8];intros;rfl) ?_;obtain rfl:=oi h;exact nP_i (WM [] hz)
    |false=>
     replace h:=iF h;refine AW.last (by simp[← e7];intros;rfl) ?_;obtain rfl:=oi h;exact nP_i (WM [] hz)
   ·rintro e s⟨rfl,hw⟩;refine⟨_,hw,?_⟩;try simp only[nm]
    obtain⟨v12,e12,h⟩:=ltE h;rw[← e12];cases v12 with
    |true=>
     replace h:=iT h;refine CT ?_;refine ST ?_;obtain rfl:=oi h;apply AW.ret;try simp only[nm]
     refine rP_i ?_;exact LP hz
    |false=>
     replace h:=iF h;refine CF ?_;apply AW.skip;try simp only[nm]
     obtain⟨v13,e13,h⟩:=ltE h;refine AW.last (by simp[← e13];intros;rfl) ?_;obtain rfl:=oi h;exact nP_i (WM [] hz)
  |false=>
   replace h:=iF h;refine CF ?_;apply AW.exit;try simp only[nm]
   obtain rfl:=oi h;try simp only[sp_l,sp_r]
   refine xP_i ?_;exact WM [] hz
 ·rintro e s hp;rcases y2 with y14|y15
  ·replace h:=smL h;obtain⟨rfl,hw⟩:=hp;refine⟨_,hw,?_⟩;try simp only[nm]
   refine ST ?_;obtain rfl:=oi h;apply AW.ret;exact LP hz
  ·replace h:=smR h;obtain⟨rfl,hl⟩:=hp;refine⟨_,Weak.refl _,?_⟩;obtain rfl:=oi h;exact hl
theorem Iy:Enters Tryz.prog 94:=enters Tryz.func94 (by kernel_rfl) rfl
def GX (n:Nat) (a0:Int) (a1:List Span) (a2:List Span):Option (List Span) :=
bn (EO n a1 a2) fun v1 =>
bn (iter n (fun (y2:Int×List Span) =>
lt (addI .i64 y2.1 1) fun v5 =>
lt (lenI v1) fun v6 =>
lt (ltI v5 v6) fun v7 =>
ite' v7 (bn (bn (nth v1 y2.1) fun v9 =>
bn (F3 n a1 v9) fun v10 =>
bn (Ee n a2 v9) fun v11 =>
bn (ite' v10 (some ((true,true))) (some ((false,v11)))) fun (y12:Bool×Bool) =>
bn (lt (eqI a0 1) fun v14 =>
ite' v14 (lt (y12.1) fun v15 =>
ite' v15 (lt (notB v11) fun v16 =>
some (v16)) (some (false))) (lt (eqI a0 2) fun v17 =>
ite' v17 (lt (y12.1) fun v18 =>
ite' v18 (some (v11)) (some (false))) (some (y12.2)))) fun (y13:Bool) =>
lt (notB y13) fun v19 =>
ite' v19 (some (y2.2)) (bn (lt (lenI y2.2) fun v21 =>
lt (gtI v21 0) fun v22 =>
ite' v22 (lt (subI .i64 v21 1) fun v23 =>
bn (nth y2.2 v23) fun v24 =>
bn (nth v1 y2.1) fun v26 =>
lt (subI .i64 v26 1) fun v27 =>
lt (eqI v24.to v27) fun v28 =>
some (v28)) (some (false))) fun (y20:Bool) =>
lt (y20) fun v29 =>
ite' v29 (lt (lenI y2.2) fun v30 =>
lt (subI .i64 v30 1) fun v31 =>
lt (addI .i64 y2.1 1) fun v32 =>
bn (nth v1 v32) fun v33 =>
lt (subI .i64 v33 1) fun v34 =>
bn (nth y2.2 v31) fun v35 =>
lt (y2.2.set v31.toNat (⟨v35.frm,v34⟩:Span)) fun v37 =>
some (v37)) (bn (nth v1 y2.1) fun v40 =>
lt (addI .i64 y2.1 1) fun v41 =>
bn (nth v1 v41) fun v42 =>
lt (subI .i64 v42 1) fun v43 =>
chk (room (y2.2.length+1) 16) <|
lt (y2.2++[(⟨v40,v43⟩:Span)]) fun v45 =>
some (v45)))) fun (y8:List Span) =>
lt (addI .i64 y2.1 1) fun v46 =>
some (.inl (v46,y8))) (some (.inr y2.2))) (0,[])) fun (y3:List Span) =>
chk (room y3.length 1) <|
some y3
def DY8t1:List DI:=[⟨[0],[],[(8,none)],false⟩,⟨[0],[0],[(71,some 0)],false⟩,⟨[0],[0,1],[(72,some 1)],false⟩,⟨[0],[0,1,2],[(73,some 2)],false⟩,⟨[0],[0,1,2,3],[(8,none),(74,some 3)],false⟩,⟨[0],[0,1,2,3],[(8,none),(74,some 3)],false⟩,⟨[0],[0,1,2,3,5],[(74,some 3),(76,some 5)],false⟩,⟨[0],[0,1,2,3,5,6],[(74,some 3),(77,some 6)],false⟩,⟨[0],[0,1,2,3,4,5,6,7],[(74,some 3),(75,some 4),(78,some 7)],false⟩,⟨[0],[0,1,2,3,4,5,6,7,8],[(74,some 3),(79,some 8)],false⟩,⟨[0],[0,1,2,3,4,5,6,7,8,9],[(74,some 3),(80,some 9)],false⟩,⟨[0],[0,1,2,3],[(7,none),(74,some 3)],false⟩,⟨[0],[0,1,2,3],[(9,none),(74,some 3)],false⟩,⟨[0],[0,1,2,3,11,12],[(74,some 3),(82,some 11),(83,some 12)],false⟩,⟨[0],[0,1,2,3,11,12,13],[(74,some 3),(84,some 13)],false⟩,⟨[0],[0,1,2,3,11,12,13,14],[(74,some 3),(85,some 14)],false⟩,⟨[],[0,1,2,3,4,5,6,7,8,9,10,11,12,13,14,15],[],false⟩,⟨[],[0,1,2,3,4,5,6,7,8,9,10,11,12,13,14,15,16],[],false⟩,⟨[],[0,1,2,3,4,5,6,7,8,9,10,11,12,13,14,15,16,17],[],false⟩]
theorem QW {n:Nat} {a0:Int} {a1:List Span} {a2:List Span} {r:List Span} (h:GX n a0 a1 a2=some r):Sound Tryz.prog 119 [.l (iA a0),.l (dJ a1),.l (dG a2)] [] (.l (dG r)) []:=by
 unfold GX at h;refine SO 102 Tryz.func119 fun cx hG (hz:cx.nb=0)=>?_;simp only[it];refine ST ?_;obtain⟨v1,e1,h⟩:=bnE h;apply AW.step
 ·simp;intros;refine Ab NB (OY e1) rfl ⟨.d _ _ _,.same rfl,trivial⟩ ?_;try simp
  intros;rfl
 refine ST ?_;apply AW.seq;refine ST ?_;apply AW.block;obtain⟨y3,g3,h⟩:=bnE h;refine zD g3 (mk:=fun gh ls q=>(⟨[(0,.l (iA a0)),(1,.l (dJ a1)),(2,.l (dG a2)),(7,.l (dC v1)),(8,.l (.r 0 2 0 q.2.length)),(9,.l (iA q.1))],[some ⟨120,2,true,none,lvs (Ay q.2)⟩],102,gh,ls⟩:St)) (N:=fun gh ls=>(xP 0 (cx:=cx) (fun q=>(⟨[(8,.l (.r 0 2 0 q.length))],[some ⟨120,2,true,none,lvs (Ay q)⟩],102,gh,ls⟩:St)))) ?_ noX ?_ ?_
 ·refine W.nilRow 8 120 2 0 (by simp) rfl rfl ?_;exact WM [0] hz
 ·clear h;intro y2 y4 h
  apply AW.seq;obtain⟨v5,e5,v6,e6,v7,e7,h⟩:=olll h;refine AW.step (by simp[← e5,Ad e6,← e7];intros;rfl) ?_;cases v7 with
  |true=>
   replace h:=iT h;refine CT ?_;apply AW.skip;try simp only[nm]
   obtain⟨y8,g8,h⟩:=bnE h;refine zC (p:=fun gh ls=>(nP (cx:=cx) (fun q=>(⟨[(0,.l (iA a0)),(1,.l (dJ a1)),(2,.l (dG a2)),(7,.l (dC v1)),(8,.l (.r 0 2 0 q.length)),(9,.l (iA y2.1))],[some ⟨120,2,true,none,lvs (Ay q)⟩],102,gh,ls⟩:St))) y8) ?_ ?_
   ·replace h:=g8;clear g8
    apply AW.block;obtain⟨v9,e9,h⟩:=bnE h;obtain⟨v10,e10,h⟩:=bnE h;obtain⟨v11,e11,h⟩:=bnE h;apply zH (V:=[_,_,_,_,_,_,_,_,_,_,_]) mixed [⟨[0],[],[(1,none)],false⟩,⟨[0],[],[(7,none)],false⟩,⟨[0],[],[(9,none)],false⟩,⟨[0],[1,2],[(24,some 1),(25,some 2)],false⟩,⟨[0],[1,2,3],[(26,some 3)],false⟩,⟨[0],[0,1,2,3,4],[(23,some 0),(27,some 4)],false⟩,⟨[0],[],[(2,none)],false⟩,⟨[0],[],[(7,none)],false⟩,⟨[0],[],[(9,none)],false⟩,⟨[0],[7,8],[(30,some 7),(31,some 8)],false⟩,⟨[0],[7,8,9],[(32,some 9)],false⟩,⟨[],[0,1,2,3,4,5,6,7,8,9,10],[],false⟩,⟨[],[0,1,2,3,4,5,6,7,8,9,10,11],[],false⟩,⟨[],[0,1,2,3,4,5,6,7,8,9,10,11,12],[],false⟩] 11 (by kernel_rfl) (by kernel_rfl)
    ·refine⟨?_,?_,?_,?_,?_,?_,?_,?_,?_,?_,?_,trivial⟩;iterate 5 (· intro tm hr;simp[AllL,rdV] at hr;simp[hr,Aa e9];intros;exact KA)
     ·intro tm hr;simp[AllL,rdV] at hr;simp[hr,Aa e9];intros;refine Ab PW (QV e10) rfl ⟨.d _ _ _,.same rfl,trivial⟩ ?_;try simp[Aa e9]
      intros;exact KA
     iterate 5 (· intro tm hr;simp[AllL,rdV] at hr;simp[hr,Aa e9];intros;exact KA)
    ·rfl
    ·simp[tmD,putD,Aa e9];rfl
    ·simp[Aa e9];intros;refine Ab Iy (Je e11) rfl ⟨.same rfl,.same rfl,trivial⟩ ?_;try simp[Aa e9]
     intros;rfl
    obtain⟨y12,g12,h⟩:=bnE h;refine zC (p:=fun gh ls=>(nP (cx:=cx) (fun q=>(⟨[(0,.l (iA a0)),(1,.l (dJ a1)),(2,.l (dG a2)),(7,.l (dC v1)),(8,.l (.r 0 2 0 y2.2.length)),(9,.l (iA y2.1)),(10,.l (bA q.1)),(11,.l (bA v11)),(12,.l (bA q.2))],[some ⟨120,2,true,none,lvs (Ay y2.2)⟩],102,gh,ls⟩:St))) y12) ?_ ?_
    ·replace h:=g12;clear g12
     cases v10 with
     |true=>
      replace h:=iT h;refine SL ?_;obtain rfl:=oi h;exact nP_i (WM [0] hz)
     |false=>
      replace h:=iF h;refine SL ?_;obtain rfl:=oi h;exact nP_i (WM [0] hz)
    ·rintro e s⟨rfl,hw⟩;refine⟨_,hw,?_⟩;try simp only[nm]
     obtain⟨y13,g13,h⟩:=bnE h;refine zC (p:=fun gh ls=>(nP (cx:=cx) (fun q=>(⟨[(0,.l (iA a0)),(1,.l (dJ a1)),(2,.l (dG a2)),(7,.l (dC v1)),(8,.l (.r 0 2 0 y2.2.length)),(9,.l (iA y2.1)),(12,.l (bA q))],[some ⟨120,2,true,none,lvs (Ay y2.2)⟩],102,gh,ls⟩:St))) y13) ?_ ?_
     ·replace h:=g13;clear g13
      refine ST ?_;apply AW.block;obtain⟨v14,e14,h⟩:=ltE h;refine AW.step (by simp[← e14];intros;rfl) ?_;cases v14 with
      |true=>
       replace h:=iT h;refine CT ?_;obtain⟨v15,e15,h⟩:=ltE h;cases v15 with
       |true=>
        replace h:=iT h;obtain⟨v16,e16,h⟩:=ltE h;refine AW.last (by simp[← e15,← e16];intros;rfl) ?_;obtain rfl:=oi h;exact nP_i (WM [0] hz)
       |false=>
        replace h:=iF h;refine AW.last (by simp[← e15];intros;rfl) ?_;obtain rfl:=oi h;exact nP_i (WM [0] hz)
      |false=>
       replace h:=iF h;refine CF ?_;obtain⟨v17,e17,h⟩:=ltE h;refine AW.step (by simp[← e17];intros;rfl) ?_;cases v17 with
       |true=>
        replace h:=iT h;refine CT ?_;obtain⟨v18,e18,h⟩:=ltE h;cases v18 with
        |true=>
         replace h:=iT h;refine AW.last (by simp[← e18];intros;rfl) ?_;obtain rfl:=oi h;exact nP_i (WM [0] hz)
        |false=>
         replace h:=iF h;refine AW.last (by simp[← e18];intros;rfl) ?_;obtain rfl:=oi h;exact nP_i (WM [0] hz)
       |false=>
        replace h:=iF h;refine CF ?_;apply AW.skip;try simp only[nm]
        obtain rfl:=oi h;exact nP_i (WM [0] hz)
     ·rintro e s⟨rfl,hw⟩;refine⟨_,hw,?_⟩;try simp only[nm]
      apply AW.block;obtain⟨v19,e19,h⟩:=ltE h;refine AW.step (by simp[← e19];intros;rfl) ?_;cases v19 with
      |true=>
       replace h:=iT h;refine CT ?_;apply AW.exit;try simp only[nm]
       obtain rfl:=oi h;exact nP_i (WM [0] hz)
      |false=>
       replace h:=iF h;refine CF ?_;obtain⟨y20,g20,h⟩:=bnE h;refine zC (p:=fun gh ls=>(nP (cx:=cx) (fun q=>(⟨[(0,.l (iA a0)),(1,.l (dJ a1)),(2,.l (dG a2)),(7,.l (dC v1)),(8,.l (.r 0 2 0 y2.2.length)),(9,.l (iA y2.1)),(70,.l (bA q))],[some ⟨120,2,true,none,lvs (Ay y2.2)⟩],102,gh,ls⟩:St))) y20) ?_ ?_
       ·replace h:=g20;clear g20
        obtain⟨v21,e21,v22,e22,h⟩:=oll h;cases v22 with
        |true=>
         replace h:=iT h;obtain⟨v23,e23,v24,e24,h⟩:=olb h;have f25:=A0 e24;try simp[Ad e21,← e22,← e23,Aa e24] at f25
         obtain⟨v26,e26,v27,e27,h⟩:=obl h;obtain⟨v28,e28,h⟩:=ltE h;apply zF (V:=[_,_,_,_,_,_,_,_,_,_,_,_,_,_,_,_]) mixed DY8t1 16 (by kernel_rfl) (by kernel_rfl)
         ·refine⟨?_,?_,?_,?_,?_,?_,?_,?_,?_,?_,?_,?_,?_,?_,?_,?_,trivial⟩;iterate 16 (· intro tm hr;simp[AllL,rdV] at hr;simp[hr,Ad e21,← e22,← e23,Aa e24,f25,BA (Aa e24).2 (j:=1) (by decide),lvs1,Aa e26,← e27,← e28];intros;exact KA)
         ·rfl
         ·simp[tmD,putD,Ad e21,← e22,← e23,Aa e24,f25,BA (Aa e24).2 (j:=1) (by decide),lvs1,Aa e26,← e27,← e28];rfl
         ·simp[Ad e21,← e22,← e23,Aa e24,f25,BA (Aa e24).2 (j:=1) (by decide),lvs1,Aa e26,← e27,← e28];intros;rfl
         obtain rfl:=oi h;exact nP_i (WM [0] hz)
        |false=>
         replace h:=iF h;apply zF (V:=[_,_,_,_,_,_,_,_,_,_,_,_,_,_,_,_]) mixed DY8t1 16 (by kernel_rfl) (by kernel_rfl)
         ·refine⟨?_,?_,?_,?_,?_,?_,?_,?_,?_,?_,?_,?_,?_,?_,?_,?_,trivial⟩;iterate 16 (· intro tm hr;simp[AllL,rdV] at hr;simp[hr,Ad e21,← e22];intros;exact KA)
         ·rfl
         ·simp[tmD,putD,Ad e21,← e22];rfl
         ·simp[Ad e21,← e22];intros;rfl
         obtain rfl:=oi h;exact nP_i (WM [0] hz)
       ·rintro e s⟨rfl,hw⟩;refine⟨_,hw,?_⟩;try simp only[nm]
        obtain⟨v29,e29,h⟩:=ltE h;rw[← e29];cases v29 with
        |true=>
         replace h:=iT h;refine CT ?_;obtain⟨v30,e30,v31,e31,v32,e32,h⟩:=olll h;obtain⟨v33,e33,v34,e34,h⟩:=obl h;obtain⟨v35,e35,h⟩:=bnE h;have f36:=A0 e35;try simp[Ad e30,← e31,← e32,Aa e33,← e34,Aa e35] at f36
         obtain⟨v37,e37,h⟩:=ltE h;have f38:=I4 (Aa e35).2 e37 (j:=1) (cs:=[iA v34]) (by simp) rfl;try simp at f38
         have f39:=f36;try simp only[AC e37] at f39
         refine AW.last (by simp[Ad e30,← e31,← e32,Aa e33,← e34,Aa e35,f36,Fp (Aa e35).2 (j:=1) (m:=1) (by decide),f38,f39];intros;rfl) ?_;obtain rfl:=oi h;refine nP_i ?_;refine zG [some 0] hz (by decide) ?_ ?_ rfl;all_goals first|(simp[Ae,Af,pickOb,AC e37];done)|rfl
        |false=>
         replace h:=iF h;refine CF ?_;obtain⟨v40,e40,v41,e41,h⟩:=obl h;obtain⟨v42,e42,v43,e43,h⟩:=obl h;obtain⟨e44,v45,e45,h⟩:=ocl h;apply zT (V:=[_,_,_,_,_,_,_,_,_,_,_,_,_]) (M:=[[some ⟨120,2,true,none,lvs (Ay y2.2)⟩],[some ⟨120,2,true,none,lvs (Ay y2.2)⟩,some ⟨120,2,true,none,[iA v40,iA v43]⟩]]) mixed [⟨[0,1],[],[(8,none)],false⟩,⟨[0],[],[(7,none)],false⟩,⟨[0],[],[(9,none)],false⟩,⟨[0],[1,2],[(54,some 1),(55,some 2)],false⟩,⟨[0],[1,2,3],[(56,some 3)],false⟩,⟨[0],[],[(7,none)],false⟩,⟨[0],[],[(9,none)],false⟩,⟨[0],[6],[(59,some 6)],false⟩,⟨[0],[5,6,7],[(58,some 5),(60,some 7)],false⟩,⟨[0],[5,6,7,8],[(61,some 8)],false⟩,⟨[0],[5,6,7,8,9],[(62,some 9)],false⟩,⟨[0],[1,2,3,4,5,6,7,8,9,10],[(57,some 4),(63,some 10)],false⟩,⟨[0],[1,2,3,4,5,6,7,8,9,10,11],[(64,some 11)],true⟩,⟨[],[0,1,2,3,4,5,6,7,8,9,10,11,12],[],false⟩,⟨[],[0,1,2,3,4,5,6,7,8,9,10,11,12,13],[],false⟩] 13 1 (by kernel_rfl) (by kernel_rfl)
         ·rfl
         ·refine⟨⟨?_,?_⟩,?_,?_,?_,?_,?_,?_,?_,?_,?_,?_,?_,?_,trivial⟩;iterate 13 (· intro tm hr;simp[AllL,rdV] at hr;simp[hr,Aa e40,← e41,Aa e42,← e43,← A9,← e45,Ar e45];intros;exact KA)
          ·intro tm hr;simp[AllL,rdV] at hr;simp[hr,Aa e40,← e41,Aa e42,← e43,← A9,← e45,Ar e45];intros;refine Ax ?_;try simp[Aa e40,← e41,Aa e42,← e43,← A9,← e45,Ar e45]
           intros;exact KA
         ·rfl
         ·simp[tmD,putD,Aa e40,← e41,Aa e42,← e43,← A9,← e45,Ar e45];rfl
         ·simp[Aa e40,← e41,Aa e42,← e43,← A9,← e45,Ar e45];intros;refine AD (acc:=Ay y2.2) (ys:=Ay [(⟨v40,v43⟩:Span)]) (cap:=none) (k:=1) Jq Jp (by simp) (by simp[Ay,lvs]) (CY _) (by simp) (by simp) (by first|(simp;done)|simpa using (Aw e44).1) ?_;try simp[Aa e40,← e41,Aa e42,← e43,← A9,← e45,Ar e45]
          intros;rfl
         obtain rfl:=oi h;refine nP_i ?_;refine zG [some 2] hz (by decide) ?_ ?_ rfl;all_goals first|(simp[Ae,Af,pickOb,Di];done)|rfl
   ·rintro e s⟨rfl,hw⟩;refine⟨_,hw,?_⟩;try simp only[nm]
    obtain⟨v46,e46,h⟩:=ltE h;refine AW.last (by simp[← e46];intros;rfl) ?_;obtain rfl:=oi h;exact nP_i (WM [0] hz)
  |false=>
   replace h:=iF h;refine CF ?_;apply AW.exit;try simp only[nm]
   obtain rfl:=oi h;refine xP_i ?_;exact WM [0] hz
 ·rintro e s⟨rfl,hw⟩;refine⟨_,hw,?_⟩;try simp only[nm]
  refine ST ?_;obtain⟨e47,h⟩:=chkE h;refine FZ 0 120 2 (CY y3) e47 ?_;obtain rfl:=oi h;apply AW.ret;exact LP hz
theorem PX:Enters Tryz.prog 119:=enters Tryz.func119 (by kernel_rfl) rfl
def Fv (n:Nat) (a0:List Span):Option (List Span) :=
bn (GX n 0 a0 []) fun v1 =>
some v1
theorem PY {n:Nat} {a0:List Span} {r:List Span} (h:Fv n a0=some r):Sound Tryz.prog 91 [.l (dJ a0)] [] (.l (dG r)) []:=by
 unfold Fv at h;refine SO 5 Tryz.func91 fun cx hG (hz:cx.nb=0)=>?_;simp only[it];refine ST ?_;obtain⟨v1,e1,h⟩:=bnE h;apply AW.step
 ·simp;intros;refine Ab PX (QW e1) rfl ⟨.same rfl,.d _ _ _,.nil _ _,trivial⟩ ?_;try simp
  intros;rfl
 obtain rfl:=oi h;apply AW.ret;exact LP hz
theorem OZ:Enters Tryz.prog 91:=enters Tryz.func91 (by kernel_rfl) rfl
def Ef (n:Nat) (a0:List Int) (a1:List Claim):Option (List Int) :=
bn (iter n (fun (y1:List Int×Int) =>
lt (lenI a1) fun v4 =>
lt (ltI y1.2 v4) fun v5 =>
ite' v5 (bn (nth a1 y1.2) fun v6 =>
bn (Ce n y1.1 v6.frm) fun v7 =>
lt (addI .i64 v6.to 1) fun v8 =>
bn (Ce n v7 v8) fun v9 =>
lt (addI .i64 y1.2 1) fun v10 =>
some (.inl (v9,v10))) (some (.inr y1.1))) (a0,0)) fun (y2:List Int) =>
some y2
theorem NC {n:Nat} {a0:List Int} {a1:List Claim} {r:List Int} (h:Ef n a0 a1=some r):Sound Tryz.prog 92 [.l (dC a0),.l (dB a1)] [] (.l (dC r)) []:=by
 unfold Ef at h;refine SO 28 Tryz.func92 fun cx hG (hz:cx.nb=0)=>?_;simp only[it];refine ST ?_;apply AW.seq;refine ST ?_;apply AW.block;obtain⟨y2,g2,h⟩:=bnE h;refine zD g2 (mk:=fun gh ls q=>(⟨[(0,.l (dC q.1)),(1,.l (dB a1)),(5,.l (iA q.2))],[],28,gh,ls⟩:St)) (N:=fun gh ls=>(xP 0 (cx:=cx) (fun q=>(⟨[(0,.l (dC q))],[],28,gh,ls⟩:St)))) ?_ noX ?_ ?_
 ·exact WM [] hz
 ·clear h;intro y1 y3 h
  apply AW.seq;obtain⟨v4,e4,v5,e5,h⟩:=oll h;refine AW.step (by simp[Ad e4,← e5];intros;rfl) ?_;cases v5 with
  |true=>
   replace h:=iT h;refine CT ?_;apply AW.skip;try simp only[nm]
   apply AW.seq;apply AW.block;obtain⟨v6,e6,h⟩:=bnE h;obtain⟨v7,e7,h⟩:=bnE h;apply AW.step
   ·simp[Aa e6];intros;refine Ab Es (Fc e7) rfl ⟨.same rfl,.same rfl,trivial⟩ ?_;try simp[Aa e6]
    intros;rfl
   obtain⟨v8,e8,v9,e9,h⟩:=olb h;apply AW.last
   ·simp[Aa e6,← e8];intros;refine Ab Es (Fc e9) rfl ⟨.same rfl,.same rfl,trivial⟩ ?_;try simp[Aa e6,← e8]
    intros;rfl
   try simp only[nm]
   obtain⟨v10,e10,h⟩:=ltE h;refine AW.last (by simp[← e10];intros;rfl) ?_;obtain rfl:=oi h;exact nP_i (WM [] hz)
  |false=>
   replace h:=iF h;refine CF ?_;apply AW.exit;try simp only[nm]
   obtain rfl:=oi h;refine xP_i ?_;exact WM [] hz
 ·rintro e s⟨rfl,hw⟩;refine⟨_,hw,?_⟩;try simp only[nm]
  refine ST ?_;obtain rfl:=oi h;apply AW.ret;exact LP hz
theorem MO:Enters Tryz.prog 92:=enters Tryz.func92 (by kernel_rfl) rfl
def CB (n:Nat) (a0:List Claim) (a1:Claim):Option (List Claim) :=
lt (lenI a0) fun v1 =>
lt (subI .i64 v1 1) fun v2 =>
bn (lt (geI v2 0) fun v4 =>
ite' v4 (bn (nth a0 v2) fun v5 =>
lt (subI .i64 a1.frm 1) fun v7 =>
lt (eqI v5.to v7) fun v8 =>
ite' v8 (lt (eqI v5.node a1.node) fun v10 =>
ite' v10 (lt (eqI v5.epoch a1.epoch) fun v12 =>
some (v12)) (some (false))) (some (false))) (some (false))) fun (y3:Bool) =>
lt (y3) fun v13 =>
ite' v13 (bn (nth a0 v2) fun v14 =>
lt (a0.set v2.toNat (⟨v14.frm,a1.to,v14.node,v14.epoch⟩:Claim)) fun v16 =>
some v16) (chk (room (a0.length+1) 32) <|
lt (a0++[a1]) fun v20 =>
some v20)
def DY8t2:List DI:=[⟨[0],[],[(5,none)],false⟩,⟨[0],[0],[(9,some 0)],false⟩,⟨[0],[0,1],[(10,some 1)],false⟩,⟨[0],[0,1,2],[(0,none),(11,some 2)],false⟩,⟨[0],[0,1,2],[(5,none),(11,some 2)],false⟩,⟨[0],[0,1,2,3,4],[(11,some 2),(12,some 3),(13,some 4)],false⟩,⟨[0],[0,1,2,3,4,5],[(11,some 2),(14,some 5)],false⟩,⟨[0],[0,1,2,3,4,5,6],[(11,some 2),(15,some 6)],false⟩,⟨[0],[0,1,2],[(3,none),(11,some 2)],false⟩,⟨[0],[0,1,2,8],[(11,some 2),(17,some 8)],false⟩,⟨[0],[0,1,2,8,9],[(11,some 2),(18,some 9)],false⟩,⟨[0],[0,1,2,3,4,5,6,7,8,9,10],[(11,some 2),(16,some 7),(19,some 10)],false⟩,⟨[0],[0,1,2,3,4,5,6,7,8,9,10,11],[(11,some 2),(20,some 11)],false⟩,⟨[0],[0,1,2,3,4,5,6,7,8,9,10,11,12],[(21,some 12)],false⟩,⟨[0],[0,1,2,3,4,5,6,7,8,9,10,11,12,13],[(0,none),(22,some 13)],false⟩,⟨[0],[0,1,2,3,4,5,6,7,8,9,10,11,12,13],[(5,none),(22,some 13)],false⟩,⟨[0],[0,1,2,3,4,5,6,7,8,9,10,11,12,13,14,15],[(22,some 13),(23,some 14),(24,some 15)],false⟩,⟨[0],[0,1,2,3,4,5,6,7,8,9,10,11,12,13,14,15,16],[(22,some 13),(25,some 16)],false⟩,⟨[0],[0,1,2,3,4,5,6,7,8,9,10,11,12,13,14,15,16,17],[(22,some 13),(26,some 17)],false⟩,⟨[0],[0,1,2,3,4,5,6,7,8,9,10,11,12,13],[(3,none),(22,some 13)],false⟩,⟨[0],[0,1,2,3,4,5,6,7,8,9,10,11,12,13,19],[(22,some 13),(28,some 19)],false⟩,⟨[0],[0,1,2,3,4,5,6,7,8,9,10,11,12,13,14,15,16,17,18,19,20],[(22,some 13),(27,some 18),(29,some 20)],false⟩,⟨[0],[0,1,2,3,4,5,6,7,8,9,10,11,12,13,14,15,16,17,18,19,20,21],[(22,some 13),(30,some 21)],false⟩,⟨[0],[0,1,2,3,4,5,6,7,8,9,10,11,12,13,14,15,16,17,18,19,20,21,22],[(31,some 22)],false⟩,⟨[0],[0,1,2,3,4,5,6,7,8,9,10,11,12,13,14,15,16,17,18,19,20,21,22,23],[(0,none),(32,some 23)],false⟩,⟨[0],[0,1,2,3,4,5,6,7,8,9,10,11,12,13,14,15,16,17,18,19,20,21,22,23],[(5,none),(32,some 23)],false⟩,⟨[0],[0,1,2,3,4,5,6,7,8,9,10,11,12,13,14,15,16,17,18,19,20,21,22,23,24,25],[(32,some 23),(33,some 24),(34,some 25)],false⟩,⟨[0],[0,1,2,3,4,5,6,7,8,9,10,11,12,13,14,15,16,17,18,19,20,21,22,23,24,25,26],[(32,some 23),(35,some 26)],false⟩,⟨[0],[0,1,2,3,4,5,6,7,8,9,10,11,12,13,14,15,16,17,18,19,20,21,22,23,24,25,26,27],[(32,some 23),(36,some 27)],false⟩,⟨[0],[0,1,2,3,4,5,6,7,8,9,10,11,12,13,14,15,16,17,18,19,20,21,22,23],[(3,none),(32,some 23)],false⟩,⟨[0],[0,1,2,3,4,5,6,7,8,9,10,11,12,13,14,15,16,17,18,19,20,21,22,23,29],[(32,some 23),(38,some 29)],false⟩,⟨[],[0,1,2,3,4,5,6,7,8,9,10,11,12,13,14,15,16,17,18,19,20,21,22,23,24,25,26,27,28,29,30],[],false⟩,⟨[],[0,1,2,3,4,5,6,7,8,9,10,11,12,13,14,15,16,17,18,19,20,21,22,23,24,25,26,27,28,29,30,31],[],false⟩]
theorem LO {n:Nat} {a0:List Claim} {a1:Claim} {r:List Claim} (h:CB n a0 a1=some r):Sound Tryz.prog 95 [.l (.r 0 4 0 a0.length),.g [iA a1.frm,iA a1.to,iA a1.node,iA a1.epoch]] [⟨81,4,true,none,lvs (Aq a0)⟩] (.l (.r 0 4 0 r.length)) [some ⟨81,4,true,none,lvs (Aq r)⟩]:=by
 unfold CB at h;refine SO 53 Tryz.func95 fun cx hG (hz:cx.nb=1)=>?_;simp only[it];refine ST ?_;apply AW.seq;obtain⟨v1,e1,v2,e2,h⟩:=oll h;refine AW.step (by simp[Ad e1,← e2];intros;rfl) ?_;obtain⟨y3,g3,h⟩:=bnE h;refine zC (p:=fun gh ls=>(nP (cx:=cx) (fun q=>(⟨[(0,.l (.r 0 4 0 a0.length)),(3,.l (.p 1 0)),(5,.l (iA v2)),(41,.l (bA q))],[some ⟨81,4,true,none,lvs (Aq a0)⟩,some ⟨81,4,false,none,[iA a1.frm,iA a1.to,iA a1.node,iA a1.epoch]⟩],53,gh,ls⟩:St))) y3) ?_ ?_
 ·replace h:=g3;clear g3
  obtain⟨v4,e4,h⟩:=ltE h;cases v4 with
  |true=>
   replace h:=iT h;obtain⟨v5,e5,h⟩:=bnE h;have f6:=A0 e5;try simp[← e4,Aa e5] at f6
   obtain⟨v7,e7,v8,e8,h⟩:=oll h;cases v8 with
   |true=>
    replace h:=iT h;have f9:=A0 e5;try simp[← e4,Aa e5,f6,AN (Aa e5).2 (j:=1) (by decide),lvs1,← e7,← e8] at f9
    obtain⟨v10,e10,h⟩:=ltE h;cases v10 with
    |true=>
     replace h:=iT h;have f11:=A0 e5;try simp[← e4,Aa e5,f6,AN (Aa e5).2 (j:=1) (by decide),lvs1,← e7,← e8,f9,AN (Aa e5).2 (j:=2) (by decide),← e10] at f11
     obtain⟨v12,e12,h⟩:=ltE h;apply zF (V:=[_,_,_,_,_,_,_,_,_,_,_,_,_,_,_,_,_,_,_,_,_,_,_,_,_,_,_,_,_,_,_]) mixed DY8t2 31 (by kernel_rfl) (by kernel_rfl)
     ·refine⟨?_,?_,?_,?_,?_,?_,?_,?_,?_,?_,?_,?_,?_,?_,?_,?_,?_,?_,?_,?_,?_,?_,?_,?_,?_,?_,?_,?_,?_,?_,?_,trivial⟩;iterate 31 (· intro tm hr;simp[AllL,rdV] at hr;simp[hr,← e4,Aa e5,f6,AN (Aa e5).2 (j:=1) (by decide),lvs1,← e7,← e8,f9,AN (Aa e5).2 (j:=2) (by decide),← e10,f11,AN (Aa e5).2 (j:=3) (by decide),← e12];intros;exact KA)
     ·rfl
     ·simp[tmD,putD,← e4,Aa e5,f6,AN (Aa e5).2 (j:=1) (by decide),lvs1,← e7,← e8,f9,AN (Aa e5).2 (j:=2) (by decide),← e10,f11,AN (Aa e5).2 (j:=3) (by decide),← e12];rfl
     ·simp[← e4,Aa e5,f6,AN (Aa e5).2 (j:=1) (by decide),lvs1,← e7,← e8,f9,AN (Aa e5).2 (j:=2) (by decide),← e10,f11,AN (Aa e5).2 (j:=3) (by decide),← e12];intros;rfl
     obtain rfl:=oi h;refine nP_i ?_;refine zE 1 [some 0,some 1] hz (by decide) (by decide) ?_ ?_ ?_;all_goals first|(simp[Ae,Af,pickOb];done)|rfl
    |false=>
     replace h:=iF h;apply zF (V:=[_,_,_,_,_,_,_,_,_,_,_,_,_,_,_,_,_,_,_,_,_,_,_,_,_,_,_,_,_,_,_]) mixed DY8t2 31 (by kernel_rfl) (by kernel_rfl)
     ·refine⟨?_,?_,?_,?_,?_,?_,?_,?_,?_,?_,?_,?_,?_,?_,?_,?_,?_,?_,?_,?_,?_,?_,?_,?_,?_,?_,?_,?_,?_,?_,?_,trivial⟩;iterate 31 (· intro tm hr;simp[AllL,rdV] at hr;simp[hr,← e4,Aa e5,f6,AN (Aa e5).2 (j:=1) (by decide),lvs1,← e7,← e8,f9,AN (Aa e5).2 (j:=2) (by decide),← e10];intros;exact KA)
     ·rfl
     ·simp[tmD,putD,← e4,Aa e5,f6,AN (Aa e5).2 (j:=1) (by decide),lvs1,← e7,← e8,f9,AN (Aa e5).2 (j:=2) (by decide),← e10];rfl
     ·simp[← e4,Aa e5,f6,AN (Aa e5).2 (j:=1) (by decide),lvs1,← e7,← e8,f9,AN (Aa e5).2 (j:=2) (by decide),← e10];intros;rfl
     obtain rfl:=oi h;refine nP_i ?_;refine zE 1 [some 0,some 1] hz (by decide) (by decide) ?_ ?_ ?_;all_goals first|(simp[Ae,Af,pickOb];done)|rfl
   |false=>
    replace h:=iF h;apply zF (V:=[_,_,_,_,_,_,_,_,_,_,_,_,_,_,_,_,_,_,_,_,_,_,_,_,_,_,_,_,_,_,_]) mixed DY8t2 31 (by kernel_rfl) (by kernel_rfl)
    ·refine⟨?_,?_,?_,?_,?_,?_,?_,?_,?_,?_,?_,?_,?_,?_,?_,?_,?_,?_,?_,?_,?_,?_,?_,?_,?_,?_,?_,?_,?_,?_,?_,trivial⟩;iterate 31 (· intro tm hr;simp[AllL,rdV] at hr;simp[hr,← e4,Aa e5,f6,AN (Aa e5).2 (j:=1) (by decide),lvs1,← e7,← e8];intros;exact KA)
    ·rfl
    ·simp[tmD,putD,← e4,Aa e5,f6,AN (Aa e5).2 (j:=1) (by decide),lvs1,← e7,← e8];rfl
    ·simp[← e4,Aa e5,f6,AN (Aa e5).2 (j:=1) (by decide),lvs1,← e7,← e8];intros;rfl
    obtain rfl:=oi h;refine nP_i ?_;refine zE 1 [some 0,some 1] hz (by decide) (by decide) ?_ ?_ ?_;all_goals first|(simp[Ae,Af,pickOb];done)|rfl
  |false=>
   replace h:=iF h;apply zF (V:=[_,_,_,_,_,_,_,_,_,_,_,_,_,_,_,_,_,_,_,_,_,_,_,_,_,_,_,_,_,_,_]) mixed DY8t2 31 (by kernel_rfl) (by kernel_rfl)
   ·refine⟨?_,?_,?_,?_,?_,?_,?_,?_,?_,?_,?_,?_,?_,?_,?_,?_,?_,?_,?_,?_,?_,?_,?_,?_,?_,?_,?_,?_,?_,?_,?_,trivial⟩;iterate 31 (· intro tm hr;simp[AllL,rdV] at hr;simp[hr,← e4];intros;exact KA)
   ·rfl
   ·simp[tmD,putD,← e4];rfl
   ·simp[← e4];intros;rfl
   obtain rfl:=oi h;refine nP_i ?_;refine zE 1 [some 0,some 1] hz (by decide) (by decide) ?_ ?_ ?_;all_goals first|(simp[Ae,Af,pickOb];done)|rfl
 ·rintro e s⟨rfl,hw⟩;refine⟨_,hw,?_⟩;try simp only[nm]
  obtain⟨v13,e13,h⟩:=ltE h;rw[← e13];cases v13 with
  |true=>
   replace h:=iT h;refine CT ?_;obtain⟨v14,e14,h⟩:=bnE h;have f15:=A0 e14;try simp[Aa e14] at f15
   obtain⟨v16,e16,h⟩:=ltE h;have f17:=Ij (Aa e14).2 e16 (j:=1) (cs:=[iA a1.to]) (by simp) rfl;try simp at f17
   have f18:=f15;try simp only[AC e16] at f18
   refine AW.step (by simp[Aa e14,f15,HT (Aa e14).2 (j:=1) (m:=1) (by decide),f17,f18];intros;rfl) ?_;refine ST ?_;obtain rfl:=oi h;apply AW.ret;refine Left.of (av:=_) (by simp[Tryz.f95,resV,resC,comp];rfl) ?_;exact zJ 1 [some 0] hz rfl (by decide) rfl (by simp[pickOb,Ae,Af,AC e16]) (by simp[Ae,Af,AC e16])
  |false=>
   replace h:=iF h;refine CF ?_;apply AW.skip;try simp only[nm]
   obtain⟨e19,v20,e20,h⟩:=ocl h;apply AW.step
   ·simp[St.grow,obsBut,← AZ,← e20,Ar e20];intros;refine Ax ?_;try simp[St.grow,obsBut,← AZ,← e20,Ar e20]
    intros;refine FT (acc:=Aq a0) (ys:=Aq [a1]) (cap:=none) (k:=1) Hf He (by simp) (by simp[Aq,lvs]) (BK _) (by simp) (by simp) (by first|(simp;done)|simpa using (Aw e19).1) ?_;try simp[St.grow,obsBut,← AZ,← e20,Ar e20]
    intros;rfl
   obtain rfl:=oi h;apply AW.ret;refine Left.of (av:=_) (by simp[Tryz.f95,resV,resC,comp];rfl) ?_;exact zJ 1 [some 0] hz rfl (by decide) rfl (by simp[pickOb,Ae,Af,CQ]) (by simp[Ae,Af,CQ])
theorem KH:Enters Tryz.prog 95:=enters Tryz.func95 (by kernel_rfl) rfl
def Dd (n:Nat) (a0:List Claim) (a1:List Span) (a2:Int) (a3:Int):Option (List Claim) :=
bn (Fv n a1) fun v1 =>
bn (Ef n [] a0) fun v2 =>
bn (iter n (fun (y3:List Int×Int) =>
lt (lenI v1) fun v6 =>
lt (ltI y3.2 v6) fun v7 =>
ite' v7 (bn (nth v1 y3.2) fun v8 =>
bn (Ce n y3.1 v8.frm) fun v9 =>
lt (addI .i64 v8.to 1) fun v10 =>
bn (Ce n v9 v10) fun v11 =>
lt (addI .i64 y3.2 1) fun v12 =>
some (.inl (v11,v12))) (some (.inr y3.1))) (v2,0)) fun (y4:List Int) =>
bn (iter n (fun (y13:Int×List Claim) =>
lt (addI .i64 y13.1 1) fun v16 =>
lt (lenI y4) fun v17 =>
lt (ltI v16 v17) fun v18 =>
ite' v18 (bn (bn (nth y4 y13.1) fun v20 =>
bn (Dw n a0 v20) fun v21 =>
bn (bn (Ee n v1 v20) fun v23 =>
ite' v23 (some ((a2,a3))) (some ((v21.1,v21.2)))) fun (y22:Int×Int) =>
lt (geI y22.1 0) fun v24 =>
ite' v24 (bn (nth y4 y13.1) fun v25 =>
lt (addI .i64 y13.1 1) fun v26 =>
bn (nth y4 v26) fun v27 =>
lt (subI .i64 v27 1) fun v28 =>
bn (CB n y13.2 (⟨v25,v28,y22.1,y22.2⟩:Claim)) fun v29 =>
some (v29)) (some (y13.2))) fun (y19:List Claim) =>
lt (addI .i64 y13.1 1) fun v30 =>
some (.inl (v30,y19))) (some (.inr y13.2))) (0,[])) fun (y14:List Claim) =>
chk (room y14.length 1) <|
some y14
theorem O0 {n:Nat} {a0:List Claim} {a1:List Span} {a2:Int} {a3:Int} {r:List Claim} (h:Dd n a0 a1 a2 a3=some r):Sound Tryz.prog 57 [.l (dB a0),.l (dJ a1),.l (iA a2),.l (iA a3)] [] (.l (dB r)) []:=by
 unfold Dd at h;refine SO 83 Tryz.func57 fun cx hG (hz:cx.nb=0)=>?_;simp only[it];refine ST ?_;obtain⟨v1,e1,h⟩:=bnE h;apply AW.step
 ·simp;intros;refine Ab OZ (PY e1) rfl ⟨.d _ _ _,trivial⟩ ?_;try simp
  intros;rfl
 obtain⟨v2,e2,h⟩:=bnE h;apply AW.step
 ·simp;intros;refine Ab MO (NC e2) rfl ⟨.nil _ _,.same rfl,trivial⟩ ?_;try simp
  intros;rfl
 apply AW.seq;refine ST ?_;apply AW.block;obtain⟨y4,g4,h⟩:=bnE h;refine zD g4 (mk:=fun gh ls q=>(⟨[(0,.l (dB a0)),(2,.l (iA a2)),(3,.l (iA a3)),(9,.l (dG v1)),(10,.l (dC q.1)),(11,.l (iA q.2))],[],83,gh,ls⟩:St)) (N:=fun gh ls=>(xP 0 (cx:=cx) (fun q=>(⟨[(0,.l (dB a0)),(2,.l (iA a2)),(3,.l (iA a3)),(9,.l (dG v1)),(10,.l (dC q))],[],83,gh,ls⟩:St)))) ?_ noX ?_ ?_
 ·exact WM [] hz
 ·clear h;intro y3 y5 h
  apply AW.seq;obtain⟨v6,e6,v7,e7,h⟩:=oll h;refine AW.step (by simp[Ad e6,← e7];intros;rfl) ?_;cases v7 with
  |true=>
   replace h:=iT h;refine CT ?_;apply AW.skip;try simp only[nm]
   apply AW.seq;apply AW.block;obtain⟨v8,e8,h⟩:=bnE h;obtain⟨v9,e9,h⟩:=bnE h;apply AW.step
   ·simp[Aa e8];intros;refine Ab Es (Fc e9) rfl ⟨.same rfl,.same rfl,trivial⟩ ?_;try simp[Aa e8]
    intros;rfl
   obtain⟨v10,e10,v11,e11,h⟩:=olb h;apply AW.last
   ·simp[Aa e8,← e10];intros;refine Ab Es (Fc e11) rfl ⟨.same rfl,.same rfl,trivial⟩ ?_;try simp[Aa e8,← e10]
    intros;rfl
   try simp only[nm]
   obtain⟨v12,e12,h⟩:=ltE h;refine AW.last (by simp[← e12];intros;rfl) ?_;obtain rfl:=oi h;exact nP_i (WM [] hz)
  |false=>
   replace h:=iF h;refine CF ?_;apply AW.exit;try simp only[nm]
   obtain rfl:=oi h;refine xP_i ?_;exact WM [] hz
 ·rintro e s⟨rfl,hw⟩;refine⟨_,hw,?_⟩;try simp only[nm]
  refine ST ?_;apply AW.seq;refine ST ?_;apply AW.block;obtain⟨y14,g14,h⟩:=bnE h;refine zD g14 (mk:=fun gh ls q=>(⟨[(0,.l (dB a0)),(2,.l (iA a2)),(3,.l (iA a3)),(9,.l (dG v1)),(10,.l (dC y4)),(12,.l (.r 0 4 0 q.2.length)),(13,.l (iA q.1))],[some ⟨81,4,true,none,lvs (Aq q.2)⟩],83,gh,ls⟩:St)) (N:=fun gh ls=>(xP 2 (cx:=cx) (fun q=>(⟨[(12,.l (.r 0 4 0 q.length))],[some ⟨81,4,true,none,lvs (Aq q)⟩],83,gh,ls⟩:St)))) ?_ noX ?_ ?_
  ·refine W.nilRow 12 81 4 0 (by simp) rfl rfl ?_;exact WM [0] hz
  ·clear h;intro y13 y15 h
   apply AW.seq;obtain⟨v16,e16,v17,e17,v18,e18,h⟩:=olll h;refine AW.step (by simp[← e16,Ad e17,← e18];intros;rfl) ?_;cases v18 with
   |true=>
    replace h:=iT h;refine CT ?_;apply AW.skip;try simp only[nm]
    obtain⟨y19,g19,h⟩:=bnE h;refine zC (p:=fun gh ls=>(nP (cx:=cx) (fun q=>(⟨[(0,.l (dB a0)),(2,.l (iA a2)),(3,.l (iA a3)),(9,.l (dG v1)),(10,.l (dC y4)),(12,.l (.r 0 4 0 q.length)),(13,.l (iA y13.1))],[some ⟨81,4,true,none,lvs (Aq q)⟩],83,gh,ls⟩:St))) y19) ?_ ?_
    ·replace h:=g19;clear g19
     apply AW.block;obtain⟨v20,e20,h⟩:=bnE h;obtain⟨v21,e21,h⟩:=bnE h;apply AW.step
     ·simp[Aa e20];intros;refine Ab Lc (Mx e21) rfl ⟨.same rfl,.same rfl,trivial⟩ ?_;try simp[Aa e20]
      intros;rfl
     obtain⟨y22,g22,h⟩:=bnE h;refine zC (p:=fun gh ls=>(nP (cx:=cx) (fun q=>(⟨[(0,.l (dB a0)),(2,.l (iA a2)),(3,.l (iA a3)),(9,.l (dG v1)),(10,.l (dC y4)),(12,.l (.r 0 4 0 y13.2.length)),(13,.l (iA y13.1)),(14,.l (iA q.1)),(15,.l (iA q.2))],[some ⟨81,4,true,none,lvs (Aq y13.2)⟩],83,gh,ls⟩:St))) y22) ?_ ?_
     ·replace h:=g22;clear g22
      obtain⟨v23,e23,h⟩:=bnE h;apply AW.step
      ·simp[Aa e20];intros;refine Ab Iy (Je e23) rfl ⟨.same rfl,.same rfl,trivial⟩ ?_;try simp[Aa e20]
       intros;rfl
      cases v23 with
      |true=>
       replace h:=iT h;refine CT ?_;refine ST ?_;refine SL ?_;obtain rfl:=oi h;exact nP_i (WM [0] hz)
      |false=>
       replace h:=iF h;refine CF ?_;apply AW.skip;try simp only[nm]
       obtain rfl:=oi h;exact nP_i (WM [0] hz)
     ·rintro e s⟨rfl,hw⟩;refine⟨_,hw,?_⟩;try simp only[nm]
      obtain⟨v24,e24,h⟩:=ltE h;refine AW.step (by simp[← e24];intros;rfl) ?_;cases v24 with
      |true=>
       replace h:=iT h;refine CT ?_;obtain⟨v25,e25,v26,e26,h⟩:=obl h;obtain⟨v27,e27,v28,e28,h⟩:=obl h;obtain⟨v29,e29,h⟩:=bnE h;apply zF (V:=[_,_,_,_,_,_,_,_,_,_,_,_,_,_]) mixed [⟨[0],[],[(12,none)],false⟩,⟨[0],[],[(10,none)],false⟩,⟨[0],[],[(13,none)],false⟩,⟨[0],[1,2],[(68,some 1),(69,some 2)],false⟩,⟨[0],[1,2,3],[(70,some 3)],false⟩,⟨[0],[],[(10,none)],false⟩,⟨[0],[],[(13,none)],false⟩,⟨[0],[6],[(73,some 6)],false⟩,⟨[0],[5,6,7],[(72,some 5),(74,some 7)],false⟩,⟨[0],[5,6,7,8],[(75,some 8)],false⟩,⟨[0],[5,6,7,8,9],[(76,some 9)],false⟩,⟨[0],[],[(14,none)],false⟩,⟨[0],[],[(15,none)],false⟩,⟨[0],[1,2,3,4,5,6,7,8,9,10,11,12],[(71,some 4),(77,some 10),(78,some 11),(79,some 12)],false⟩,⟨[],[0,1,2,3,4,5,6,7,8,9,10,11,12,13],[],false⟩,⟨[],[0,1,2,3,4,5,6,7,8,9,10,11,12,13,14],[],false⟩] 14 (by kernel_rfl) (by kernel_rfl)
       ·refine⟨?_,?_,?_,?_,?_,?_,?_,?_,?_,?_,?_,?_,?_,?_,trivial⟩;iterate 14 (· intro tm hr;simp[AllL,rdV] at hr;simp[hr,Aa e25,← e26,Aa e27,← e28,obAfter,outR,keptR,Ae,Af];intros;exact KA)
       ·rfl
       ·simp[tmD,putD,Aa e25,← e26,Aa e27,← e28,obAfter,outR,keptR,Ae,Af];rfl
       ·simp[Aa e25,← e26,Aa e27,← e28,obAfter,outR,keptR,Ae,Af];intros;refine Cf [0] KH (LO e29) (by decide) (by simp[pickOb,Ae,Af]) rfl rfl (by simp) ⟨.l (.own' (by simp[Ae,Af]) (by simp)),.g ⟨.s _,.s _,.s _,.s _,trivial⟩,trivial⟩ ?_;try simp[Aa e25,← e26,Aa e27,← e28,obAfter,outR,keptR,Ae,Af]
        intros;rfl
       obtain rfl:=oi h;exact nP_i (WM [0] hz)
      |false=>
       replace h:=iF h;refine CF ?_;apply AW.skip;try simp only[nm]
       obtain rfl:=oi h;exact nP_i (WM [0] hz)
    ·rintro e s⟨rfl,hw⟩;refine⟨_,hw,?_⟩;try simp only[nm]
     obtain⟨v30,e30,h⟩:=ltE h;refine AW.last (by simp[← e30];intros;rfl) ?_;obtain rfl:=oi h;exact nP_i (WM [0] hz)
   |false=>
    replace h:=iF h;refine CF ?_;apply AW.exit;try simp only[nm]
    obtain rfl:=oi h;refine xP_i ?_;exact WM [0] hz
  ·rintro e s⟨rfl,hw⟩;refine⟨_,hw,?_⟩;try simp only[nm]
   refine ST ?_;obtain⟨e31,h⟩:=chkE h;refine FZ 0 81 4 (BK y14) e31 ?_;obtain rfl:=oi h;apply AW.ret;exact LP hz
theorem ND:Enters Tryz.prog 57:=enters Tryz.func57 (by kernel_rfl) rfl
def DV (n:Nat) (a0:Node):Option R13Moved :=
lt (neI a0.master (-1)) fun v1 =>
ite' v1 (some (⟨a0,[],0⟩:R13Moved)) (bn (iter n (fun (y2:Int×Int×List Claim×Int×List Msg×List Move) =>
lt (lenI a0.moves) fun v5 =>
lt (ltI y2.1 v5) fun v6 =>
ite' v6 (bn (bn (nth a0.moves y2.1) fun v8 =>
bn (GA n a0.db v8.slot) fun v9 =>
bn (lt (eqI v8.num 0) fun v11 =>
ite' v11 (lt (lenI v9) fun v12 =>
lt (eqI v12 0) fun v13 =>
some (v13)) (some (false))) fun (y10:Bool) =>
lt (y10) fun v14 =>
ite' v14 (lt (addI .i64 y2.2.1 1) fun v15 =>
chk (room 1 1) <|
bn (Dd n y2.2.2.1 [(⟨v8.slot,v8.slot⟩:Span)] v8.to v15) fun v17 =>
some ((v15,v17,y2.2.2.2.1,y2.2.2.2.2.1,y2.2.2.2.2.2))) (bn (lt (eqI v8.num 0) fun v19 =>
ite' v19 (lt (addI .i64 y2.2.2.2.1 1) fun v20 =>
bn (nth v9 0) fun v21 =>
some ((v20,(⟨v8.slot,v8.to,v20,v21⟩:Move)))) (some ((y2.2.2.2.1,v8)))) fun (y18:Int×Move) =>
chk (room (y2.2.2.2.2.2.length+1) 40) <|
lt (y2.2.2.2.2.2++[y18.2]) fun v23 =>
bn (D7 n a0.db y18.2.key) fun v24 =>
chk (room (y2.2.2.2.2.1.length+1) 168) <|
lt (y2.2.2.2.2.1++[(⟨2,a0.id,y18.2.to,0,[],[],0,y18.2.slot,y18.2.num,(⟨0,0⟩:Rid),(⟨0,0⟩:Rid),0,[(⟨y18.2.key,false,v24.i⟩:Effect)]⟩:Msg)]) fun v26 =>
some ((y2.2.1,y2.2.2.1,y18.1,v26,v23)))) fun (y7:Int×List Claim×Int×List Msg×List Move) =>
lt (addI .i64 y2.1 1) fun v27 =>
some (.inl (v27,y7.1,y7.2.1,y7.2.2.1,y7.2.2.2.1,y7.2.2.2.2))) (some (.inr (y2.2.1,y2.2.2.1,y2.2.2.2.1,y2.2.2.2.2.1,y2.2.2.2.2.2)))) (0,a0.epoch,a0.claims,a0.last,[],[])) fun (y3:Int×List Claim×Int×List Msg×List Move) =>
chk (room y3.2.2.2.2.length 1) <|
chk (room y3.2.2.2.1.length 1) <|
some (⟨(⟨a0.count,a0.id,a0.master,y3.1,a0.voted,y3.2.1,a0.db,y3.2.2.2.2,y3.2.2.1,a0.seen,a0.feed,a0.watch,a0.asked,a0.votes,a0.wait⟩:Node),y3.2.2.2.1,0⟩:R13Moved))
theorem O1 {n:Nat} {a0:Node} {r:R13Moved} (h:DV n a0=some r):Sound Tryz.prog 21 [.g (cA0 a0)] [] (.g (cG0 r)) []:=by
 unfold DV at h;refine SO 102 Tryz.func21 fun cx hG (hz:cx.nb=0)=>?_;simp only[it];refine ST ?_;apply AW.seq;obtain⟨v1,e1,h⟩:=ltE h;refine AW.step (by simp[← e1];intros;rfl) ?_;cases v1 with
 |true=>
  replace h:=iT h;refine CT ?_;refine ST ?_;refine AW.nilCellD 1 22 15 rfl rfl rfl rfl ?_;obtain rfl:=oi h;apply AW.ret;exact LP hz
 |false=>
  replace h:=iF h;refine CF ?_;apply AW.skip;try simp only[nm]
  refine ST ?_;refine ST ?_;refine ST ?_;apply AW.seq;refine ST ?_;apply AW.block;obtain⟨y3,g3,h⟩:=bnE h;refine zD g3 (mk:=fun gh ls q=>(⟨[(1,.l (.p 0 0)),(2,.l (.p 1 0)),(3,.l (dI a0.moves)),(4,.l (.r 2 15 0 q.2.2.2.2.1.length)),(5,.l (iA q.1))],[some ⟨38,22,false,none,(cK0 a0 (iA q.2.1) (dB q.2.2.1) (.r 3 4 0 q.2.2.2.2.2.length) (iA q.2.2.2.1))⟩,some ⟨67,24,false,none,cD0⟩,some ⟨49,15,true,none,lvs (AA q.2.2.2.2.1)⟩,some ⟨92,4,true,none,lvs (Am q.2.2.2.2.2)⟩],102,gh,ls⟩:St)) (N:=fun gh ls=>(xP 0 (cx:=cx) (fun q=>(⟨[(1,.l (.p 0 0)),(2,.l (.p 1 0)),(4,.l (.r 2 15 0 q.2.2.2.1.length))],[some ⟨38,22,false,none,(cK0 a0 (iA q.1) (dB q.2.1) (.r 3 4 0 q.2.2.2.2.length) (iA q.2.2.1))⟩,some ⟨67,24,false,none,cD0⟩,some ⟨49,15,true,none,lvs (AA q.2.2.2.1)⟩,some ⟨92,4,true,none,lvs (Am q.2.2.2.2)⟩],102,gh,ls⟩:St)))) ?_ noX ?_ ?_
  ·refine W.nilCell 0 7 92 4 2 rfl rfl rfl rfl rfl ?_;refine W.nilRow 4 49 15 3 (by simp) rfl rfl ?_;exact WM [0,1,3,2] hz
  ·clear h;intro y2 y4 h
   apply AW.seq;obtain⟨v5,e5,v6,e6,h⟩:=oll h;refine AW.step (by simp[Ad e5,← e6];intros;rfl) ?_;cases v6 with
   |true=>
    replace h:=iT h;refine CT ?_;apply AW.skip;try simp only[nm]
    obtain⟨y7,g7,h⟩:=bnE h;refine zC (p:=fun gh ls=>(nP (cx:=cx) (fun q=>(⟨[(1,.l (.p 0 0)),(2,.l (.p 1 0)),(3,.l (dI a0.moves)),(4,.l (.r 2 15 0 q.2.2.2.1.length)),(5,.l (iA y2.1))],[some ⟨38,22,false,none,(cK0 a0 (iA q.1) (dB q.2.1) (.r 3 4 0 q.2.2.2.2.length) (iA q.2.2.1))⟩,some ⟨67,24,false,none,cD0⟩,some ⟨49,15,true,none,lvs (AA q.2.2.2.1)⟩,some ⟨92,4,true,none,lvs (Am q.2.2.2.2)⟩],102,gh,ls⟩:St))) y7) ?_ ?_
    ·replace h:=g7;clear g7
     apply AW.block;obtain⟨v8,e8,h⟩:=bnE h;refine AW.step (by simp[Aa e8];intros;rfl) ?_;obtain⟨v9,e9,h⟩:=bnE h;apply AW.step
     ·simp;intros;refine Ab QU (R9 e9) rfl ⟨.same rfl,.same rfl,trivial⟩ ?_;try simp
      intros;rfl
     apply AW.seq;obtain⟨y10,g10,h⟩:=bnE h;refine zC (p:=fun gh ls=>(nP (cx:=cx) (fun q=>(⟨[(1,.l (.p 0 0)),(2,.l (.p 1 0)),(3,.l (dI a0.moves)),(4,.l (.r 2 15 0 y2.2.2.2.2.1.length)),(5,.l (iA y2.1)),(6,.l (.p 3 0)),(7,.l (dH v9)),(38,.l (bA q))],[some ⟨38,22,false,none,(cK0 a0 (iA y2.2.1) (dB y2.2.2.1) (.r 4 4 0 y2.2.2.2.2.2.length) (iA y2.2.2.2.1))⟩,some ⟨67,24,false,none,cD0⟩,some ⟨49,15,true,none,lvs (AA y2.2.2.2.2.1)⟩,some ⟨92,4,false,none,[iA v8.slot,iA v8.to,iA v8.num,tA v8.key]⟩,some ⟨92,4,true,none,lvs (Am y2.2.2.2.2.2)⟩],102,gh,ls⟩:St))) y10) ?_ ?_
     ·replace h:=g10;clear g10
      obtain⟨v11,e11,h⟩:=ltE h;cases v11 with
      |true=>
       replace h:=iT h;obtain⟨v12,e12,v13,e13,h⟩:=oll h;refine AW.last (by simp[← e11,Ad e12,← e13];intros;rfl) ?_;obtain rfl:=oi h;exact nP_i (WM [0,1,2,4,3] hz)
      |false=>
       replace h:=iF h;refine AW.last (by simp[← e11];intros;rfl) ?_;obtain rfl:=oi h;exact nP_i (WM [0,1,2,4,3] hz)
     ·rintro e s⟨rfl,hw⟩;refine⟨_,hw,?_⟩;try simp only[nm]
      obtain⟨v14,e14,h⟩:=ltE h;rw[← e14];cases v14 with
      |true=>
       replace h:=iT h;refine CT ?_;obtain⟨v15,e15,h⟩:=ltE h;refine AW.step (by simp[← e15];intros;rfl) ?_;obtain⟨e16,h⟩:=chkE h;obtain⟨v17,e17,h⟩:=bnE h;apply AW.step
       ·simp;intros;refine Ax ?_;try simp
        intros;refine Ab ND (O0 e17) rfl ⟨.same rfl,.rowd (by simp[Di]) rfl (by omega) (CY _) (by simp) (by first|exact (Aw e16).2|simpa using (Aw e16).2|simp),.same rfl,.same rfl,trivial⟩ ?_;try simp
        intros;rfl
       apply AW.exit;try simp only[nm]
       obtain rfl:=oi h;refine nP_i ?_;refine zG [some 0,some 1,some 2,some 4] hz (by decide) ?_ ?_ rfl;all_goals first|(simp[Ae,Af,pickOb,Di];done)|rfl
      |false=>
       replace h:=iF h;refine CF ?_;apply AW.skip;try simp only[nm]
       obtain⟨y18,g18,h⟩:=bnE h;refine zC (p:=fun gh ls=>(nP (cx:=cx) (fun q=>(⟨[(1,.l (.p 0 0)),(2,.l (.p 1 0)),(3,.l (dI a0.moves)),(4,.l (.r 2 15 0 y2.2.2.2.2.1.length)),(5,.l (iA y2.1)),(6,.l (.p 3 0))],[some ⟨38,22,false,none,(cK0 a0 (iA y2.2.1) (dB y2.2.2.1) (.r 4 4 0 y2.2.2.2.2.2.length) (iA q.1))⟩,some ⟨67,24,false,none,cD0⟩,some ⟨49,15,true,none,lvs (AA y2.2.2.2.2.1)⟩,some ⟨92,4,false,none,[iA q.2.slot,iA q.2.to,iA q.2.num,tA q.2.key]⟩,some ⟨92,4,true,none,lvs (Am y2.2.2.2.2.2)⟩],102,gh,ls⟩:St))) y18) ?_ ?_
       ·replace h:=g18;clear g18
        obtain⟨v19,e19,h⟩:=ltE h;refine AW.step (by simp[← e19];intros;rfl) ?_;cases v19 with
        |true=>
         replace h:=iT h;refine CT ?_;obtain⟨v20,e20,h⟩:=ltE h;refine AW.step (by simp[← e20];intros;rfl) ?_;refine ST ?_;obtain⟨v21,e21,h⟩:=bnE h;apply AW.last
         ·simp[(show v9[0]?=some v21 from (Aa e21).2)];intros;rfl
         obtain rfl:=oi h;exact nP_i (WM [0,1,2,3,4] hz)
        |false=>
         replace h:=iF h;refine CF ?_;apply AW.skip;try simp only[nm]
         obtain rfl:=oi h;exact nP_i (WM [0,1,2,3,4] hz)
       ·rintro e s⟨rfl,hw⟩;refine⟨_,hw,?_⟩;try simp only[nm]
        obtain⟨e22,v23,e23,h⟩:=ocl h;apply AW.step
        ·simp[← A8,← e23,Ar e23];intros;refine Ax ?_;try simp[← A8,← e23,Ar e23]
         intros;refine AD (acc:=Am y2.2.2.2.2.2) (ys:=Am [y18.2]) (cap:=none) (k:=1) Cm Cw (by simp) (by simp[Am,lvs]) (AB _) (by simp) (by simp) (by first|(simp;done)|simpa using (Aw e22).1) ?_;try simp[← A8,← e23,Ar e23]
         intros;rfl
        obtain⟨v24,e24,h⟩:=bnE h;obtain⟨e25,v26,e26,h⟩:=ocl h;apply zF (V:=[_,_,_,_,_,_,_,_,_,_,_,_,_,_,_,_,_,_,_,_,_]) mixed [⟨[0],[],[(4,none)],false⟩,⟨[0],[],[(1,none)],false⟩,⟨[0],[1],[(78,some 1)],false⟩,⟨[0],[],[(6,none)],false⟩,⟨[0],[3],[(80,some 3)],false⟩,⟨[0],[],[(6,none)],false⟩,⟨[0],[5],[(82,some 5)],false⟩,⟨[0],[],[(6,none)],false⟩,⟨[0],[7],[(84,some 7)],false⟩,⟨[0],[],[(6,none)],false⟩,⟨[0],[9],[(86,some 9)],false⟩,⟨[0],[],[(1,none)],false⟩,⟨[0],[11],[(88,some 11)],false⟩,⟨[0],[],[(6,none)],false⟩,⟨[0],[13],[(90,some 13)],false⟩,⟨[0],[11,12,13,14],[(89,some 12),(91,some 14)],false⟩,⟨[0],[11,12,13,14,15],[(92,some 15)],false⟩,⟨[0],[9,10,11,12,13,14,15,16],[(87,some 10),(93,some 16)],false⟩,⟨[0],[9,10,11,12,13,14,15,16,17],[(94,some 17)],false⟩,⟨[0],[1,2,3,4,5,6,7,8,9,10,11,12,13,14,15,16,17,18],[(79,some 2),(81,some 4),(83,some 6),(85,some 8),(95,some 18)],false⟩,⟨[0],[1,2,3,4,5,6,7,8,9,10,11,12,13,14,15,16,17,18,19],[(96,some 19)],false⟩,⟨[],[0,1,2,3,4,5,6,7,8,9,10,11,12,13,14,15,16,17,18,19,20],[],false⟩,⟨[],[0,1,2,3,4,5,6,7,8,9,10,11,12,13,14,15,16,17,18,19,20,21],[],false⟩] 21 (by kernel_rfl) (by kernel_rfl)
        ·refine⟨?_,?_,?_,?_,?_,?_,?_,?_,?_,?_,?_,?_,?_,?_,?_,?_,?_,?_,?_,?_,?_,trivial⟩;iterate 15 (· intro tm hr;simp[AllL,rdV] at hr;simp[hr,← AK,← e26,Ar e26];intros;exact KA)
         ·intro tm hr;simp[AllL,rdV] at hr;simp[hr,← AK,← e26,Ar e26];intros;refine Ab Ch (CH e24) rfl ⟨.same rfl,.same rfl,trivial⟩ ?_;try simp[← AK,← e26,Ar e26]
          intros;exact KA
         iterate 2 (· intro tm hr;simp[AllL,rdV] at hr;simp[hr,← AK,← e26,Ar e26];intros;exact KA)
         ·intro tm hr;simp[AllL,rdV] at hr;simp[hr,← AK,← e26,Ar e26];intros;refine E8 (es:=An [(⟨y18.2.key,false,v24.i⟩:Effect)]) (by simp[An,lvs,All2]) (Bh _) (by omega) (by simp) ?_;try simp[← AK,← e26,Ar e26]
          intros;exact KA
         ·intro tm hr;simp[AllL,rdV] at hr;simp[hr,← AK,← e26,Ar e26];intros;exact KA
         ·intro tm hr;simp[AllL,rdV] at hr;simp[hr,← AK,← e26,Ar e26];intros;refine E8 (es:=AA [(⟨2,a0.id,y18.2.to,0,[],[],0,y18.2.slot,y18.2.num,(⟨0,0⟩:Rid),(⟨0,0⟩:Rid),0,[(⟨y18.2.key,false,v24.i⟩:Effect)]⟩:Msg)]) (by simp[AA,lvs,All2]) (Cu _) (by omega) (by simp) ?_;try simp[← AK,← e26,Ar e26]
          intros;exact KA
        ·rfl
        ·simp[tmD,putD,← AK,← e26,Ar e26];rfl
        ·simp[← AK,← e26,Ar e26];intros;refine AD (acc:=AA y2.2.2.2.2.1) (ys:=AA [(⟨2,a0.id,y18.2.to,0,[],[],0,y18.2.slot,y18.2.num,(⟨0,0⟩:Rid),(⟨0,0⟩:Rid),0,[(⟨y18.2.key,false,v24.i⟩:Effect)]⟩:Msg)]) (cap:=none) (k:=1) IM IL (by simp) (by rw[Ek];simp) (Cu _) (by simp) (by simp) (by first|(simp;done)|simpa using (Aw e25).1) ?_;try simp[← AK,← e26,Ar e26]
         intros;rfl
        obtain rfl:=oi h;refine nP_i ?_;refine zG [some 0,some 1,some 7,some 6] hz (by decide) ?_ ?_ rfl;all_goals first|(simp[Ae,Af,pickOb,Gx];done)|rfl
    ·rintro e s⟨rfl,hw⟩;refine⟨_,hw,?_⟩;try simp only[nm]
     obtain⟨v27,e27,h⟩:=ltE h;refine AW.last (by simp[← e27];intros;rfl) ?_;obtain rfl:=oi h;exact nP_i (WM [0,1,2,3] hz)
   |false=>
    replace h:=iF h;refine CF ?_;apply AW.exit;try simp only[nm]
    obtain rfl:=oi h;refine xP_i ?_;exact WM [0,1,2,3] hz
  ·rintro e s⟨rfl,hw⟩;refine⟨_,hw,?_⟩;try simp only[nm]
   refine ST ?_;obtain⟨e28,h⟩:=chkE h;refine FZ 3 92 4 (AB y3.2.2.2.2) e28 ?_;obtain⟨e29,h⟩:=chkE h;refine FZ 2 49 15 (Cu y3.2.2.2.1) e29 ?_;obtain rfl:=oi h;apply AW.ret;exact LP hz
theorem NE:Enters Tryz.prog 21:=enters Tryz.func21 (by kernel_rfl) rfl
def Fw (n:Nat) (a0:Item):Option Bool :=
lt (eqI a0.kind 1) fun v1 =>
ite' v1 (bn (lt (lenI a0.f) fun v3 =>
lt (eqI v3 0) fun v4 =>
ite' v4 (lt (lenI a0.l) fun v5 =>
lt (eqI v5 0) fun v6 =>
some (v6)) (some (false))) fun (y2:Bool) =>
some y2) (lt (eqI a0.kind 2) fun v7 =>
ite' v7 (bn (lt (eqS a0.s ⟨#[]⟩) fun v9 =>
ite' v9 (lt (lenI a0.l) fun v10 =>
lt (eqI v10 0) fun v11 =>
ite' v11 (lt (lenI a0.f) fun v12 =>
lt (gtI v12 0) fun v13 =>
some (v13)) (some (false))) (some (false))) fun (y8:Bool) =>
some y8) (bn (lt (eqI a0.kind 3) fun v15 =>
ite' v15 (some (true)) (lt (eqI a0.kind 4) fun v16 =>
some (v16))) fun (y14:Bool) =>
lt (y14) fun v17 =>
ite' v17 (bn (lt (eqS a0.s ⟨#[]⟩) fun v19 =>
ite' v19 (lt (lenI a0.f) fun v20 =>
lt (eqI v20 0) fun v21 =>
ite' v21 (lt (lenI a0.l) fun v22 =>
lt (gtI v22 0) fun v23 =>
some (v23)) (some (false))) (some (false))) fun (y18:Bool) =>
some y18) (some false)))
theorem Fd {n:Nat} {a0:Item} {r:Bool} (h:Fw n a0=some r):Sound Tryz.prog 120 [.g (cE0 a0)] [] (.l (bA r)) []:=by
 unfold Fw at h;refine SO 52 Tryz.func120 fun cx hG (hz:cx.nb=0)=>?_;simp only[it];refine ST ?_;apply AW.seq;refine ST ?_;apply AW.block;obtain⟨v1,e1,h⟩:=ltE h;refine AW.step (by simp[← e1];intros;rfl) ?_;cases v1 with
 |true=>
  replace h:=iT h;refine CT ?_;obtain⟨y2,g2,h⟩:=bnE h;refine zC (p:=fun gh ls=>(nP (cx:=cx) (fun q=>(⟨[(2,.l (bA q))],[],52,gh,ls⟩:St))) y2) ?_ ?_
  ·replace h:=g2;clear g2
   obtain⟨v3,e3,v4,e4,h⟩:=oll h;cases v4 with
   |true=>
    replace h:=iT h;obtain⟨v5,e5,v6,e6,h⟩:=oll h;refine AW.last (by simp[Ad e3,← e4,Ad e5,← e6];intros;rfl) ?_;obtain rfl:=oi h;exact nP_i (WM [] hz)
   |false=>
    replace h:=iF h;refine AW.last (by simp[Ad e3,← e4];intros;rfl) ?_;obtain rfl:=oi h;exact nP_i (WM [] hz)
  ·rintro e s⟨rfl,hw⟩;refine⟨_,hw,?_⟩;try simp only[nm]
   obtain rfl:=oi h;apply AW.ret;exact LP hz
 |false=>
  replace h:=iF h;refine CF ?_;obtain⟨v7,e7,h⟩:=ltE h;refine AW.step (by simp[← e7];intros;rfl) ?_;cases v7 with
  |true=>
   replace h:=iT h;refine CT ?_;obtain⟨y8,g8,h⟩:=bnE h;refine zC (p:=fun gh ls=>(nP (cx:=cx) (fun q=>(⟨[(2,.l (bA q))],[],52,gh,ls⟩:St))) y8) ?_ ?_
   ·replace h:=g8;clear g8
    obtain⟨v9,e9,h⟩:=ltE h;cases v9 with
    |true=>
     replace h:=iT h;obtain⟨v10,e10,v11,e11,h⟩:=oll h;cases v11 with
     |true=>
      replace h:=iT h;obtain⟨v12,e12,v13,e13,h⟩:=oll h;refine AW.last (by simp[← e9,Ad e10,← e11,Ad e12,← e13];intros;rfl) ?_;obtain rfl:=oi h;exact nP_i (WM [] hz)
     |false=>
      replace h:=iF h;refine AW.last (by simp[← e9,Ad e10,← e11];intros;rfl) ?_;obtain rfl:=oi h;exact nP_i (WM [] hz)
    |false=>
     replace h:=iF h;refine AW.last (by simp[← e9];intros;rfl) ?_;obtain rfl:=oi h;exact nP_i (WM [] hz)
   ·rintro e s⟨rfl,hw⟩;refine⟨_,hw,?_⟩;try simp only[nm]
    obtain rfl:=oi h;apply AW.ret;exact LP hz
  |false=>
   replace h:=iF h;refine CF ?_;obtain⟨y14,g14,h⟩:=bnE h;refine zC (p:=fun gh ls=>(nP (cx:=cx) (fun q=>(⟨[(1,.l (.p 0 0)),(34,.l (bA q))],[some ⟨57,5,false,none,(cE0 a0)⟩],52,gh,ls⟩:St))) y14) ?_ ?_
   ·replace h:=g14;clear g14
    obtain⟨v15,e15,h⟩:=ltE h;refine AW.step (by simp[← e15];intros;rfl) ?_;cases v15 with
    |true=>
     replace h:=iT h;refine CT ?_;apply AW.skip;try simp only[nm]
     obtain rfl:=oi h;exact nP_i (WM [0] hz)
    |false=>
     replace h:=iF h;refine CF ?_;obtain⟨v16,e16,h⟩:=ltE h;refine AW.last (by simp[← e16];intros;rfl) ?_;obtain rfl:=oi h;exact nP_i (WM [0] hz)
   ·rintro e s⟨rfl,hw⟩;refine⟨_,hw,?_⟩;try simp only[nm]
    obtain⟨v17,e17,h⟩:=ltE h;rw[← e17];cases v17 with
    |true=>
     replace h:=iT h;refine CT ?_;obtain⟨y18,g18,h⟩:=bnE h;refine zC (p:=fun gh ls=>(nP (cx:=cx) (fun q=>(⟨[(2,.l (bA q))],[],52,gh,ls⟩:St))) y18) ?_ ?_
     ·replace h:=g18;clear g18
      obtain⟨v19,e19,h⟩:=ltE h;cases v19 with
      |true=>
       replace h:=iT h;obtain⟨v20,e20,v21,e21,h⟩:=oll h;cases v21 with
       |true=>
        replace h:=iT h;obtain⟨v22,e22,v23,e23,h⟩:=oll h;refine AW.last (by simp[← e19,Ad e20,← e21,Ad e22,← e23];intros;rfl) ?_;obtain rfl:=oi h;exact nP_i (WM [] hz)
       |false=>
        replace h:=iF h;refine AW.last (by simp[← e19,Ad e20,← e21];intros;rfl) ?_;obtain rfl:=oi h;exact nP_i (WM [] hz)
      |false=>
       replace h:=iF h;refine AW.last (by simp[← e19];intros;rfl) ?_;obtain rfl:=oi h;exact nP_i (WM [] hz)
     ·rintro e s⟨rfl,hw⟩;refine⟨_,hw,?_⟩;try simp only[nm]
      obtain rfl:=oi h;apply AW.ret;exact LP hz
    |false=>
     replace h:=iF h;refine CF ?_;apply AW.skip;try simp only[nm]
     refine ST ?_;obtain rfl:=oi h;apply AW.ret;exact LP hz
theorem Et:Enters Tryz.prog 120:=enters Tryz.func120 (by kernel_rfl) rfl
def DO (n:Nat) (a0:Item):Option Bool :=
bn (bn (Fw n a0) fun v2 =>
lt (notB v2) fun v3 =>
ite' v3 (some (true)) (lt (lenS a0.s) fun v4 =>
lt (gtI v4 300) fun v5 =>
ite' v5 (some (true)) (lt (lenI a0.f) fun v6 =>
lt (gtI v6 40) fun v7 =>
ite' v7 (some (true)) (lt (lenI a0.l) fun v8 =>
lt (gtI v8 40) fun v9 =>
ite' v9 (some (true)) (lt (ltI a0.exp 0) fun v10 =>
ite' v10 (some (true)) (lt (gtI a0.exp 9007199254740992) fun v11 =>
some (v11))))))) fun (y1:Bool) =>
lt (y1) fun v12 =>
ite' v12 (some false) (bn (iter n (fun (y13:Int) =>
lt (lenI a0.f) fun v16 =>
lt (ltI y13 v16) fun v17 =>
ite' v17 (bn (bn (nth a0.f y13) fun v19 =>
lt (lenS v19.name) fun v20 =>
lt (gtI v20 300) fun v21 =>
ite' v21 (some (true)) (lt (lenS v19.val) fun v22 =>
lt (gtI v22 300) fun v23 =>
ite' v23 (some (true)) (lt (gtI y13 0) fun v24 =>
ite' v24 (lt (subI .i64 y13 1) fun v25 =>
bn (nth a0.f v25) fun v26 =>
lt (geS v26.name v19.name) fun v27 =>
some (v27)) (some (false))))) fun (y18:Bool) =>
lt (y18) fun v28 =>
ite' v28 (some (.inr (.inr false))) (lt (addI .i64 y13 1) fun v29 =>
some (.inl v29))) (some (.inr (.inl ())))) 0) fun (y14:Unit ⊕ Bool) =>
sm y14 (fun y30=>bn (iter n (fun (y32:Int) =>
lt (lenI a0.l) fun v35 =>
lt (ltI y32 v35) fun v36 =>
ite' v36 (bn (bn (nth a0.l y32) fun v38 =>
lt (lenS v38) fun v39 =>
lt (gtI v39 300) fun v40 =>
ite' v40 (some (true)) (lt (eqI a0.kind 4) fun v41 =>
ite' v41 (lt (gtI y32 0) fun v42 =>
ite' v42 (lt (subI .i64 y32 1) fun v43 =>
bn (nth a0.l v43) fun v44 =>
lt (geS v44 v38) fun v45 =>
some (v45)) (some (false))) (some (false)))) fun (y37:Bool) =>
lt (y37) fun v46 =>
ite' v46 (some (.inr (.inr false))) (lt (addI .i64 y32 1) fun v47 =>
some (.inl v47))) (some (.inr (.inl ())))) 0) fun (y33:Unit ⊕ Bool) =>
sm y33 (fun y48=>some true) (fun y49=>some y49)) (fun y31=>some y31))
def DY8t3:List DI:=[⟨[0],[],[(1,none)],false⟩,⟨[0],[0],[(43,some 0)],false⟩,⟨[0],[],[(3,none)],false⟩,⟨[0],[0,1,2],[(44,some 1),(45,some 2)],false⟩,⟨[0],[0,1,2,3],[(46,some 3)],false⟩,⟨[0],[0,1,2,3,4],[(47,some 4)],false⟩,⟨[0],[0,1,2,3,4,5],[(48,some 5)],false⟩,⟨[0],[0,1,2,3,4,5,6],[(49,some 6)],false⟩,⟨[0],[0,1,2,3,4,5,6,7],[(50,some 7)],false⟩,⟨[0],[0,1,2,3,4,5,6,7,8],[(1,none),(51,some 8)],false⟩,⟨[0],[0,1,2,3,4,5,6,7,8,9],[(51,some 8),(52,some 9)],false⟩,⟨[0],[0,1,2,3,4,5,6,7,8],[(3,none),(51,some 8)],false⟩,⟨[0],[0,1,2,3,4,5,6,7,8,9,10,11],[(51,some 8),(53,some 10),(54,some 11)],false⟩,⟨[0],[0,1,2,3,4,5,6,7,8,9,10,11,12],[(51,some 8),(55,some 12)],false⟩,⟨[0],[0,1,2,3,4,5,6,7,8,9,10,11,12,13],[(51,some 8),(56,some 13)],false⟩,⟨[0],[0,1,2,3,4,5,6,7,8,9,10,11,12,13,14],[(51,some 8),(57,some 14)],false⟩,⟨[0],[0,1,2,3,4,5,6,7,8,9,10,11,12,13,14,15],[(51,some 8),(58,some 15)],false⟩,⟨[0],[0,1,2,3,4,5,6,7,8,9,10,11,12,13,14,15,16],[(51,some 8),(59,some 16)],false⟩,⟨[0],[0,1,2,3,4,5,6,7,8,9,10,11,12,13,14,15,16,17],[(60,some 17)],false⟩,⟨[0],[0,1,2,3,4,5,6,7,8,9,10,11,12,13,14,15,16,17,18],[(3,none),(61,some 18)],false⟩,⟨[0],[0,1,2,3,4,5,6,7,8,9,10,11,12,13,14,15,16,17,18,19],[(61,some 18),(62,some 19)],false⟩,⟨[0],[0,1,2,3,4,5,6,7,8,9,10,11,12,13,14,15,16,17,18,19,20],[(61,some 18),(63,some 20)],false⟩,⟨[0],[0,1,2,3,4,5,6,7,8,9,10,11,12,13,14,15,16,17,18,19,20,21],[(1,none),(64,some 21)],false⟩,⟨[0],[0,1,2,3,4,5,6,7,8,9,10,11,12,13,14,15,16,17,18,19,20,21,22],[(64,some 21),(65,some 22)],false⟩,⟨[0],[0,1,2,3,4,5,6,7,8,9,10,11,12,13,14,15,16,17,18,19,20,21],[(3,none),(64,some 21)],false⟩,⟨[0],[0,1,2,3,4,5,6,7,8,9,10,11,12,13,14,15,16,17,18,19,20,21,24],[(64,some 21),(67,some 24)],false⟩,⟨[0],[0,1,2,3,4,5,6,7,8,9,10,11,12,13,14,15,16,17,18,19,20,21,22,23,24,25],[(64,some 21),(66,some 23),(68,some 25)],false⟩,⟨[0],[0,1,2,3,4,5,6,7,8,9,10,11,12,13,14,15,16,17,18,19,20,21,22,23,24,25,26],[(64,some 21),(69,some 26)],false⟩,⟨[0],[0,1,2,3,4,5,6,7,8,9,10,11,12,13,14,15,16,17,18,19,20,21,22,23,24,25,26,27],[(64,some 21),(70,some 27)],false⟩,⟨[0],[0,1,2,3,4,5,6,7,8,9,10,11,12,13,14,15,16,17,18,19,20,21],[(1,none),(64,some 21)],false⟩,⟨[0],[0,1,2,3,4,5,6,7,8,9,10,11,12,13,14,15,16,17,18,19,20,21,29],[(64,some 21),(72,some 29)],false⟩,⟨[0],[0,1,2,3,4,5,6,7,8,9,10,11,12,13,14,15,16,17,18,19,20,21],[(3,none),(64,some 21)],false⟩,⟨[0],[0,1,2,3,4,5,6,7,8,9,10,11,12,13,14,15,16,17,18,19,20,21,29,30,31],[(64,some 21),(73,some 30),(74,some 31)],false⟩,⟨[0],[0,1,2,3,4,5,6,7,8,9,10,11,12,13,14,15,16,17,18,19,20,21,29,30,31,32],[(64,some 21),(75,some 32)],false⟩,⟨[0],[0,1,2,3,4,5,6,7,8,9,10,11,12,13,14,15,16,17,18,19,20,21,29,30,31,32,33],[(64,some 21),(76,some 33)],false⟩,⟨[],[0,1,2,3,4,5,6,7,8,9,10,11,12,13,14,15,16,17,18,19,20,21,22,23,24,25,26,27,28,29,30,31,32,33,34],[],false⟩,⟨[],[0,1,2,3,4,5,6,7,8,9,10,11,12,13,14,15,16,17,18,19,20,21,22,23,24,25,26,27,28,29,30,31,32,33,34,35],[],false⟩,⟨[],[0,1,2,3,4,5,6,7,8,9,10,11,12,13,14,15,16,17,18,19,20,21,22,23,24,25,26,27,28,29,30,31,32,33,34,35,36],[],false⟩]
def DY8t4:List DI:=[⟨[0],[],[(1,none)],false⟩,⟨[0],[0],[(88,some 0)],false⟩,⟨[0],[],[(4,none)],false⟩,⟨[0],[0,1,2],[(89,some 1),(90,some 2)],false⟩,⟨[0],[0,1,2,3],[(91,some 3)],false⟩,⟨[0],[0,1,2,3,4],[(92,some 4)],false⟩,⟨[0],[0,1,2,3,4,5],[(93,some 5)],false⟩,⟨[0],[0,1,2,3,4,5,6],[(94,some 6)],false⟩,⟨[0],[0,1,2,3,4,5,6,7],[(1,none),(95,some 7)],false⟩,⟨[0],[0,1,2,3,4,5,6,7,8],[(95,some 7),(96,some 8)],false⟩,⟨[0],[0,1,2,3,4,5,6,7,8,9],[(95,some 7),(97,some 9)],false⟩,⟨[0],[0,1,2,3,4,5,6,7,8,9,10],[(95,some 7),(98,some 10)],false⟩,⟨[0],[0,1,2,3,4,5,6,7,8,9,10,11],[(4,none),(99,some 11)],false⟩,⟨[0],[0,1,2,3,4,5,6,7,8,9,10,11,12],[(99,some 11),(100,some 12)],false⟩,⟨[0],[0,1,2,3,4,5,6,7,8,9,10,11,12,13],[(95,some 7),(99,some 11),(101,some 13)],false⟩,⟨[0],[0,1,2,3,4,5,6,7,8,9,10,11,12,13,14],[(95,some 7),(102,some 14)],false⟩,⟨[0],[0,1,2,3,4,5,6,7,8,9,10,11,12,13,14,15],[(1,none),(103,some 15)],false⟩,⟨[0],[0,1,2,3,4,5,6,7,8,9,10,11,12,13,14,15,16],[(103,some 15),(104,some 16)],false⟩,⟨[0],[0,1,2,3,4,5,6,7,8,9,10,11,12,13,14,15],[(4,none),(103,some 15)],false⟩,⟨[0],[0,1,2,3,4,5,6,7,8,9,10,11,12,13,14,15,18],[(103,some 15),(106,some 18)],false⟩,⟨[0],[0,1,2,3,4,5,6,7,8,9,10,11,12,13,14,15,16,17,18,19],[(103,some 15),(105,some 17),(107,some 19)],false⟩,⟨[0],[0,1,2,3,4,5,6,7,8,9,10,11,12,13,14,15,16,17,18,19,20],[(103,some 15),(108,some 20)],false⟩,⟨[0],[0,1,2,3,4,5,6,7,8,9,10,11,12,13,14,15],[(1,none),(103,some 15)],false⟩,⟨[0],[0,1,2,3,4,5,6,7,8,9,10,11,12,13,14,15,22],[(103,some 15),(110,some 22)],false⟩,⟨[0],[0,1,2,3,4,5,6,7,8,9,10,11,12,13,14,15],[(4,none),(103,some 15)],false⟩,⟨[0],[0,1,2,3,4,5,6,7,8,9,10,11,12,13,14,15,22,23,24],[(103,some 15),(111,some 23),(112,some 24)],false⟩,⟨[0],[0,1,2,3,4,5,6,7,8,9,10,11,12,13,14,15,22,23,24,25],[(103,some 15),(113,some 25)],false⟩,⟨[],[0,1,2,3,4,5,6,7,8,9,10,11,12,13,14,15,16,17,18,19,20,21,22,23,24,25,26],[],false⟩,⟨[],[0,1,2,3,4,5,6,7,8,9,10,11,12,13,14,15,16,17,18,19,20,21,22,23,24,25,26,27],[],false⟩,⟨[],[0,1,2,3,4,5,6,7,8,9,10,11,12,13,14,15,16,17,18,19,20,21,22,23,24,25,26,27,28],[],false⟩]
theorem MP {n:Nat} {a0:Item} {r:Bool} (h:DO n a0=some r):Sound Tryz.prog 96 [.g (cE0 a0)] [] (.l (bA r)) []:=by
 unfold DO at h;refine SO 118 Tryz.func96 fun cx hG (hz:cx.nb=0)=>?_;simp only[it];refine ST ?_;apply AW.seq;obtain⟨y1,g1,h⟩:=bnE h;refine zC (p:=fun gh ls=>(nP (cx:=cx) (fun q=>(⟨[(1,.l (.p 0 0)),(35,.l (bA q))],[some ⟨57,5,false,none,(cE0 a0)⟩],118,gh,ls⟩:St))) y1) ?_ ?_
 ·replace h:=g1;clear g1
  obtain⟨v2,e2,v3,e3,h⟩:=obl h;cases v3 with
  |true=>
   replace h:=iT h;apply AW.last
   ·simp[← e3];intros;refine Ab Et (Fd e2) rfl ⟨.same rfl,trivial⟩ ?_;try simp[← e3]
    intros;rfl
   obtain rfl:=oi h;exact nP_i (WM [0] hz)
  |false=>
   replace h:=iF h;obtain⟨v4,e4,v5,e5,h⟩:=oll h;cases v5 with
   |true=>
    replace h:=iT h;apply AW.last
    ·simp[← e3,← e4,← e5];intros;refine Ab Et (Fd e2) rfl ⟨.same rfl,trivial⟩ ?_;try simp[← e3,← e4,← e5]
     intros;rfl
    obtain rfl:=oi h;exact nP_i (WM [0] hz)
   |false=>
    replace h:=iF h;obtain⟨v6,e6,v7,e7,h⟩:=oll h;cases v7 with
    |true=>
     replace h:=iT h;apply AW.last
     ·simp[← e3,← e4,← e5,Ad e6,← e7];intros;refine Ab Et (Fd e2) rfl ⟨.same rfl,trivial⟩ ?_;try simp[← e3,← e4,← e5,Ad e6,← e7]
      intros;rfl
     obtain rfl:=oi h;exact nP_i (WM [0] hz)
    |false=>
     replace h:=iF h;obtain⟨v8,e8,v9,e9,h⟩:=oll h;cases v9 with
     |true=>
      replace h:=iT h;apply AW.last
      ·simp[← e3,← e4,← e5,Ad e6,← e7,Ad e8,← e9];intros;refine Ab Et (Fd e2) rfl ⟨.same rfl,trivial⟩ ?_;try simp[← e3,← e4,← e5,Ad e6,← e7,Ad e8,← e9]
       intros;rfl
      obtain rfl:=oi h;exact nP_i (WM [0] hz)
     |false=>
      replace h:=iF h;obtain⟨v10,e10,h⟩:=ltE h;cases v10 with
      |true=>
       replace h:=iT h;apply AW.last
       ·simp[← e3,← e4,← e5,Ad e6,← e7,Ad e8,← e9,← e10];intros;refine Ab Et (Fd e2) rfl ⟨.same rfl,trivial⟩ ?_;try simp[← e3,← e4,← e5,Ad e6,← e7,Ad e8,← e9,← e10]
        intros;rfl
       obtain rfl:=oi h;exact nP_i (WM [0] hz)
      |false=>
       replace h:=iF h;obtain⟨v11,e11,h⟩:=ltE h;apply AW.last
       ·simp[← e3,← e4,← e5,Ad e6,← e7,Ad e8,← e9,← e10,← e11];intros;refine Ab Et (Fd e2) rfl ⟨.same rfl,trivial⟩ ?_;try simp[← e3,← e4,← e5,Ad e6,← e7,Ad e8,← e9,← e10,← e11]
        intros;rfl
       obtain rfl:=oi h;exact nP_i (WM [0] hz)
 ·rintro e s⟨rfl,hw⟩;refine⟨_,hw,?_⟩;try simp only[nm]
  obtain⟨v12,e12,h⟩:=ltE h;rw[← e12];cases v12 with
  |true=>
   replace h:=iT h;refine CT ?_;refine ST ?_;obtain rfl:=oi h;apply AW.ret;exact LP hz
  |false=>
   replace h:=iF h;refine CF ?_;apply AW.skip;try simp only[nm]
   apply AW.seq;refine ST ?_;apply AW.block;obtain⟨y14,g14,h⟩:=bnE h;refine zD g14 (mk:=fun gh ls q=>(⟨[(1,.l (.p 0 0)),(3,.l (iA q))],[some ⟨57,5,false,none,(cE0 a0)⟩],118,gh,ls⟩:St)) (N:=fun gh ls=>(sp (xP 0 (cx:=cx) (fun _=>(⟨[(1,.l (.p 0 0))],[some ⟨57,5,false,none,(cE0 a0)⟩],118,gh,ls⟩:St))) (rP (cx:=cx) (P:=Tryz.prog) Tryz.f96 (fun q=>.l (bA q)) (fun q=>[])))) ?_ (noS noX noR) ?_ ?_
   ·exact WM [0] hz
   ·clear h;intro y13 y15 h
    apply AW.seq;obtain⟨v16,e16,v17,e17,h⟩:=oll h;refine AW.step (by simp[Ad e16,← e17];intros;rfl) ?_;cases v17 with
    |true=>
     replace h:=iT h;refine CT ?_;apply AW.skip;try simp only[nm]
     apply AW.seq;apply AW.block;obtain⟨y18,g18,h⟩:=bnE h;refine zC (p:=fun gh ls=>(nP (cx:=cx) (fun q=>(⟨[(1,.l (.p 0 0)),(3,.l (iA y13)),(80,.l (bA q))],[some ⟨57,5,false,none,(cE0 a0)⟩],118,gh,ls⟩:St))) y18) ?_ ?_
     ·replace h:=g18;clear g18
      obtain⟨v19,e19,v20,e20,h⟩:=obl h;obtain⟨v21,e21,h⟩:=ltE h;cases v21 with
      |true=>
       replace h:=iT h;apply zF (V:=[_,_,_,_,_,_,_,_,_,_,_,_,_,_,_,_,_,_,_,_,_,_,_,_,_,_,_,_,_,_,_,_,_,_,_]) mixed DY8t3 35 (by kernel_rfl) (by kernel_rfl)
       ·refine⟨?_,?_,?_,?_,?_,?_,?_,?_,?_,?_,?_,?_,?_,?_,?_,?_,?_,?_,?_,?_,?_,?_,?_,?_,?_,?_,?_,?_,?_,?_,?_,?_,?_,?_,?_,trivial⟩;iterate 35 (· intro tm hr;simp[AllL,rdV] at hr;simp[hr,Aa e19,← e20,← e21];intros;exact KA)
       ·rfl
       ·simp[tmD,putD,Aa e19,← e20,← e21];rfl
       ·simp[Aa e19,← e20,← e21];intros;rfl
       obtain rfl:=oi h;exact nP_i (WM [0] hz)
      |false=>
       replace h:=iF h;obtain⟨v22,e22,v23,e23,h⟩:=oll h;cases v23 with
       |true=>
        replace h:=iT h;apply zF (V:=[_,_,_,_,_,_,_,_,_,_,_,_,_,_,_,_,_,_,_,_,_,_,_,_,_,_,_,_,_,_,_,_,_,_,_]) mixed DY8t3 35 (by kernel_rfl) (by kernel_rfl)
        ·refine⟨?_,?_,?_,?_,?_,?_,?_,?_,?_,?_,?_,?_,?_,?_,?_,?_,?_,?_,?_,?_,?_,?_,?_,?_,?_,?_,?_,?_,?_,?_,?_,?_,?_,?_,?_,trivial⟩;iterate 35 (· intro tm hr;simp[AllL,rdV] at hr;simp[hr,Aa e19,← e20,← e21,← e22,← e23];intros;exact KA)
        ·rfl
        ·simp[tmD,putD,Aa e19,← e20,← e21,← e22,← e23];rfl
        ·simp[Aa e19,← e20,← e21,← e22,← e23];intros;rfl
        obtain rfl:=oi h;exact nP_i (WM [0] hz)
       |false=>
        replace h:=iF h;obtain⟨v24,e24,h⟩:=ltE h;cases v24 with
        |true=>
         replace h:=iT h;obtain⟨v25,e25,v26,e26,h⟩:=olb h;obtain⟨v27,e27,h⟩:=ltE h;apply zF (V:=[_,_,_,_,_,_,_,_,_,_,_,_,_,_,_,_,_,_,_,_,_,_,_,_,_,_,_,_,_,_,_,_,_,_,_]) mixed DY8t3 35 (by kernel_rfl) (by kernel_rfl)
         ·refine⟨?_,?_,?_,?_,?_,?_,?_,?_,?_,?_,?_,?_,?_,?_,?_,?_,?_,?_,?_,?_,?_,?_,?_,?_,?_,?_,?_,?_,?_,?_,?_,?_,?_,?_,?_,trivial⟩;iterate 35 (· intro tm hr;simp[AllL,rdV] at hr;simp[hr,Aa e19,← e20,← e21,← e22,← e23,← e24,← e25,Aa e26,← e27];intros;exact KA)
         ·rfl
         ·simp[tmD,putD,Aa e19,← e20,← e21,← e22,← e23,← e24,← e25,Aa e26,← e27];rfl
         ·simp[Aa e19,← e20,← e21,← e22,← e23,← e24,← e25,Aa e26,← e27];intros;rfl
         obtain rfl:=oi h;exact nP_i (WM [0] hz)
        |false=>
         replace h:=iF h;apply zF (V:=[_,_,_,_,_,_,_,_,_,_,_,_,_,_,_,_,_,_,_,_,_,_,_,_,_,_,_,_,_,_,_,_,_,_,_]) mixed DY8t3 35 (by kernel_rfl) (by kernel_rfl)
         ·refine⟨?_,?_,?_,?_,?_,?_,?_,?_,?_,?_,?_,?_,?_,?_,?_,?_,?_,?_,?_,?_,?_,?_,?_,?_,?_,?_,?_,?_,?_,?_,?_,?_,?_,?_,?_,trivial⟩;iterate 35 (· intro tm hr;simp[AllL,rdV] at hr;simp[hr,Aa e19,← e20,← e21,← e22,← e23,← e24];intros;exact KA)
         ·rfl
         ·simp[tmD,putD,Aa e19,← e20,← e21,← e22,← e23,← e24];rfl
         ·simp[Aa e19,← e20,← e21,← e22,← e23,← e24];intros;rfl
         obtain rfl:=oi h;exact nP_i (WM [0] hz)
     ·rintro e s⟨rfl,hw⟩;refine⟨_,hw,?_⟩;try simp only[nm]
      obtain⟨v28,e28,h⟩:=ltE h;rw[← e28];cases v28 with
      |true=>
       replace h:=iT h;refine CT ?_;refine ST ?_;obtain rfl:=oi h;apply AW.ret;try simp only[nm]
       refine rP_i ?_;exact LP hz
      |false=>
       replace h:=iF h;refine CF ?_;apply AW.skip;try simp only[nm]
       obtain⟨v29,e29,h⟩:=ltE h;refine AW.last (by simp[← e29];intros;rfl) ?_;obtain rfl:=oi h;exact nP_i (WM [0] hz)
    |false=>
     replace h:=iF h;refine CF ?_;apply AW.exit;try simp only[nm]
     obtain rfl:=oi h;try simp only[sp_l,sp_r]
     refine xP_i ?_;exact WM [0] hz
   ·rintro e s hp;rcases y14 with y30|y31
    ·replace h:=smL h;obtain⟨rfl,hw⟩:=hp;refine⟨_,hw,?_⟩;try simp only[nm]
     apply AW.seq;refine ST ?_;apply AW.block;obtain⟨y33,g33,h⟩:=bnE h;refine zD g33 (mk:=fun gh ls q=>(⟨[(1,.l (.p 0 0)),(4,.l (iA q))],[some ⟨57,5,false,none,(cE0 a0)⟩],118,gh,ls⟩:St)) (N:=fun gh ls=>(sp (xP 2 (cx:=cx) (fun _=>(⟨[],[],118,gh,ls⟩:St))) (rP (cx:=cx) (P:=Tryz.prog) Tryz.f96 (fun q=>.l (bA q)) (fun q=>[])))) ?_ (noS noX noR) ?_ ?_
     ·exact WM [0] hz
     ·clear h;intro y32 y34 h
      apply AW.seq;obtain⟨v35,e35,v36,e36,h⟩:=oll h;refine AW.step (by simp[Ad e35,← e36];intros;rfl) ?_;cases v36 with
      |true=>
       replace h:=iT h;refine CT ?_;apply AW.skip;try simp only[nm]
       apply AW.seq;apply AW.block;obtain⟨y37,g37,h⟩:=bnE h;refine zC (p:=fun gh ls=>(nP (cx:=cx) (fun q=>(⟨[(1,.l (.p 0 0)),(4,.l (iA y32)),(117,.l (bA q))],[some ⟨57,5,false,none,(cE0 a0)⟩],118,gh,ls⟩:St))) y37) ?_ ?_
       ·replace h:=g37;clear g37
        obtain⟨v38,e38,v39,e39,h⟩:=obl h;obtain⟨v40,e40,h⟩:=ltE h;cases v40 with
        |true=>
         replace h:=iT h;apply zF (V:=[_,_,_,_,_,_,_,_,_,_,_,_,_,_,_,_,_,_,_,_,_,_,_,_,_,_,_]) mixed DY8t4 27 (by kernel_rfl) (by kernel_rfl)
         ·refine⟨?_,?_,?_,?_,?_,?_,?_,?_,?_,?_,?_,?_,?_,?_,?_,?_,?_,?_,?_,?_,?_,?_,?_,?_,?_,?_,?_,trivial⟩;iterate 27 (· intro tm hr;simp[AllL,rdV] at hr;simp[hr,Aa e38,← e39,← e40];intros;exact KA)
         ·rfl
         ·simp[tmD,putD,Aa e38,← e39,← e40];rfl
         ·simp[Aa e38,← e39,← e40];intros;rfl
         obtain rfl:=oi h;exact nP_i (WM [0] hz)
        |false=>
         replace h:=iF h;obtain⟨v41,e41,h⟩:=ltE h;cases v41 with
         |true=>
          replace h:=iT h;obtain⟨v42,e42,h⟩:=ltE h;cases v42 with
          |true=>
           replace h:=iT h;obtain⟨v43,e43,v44,e44,h⟩:=olb h;obtain⟨v45,e45,h⟩:=ltE h;apply zF (V:=[_,_,_,_,_,_,_,_,_,_,_,_,_,_,_,_,_,_,_,_,_,_,_,_,_,_,_]) mixed DY8t4 27 (by kernel_rfl) (by kernel_rfl)
           ·refine⟨?_,?_,?_,?_,?_,?_,?_,?_,?_,?_,?_,?_,?_,?_,?_,?_,?_,?_,?_,?_,?_,?_,?_,?_,?_,?_,?_,trivial⟩;iterate 27 (· intro tm hr;simp[AllL,rdV] at hr;simp[hr,Aa e38,← e39,← e40,← e41,← e42,← e43,Aa e44,← e45];intros;exact KA)
           ·rfl
           ·simp[tmD,putD,Aa e38,← e39,← e40,← e41,← e42,← e43,Aa e44,← e45];rfl
           ·simp[Aa e38,← e39,← e40,← e41,← e42,← e43,Aa e44,← e45];intros;rfl
           obtain rfl:=oi h;exact nP_i (WM [0] hz)
          |false=>
           replace h:=iF h;apply zF (V:=[_,_,_,_,_,_,_,_,_,_,_,_,_,_,_,_,_,_,_,_,_,_,_,_,_,_,_]) mixed DY8t4 27 (by kernel_rfl) (by kernel_rfl)
           ·refine⟨?_,?_,?_,?_,?_,?_,?_,?_,?_,?_,?_,?_,?_,?_,?_,?_,?_,?_,?_,?_,?_,?_,?_,?_,?_,?_,?_,trivial⟩;iterate 27 (· intro tm hr;simp[AllL,rdV] at hr;simp[hr,Aa e38,← e39,← e40,← e41,← e42];intros;exact KA)
           ·rfl
           ·simp[tmD,putD,Aa e38,← e39,← e40,← e41,← e42];rfl
           ·simp[Aa e38,← e39,← e40,← e41,← e42];intros;rfl
           obtain rfl:=oi h;exact nP_i (WM [0] hz)
         |false=>
          replace h:=iF h;apply zF (V:=[_,_,_,_,_,_,_,_,_,_,_,_,_,_,_,_,_,_,_,_,_,_,_,_,_,_,_]) mixed DY8t4 27 (by kernel_rfl) (by kernel_rfl)
          ·refine⟨?_,?_,?_,?_,?_,?_,?_,?_,?_,?_,?_,?_,?_,?_,?_,?_,?_,?_,?_,?_,?_,?_,?_,?_,?_,?_,?_,trivial⟩;iterate 27 (· intro tm hr;simp[AllL,rdV] at hr;simp[hr,Aa e38,← e39,← e40,← e41];intros;exact KA)
          ·rfl
          ·simp[tmD,putD,Aa e38,← e39,← e40,← e41];rfl
          ·simp[Aa e38,← e39,← e40,← e41];intros;rfl
          obtain rfl:=oi h;exact nP_i (WM [0] hz)
       ·rintro e s⟨rfl,hw⟩;refine⟨_,hw,?_⟩;try simp only[nm]
        obtain⟨v46,e46,h⟩:=ltE h;rw[← e46];cases v46 with
        |true=>
         replace h:=iT h;refine CT ?_;refine ST ?_;obtain rfl:=oi h;apply AW.ret;try simp only[nm]
         refine rP_i ?_;exact LP hz
        |false=>
         replace h:=iF h;refine CF ?_;apply AW.skip;try simp only[nm]
         obtain⟨v47,e47,h⟩:=ltE h;refine AW.last (by simp[← e47];intros;rfl) ?_;obtain rfl:=oi h;exact nP_i (WM [0] hz)
      |false=>
       replace h:=iF h;refine CF ?_;apply AW.exit;try simp only[nm]
       obtain rfl:=oi h;try simp only[sp_l,sp_r]
       refine xP_i ?_;exact WM [] hz
     ·rintro e s hp;rcases y33 with y48|y49
      ·replace h:=smL h;obtain⟨rfl,hw⟩:=hp;refine⟨_,hw,?_⟩;try simp only[nm]
       refine ST ?_;obtain rfl:=oi h;apply AW.ret;exact LP hz
      ·replace h:=smR h;obtain⟨rfl,hl⟩:=hp;refine⟨_,Weak.refl _,?_⟩;obtain rfl:=oi h;exact hl
    ·replace h:=smR h;obtain⟨rfl,hl⟩:=hp;refine⟨_,Weak.refl _,?_⟩;obtain rfl:=oi h;exact hl
theorem LQ:Enters Tryz.prog 96:=enters Tryz.func96 (by kernel_rfl) rfl
def C7 (n:Nat) (a0:Effect):Option Bool :=
bn (lt (lenS a0.key) fun v2 =>
lt (leI v2 40) fun v3 =>
ite' v3 (lt (a0.gone) fun v4 =>
ite' v4 (some (true)) (bn (DO n a0.item) fun v5 =>
some (v5))) (some (false))) fun (y1:Bool) =>
some y1
theorem Hr {n:Nat} {a0:Effect} {r:Bool} (h:C7 n a0=some r):Sound Tryz.prog 59 [.g (cL0 a0)] [] (.l (bA r)) []:=by
 unfold C7 at h;refine SO 16 Tryz.func59 fun cx hG (hz:cx.nb=0)=>?_;simp only[it];refine ST ?_;obtain⟨y1,g1,h⟩:=bnE h;refine zC (p:=fun gh ls=>(nP (cx:=cx) (fun q=>(⟨[(2,.l (bA q))],[],16,gh,ls⟩:St))) y1) ?_ ?_
 ·replace h:=g1;clear g1
  obtain⟨v2,e2,v3,e3,h⟩:=oll h;cases v3 with
  |true=>
   replace h:=iT h;obtain⟨v4,e4,h⟩:=ltE h;cases v4 with
   |true=>
    replace h:=iT h;refine AW.last (by simp[← e2,← e3,← e4];intros;rfl) ?_;obtain rfl:=oi h;exact nP_i (WM [] hz)
   |false=>
    replace h:=iF h;obtain⟨v5,e5,h⟩:=bnE h;apply AW.last
    ·simp[← e2,← e3,← e4];intros;refine Ab LQ (MP e5) rfl ⟨.same rfl,trivial⟩ ?_;try simp[← e2,← e3,← e4]
     intros;rfl
    obtain rfl:=oi h;exact nP_i (WM [] hz)
  |false=>
   replace h:=iF h;refine AW.last (by simp[← e2,← e3];intros;rfl) ?_;obtain rfl:=oi h;exact nP_i (WM [] hz)
 ·rintro e s⟨rfl,hw⟩;refine⟨_,hw,?_⟩;try simp only[nm]
  obtain rfl:=oi h;apply AW.ret;exact LP hz
theorem GY:Enters Tryz.prog 59:=enters Tryz.func59 (by kernel_rfl) rfl
def Fx (n:Nat) (a0:List Seen) (a1:Int) (a2:Int):Option (Int×Int×Bool) :=
bn (iter n (fun (y1:Int) =>
bn (lt (lenI a0) fun v5 =>
lt (ltI y1 v5) fun v6 =>
ite' v6 (bn (nth a0 y1) fun v7 =>
lt (ltI v7.node a1) fun v8 =>
ite' v8 (some (true)) (lt (eqI v7.node a1) fun v9 =>
ite' v9 (lt (ltI v7.slot a2) fun v10 =>
some (v10)) (some (false)))) (some (false))) fun (y4:Bool) =>
lt (y4) fun v11 =>
ite' v11 (lt (addI .i64 y1 1) fun v12 =>
some (.inl v12)) (some (.inr y1))) 0) fun (y2:Int) =>
bn (lt (lenI a0) fun v14 =>
lt (ltI y2 v14) fun v15 =>
ite' v15 (bn (nth a0 y2) fun v16 =>
lt (eqI v16.node a1) fun v17 =>
ite' v17 (lt (eqI v16.slot a2) fun v18 =>
some (v18)) (some (false))) (some (false))) fun (y13:Bool) =>
lt (y13) fun v19 =>
ite' v19 (bn (nth a0 y2) fun v20 =>
some (v20.num,y2,true)) (some (0,y2,false))
theorem PZ {n:Nat} {a0:List Seen} {a1:Int} {a2:Int} {r:Int×Int×Bool} (h:Fx n a0 a1 a2=some r):Sound Tryz.prog 60 [.l (.d false 3 (Ap a0)),.l (iA a1),.l (iA a2)] [] (.t [(false,[iA r.1]),(false,[iA r.2.1]),(false,[bA r.2.2])]) []:=by
 unfold Fx at h;refine SO 72 Tryz.func60 fun cx hG (hz:cx.nb=0)=>?_;simp only[it];refine ST ?_;refine ST ?_;apply AW.seq;apply AW.block;obtain⟨y2,g2,h⟩:=bnE h;refine zD g2 (mk:=fun gh ls q=>(⟨[(0,.l (.d false 3 (Ap a0))),(1,.l (iA a1)),(2,.l (iA a2)),(9,.l (iA q))],[],72,gh,ls⟩:St)) (N:=fun gh ls=>(xP 0 (cx:=cx) (fun q=>(⟨[(0,.l (.d false 3 (Ap a0))),(1,.l (iA a1)),(2,.l (iA a2)),(9,.l (iA q))],[],72,gh,ls⟩:St)))) ?_ noX ?_ ?_
 ·exact WM [] hz
 ·clear h;intro y1 y3 h
  apply AW.seq;obtain⟨y4,g4,h⟩:=bnE h;refine zC (p:=fun gh ls=>(nP (cx:=cx) (fun q=>(⟨[(0,.l (.d false 3 (Ap a0))),(1,.l (iA a1)),(2,.l (iA a2)),(9,.l (iA y1)),(40,.l (bA q))],[],72,gh,ls⟩:St))) y4) ?_ ?_
  ·replace h:=g4;clear g4
   obtain⟨v5,e5,v6,e6,h⟩:=oll h;cases v6 with
   |true=>
    replace h:=iT h;obtain⟨v7,e7,v8,e8,h⟩:=obl h;cases v8 with
    |true=>
     replace h:=iT h;refine AW.last (by simp[Ad e5,← e6,Aa e7,← e8];intros;rfl) ?_;obtain rfl:=oi h;exact nP_i (WM [] hz)
    |false=>
     replace h:=iF h;obtain⟨v9,e9,h⟩:=ltE h;cases v9 with
     |true=>
      replace h:=iT h;obtain⟨v10,e10,h⟩:=ltE h;refine AW.last (by simp[Ad e5,← e6,Aa e7,← e8,← e9,← e10];intros;rfl) ?_;obtain rfl:=oi h;exact nP_i (WM [] hz)
     |false=>
      replace h:=iF h;refine AW.last (by simp[Ad e5,← e6,Aa e7,← e8,← e9];intros;rfl) ?_;obtain rfl:=oi h;exact nP_i (WM [] hz)
   |false=>
    replace h:=iF h;refine AW.last (by simp[Ad e5,← e6];intros;rfl) ?_;obtain rfl:=oi h;exact nP_i (WM [] hz)
  ·rintro e s⟨rfl,hw⟩;refine⟨_,hw,?_⟩;try simp only[nm]
   obtain⟨v11,e11,h⟩:=ltE h;rw[← e11];cases v11 with
   |true=>
    replace h:=iT h;refine CT ?_;apply AW.skip;try simp only[nm]
    apply AW.block;obtain⟨v12,e12,h⟩:=ltE h;refine AW.last (by simp[← e12];intros;rfl) ?_;obtain rfl:=oi h;exact nP_i (WM [] hz)
   |false=>
    replace h:=iF h;refine CF ?_;apply AW.exit;try simp only[nm]
    obtain rfl:=oi h;refine xP_i ?_;exact WM [] hz
 ·rintro e s⟨rfl,hw⟩;refine⟨_,hw,?_⟩;try simp only[nm]
  apply AW.seq;obtain⟨y13,g13,h⟩:=bnE h;refine zC (p:=fun gh ls=>(nP (cx:=cx) (fun q=>(⟨[(0,.l (.d false 3 (Ap a0))),(9,.l (iA y2)),(64,.l (bA q))],[],72,gh,ls⟩:St))) y13) ?_ ?_
  ·replace h:=g13;clear g13
   obtain⟨v14,e14,v15,e15,h⟩:=oll h;cases v15 with
   |true=>
    replace h:=iT h;obtain⟨v16,e16,v17,e17,h⟩:=obl h;cases v17 with
    |true=>
     replace h:=iT h;obtain⟨v18,e18,h⟩:=ltE h;refine AW.last (by simp[Ad e14,← e15,Aa e16,← e17,← e18];intros;rfl) ?_;obtain rfl:=oi h;exact nP_i (WM [] hz)
    |false=>
     replace h:=iF h;refine AW.last (by simp[Ad e14,← e15,Aa e16,← e17];intros;rfl) ?_;obtain rfl:=oi h;exact nP_i (WM [] hz)
   |false=>
    replace h:=iF h;refine AW.last (by simp[Ad e14,← e15];intros;rfl) ?_;obtain rfl:=oi h;exact nP_i (WM [] hz)
  ·rintro e s⟨rfl,hw⟩;refine⟨_,hw,?_⟩;try simp only[nm]
   obtain⟨v19,e19,h⟩:=ltE h;rw[← e19];cases v19 with
   |true=>
    replace h:=iT h;refine CT ?_;obtain⟨v20,e20,h⟩:=bnE h;refine AW.step (by simp[Aa e20];intros;rfl) ?_;obtain rfl:=oi h;apply AW.ret;exact LP hz
   |false=>
    replace h:=iF h;refine CF ?_;apply AW.skip;try simp only[nm]
    refine ST ?_;obtain rfl:=oi h;apply AW.ret;exact LP hz
theorem O2:Enters Tryz.prog 60:=enters Tryz.func60 (by kernel_rfl) rfl
def DW (n:Nat) (a0:Node) (a1:Msg):Option R13Moved :=
bn (lt (neI a0.master (-1)) fun v2 =>
ite' v2 (some (true)) (lt (lenI a1.effects) fun v3 =>
lt (neI v3 1) fun v4 =>
ite' v4 (some (true)) (lt (ltI a1.num 1) fun v5 =>
ite' v5 (some (true)) (bn (nth a1.effects 0) fun v6 =>
lt (v6.gone) fun v7 =>
ite' v7 (some (true)) (bn (C7 n v6) fun v8 =>
lt (notB v8) fun v9 =>
ite' v9 (some (true)) (bn (Cc n v6.key) fun v10 =>
lt (neI v10 a1.slot) fun v11 =>
some (v11))))))) fun (y1:Bool) =>
lt (y1) fun v12 =>
ite' v12 (some (⟨(⟨a0.count,a0.id,a0.master,a0.epoch,a0.voted,a0.claims,a0.db,a0.moves,a0.last,a0.seen,a0.feed,a0.watch,a0.asked,a0.votes,a0.wait⟩:Node),[],0⟩:R13Moved)) (bn (Fx n a0.seen a1.frm a1.slot) fun v13 =>
bn (lt (gtI a1.num v13.1) fun v15 =>
ite' v15 (bn (Db n a0.db a1.effects) fun v16 =>
bn (En n a0.feed a1.effects) fun v17 =>
bn (segh a0.seen v13.2.1) fun v18 =>
chk (room v18.length 24) <|
chk (room (v18.length+1) 24) <|
lt (v18++[(⟨a1.frm,a1.slot,a1.num⟩:Seen)]) fun v22 =>
bn (lt (v13.2.2) fun v24 =>
ite' v24 (lt (addI .i64 v13.2.1 1) fun v25 =>
some (v25)) (some (v13.2.1))) fun (y23:Int) =>
bn (segl a0.seen y23) fun v26 =>
chk (room (v22.length+v26.length) 24) <|
lt (v22++v26) fun v29 =>
chk (room v29.length 1) <|
some ((⟨a0.count,a0.id,a0.master,a0.epoch,a0.voted,a0.claims,v16,a0.moves,a0.last,v29,v17,a0.watch,a0.asked,a0.votes,a0.wait⟩:Node))) (some ((⟨a0.count,a0.id,a0.master,a0.epoch,a0.voted,a0.claims,a0.db,a0.moves,a0.last,a0.seen,a0.feed,a0.watch,a0.asked,a0.votes,a0.wait⟩:Node)))) fun (y14:Node) =>
chk (room 1 1) <|
some (⟨y14,[(⟨3,y14.id,a1.frm,0,[],[],0,a1.slot,a1.num,(⟨0,0⟩:Rid),(⟨0,0⟩:Rid),0,[]⟩:Msg)],0⟩:R13Moved))
def DY8t5:List DI:=[⟨[0],[],[(2,none)],false⟩,⟨[0],[0],[(9,some 0)],false⟩,⟨[0],[0,1],[(10,some 1)],false⟩,⟨[0],[0,1,2],[(11,some 2)],false⟩,⟨[0],[0,1,2,3],[(3,none),(12,some 3)],false⟩,⟨[0],[0,1,2,3,4],[(12,some 3),(13,some 4)],false⟩,⟨[0],[0,1,2,3,4,5],[(12,some 3),(14,some 5)],false⟩,⟨[0],[0,1,2,3,4,5,6],[(12,some 3),(15,some 6)],false⟩,⟨[0],[0,1,2,3,4,5,6,7],[(12,some 3),(16,some 7)],false⟩,⟨[0],[0,1,2,3,4,5,6,7,8],[(17,some 8)],false⟩,⟨[0],[0,1,2,3,4,5,6,7,8,9],[(3,none),(18,some 9)],false⟩,⟨[0],[0,1,2,3,4,5,6,7,8,9,10],[(18,some 9),(19,some 10)],false⟩,⟨[0],[0,1,2,3,4,5,6,7,8,9,10,11],[(18,some 9),(20,some 11)],false⟩,⟨[0],[0,1,2,3,4,5,6,7,8,9,10,11,12],[(18,some 9),(21,some 12)],false⟩,⟨[0],[0,1,2,3,4,5,6,7,8,9,10,11,12,13],[(22,some 13)],false⟩,⟨[0],[0,1,2,3,4,5,6,7,8,9,10,11,12,13,14],[(3,none),(23,some 14)],false⟩,⟨[0],[0,1,2,3,4,5,6,7,8,9,10,11,12,13,14,15],[(23,some 14),(24,some 15)],false⟩,⟨[0],[0,1,2,3,4,5,6,7,8,9,10,11,12,13,14,15,16],[(23,some 14),(25,some 16)],false⟩,⟨[0],[0,1,2,3,4,5,6,7,8,9,10,11,12,13,14,15,16,17],[(23,some 14),(26,some 17)],false⟩,⟨[0],[0,1,2,3,4,5,6,7,8,9,10,11,12,13,14,15,16,17,18],[(23,some 14),(27,some 18)],false⟩,⟨[0],[0,1,2,3,4,5,6,7,8,9,10,11,12,13,14,15,16,17,18,19],[(23,some 14),(28,some 19)],false⟩,⟨[0],[0,1,2,3,4,5,6,7,8,9,10,11,12,13,14,15,16,17,18,19,20],[(29,some 20)],false⟩,⟨[0],[0,1,2,3,4,5,6,7,8,9,10,11,12,13,14,15,16,17,18,19,20,21],[(3,none),(30,some 21)],false⟩,⟨[0],[0,1,2,3,4,5,6,7,8,9,10,11,12,13,14,15,16,17,18,19,20,21,22],[(30,some 21),(31,some 22)],false⟩,⟨[0],[0,1,2,3,4,5,6,7,8,9,10,11,12,13,14,15,16,17,18,19,20,21,22,23],[(30,some 21),(32,some 23)],false⟩,⟨[0],[0,1,2,3,4,5,6,7,8,9,10,11,12,13,14,15,16,17,18,19,20,21,22,23,24],[(30,some 21),(33,some 24)],false⟩,⟨[0],[0,1,2,3,4,5,6,7,8,9,10,11,12,13,14,15,16,17,18,19,20,21,22,23,24,25],[(30,some 21),(34,some 25)],false⟩,⟨[0],[0,1,2,3,4,5,6,7,8,9,10,11,12,13,14,15,16,17,18,19,20,21,22,23,24,25,26],[(30,some 21),(35,some 26)],false⟩,⟨[0],[0,1,2,3,4,5,6,7,8,9,10,11,12,13,14,15,16,17,18,19,20,21,22,23,24,25,26,27],[(30,some 21),(36,some 27)],false⟩,⟨[0],[0,1,2,3,4,5,6,7,8,9,10,11,12,13,14,15,16,17,18,19,20,21,22,23,24,25,26,27,28],[(37,some 28)],false⟩,⟨[0],[0,1,2,3,4,5,6,7,8,9,10,11,12,13,14,15,16,17,18,19,20,21,22,23,24,25,26,27,28,29],[(3,none),(38,some 29)],false⟩,⟨[0],[0,1,2,3,4,5,6,7,8,9,10,11,12,13,14,15,16,17,18,19,20,21,22,23,24,25,26,27,28,29,30],[(38,some 29),(39,some 30)],false⟩,⟨[0],[0,1,2,3,4,5,6,7,8,9,10,11,12,13,14,15,16,17,18,19,20,21,22,23,24,25,26,27,28,29,30,31],[(38,some 29),(40,some 31)],false⟩,⟨[0],[0,1,2,3,4,5,6,7,8,9,10,11,12,13,14,15,16,17,18,19,20,21,22,23,24,25,26,27,28,29,30,31,32],[(38,some 29),(41,some 32)],false⟩,⟨[0],[0,1,2,3,4,5,6,7,8,9,10,11,12,13,14,15,16,17,18,19,20,21,22,23,24,25,26,27,28,29,30,31,32,33],[(38,some 29),(42,some 33)],false⟩,⟨[0],[0,1,2,3,4,5,6,7,8,9,10,11,12,13,14,15,16,17,18,19,20,21,22,23,24,25,26,27,28,29,30,31,32,33,34],[(38,some 29),(43,some 34)],false⟩,⟨[0],[0,1,2,3,4,5,6,7,8,9,10,11,12,13,14,15,16,17,18,19,20,21,22,23,24,25,26,27,28,29],[(3,none),(38,some 29)],false⟩,⟨[0],[0,1,2,3,4,5,6,7,8,9,10,11,12,13,14,15,16,17,18,19,20,21,22,23,24,25,26,27,28,29,36],[(38,some 29),(45,some 36)],false⟩,⟨[],[0,1,2,3,4,5,6,7,8,9,10,11,12,13,14,15,16,17,18,19,20,21,22,23,24,25,26,27,28,29,30,31,32,33,34,35,36,37],[],false⟩,⟨[],[0,1,2,3,4,5,6,7,8,9,10,11,12,13,14,15,16,17,18,19,20,21,22,23,24,25,26,27,28,29,30,31,32,33,34,35,36,37,38],[],false⟩]
theorem O3 {n:Nat} {a0:Node} {a1:Msg} {r:R13Moved} (h:DW n a0 a1=some r):Sound Tryz.prog 23 [.g (cA0 a0),.g (cC0 a1)] [] (.g (cG0 r)) []:=by
 unfold DW at h;refine SO 116 Tryz.func23 fun cx hG (hz:cx.nb=0)=>?_;simp only[it];refine ST ?_;apply AW.seq;obtain⟨y1,g1,h⟩:=bnE h;refine zC (p:=fun gh ls=>(nP (cx:=cx) (fun q=>(⟨[(2,.l (.p 0 0)),(3,.l (.p 1 0)),(4,.l (.p 2 0)),(48,.l (bA q))],[some ⟨38,22,false,none,(cA0 a0)⟩,some ⟨49,15,false,none,(cC0 a1)⟩,some ⟨67,24,false,none,cD0⟩],116,gh,ls⟩:St))) y1) ?_ ?_
 ·replace h:=g1;clear g1
  obtain⟨v2,e2,h⟩:=ltE h;cases v2 with
  |true=>
   replace h:=iT h;apply zF (V:=[_,_,_,_,_,_,_,_,_,_,_,_,_,_,_,_,_,_,_,_,_,_,_,_,_,_,_,_,_,_,_,_,_,_,_,_,_,_]) mixed DY8t5 38 (by kernel_rfl) (by kernel_rfl)
   ·refine⟨?_,?_,?_,?_,?_,?_,?_,?_,?_,?_,?_,?_,?_,?_,?_,?_,?_,?_,?_,?_,?_,?_,?_,?_,?_,?_,?_,?_,?_,?_,?_,?_,?_,?_,?_,?_,?_,?_,trivial⟩;iterate 38 (· intro tm hr;simp[AllL,rdV] at hr;simp[hr,← e2];intros;exact KA)
   ·rfl
   ·simp[tmD,putD,← e2];rfl
   ·simp[← e2];intros;rfl
   obtain rfl:=oi h;exact nP_i (WM [0,1,2] hz)
  |false=>
   replace h:=iF h;obtain⟨v3,e3,v4,e4,h⟩:=oll h;cases v4 with
   |true=>
    replace h:=iT h;apply zF (V:=[_,_,_,_,_,_,_,_,_,_,_,_,_,_,_,_,_,_,_,_,_,_,_,_,_,_,_,_,_,_,_,_,_,_,_,_,_,_]) mixed DY8t5 38 (by kernel_rfl) (by kernel_rfl)
    ·refine⟨?_,?_,?_,?_,?_,?_,?_,?_,?_,?_,?_,?_,?_,?_,?_,?_,?_,?_,?_,?_,?_,?_,?_,?_,?_,?_,?_,?_,?_,?_,?_,?_,?_,?_,?_,?_,?_,?_,trivial⟩;iterate 38 (· intro tm hr;simp[AllL,rdV] at hr;simp[hr,← e2,Ad e3,← e4];intros;exact KA)
    ·rfl
    ·simp[tmD,putD,← e2,Ad e3,← e4];rfl
    ·simp[← e2,Ad e3,← e4];intros;rfl
    obtain rfl:=oi h;exact nP_i (WM [0,1,2] hz)
   |false=>
    replace h:=iF h;obtain⟨v5,e5,h⟩:=ltE h;cases v5 with
    |true=>
     replace h:=iT h;apply zF (V:=[_,_,_,_,_,_,_,_,_,_,_,_,_,_,_,_,_,_,_,_,_,_,_,_,_,_,_,_,_,_,_,_,_,_,_,_,_,_]) mixed DY8t5 38 (by kernel_rfl) (by kernel_rfl)
     ·refine⟨?_,?_,?_,?_,?_,?_,?_,?_,?_,?_,?_,?_,?_,?_,?_,?_,?_,?_,?_,?_,?_,?_,?_,?_,?_,?_,?_,?_,?_,?_,?_,?_,?_,?_,?_,?_,?_,?_,trivial⟩;iterate 38 (· intro tm hr;simp[AllL,rdV] at hr;simp[hr,← e2,Ad e3,← e4,← e5];intros;exact KA)
     ·rfl
     ·simp[tmD,putD,← e2,Ad e3,← e4,← e5];rfl
     ·simp[← e2,Ad e3,← e4,← e5];intros;rfl
     obtain rfl:=oi h;exact nP_i (WM [0,1,2] hz)
    |false=>
     replace h:=iF h;obtain⟨v6,e6,v7,e7,h⟩:=obl h;cases v7 with
     |true=>
      replace h:=iT h;apply zF (V:=[_,_,_,_,_,_,_,_,_,_,_,_,_,_,_,_,_,_,_,_,_,_,_,_,_,_,_,_,_,_,_,_,_,_,_,_,_,_]) mixed DY8t5 38 (by kernel_rfl) (by kernel_rfl)
      ·refine⟨?_,?_,?_,?_,?_,?_,?_,?_,?_,?_,?_,?_,?_,?_,?_,?_,?_,?_,?_,?_,?_,?_,?_,?_,?_,?_,?_,?_,?_,?_,?_,?_,?_,?_,?_,?_,?_,?_,trivial⟩;iterate 38 (· intro tm hr;simp[AllL,rdV] at hr;simp[hr,← e2,Ad e3,← e4,← e5,(show a1.effects[0]?=some v6 from (Aa e6).2),← e7];intros;exact KA)
      ·rfl
      ·simp[tmD,putD,← e2,Ad e3,← e4,← e5,(show a1.effects[0]?=some v6 from (Aa e6).2),← e7];rfl
      ·simp[← e2,Ad e3,← e4,← e5,(show a1.effects[0]?=some v6 from (Aa e6).2),← e7];intros;rfl
      obtain rfl:=oi h;exact nP_i (WM [0,1,2] hz)
     |false=>
      replace h:=iF h;obtain⟨v8,e8,v9,e9,h⟩:=obl h;cases v9 with
      |true=>
       replace h:=iT h;apply zF (V:=[_,_,_,_,_,_,_,_,_,_,_,_,_,_,_,_,_,_,_,_,_,_,_,_,_,_,_,_,_,_,_,_,_,_,_,_,_,_]) mixed DY8t5 38 (by kernel_rfl) (by kernel_rfl)
       ·refine⟨?_,?_,?_,?_,?_,?_,?_,?_,?_,?_,?_,?_,?_,?_,?_,?_,?_,?_,?_,?_,?_,?_,?_,?_,?_,?_,?_,?_,?_,?_,?_,?_,?_,?_,?_,?_,?_,?_,trivial⟩;iterate 26 (· intro tm hr;simp[AllL,rdV] at hr;simp[hr,← e2,Ad e3,← e4,← e5,(show a1.effects[0]?=some v6 from (Aa e6).2),← e7,← e9];intros;exact KA)
        ·intro tm hr;simp[AllL,rdV] at hr;simp[hr,← e2,Ad e3,← e4,← e5,(show a1.effects[0]?=some v6 from (Aa e6).2),← e7,← e9];intros;refine Ab GY (Hr e8) rfl ⟨(by first|exact .same rfl|(simp[← e2,← e4,← e5,← e7,← e9];exact .same rfl)),trivial⟩ ?_;try simp[← e2,Ad e3,← e4,← e5,(show a1.effects[0]?=some v6 from (Aa e6).2),← e7,← e9]
         intros;exact KA
        iterate 11 (· intro tm hr;simp[AllL,rdV] at hr;simp[hr,← e2,Ad e3,← e4,← e5,(show a1.effects[0]?=some v6 from (Aa e6).2),← e7,← e9];intros;exact KA)
       ·rfl
       ·simp[tmD,putD,← e2,Ad e3,← e4,← e5,(show a1.effects[0]?=some v6 from (Aa e6).2),← e7,← e9];rfl
       ·simp[← e2,Ad e3,← e4,← e5,(show a1.effects[0]?=some v6 from (Aa e6).2),← e7,← e9];intros;rfl
       obtain rfl:=oi h;exact nP_i (WM [0,1,2] hz)
      |false=>
       replace h:=iF h;obtain⟨v10,e10,v11,e11,h⟩:=obl h;apply zF (V:=[_,_,_,_,_,_,_,_,_,_,_,_,_,_,_,_,_,_,_,_,_,_,_,_,_,_,_,_,_,_,_,_,_,_,_,_,_,_]) mixed DY8t5 38 (by kernel_rfl) (by kernel_rfl)
       ·refine⟨?_,?_,?_,?_,?_,?_,?_,?_,?_,?_,?_,?_,?_,?_,?_,?_,?_,?_,?_,?_,?_,?_,?_,?_,?_,?_,?_,?_,?_,?_,?_,?_,?_,?_,?_,?_,?_,?_,trivial⟩;iterate 26 (· intro tm hr;simp[AllL,rdV] at hr;simp[hr,← e2,Ad e3,← e4,← e5,(show a1.effects[0]?=some v6 from (Aa e6).2),← e7,← e9,← e11];intros;exact KA)
        ·intro tm hr;simp[AllL,rdV] at hr;simp[hr,← e2,Ad e3,← e4,← e5,(show a1.effects[0]?=some v6 from (Aa e6).2),← e7,← e9,← e11];intros;refine Ab GY (Hr e8) rfl ⟨(by first|exact .same rfl|(simp[← e2,← e4,← e5,← e7,← e9,← e11];exact .same rfl)),trivial⟩ ?_;try simp[← e2,Ad e3,← e4,← e5,(show a1.effects[0]?=some v6 from (Aa e6).2),← e7,← e9,← e11]
         intros;exact KA
        iterate 8 (· intro tm hr;simp[AllL,rdV] at hr;simp[hr,← e2,Ad e3,← e4,← e5,(show a1.effects[0]?=some v6 from (Aa e6).2),← e7,← e9,← e11];intros;exact KA)
        ·intro tm hr;simp[AllL,rdV] at hr;simp[hr,← e2,Ad e3,← e4,← e5,(show a1.effects[0]?=some v6 from (Aa e6).2),← e7,← e9,← e11];intros;refine Ab Em (E9 e10) rfl ⟨(by first|exact .same rfl|(simp[← e2,← e4,← e5,← e7,← e9,← e11];exact .same rfl)),trivial⟩ ?_;try simp[← e2,Ad e3,← e4,← e5,(show a1.effects[0]?=some v6 from (Aa e6).2),← e7,← e9,← e11]
         intros;exact KA
        iterate 2 (· intro tm hr;simp[AllL,rdV] at hr;simp[hr,← e2,Ad e3,← e4,← e5,(show a1.effects[0]?=some v6 from (Aa e6).2),← e7,← e9,← e11];intros;exact KA)
       ·rfl
       ·simp[tmD,putD,← e2,Ad e3,← e4,← e5,(show a1.effects[0]?=some v6 from (Aa e6).2),← e7,← e9,← e11];rfl
       ·simp[← e2,Ad e3,← e4,← e5,(show a1.effects[0]?=some v6 from (Aa e6).2),← e7,← e9,← e11];intros;rfl
       obtain rfl:=oi h;exact nP_i (WM [0,1,2] hz)
 ·rintro e s⟨rfl,hw⟩;refine⟨_,hw,?_⟩;try simp only[nm]
  obtain⟨v12,e12,h⟩:=ltE h;rw[← e12];cases v12 with
  |true=>
   replace h:=iT h;refine CT ?_;refine ST ?_;refine AW.nilCellD 2 22 15 rfl rfl rfl rfl ?_;obtain rfl:=oi h;apply AW.ret;exact LP hz
  |false=>
   replace h:=iF h;refine CF ?_;apply AW.skip;try simp only[nm]
   obtain⟨v13,e13,h⟩:=bnE h;apply AW.step
   ·simp;intros;refine Ab O2 (PZ e13) rfl ⟨.same rfl,.same rfl,.same rfl,trivial⟩ ?_;try simp
    intros;rfl
   obtain⟨y14,g14,h⟩:=bnE h;refine zC (p:=fun gh ls=>(nP (cx:=cx) (fun q=>(⟨[(2,.l (.p 0 0)),(3,.l (.p 1 0)),(4,.l (.p 2 0))],[some ⟨38,22,false,none,(cA0 q)⟩,some ⟨49,15,false,none,(cC0 a1)⟩,some ⟨67,24,false,none,cD0⟩],116,gh,ls⟩:St))) y14) ?_ ?_
   ·replace h:=g14;clear g14
    obtain⟨v15,e15,h⟩:=ltE h;refine AW.step (by simp[← e15];intros;rfl) ?_;cases v15 with
    |true=>
     replace h:=iT h;refine CT ?_;obtain⟨v16,e16,h⟩:=bnE h;apply AW.step
     ·simp;intros;refine Ab G3 (HD e16) rfl ⟨.same rfl,.same rfl,trivial⟩ ?_;try simp
      intros;rfl
     obtain⟨v17,e17,h⟩:=bnE h;apply AW.step
     ·simp;intros;refine Ab JY (Ld e17) rfl ⟨.same rfl,.same rfl,trivial⟩ ?_;try simp
      intros;rfl
     obtain⟨v18,e18,h⟩:=bnE h;have f19:=Mr e18;try simp at f19
     obtain⟨e20,h⟩:=chkE h;apply AW.step
     ·simp[f19];intros;refine Ax ?_;try simp[f19]
      intros;refine AD (acc:=[]) (ys:=Ap v18) (cap:=none) (k:=v18.length) CP CE (by simp) (by rw[Ek];simp) (by simp) (by simp) (by simp) (by first|(simp;done)|simpa using (Aw e20).1) ?_;try simp[f19]
      intros;rfl
     obtain⟨e21,v22,e22,h⟩:=ocl h;apply AW.step
     ·simp[← Cy,← e22,Ar e22];intros;refine Ax ?_;try simp[← Cy,← e22,Ar e22]
      intros;refine AD (acc:=Ap v18) (ys:=Ap [(⟨a1.frm,a1.slot,a1.num⟩:Seen)]) (cap:=none) (k:=1) CP CE (by simp) (by simp[Ap,lvs]) (AI _) (by simp) (by simp) (by first|(simp;done)|simpa using (Aw e21).1) ?_;try simp[← Cy,← e22,Ar e22]
      intros;rfl
     obtain⟨y23,g23,h⟩:=bnE h;refine zC (p:=fun gh ls=>(nP (cx:=cx) (fun q=>(⟨[(2,.l (.p 0 0)),(3,.l (.p 1 0)),(4,.l (.p 2 0)),(6,.l (iA q)),(8,.l (.r 3 3 0 v22.length))],[some ⟨38,22,false,none,[iA a0.count,iA a0.id,iA a0.master,iA a0.epoch,iA a0.voted,dB a0.claims,dA v16,dI a0.moves,iA a0.last,.d false 3 (Ap a0.seen),iA v17.rid.node,iA v17.rid.epoch,iA v17.off,dD v17.back,iA v17.prev.node,iA v17.prev.epoch,iA v17.upto,dC a0.watch.heard,.d false 1 (AM a0.watch.says),iA a0.asked,dC a0.votes,iA a0.wait]⟩,some ⟨49,15,false,none,(cC0 a1)⟩,some ⟨67,24,false,none,cD0⟩,some ⟨100,3,true,none,lvs (Ap v22)⟩],116,gh,ls⟩:St))) y23) ?_ ?_
     ·replace h:=g23;clear g23
      refine ST ?_;obtain⟨v24,e24,h⟩:=ltE h;rw[← e24];cases v24 with
      |true=>
       replace h:=iT h;refine CT ?_;obtain⟨v25,e25,h⟩:=ltE h;refine AW.last (by simp[← e25];intros;rfl) ?_;obtain rfl:=oi h;refine nP_i ?_;refine zG [some 0,some 1,some 2,some 6] hz (by decide) ?_ ?_ rfl;all_goals first|(simp[Ae,Af,pickOb,Gy];done)|rfl
      |false=>
       replace h:=iF h;refine CF ?_;apply AW.skip;try simp only[nm]
       obtain rfl:=oi h;refine nP_i ?_;refine zG [some 0,some 1,some 2,some 6] hz (by decide) ?_ ?_ rfl;all_goals first|(simp[Ae,Af,pickOb,Gy];done)|rfl
     ·rintro e s⟨rfl,hw⟩;refine⟨_,hw,?_⟩;try simp only[nm]
      obtain⟨v26,e26,h⟩:=bnE h;have f27:=Mq e26;try simp at f27
      obtain⟨e28,v29,e29,h⟩:=ocl h;apply AW.last
      ·simp[f27,← Cy,← e29,Cn e29];intros;refine AD (acc:=Ap v22) (ys:=Ap v26) (cap:=none) (k:=v26.length) CP CE (by simp) (by rw[Ek];simp) (AI _) (by simp) (by simp) (by first|(simp;done)|simpa using (Aw e28).1) ?_;try simp[f27,← Cy,← e29,Cn e29]
       intros;rfl
      obtain⟨e30,h⟩:=chkE h;obtain rfl:=oi h;refine nP_i ?_;refine W.frzRow 4 (ty:=100) (cap:=none) (sz:=3) (es:=Ap v29) (by simp) (by omega) (AI _) (by first|exact (Aw e30).2|simpa using (Aw e30).2|simp) (by simp[Tm.frz,AV.frz,LV.frz];rfl) (by simp[Ob.frz,LV.frz];rfl) rfl ?_;exact WM [0,1,2] hz
    |false=>
     replace h:=iF h;refine CF ?_;apply AW.skip;try simp only[nm]
     obtain rfl:=oi h;exact nP_i (WM [0,1,2] hz)
   ·rintro e s⟨rfl,hw⟩;refine⟨_,hw,?_⟩;try simp only[nm]
    apply AW.step
    ·simp;intros;refine Ax ?_;try simp
     intros;rfl
    obtain⟨e31,h⟩:=chkE h;refine AW.nilCellR 3 4 4 rfl rfl rfl ?_;refine AW.nilCellR 3 5 1 rfl rfl rfl ?_;refine AW.nilCellR 3 14 7 rfl rfl rfl ?_;refine AW.frzRow 3 (ty:=49) (cap:=none) (sz:=15) (es:=AA [(⟨3,y14.id,a1.frm,0,[],[],0,a1.slot,a1.num,(⟨0,0⟩:Rid),(⟨0,0⟩:Rid),0,[]⟩:Msg)]) (by simp[I1]) (by omega) (Cu _) (by first|exact (Aw e31).2|simpa using (Aw e31).2|simp) (by simp[Tm.frz,AV.frz,LV.frz,(show List.take 1 (AA [(⟨3,y14.id,a1.frm,0,[],[],0,a1.slot,a1.num,(⟨0,0⟩:Rid),(⟨0,0⟩:Rid),0,[]⟩:Msg)])=AA [(⟨3,y14.id,a1.frm,0,[],[],0,a1.slot,a1.num,(⟨0,0⟩:Rid),(⟨0,0⟩:Rid),0,[]⟩:Msg)] from rfl)];rfl) (by simp[Ob.frz,LV.frz,(show List.take 1 (AA [(⟨3,y14.id,a1.frm,0,[],[],0,a1.slot,a1.num,(⟨0,0⟩:Rid),(⟨0,0⟩:Rid),0,[]⟩:Msg)])=AA [(⟨3,y14.id,a1.frm,0,[],[],0,a1.slot,a1.num,(⟨0,0⟩:Rid),(⟨0,0⟩:Rid),0,[]⟩:Msg)] from rfl)];rfl) rfl ?_;obtain rfl:=oi h;apply AW.ret;exact LP hz
theorem NF:Enters Tryz.prog 23:=enters Tryz.func23 (by kernel_rfl) rfl
def Ck (n:Nat) (a0:Node) (a1:Msg):Option Node :=
bn (iter n (fun (y1:Int) =>
lt (lenI a0.moves) fun v4 =>
lt (ltI y1 v4) fun v5 =>
ite' v5 (bn (nth a0.moves y1) fun v6 =>
bn (lt (neI v6.slot a1.slot) fun v8 =>
ite' v8 (some (true)) (lt (neI v6.num a1.num) fun v9 =>
ite' v9 (some (true)) (lt (ltI v6.num 1) fun v10 =>
ite' v10 (some (true)) (lt (neI v6.to a1.frm) fun v11 =>
some (v11))))) fun (y7:Bool) =>
lt (y7) fun v12 =>
ite' v12 (lt (addI .i64 y1 1) fun v13 =>
some (.inl v13)) (chk (room 1 1) <|
bn (Db n a0.db [(⟨v6.key,true,(⟨0,⟨#[]⟩,[],[],0⟩:Item)⟩:Effect)]) fun v15 =>
bn (En n a0.feed [(⟨v6.key,true,(⟨0,⟨#[]⟩,[],[],0⟩:Item)⟩:Effect)]) fun v16 =>
bn (Dp n a0.moves) fun v17 =>
bn (nth v17 y1) fun v18 =>
lt (v17.set y1.toNat (⟨v6.slot,v6.to,0,⟨#[]⟩⟩:Move)) fun v20 =>
chk (room v20.length 1) <|
some (.inr (.inr (⟨a0.count,a0.id,a0.master,a0.epoch,a0.voted,a0.claims,v15,v20,a0.last,a0.seen,v16,a0.watch,a0.asked,a0.votes,a0.wait⟩:Node))))) (some (.inr (.inl ())))) 0) fun (y2:Unit ⊕ Node) =>
sm y2 (fun y24=>some a0) (fun y25=>some y25)
theorem NG {n:Nat} {a0:Node} {a1:Msg} {r:Node} (h:Ck n a0 a1=some r):Sound Tryz.prog 24 [.g (cA0 a0),.g (cC0 a1)] [] (.g (cA0 r)) []:=by
 unfold Ck at h;refine SO 74 Tryz.func24 fun cx hG (hz:cx.nb=0)=>?_;simp only[it];refine ST ?_;apply AW.seq;refine ST ?_;apply AW.block;obtain⟨y2,g2,h⟩:=bnE h;refine zD g2 (mk:=fun gh ls q=>(⟨[(2,.l (.p 0 0)),(3,.l (.p 1 0)),(4,.l (.p 2 0)),(5,.l (iA q))],[some ⟨38,22,false,none,(cA0 a0)⟩,some ⟨49,15,false,none,(cC0 a1)⟩,some ⟨38,22,false,none,cB0⟩],74,gh,ls⟩:St)) (N:=fun gh ls=>(sp (xP 0 (cx:=cx) (fun _=>(⟨[(2,.l (.p 0 0)),(4,.l (.p 1 0))],[some ⟨38,22,false,none,(cA0 a0)⟩,some ⟨38,22,false,none,cB0⟩],74,gh,ls⟩:St))) (rP (cx:=cx) (P:=Tryz.prog) Tryz.f24 (fun q=>.g (cA0 q)) (fun q=>[])))) ?_ (noS noX noR) ?_ ?_
 ·exact WM [0,1,2] hz
 ·clear h;intro y1 y3 h
  apply AW.seq;obtain⟨v4,e4,v5,e5,h⟩:=oll h;refine AW.step (by simp[Ad e4,← e5];intros;rfl) ?_;cases v5 with
  |true=>
   replace h:=iT h;refine CT ?_;apply AW.skip;try simp only[nm]
   apply AW.seq;apply AW.block;obtain⟨v6,e6,h⟩:=bnE h;refine AW.step (by simp[Aa e6];intros;rfl) ?_;apply AW.seq;obtain⟨y7,g7,h⟩:=bnE h;refine zC (p:=fun gh ls=>(nP (cx:=cx) (fun q=>(⟨[(2,.l (.p 0 0)),(3,.l (.p 1 0)),(4,.l (.p 2 0)),(5,.l (iA y1)),(6,.l (.p 3 0)),(44,.l (bA q))],[some ⟨38,22,false,none,(cA0 a0)⟩,some ⟨49,15,false,none,(cC0 a1)⟩,some ⟨38,22,false,none,cB0⟩,some ⟨92,4,false,none,[iA v6.slot,iA v6.to,iA v6.num,tA v6.key]⟩],74,gh,ls⟩:St))) y7) ?_ ?_
   ·replace h:=g7;clear g7
    obtain⟨v8,e8,h⟩:=ltE h;cases v8 with
    |true=>
     replace h:=iT h;refine AW.last (by simp[← e8];intros;rfl) ?_;obtain rfl:=oi h;exact nP_i (WM [0,1,2,3] hz)
    |false=>
     replace h:=iF h;obtain⟨v9,e9,h⟩:=ltE h;cases v9 with
     |true=>
      replace h:=iT h;refine AW.last (by simp[← e8,← e9];intros;rfl) ?_;obtain rfl:=oi h;exact nP_i (WM [0,1,2,3] hz)
     |false=>
      replace h:=iF h;obtain⟨v10,e10,h⟩:=ltE h;cases v10 with
      |true=>
       replace h:=iT h;refine AW.last (by simp[← e8,← e9,← e10];intros;rfl) ?_;obtain rfl:=oi h;exact nP_i (WM [0,1,2,3] hz)
      |false=>
       replace h:=iF h;obtain⟨v11,e11,h⟩:=ltE h;refine AW.last (by simp[← e8,← e9,← e10,← e11];intros;rfl) ?_;obtain rfl:=oi h;exact nP_i (WM [0,1,2,3] hz)
   ·rintro e s⟨rfl,hw⟩;refine⟨_,hw,?_⟩;try simp only[nm]
    obtain⟨v12,e12,h⟩:=ltE h;rw[← e12];cases v12 with
    |true=>
     replace h:=iT h;refine CT ?_;apply AW.exit;try simp only[nm]
     obtain⟨v13,e13,h⟩:=ltE h;refine AW.last (by simp[← e13];intros;rfl) ?_;obtain rfl:=oi h;exact nP_i (WM [0,1,2] hz)
    |false=>
     replace h:=iF h;refine CF ?_;apply AW.skip;try simp only[nm]
     apply AW.step
     ·simp;intros;refine Ax ?_;try simp
      intros;rfl
     obtain⟨e14,h⟩:=chkE h;refine AW.nilCellR 4 4 2 rfl rfl rfl ?_;refine AW.nilCellR 4 5 1 rfl rfl rfl ?_;refine AW.frzRow 4 (ty:=59) (cap:=none) (sz:=7) (es:=An [(⟨v6.key,true,(⟨0,⟨#[]⟩,[],[],0⟩:Item)⟩:Effect)]) (by simp[FG]) (by omega) (Bh _) (by first|exact (Aw e14).2|simpa using (Aw e14).2|simp) (by simp[Tm.frz,AV.frz,LV.frz];rfl) (by simp[Ob.frz,LV.frz];rfl) rfl ?_;obtain⟨v15,e15,h⟩:=bnE h;apply AW.step
     ·simp;intros;refine Ab G3 (HD e15) rfl ⟨.same rfl,.same rfl,trivial⟩ ?_;try simp
      intros;rfl
     obtain⟨v16,e16,h⟩:=bnE h;apply AW.step
     ·simp;intros;refine Ab JY (Ld e16) rfl ⟨.same rfl,.same rfl,trivial⟩ ?_;try simp
      intros;rfl
     obtain⟨v17,e17,h⟩:=bnE h;apply AW.step
     ·simp[outR];intros;refine AS Iw (Jc e17) rfl (by simp) ⟨.same rfl,trivial⟩ ?_;try simp[outR]
      intros;rfl
     obtain⟨v18,e18,h⟩:=bnE h;have f19:=A0 e18;try simp[Aa e18] at f19
     obtain⟨v20,e20,h⟩:=ltE h;have f21:=Ml (Aa e18).2 e20 (cs:=[iA v6.slot,iA v6.to,iA 0,tA ⟨#[]⟩]) (by simp) rfl;try simp at f21
     have f22:=f19;try simp only[AC e20] at f22
     refine AW.step (by simp[Aa e18,f19,I3 (Aa e18).2 (show 4≤4 by decide),f21,f22];intros;rfl) ?_;refine ST ?_;refine ST ?_;obtain⟨e23,h⟩:=chkE h;refine AW.frzRow 5 (ty:=92) (cap:=none) (sz:=4) (es:=Am v20) (by simp) (by omega) (AB _) (by first|exact (Aw e23).2|simpa using (Aw e23).2|simp) (by simp[Tm.frz,AV.frz,LV.frz,AC e20];rfl) (by simp[Ob.frz,LV.frz,AC e20];rfl) rfl ?_;obtain rfl:=oi h;apply AW.ret;try simp only[nm]
     refine rP_i ?_;exact LP hz
  |false=>
   replace h:=iF h;refine CF ?_;apply AW.exit;try simp only[nm]
   obtain rfl:=oi h;try simp only[sp_l,sp_r]
   refine xP_i ?_;exact WM [0,2] hz
 ·rintro e s hp;rcases y2 with y24|y25
  ·replace h:=smL h;obtain⟨rfl,hw⟩:=hp;refine⟨_,hw,?_⟩;try simp only[nm]
   refine ST ?_;obtain rfl:=oi h;apply AW.ret;exact LP hz
  ·replace h:=smR h;obtain⟨rfl,hl⟩:=hp;refine⟨_,Weak.refl _,?_⟩;obtain rfl:=oi h;exact hl
theorem MQ:Enters Tryz.prog 24:=enters Tryz.func24 (by kernel_rfl) rfl
def Dr (n:Nat) (a0:Msg) (a1:Msg):Option Bool :=
bn (lt (eqI a0.kind a1.kind) fun v2 =>
ite' v2 (lt (eqI a0.frm a1.frm) fun v3 =>
ite' v3 (lt (eqI a0.to a1.to) fun v4 =>
ite' v4 (lt (eqI a0.epoch a1.epoch) fun v5 =>
ite' v5 (lt (eqI a0.node a1.node) fun v6 =>
ite' v6 (lt (eqI a0.slot a1.slot) fun v7 =>
ite' v7 (lt (eqI a0.num a1.num) fun v8 =>
ite' v8 (lt (andB (eqI a0.rid.node a1.rid.node) (andB (eqI a0.rid.epoch a1.rid.epoch) true)) fun v9 =>
ite' v9 (lt (andB (eqI a0.prev.node a1.prev.node) (andB (eqI a0.prev.epoch a1.prev.epoch) true)) fun v10 =>
ite' v10 (lt (eqI a0.off a1.off) fun v11 =>
ite' v11 (bn (BR n a0.claims a1.claims) fun v12 =>
ite' v12 (bn (C6 n a0.nodes a1.nodes) fun v13 =>
ite' v13 (bn (BS n a0.effects a1.effects) fun v14 =>
some (v14)) (some (false))) (some (false))) (some (false))) (some (false))) (some (false))) (some (false))) (some (false))) (some (false))) (some (false))) (some (false))) (some (false))) (some (false))) fun (y1:Bool) =>
some y1
theorem LR {n:Nat} {a0:Msg} {a1:Msg} {r:Bool} (h:Dr n a0 a1=some r):Sound Tryz.prog 58 [.g (cC0 a0),.g (cC0 a1)] [] (.l (bA r)) []:=by
 unfold Dr at h;refine SO 94 Tryz.func58 fun cx hG (hz:cx.nb=0)=>?_;simp only[it];refine ST ?_;obtain⟨y1,g1,h⟩:=bnE h;refine zC (p:=fun gh ls=>(nP (cx:=cx) (fun q=>(⟨[(4,.l (bA q))],[],94,gh,ls⟩:St))) y1) ?_ ?_
 ·replace h:=g1;clear g1
  obtain⟨v2,e2,h⟩:=ltE h;cases v2 with
  |true=>
   replace h:=iT h;obtain⟨v3,e3,h⟩:=ltE h;cases v3 with
   |true=>
    replace h:=iT h;obtain⟨v4,e4,h⟩:=ltE h;cases v4 with
    |true=>
     replace h:=iT h;obtain⟨v5,e5,h⟩:=ltE h;cases v5 with
     |true=>
      replace h:=iT h;obtain⟨v6,e6,h⟩:=ltE h;cases v6 with
      |true=>
       replace h:=iT h;obtain⟨v7,e7,h⟩:=ltE h;cases v7 with
       |true=>
        replace h:=iT h;obtain⟨v8,e8,h⟩:=ltE h;cases v8 with
        |true=>
         replace h:=iT h;obtain⟨v9,e9,h⟩:=ltE h;cases v9 with
         |true=>
          replace h:=iT h;obtain⟨v10,e10,h⟩:=ltE h;cases v10 with
          |true=>
           replace h:=iT h;obtain⟨v11,e11,h⟩:=ltE h;cases v11 with
           |true=>
            replace h:=iT h;obtain⟨v12,e12,h⟩:=bnE h;cases v12 with
            |true=>
             replace h:=iT h;obtain⟨v13,e13,h⟩:=bnE h;cases v13 with
             |true=>
              replace h:=iT h;obtain⟨v14,e14,h⟩:=bnE h;apply AW.last
              ·simp[← e2,← e3,← e4,← e5,← e6,← e7,← e8,← e9,← e10,← e11];intros;refine Ab Bl (Bq e12) rfl ⟨.same rfl,.same rfl,trivial⟩ ?_;try simp[← e2,← e3,← e4,← e5,← e6,← e7,← e8,← e9,← e10,← e11]
               intros;refine Ab Er (Fb e13) rfl ⟨.same rfl,.same rfl,trivial⟩ ?_;try simp[← e2,← e3,← e4,← e5,← e6,← e7,← e8,← e9,← e10,← e11]
               intros;refine Ab Gf (GG e14) rfl ⟨.same rfl,.same rfl,trivial⟩ ?_;try simp[← e2,← e3,← e4,← e5,← e6,← e7,← e8,← e9,← e10,← e11]
               intros;rfl
              obtain rfl:=oi h;exact nP_i (WM [] hz)
             |false=>
              replace h:=iF h;apply AW.last
              ·simp[← e2,← e3,← e4,← e5,← e6,← e7,← e8,← e9,← e10,← e11];intros;refine Ab Bl (Bq e12) rfl ⟨.same rfl,.same rfl,trivial⟩ ?_;try simp[← e2,← e3,← e4,← e5,← e6,← e7,← e8,← e9,← e10,← e11]
               intros;refine Ab Er (Fb e13) rfl ⟨.same rfl,.same rfl,trivial⟩ ?_;try simp[← e2,← e3,← e4,← e5,← e6,← e7,← e8,← e9,← e10,← e11]
               intros;rfl
              obtain rfl:=oi h;exact nP_i (WM [] hz)
            |false=>
             replace h:=iF h;apply AW.last
             ·simp[← e2,← e3,← e4,← e5,← e6,← e7,← e8,← e9,← e10,← e11];intros;refine Ab Bl (Bq e12) rfl ⟨.same rfl,.same rfl,trivial⟩ ?_;try simp[← e2,← e3,← e4,← e5,← e6,← e7,← e8,← e9,← e10,← e11]
              intros;rfl
             obtain rfl:=oi h;exact nP_i (WM [] hz)
           |false=>
            replace h:=iF h;refine AW.last (by simp[← e2,← e3,← e4,← e5,← e6,← e7,← e8,← e9,← e10,← e11];intros;rfl) ?_;obtain rfl:=oi h;exact nP_i (WM [] hz)
          |false=>
           replace h:=iF h;refine AW.last (by simp[← e2,← e3,← e4,← e5,← e6,← e7,← e8,← e9,← e10];intros;rfl) ?_;obtain rfl:=oi h;exact nP_i (WM [] hz)
         |false=>
          replace h:=iF h;refine AW.last (by simp[← e2,← e3,← e4,← e5,← e6,← e7,← e8,← e9];intros;rfl) ?_;obtain rfl:=oi h;exact nP_i (WM [] hz)
        |false=>
         replace h:=iF h;refine AW.last (by simp[← e2,← e3,← e4,← e5,← e6,← e7,← e8];intros;rfl) ?_;obtain rfl:=oi h;exact nP_i (WM [] hz)
       |false=>
        replace h:=iF h;refine AW.last (by simp[← e2,← e3,← e4,← e5,← e6,← e7];intros;rfl) ?_;obtain rfl:=oi h;exact nP_i (WM [] hz)
      |false=>
       replace h:=iF h;refine AW.last (by simp[← e2,← e3,← e4,← e5,← e6];intros;rfl) ?_;obtain rfl:=oi h;exact nP_i (WM [] hz)
     |false=>
      replace h:=iF h;refine AW.last (by simp[← e2,← e3,← e4,← e5];intros;rfl) ?_;obtain rfl:=oi h;exact nP_i (WM [] hz)
    |false=>
     replace h:=iF h;refine AW.last (by simp[← e2,← e3,← e4];intros;rfl) ?_;obtain rfl:=oi h;exact nP_i (WM [] hz)
   |false=>
    replace h:=iF h;refine AW.last (by simp[← e2,← e3];intros;rfl) ?_;obtain rfl:=oi h;exact nP_i (WM [] hz)
  |false=>
   replace h:=iF h;refine AW.last (by simp[← e2];intros;rfl) ?_;obtain rfl:=oi h;exact nP_i (WM [] hz)
 ·rintro e s⟨rfl,hw⟩;refine⟨_,hw,?_⟩;try simp only[nm]
  obtain rfl:=oi h;apply AW.ret;exact LP hz
theorem KI:Enters Tryz.prog 58:=enters Tryz.func58 (by kernel_rfl) rfl
def Co (n:Nat) (a0:List Msg) (a1:List Msg):Option Bool :=
lt (lenI a0) fun v1 =>
lt (lenI a1) fun v2 =>
lt (neI v1 v2) fun v3 =>
ite' v3 (some false) (bn (iter n (fun (y4:Int) =>
lt (lenI a0) fun v7 =>
lt (ltI y4 v7) fun v8 =>
ite' v8 (bn (nth a0 y4) fun v9 =>
bn (nth a1 y4) fun v10 =>
bn (Dr n v9 v10) fun v11 =>
lt (notB v11) fun v12 =>
ite' v12 (some (.inr (.inr false))) (lt (addI .i64 y4 1) fun v13 =>
some (.inl v13))) (some (.inr (.inl ())))) 0) fun (y5:Unit ⊕ Bool) =>
sm y5 (fun y14=>some true) (fun y15=>some y15))
theorem Hs {n:Nat} {a0:List Msg} {a1:List Msg} {r:Bool} (h:Co n a0 a1=some r):Sound Tryz.prog 22 [.l (.d false 15 (AA a0)),.l (.d false 15 (AA a1))] [] (.l (bA r)) []:=by
 unfold Co at h;refine SO 27 Tryz.func22 fun cx hG (hz:cx.nb=0)=>?_;simp only[it];refine ST ?_;apply AW.seq;obtain⟨v1,e1,v2,e2,v3,e3,h⟩:=olll h;refine AW.step (by simp[Ad e1,Ad e2,← e3];intros;rfl) ?_;cases v3 with
 |true=>
  replace h:=iT h;refine CT ?_;refine ST ?_;obtain rfl:=oi h;apply AW.ret;exact LP hz
 |false=>
  replace h:=iF h;refine CF ?_;apply AW.skip;try simp only[nm]
  apply AW.seq;refine ST ?_;apply AW.block;obtain⟨y5,g5,h⟩:=bnE h;refine zD g5 (mk:=fun gh ls q=>(⟨[(0,.l (.d false 15 (AA a0))),(1,.l (.d false 15 (AA a1))),(5,.l (iA q))],[],27,gh,ls⟩:St)) (N:=fun gh ls=>(sp (xP 0 (cx:=cx) (fun _=>(⟨[],[],27,gh,ls⟩:St))) (rP (cx:=cx) (P:=Tryz.prog) Tryz.f22 (fun q=>.l (bA q)) (fun q=>[])))) ?_ (noS noX noR) ?_ ?_
  ·exact WM [] hz
  ·clear h;intro y4 y6 h
   apply AW.seq;obtain⟨v7,e7,v8,e8,h⟩:=oll h;refine AW.step (by simp[Ad e7,← e8];intros;rfl) ?_;cases v8 with
   |true=>
    replace h:=iT h;refine CT ?_;apply AW.skip;try simp only[nm]
    apply AW.seq;apply AW.block;obtain⟨v9,e9,h⟩:=bnE h;obtain⟨v10,e10,v11,e11,v12,e12,h⟩:=obbl h;apply zH (V:=[_,_,_,_,_,_,_,_]) mixed [⟨[0],[],[(0,none)],false⟩,⟨[0],[],[(5,none)],false⟩,⟨[0],[0,1],[(17,some 0),(18,some 1)],false⟩,⟨[0],[0,1,2],[(19,some 2)],false⟩,⟨[0],[],[(1,none)],false⟩,⟨[0],[],[(5,none)],false⟩,⟨[0],[4,5],[(21,some 4),(22,some 5)],false⟩,⟨[0],[4,5,6],[(23,some 6)],false⟩,⟨[],[0,1,2,3,4,5,6,7],[],false⟩,⟨[],[0,1,2,3,4,5,6,7,8],[],false⟩] 8 (by kernel_rfl) (by kernel_rfl)
    ·refine⟨?_,?_,?_,?_,?_,?_,?_,?_,trivial⟩;iterate 8 (· intro tm hr;simp[AllL,rdV] at hr;simp[hr,Aa e9,Aa e10,← e12];intros;exact KA)
    ·rfl
    ·simp[tmD,putD,Aa e9,Aa e10,← e12];rfl
    ·simp[Aa e9,Aa e10,← e12];intros;refine Ab KI (LR e11) rfl ⟨.same rfl,.same rfl,trivial⟩ ?_;try simp[Aa e9,Aa e10,← e12]
     intros;rfl
    cases v12 with
    |true=>
     replace h:=iT h;refine CT ?_;refine ST ?_;obtain rfl:=oi h;apply AW.ret;try simp only[nm]
     refine rP_i ?_;exact LP hz
    |false=>
     replace h:=iF h;refine CF ?_;apply AW.skip;try simp only[nm]
     obtain⟨v13,e13,h⟩:=ltE h;refine AW.last (by simp[← e13];intros;rfl) ?_;obtain rfl:=oi h;exact nP_i (WM [] hz)
   |false=>
    replace h:=iF h;refine CF ?_;apply AW.exit;try simp only[nm]
    obtain rfl:=oi h;try simp only[sp_l,sp_r]
    refine xP_i ?_;exact WM [] hz
  ·rintro e s hp;rcases y5 with y14|y15
   ·replace h:=smL h;obtain⟨rfl,hw⟩:=hp;refine⟨_,hw,?_⟩;try simp only[nm]
    refine ST ?_;obtain rfl:=oi h;apply AW.ret;exact LP hz
   ·replace h:=smR h;obtain⟨rfl,hl⟩:=hp;refine⟨_,Weak.refl _,?_⟩;obtain rfl:=oi h;exact hl
theorem GZ:Enters Tryz.prog 22:=enters Tryz.func22 (by kernel_rfl) rfl
end Go.Proofs.YtlbdhlbbkibgpaaGreat

namespace Go.Proofs.YtlbdhlbbkibgpaaGreat
open Go Go.RowKit
def big:Nat:=281474976710656
section
variable {α β γ:Type}
theorem N8 {f:α→Option (α ⊕ β)} (Q:β→Prop) (I:Nat→α→Prop) (N:Nat)
  (h:∀ k a,k≤N→I k a→(∃ a',k<N∧f a=some (.inl a')∧I (k+1) a')∨∃ b,f a=some (.inr b)∧Q b) :
  ∀ (d k:Nat) (a:α),k+d=N→I k a→∀ n,d<n→∃ b,iter n f a=some b∧Q b
 |d,k,a,hd,hI,0,hn=>by omega
 |d,k,a,hd,hI,n+1,hn=>by
  rcases h k a (by omega) hI with ⟨a',hk,h1,h2⟩|⟨b,h1,h2⟩
  ·rw[QH h1];match d with
   |0=>omega
   |d+1=>exact N8 Q I N h d (k+1) a' (by omega) h2 n (by omega)
  ·exact⟨b,QI h1,h2⟩
theorem MR {f:α→Option (α ⊕ β)} {a:α} (Q:β→Prop) (I:Nat→α→Prop) (N:Nat) (hN:N<big)
  (h0:I 0 a) (h:∀ k a,k≤N→I k a→(∃ a',k<N∧f a=some (.inl a')∧I (k+1) a')∨∃ b,f a=some (.inr b)∧Q b):∃ b,iter big f a=some b∧Q b :=
 N8 Q I N h N 0 a (by omega) h0 big hN
theorem GI {f:α→Option (α ⊕ β)} {a:α} {b:β} (s:Nat→α) (N:Nat) (hN:N<big) (h0:a=s 0) (h:∀ i,i<N→f (s i)=some (.inl (s (i+1)))) (he:f (s N)=some (.inr b)):iter big f a=some b:=by
 obtain⟨b',h1,h2⟩:=MR (f:=f) (a:=a) (·=b) (fun k x=>x=s k) N hN h0 fun k x hk hx=>by
  subst hx;by_cases hl:k<N
  ·exact .inl ⟨_,hl,h k hl,rfl⟩
  ·have:k=N:=by omega
   subst this;exact .inr ⟨b,he,rfl⟩
 rw[h1,h2]
theorem A7 {f:α→Option (α ⊕ β)} {a:α} {k:β→Option γ} {r:Option γ} (b:β) (s:Nat→α) (N:Nat) (hN:N<big) (h0:a=s 0) (h:∀ i,i<N→f (s i)=some (.inl (s (i+1)))) (he:f (s N)=some (.inr b)) (hk:k b=r):bn (iter big f a) k=r:=by
 rw[GI s N hN h0 h he];exact hk
theorem HI {b:Bool} {k:Option β} (h:b=true):chk b k=k:=by subst h;rfl
def Rn (m:Option α) (Q:α→Prop):Prop:=∃ v,m=some v∧Q v
theorem Rn.some {v:α} {Q:α→Prop} (h:Q v):Rn (some v) Q:=⟨v,rfl,h⟩
theorem Rn.mono {m:Option α} {Q R:α→Prop} (h:Rn m Q) (hk:∀ v,Q v→R v):Rn m R:=⟨h.choose,h.choose_spec.1,hk _ h.choose_spec.2⟩
theorem Rn.lt {a:α} {k:α→Option β} {Q:β→Prop} (h:Rn (k a) Q):Rn (lt a k) Q:=h
theorem Rn.bn {m:Option α} {k:α→Option β} {P:α→Prop} {Q:β→Prop} (h:Rn m P) (hk:∀ v,P v→Rn (k v) Q):Rn (bn m k) Q:=by
 obtain⟨v,rfl,hv⟩:=h;exact hk v hv
theorem zA {m:Option α} {k:α→Option β} {v:α} {Q:β→Prop} (h:m=Option.some v) (hk:Rn (k v) Q):Rn (Go.Proofs.YtlbdhlbbkibgpaaGreat.bn m k) Q:=by
 subst h;exact hk
theorem Rn.chk {b:Bool} {k:Option β} {Q:β→Prop} (h:b=true) (hk:Rn k Q):Rn (chk b k) Q:=by
 subst h;exact hk
theorem Rn.room {m c:Nat} {k:Option β} {Q:β→Prop} (h:m*c≤140737488355328) (h2:m≤140737488355328) (hk:Rn k Q):Rn (Go.Proofs.YtlbdhlbbkibgpaaGreat.chk (Go.Proofs.YtlbdhlbbkibgpaaGreat.room m c) k) Q:=Rn.chk (by simp[Go.Proofs.YtlbdhlbbkibgpaaGreat.room,h,h2]) hk
theorem zB {b:Bool} {x y:Option β} {Q:β→Prop} (h:b=true→Rn x Q) (h2:b=false→Rn y Q):Rn (ite' b x y) Q:=by
 cases b
 ·exact h2 rfl
 ·exact h rfl
theorem Rn.sm {s:α ⊕ β} {f:α→Option γ} {g:β→Option γ} {Q:γ→Prop} (h:∀ a,s=.inl a→Rn (f a) Q) (h2:∀ b,s=.inr b→Rn (g b) Q):Rn (sm s f g) Q:=by
 cases s with
 |inl a=>exact h a rfl
 |inr b=>exact h2 b rfl
theorem zI {f:α→Option (α ⊕ β)} {a:α} (Q:β→Prop) (I:Nat→α→Prop) (N:Nat) (hN:N<big) (h0:I 0 a)
  (h:∀ k a,k≤N→I k a→Rn (f a) fun x=>match x with|.inl a'=>k<N∧I (k+1) a'|.inr b=>Q b):Rn (iter big f a) Q:=by
 refine MR Q I N hN h0 fun k a hk hI=>?_;obtain⟨x,h1,h2⟩:=h k a hk hI;cases x with
 |inl a'=>exact .inl ⟨a',h2.1,h1,h2.2⟩
 |inr b=>exact .inr ⟨b,h1,h2⟩
theorem AL {m c:Nat} {k:Option β} (h:m*c≤140737488355328) (h2:m≤140737488355328):chk (room m c) k=k:=HI (by simp[room,h,h2])
theorem Eg {c:Nat} {l:List α} {k:Option β} (h:l.length*c≤140737488355328) (h2:l.length≤140737488355328):chk (small c l) k=k:=HI (by simp[small,h,h2])
theorem Ai (l:List α):lenI l=(l.length:Int):=rfl
theorem Au {l:List α} {i:Nat} (h:i<l.length):nth l (i:Int)=some l[i]:=by rw[Gn,List.getElem?_eq_getElem h]
theorem DF {l:List α} {i:Nat} (h:i≤l.length):segl l (i:Int)=some (l.drop i):=by simp[segl,h]
theorem FK {l:List α} {i:Nat} (h:i≤l.length):segh l (i:Int)=some (l.take i):=by simp[segh,h]
theorem Le {l:List α} {i j:Nat} (h:i≤j) (h2:j≤l.length):seglh l (i:Int) (j:Int)=some ((l.drop i).take (j - i)):=by
 have h3:(i:Int)≤j:=by omega
 have h4:(j:Int)≤l.length:=by omega
 simp[seglh,seg,h3,h4]
end
theorem wrap64 {a:Int} (h:-9223372036854775808≤a) (h2:a≤9223372036854775807):IntKind.i64.wrap a=a:=by
 simp[IntKind.wrap,IntKind.bits,IntKind.signed];omega
theorem As {a b:Int} (h:-9223372036854775808≤a+b) (h2:a+b≤9223372036854775807):addI .i64 a b=a+b:=wrap64 h h2
theorem Bu {a b:Int} (h:-9223372036854775808≤a - b) (h2:a - b≤9223372036854775807):subI .i64 a b=a - b:=wrap64 h h2
theorem C8 {a:Int} (h:-9223372036854775808≤a) (h2:a≤9223372036854775807):cvI .i64 a=a:=wrap64 h h2
end Go.Proofs.YtlbdhlbbkibgpaaGreat
namespace Go.Proofs.YtlbdhlbbkibgpaaGreat
open Go Go.RowKit
@[simp] theorem HJ (a:ByteArray):eqS a a=true:=by simp[eqS]
@[simp] theorem GJ (a:ByteArray):neS a a=false:=by simp[neS]
@[simp] theorem B9 (a:Int):eqI a a=true:=by simp[eqI]
@[simp] theorem Ba (a:Int):neI a a=false:=by simp[neI]
@[simp] theorem QX (a:Bool):neB a a=false:=by simp[neB]
@[simp] theorem Gp:andB true true=true:=rfl
theorem AT {a b:Int} (h:a<b):ltI a b=true:=by simp[ltI,h]
theorem AQ {a b:Int} (h:¬ a<b):ltI a b=false:=by simp[ltI];omega
def okI (i:Item):Prop:=i.f.length≤4398046511104∧i.l.length≤8796093022208
theorem Eh (i:Item) (h:okI i):BM big i=some i:=by
 unfold BM;have h1:=h.1;have h2:=h.2;rw[Eg (by omega) (by omega),Eg (by omega) (by omega),AL (by omega) (by omega),AL (by omega) (by omega)]
theorem O4 (l:List Field) (h:l.length≤10000000000000):CL big l l=some true:=by
 unfold CL;simp only[Ag,Ac,Ah,Aj,Ak,Al,Ai,Option.some.injEq,Ba];refine A7 (.inl ()) (fun i=>(i:Int)) l.length (by unfold big;omega) rfl (fun i hi=>?_) ?_ ?_;rotate_left 2
 ·rfl
 ·rw[AT (by omega)];simp only[Ag,Ac,Ah,Aj,Ak,Al,Ai,Option.some.injEq,Au hi,HJ,Gp,Bc];rw[As (by omega) (by omega)];rfl
 ·rw[AQ (by omega)];rfl
theorem O5 (l:List ByteArray) (h:l.length≤10000000000000):EN big l l=some true:=by
 unfold EN;simp only[Ag,Ac,Ah,Aj,Ak,Al,Ai,Option.some.injEq,Ba];refine A7 (.inl ()) (fun i=>(i:Int)) l.length (by unfold big;omega) rfl (fun i hi=>?_) ?_ ?_;rotate_left 2
 ·rfl
 ·rw[AT (by omega)];simp only[Ag,Ac,Ah,Aj,Ak,Al,Ai,Option.some.injEq,Au hi,GJ];rw[As (by omega) (by omega)];rfl
 ·rw[AQ (by omega)];rfl
theorem Fy (i:Item) (h:okI i):Bt big i i=some true:=by
 unfold Bt;simp only[Ag,Ac,Ah,Aj,Ak,Al,Ai,Option.some.injEq,B9,HJ,O4 i.f (by have:=h.1;omega),O5 i.l (by have:=h.2;omega)]
def okE (l:List Effect):Prop:=l.length≤1000000000∧∀ e∈l,okI e.item
theorem F4 (l:List Effect) (h:okE l):BS big l l=some true:=by
 have hl:=h.1;unfold BS;simp only[Ag,Ac,Ah,Aj,Ak,Al,Ai,Option.some.injEq,Ba];refine A7 (.inl ()) (fun i=>(i:Int)) l.length (by unfold big;omega) rfl (fun i hi=>?_) ?_ ?_;rotate_left 2
 ·rfl
 ·rw[AT (by omega)];simp only[Ag,Ac,Ah,Aj,Ak,Al,Ai,Option.some.injEq,Au hi,GJ,QX,Fy _ (h.2 _ (List.getElem_mem hi)),Bc];rw[As (by omega) (by omega)];rfl
 ·rw[AQ (by omega)];rfl
theorem P0 (l:List Effect) (h:okE l):Dk big l=some l:=by
 have hl:=h.1;unfold Dk;rw[Eg (by omega) (by omega)];simp only[Ag,Ac,Ah,Aj,Ak,Al,Ai,Option.some.injEq];refine A7 (l) (fun i=>((i:Int),l)) l.length (by unfold big;omega) rfl (fun i hi=>?_) ?_ ?_;rotate_left 2
 ·rw[AL (by omega) (by omega)]
 ·rw[AT (by simp;omega)];simp only[Ag,Ac,Ah,Aj,Ak,Al,Ai,Option.some.injEq,Au hi,Eh _ (h.2 _ (List.getElem_mem hi))];rw[As (by omega) (by omega)];have e:l.set i { key:=l[i].key,gone:=l[i].gone,item:=l[i].item }=l:=List.set_getElem_self hi;simp[e]
 ·rw[AQ (by simp)];rfl
def lastN (l:List Effect):List Effect:=l.drop (l.length - 64)
theorem okE.drop {l:List Effect} (h:okE l) (k:Nat):okE (l.drop k):=⟨by have:=h.1;simp;omega,fun e he=>h.2 e (List.mem_of_mem_drop he)⟩
theorem okE.app {l m:List Effect} (h:okE l) (h2:okE m) (h3:l.length+m.length≤1000000000):okE (l++m):=⟨by simp;exact h3,fun e he=>by
 rcases List.mem_append.1 he with he|he
 ·exact h.2 e he
 ·exact h2.2 e he⟩
theorem MS (l:List Effect) (h:okE l):Eb big l 64=some (lastN l):=by
 have hl:=h.1;unfold Eb;simp only[Ag,Ac,Ah,Aj,Ak,Al,Ai,Option.some.injEq];rw[Bu (by omega) (by omega)];have e:maxI 0 ((l.length:Int) - 64)=((l.length - 64:Nat):Int):=by simp only[maxI];omega
 rw[e,DF (by omega)];simp only[Ag,Ac,Ah,Aj,Ak,Al,Ai,Option.some.injEq];rw[P0 _ (h.drop _)];rfl
end Go.Proofs.YtlbdhlbbkibgpaaGreat
namespace Go.Proofs.YtlbdhlbbkibgpaaGreat
open Go Go.RowKit
theorem Bd {k:IntKind} {a b:Int} (h:0≤a) (hb:0<b):remI k a b=some (a % b):=by
 have:¬ b=0:=by omega
 simp only[remI,ne_eq,this,not_false_eq_true,if_true,Int.tmod_eq_emod_of_nonneg h]
theorem QY {a b:Int} (h:0≤a) (h2:a<18446744073709551616) (hb:0<b):quoI .u64 a b=some (a / b):=by
 have hne:¬ b=0:=by omega
 have h3:a / b≤a:=Int.ediv_le_self b h;have h4:0≤a / b:=Int.ediv_nonneg h (by omega);simp only[quoI,ne_eq,hne,not_false_eq_true,if_true,Int.tdiv_eq_ediv_of_nonneg h,Jn];rw[Int.emod_eq_of_lt h4 (by omega)]
theorem IO {a b:Int} (h:0≤a) (h2:a<9223372036854775808) (hb:0<b):quoI .i64 a b=some (a / b):=by
 have hne:¬ b=0:=by omega
 have h3:a / b≤a:=Int.ediv_le_self b h;have h4:0≤a / b:=Int.ediv_nonneg h (by omega);simp only[quoI,ne_eq,hne,not_false_eq_true,if_true,Int.tdiv_eq_ediv_of_nonneg h];rw[wrap64 (by omega) (by omega)]
theorem Sa {a b:ByteArray} (h:a.size+b.size≤9223372036854775807):catS a b=some (a++b):=by simp[catS,h]
theorem strL1 (x:Int):(strL [x]).size=1:=rfl
theorem Rn.cat {β:Type} {a b:ByteArray} {k:ByteArray→Option β} {Q:β→Prop} (h:a.size+b.size≤9223372036854775807) (hk:Rn (k (a++b)) Q):Rn (Go.Proofs.YtlbdhlbbkibgpaaGreat.bn (catS a b) k) Q:=zA (Sa h) hk
theorem Fe (a:Int) (h:-9223372036854775808≤a) (h2:a≤9223372036854775807):Rn (Cj big a) fun s=>s.size≤30:=by
 unfold Cj;refine Rn.lt (Rn.bn (P:=fun v:Int=>0≤v∧v<18446744073709551616) ?_ fun v hv=>?_)
 ·refine Rn.lt (zB (fun _=>Rn.lt (Rn.some ?_)) (fun _=>Rn.some ?_)) <;> simp only[negI,cvI,Jn] <;> omega
 refine Rn.bn (P:=fun b:Int×ByteArray=>0≤b.1∧b.2.size≤20) (zI _ (fun k a=>0≤a.1∧a.1<18446744073709551616∧a.1<10 ^ (20 - k)∧a.2.size=k) 20 (by unfold big;omega) ⟨hv.1,hv.2,by simp only;omega,rfl⟩ fun k a hk hI=>?_) fun b hb=>?_
 ·obtain⟨i1,i2,i3,i4⟩:=hI;refine Rn.lt (zB (fun hg=>?_) (fun hg=>Rn.some ⟨i1,by simp only;omega⟩));have hg:10≤a.1:=by simpa [geI] using hg
  have hk2:k<20:=by
   apply Nat.lt_of_not_le;intro hk3;have:20 - k=0:=by omega
   rw[this] at i3;simp at i3;omega
  refine zA (Bd i1 (by omega)) (Rn.lt (Rn.lt (Rn.lt (Rn.cat ?_ (zA (QY i1 i2 (by omega)) (Rn.some ⟨hk2,?_,?_,?_,?_⟩))))))
  ·rw[strL1];omega
  ·simp only;omega
  ·simp only;omega
  ·have e:20 - k=(20 - (k+1))+1:=by omega
   rw[e,Int.pow_succ] at i3;simp only;omega
  ·simp[strL1,i4];omega
 ·refine Rn.lt (Rn.lt (Rn.lt (Rn.cat ?_ (Rn.lt (zB (fun _=>Rn.cat ?_ (Rn.some ?_)) (fun _=>Rn.some ?_))))))
  ·rw[strL1];omega
  ·have e1:(⟨#[45]⟩:ByteArray).size=1:=rfl;simp only[ByteArray.size_append,strL1,e1];omega
  ·have e1:(⟨#[45]⟩:ByteArray).size=1:=rfl;simp only[ByteArray.size_append,strL1,e1];omega
  ·simp[strL1];omega
theorem Ta (a:Int) (h:0≤a) (h2:a≤255):Rn (Bb big a) fun _=>True:=by
 unfold Bb;refine zA (Bd h (by omega)) (Rn.lt (Rn.lt (Rn.cat ?_ (Rn.cat ?_ (Rn.lt ?_)))))
 ·rw[strL1];decide
 ·rw[ByteArray.size_append,strL1];decide
 rw[C8 (by omega) (by omega)];refine zA (IO h (by omega) (by omega)) (zA (Bd (by omega) (by omega)) (Rn.bn (Fe _ (by omega) (by omega)) fun s hs=>Rn.cat ?_ (Rn.some trivial)));have e1:(⟨#[123]⟩:ByteArray).size=1:=rfl;have e2:(⟨#[125]⟩:ByteArray).size=1:=rfl;simp only[ByteArray.size_append,strL1,e1,e2];omega
theorem Sb (l:List Field) (x y:ByteArray) (h:l.length≤100):Rn (DD big l x y) fun m=>m.length≤l.length+1:=by
 unfold DD;refine Rn.bn (P:=fun b:Bool×List Field=>b.2.length+(if b.1 then 0 else 1)≤l.length+1)
  (zI _ (fun k a=>a.2.1=(k:Int)∧a.2.2.length+(if a.1 then 0 else 1)≤k+1) l.length (by unfold big;omega) ⟨rfl,by simp⟩ fun k a hk hI=>?_) fun b hb=>?_
 ·obtain⟨d,i,m⟩:=a;obtain⟨rfl,i2⟩:=hI;simp only at i2;refine Rn.lt (Rn.lt (zB (fun hg=>?_) (fun hg=>Rn.some ?_)))
  ·have hk2:k<l.length:=by
    have:((k:Int)<(l.length:Int)):=by simpa [ltI,lenI] using hg
    omega
   refine Rn.bn (P:=fun b:Bool×List Field=>b.2.length+(if b.1 then 0 else 1)≤k+2) ?_ fun b hb=>?_
   ·refine Rn.bn (P:=fun b:Bool×List Field=>b.2.length+(if b.1 then 0 else 1)≤k+1) ?_ fun b hb=>?_
    ·refine Rn.bn (P:=fun b:Bool=>b=true→d=false) ?_ fun b hb=>?_
     ·refine Rn.lt (zB (fun hd=>zA (Au hk2) (Rn.lt (Rn.some fun _=>?_))) (fun hd=>Rn.some (by simp)));simpa [notB] using hd
     ·refine Rn.lt (zB (fun hd=>Rn.room ?_ ?_ (Rn.lt (Rn.some ?_))) (fun hd=>Rn.some i2))
      ·simp only;split at i2 <;> omega
      ·simp only;split at i2 <;> omega
      ·rw[hb hd] at i2;simpa using i2
    ·refine zA (Au hk2) (Rn.lt (zB (fun hd=>Rn.room ?_ ?_ (Rn.lt (Rn.some ?_))) (fun hd=>Rn.some ?_)))
     ·split at hb <;> omega
     ·split at hb <;> omega
     ·simp only[List.length_append,List.length_cons,List.length_nil];omega
     ·simp only;omega
   ·refine Rn.lt (Rn.some ⟨hk2,?_,?_⟩)
    ·simp only;rw[As (by omega) (by omega)];omega
    ·simpa using hb
  ·simp only;split at i2 <;> simp_all <;> omega
 ·refine Rn.bn (P:=fun m:List Field=>m.length≤l.length+1) ?_ fun m hm=>Rn.room (by omega) (by omega) (Rn.some hm);refine Rn.lt (zB (fun hd=>Rn.room ?_ ?_ (Rn.lt (Rn.some ?_))) (fun hd=>Rn.some ?_))
  ·split at hb <;> omega
  ·split at hb <;> omega
  ·have:b.1=false:=by simpa [notB] using hd
   rw[this] at hb;simpa using hb
  ·split at hb <;> omega
theorem Sc (l:List ByteArray) (x:ByteArray) (h:l.length≤1000000000):Rn (CR big l x) fun _=>True:=by
 unfold CR;refine Rn.bn (P:=fun _=>True) (zI _ (fun k a=>a=(k:Int)) l.length (by unfold big;omega) rfl fun k a hk hI=>?_) fun b _=>Rn.sm (fun _ _=>Rn.some trivial) (fun _ _=>Rn.some trivial);subst hI;refine Rn.lt (Rn.lt (zB (fun hg=>?_) (fun hg=>Rn.some trivial)));have hk2:k<l.length:=by
  have:((k:Int)<(l.length:Int)):=by simpa [ltI,lenI] using hg
  omega
 refine zA (Au hk2) (Rn.lt (zB (fun _=>Rn.some trivial) (fun _=>Rn.lt (Rn.some ⟨hk2,?_⟩))));rw[As (by omega) (by omega)];omega
theorem Sd (l:List ByteArray) (x:ByteArray) (h:l.length≤1000000000):Rn (Cp big l x) fun m=>m.length≤l.length+1:=by
 unfold Cp;refine Rn.bn (Sc l x h) fun v _=>zB (fun _=>Rn.room (by omega) (by omega) (Rn.some (by omega))) (fun _=>?_);refine Rn.bn (P:=fun i:Int=>∃ k:Nat,k≤l.length∧i=k) (zI _ (fun k a=>a=(k:Int)) l.length (by unfold big;omega) rfl fun k a hk hI=>?_) fun b hb=>?_
 ·subst hI;refine Rn.bn (P:=fun b:Bool=>b=true→k<l.length) ?_ fun b hb=>Rn.lt (zB (fun hd=>Rn.lt (Rn.some ⟨hb hd,?_⟩)) (fun _=>Rn.some ⟨k,hk,rfl⟩))
  ·refine Rn.lt (Rn.lt (zB (fun hg=>?_) (fun _=>Rn.some (by simp))));have hk2:k<l.length:=by
    have:((k:Int)<(l.length:Int)):=by simpa [ltI,lenI] using hg
    omega
   exact zA (Au hk2) (Rn.lt (Rn.some fun _=>hk2))
  ·have:=hb hd;rw[As (by omega) (by omega)];omega
 ·obtain⟨k,hk,rfl⟩:=hb;refine zA (FK hk) (Rn.room ?_ ?_ (Rn.room ?_ ?_ (Rn.lt (zA (DF hk) (Rn.room ?_ ?_ (Rn.lt (Rn.some ?_)))))));all_goals simp only[List.length_append,List.length_cons,List.length_nil,List.length_take,List.length_drop]
  all_goals omega
end Go.Proofs.YtlbdhlbbkibgpaaGreat
namespace Go.Proofs.YtlbdhlbbkibgpaaGreat
open Go Go.RowKit
def u8s (l:List Int):Prop:=∀ x∈l,0≤x∧x≤255
theorem Eu {a b:Int} (h:ltI a b=true):a<b:=by simpa [ltI] using h
theorem Ev {a b:Int} (h:ltI a b=false):b≤a:=by simpa [ltI] using h
theorem eqI_d {a b:Int} (h:eqI a b=true):a=b:=by simpa [eqI] using h
theorem O6 {a b:Int} (h:eqI a b=false):a≠b:=by simpa [eqI] using h
theorem QZ (l:List Int) (x:Int) (hl:u8s l) (hx:0≤x) (hx2:x≤255):Rn (C0 big l x) fun i=>i.f.length≤9∧i.l.length≤9:=by
 unfold C0;refine Rn.lt (Rn.lt (zB (fun _=>Rn.some ⟨by simp,by simp⟩) (fun hne=>?_)));have h0:0<l.length:=by
  have:=O6 hne;simp only[lenI] at this;omega
 have hb0:=hl _ (List.getElem_mem h0);refine zA (Au (i:=0) h0) (Rn.lt ?_);rw[C8 (by omega) (by omega)];refine zA (Bd hb0.1 (by omega)) (Rn.lt (Rn.bn (P:=fun _=>True) ?_ fun v _=>?_))
 ·refine zA (Bd hx (by omega)) (Rn.lt (zB (fun _=>Rn.lt (Rn.some trivial)) (fun _=>Rn.some trivial)))
 generalize addI .i64 1 (l[0] % 4)=kd;refine Rn.bn (P:=fun b:ByteArray×List Field×List ByteArray=>b.2.1.length≤9∧b.2.2.length≤9)
  (zI _ (fun k a=>a.1=((k+1:Nat):Int)∧a.2.1.size≤40*k∧a.2.2.1.length≤k∧a.2.2.2.length≤k) 8 (by unfold big;omega) ⟨rfl,Nat.le_refl _,by simp,by simp⟩ fun k a hk hI=>?_) fun b hb=>?_
 ·obtain⟨i,s,f,m⟩:=a;obtain⟨rfl,i2,i3,i4⟩:=hI;simp only at i2 i3 i4;refine Rn.bn (P:=fun b:Bool=>b=true→k<8∧k+1<l.length) ?_ fun b hb=>Rn.lt (zB (fun hd=>?_) (fun _=>Rn.some ⟨by simp only;omega,by simp only;omega⟩))
  ·refine Rn.lt (Rn.lt (zB (fun hg=>Rn.lt (Rn.some fun hg2=>?_)) (fun _=>Rn.some (by simp))));have h1:=Eu hg;have h2:=Eu hg2;simp only[lenI] at h1 h2;omega
  ·obtain⟨hk8,hkl⟩:=hb hd;have hb1:=hl _ (List.getElem_mem hkl);refine Rn.bn (P:=fun b:ByteArray×List Field×List ByteArray=>b.1.size≤40*(k+1)∧b.2.1.length≤k+1∧b.2.2.length≤k+1) ?_ fun b hb=>Rn.lt (Rn.some ⟨hk8,?_,hb⟩)
   ·refine zA (Au hkl) (zA (Bd hb1.1 (by omega)) (Rn.lt (Rn.lt (Rn.lt ?_))));rw[C8 (by omega) (by omega)];refine zA (Bd hb1.1 (by omega)) ?_;refine Rn.bn (Fe _ (by omega) (by omega)) fun d hd=>?_;refine Rn.cat (by rw[strL1];omega) ?_;have hw:∀ x:Int,(strL [x]++d).size≤31:=fun x=>by
     rw[ByteArray.size_append,strL1];omega
    have hw:=hw (addI .u8 97 (l[k+1] % 5));revert hw
    generalize strL [addI .u8 97 (l[k+1] % 5)]++d=w;intro hw;refine Rn.lt ?_;refine zB (fun _=>?_) (fun _=>?_)
    ·refine Rn.cat (by simp only;omega) (Rn.some ⟨?_,?_,?_⟩)
     ·rw[ByteArray.size_append];simp only;omega
     ·simp only;omega
     ·simp only;omega
    refine Rn.lt ?_;refine zB (fun _=>?_) (fun _=>?_)
    ·refine Rn.lt ?_;rw[Bu (by omega) (by omega)];refine Rn.bn (Fe _ (by omega) (by omega)) fun e he=>?_;refine Rn.bn (Sb _ _ _ (by simp only;omega)) fun z hz=>?_;refine Rn.some ⟨?_,?_,?_⟩
     ·simp only;omega
     ·simp only at hz ⊢;omega
     ·simp only;omega
    refine Rn.lt ?_;refine zB (fun _=>?_) (fun _=>?_)
    ·refine Rn.room (by simp only;omega) (by simp only;omega) (Rn.lt (Rn.some ⟨?_,?_,?_⟩))
     ·simp only;omega
     ·simp only;omega
     ·simp only[List.length_append,List.length_cons,List.length_nil];omega
    ·refine Rn.room (by simp only;omega) (by simp only;omega) ?_;refine Rn.bn (Sd _ _ (by simp only;omega)) fun z hz=>?_;refine Rn.some ⟨?_,?_,?_⟩
     ·simp only;omega
     ·simp only;omega
     ·simp only at hz ⊢;omega
   ·show addI .i64 ((k+1:Nat):Int) 1=_;rw[As (by omega) (by omega)];omega
 ·refine Rn.bn (P:=fun _=>True) ?_ fun c _=>?_;rotate_left
  ·refine Rn.lt (zB (fun _=>?_) (fun _=>Rn.room (by omega) (by omega) (Rn.some hb)));refine zA (Au (i:=0) h0) (Rn.lt ?_);rw[C8 (by omega) (by omega)];exact Rn.bn (Fe _ (by omega) (by omega)) fun d hd=>Rn.some ⟨by simp,by simp⟩
  ·exact Rn.lt (Rn.lt (zB (fun _=>Rn.lt (Rn.some trivial)) (fun _=>Rn.some trivial)))
theorem u8s.seg {l:List Int} (h:u8s l) (i j:Nat):u8s ((l.drop i).take j):=fun x hx=>h x (List.mem_of_mem_drop (List.mem_of_mem_take hx))
end Go.Proofs.YtlbdhlbbkibgpaaGreat
namespace Go.Proofs.YtlbdhlbbkibgpaaGreat
open Go Go.RowKit
theorem okE.lastN {l:List Effect} (h:okE l):okE (lastN l):=h.drop _
def allR (l:List Effect) (i:Nat):List Effect:=(List.replicate i l).flatten
def fdOf (off:Int) (b:List Effect):Feed:=⟨⟨0,0⟩,off,b,⟨0,0⟩,0⟩
end Go.Proofs.YtlbdhlbbkibgpaaGreat
namespace Go.Proofs.YtlbdhlbbkibgpaaGreat
open Go Go.RowKit
section
variable {α β γ σ:Type}
theorem Gq {f:α→Option (α ⊕ β)} {a0:α} {k:β→Option γ} {r:Option γ} {δ:Type} (l:List δ) (g:σ→δ→σ) (mk:Nat→σ→α) (s0:σ) (b:β) (hl:l.length≤140737488355328) (h0:a0=mk 0 s0)
  (h:∀ i (hi:i<l.length) a,a=(l.take i).foldl g s0→f (mk i a)=some (.inl (mk (i+1) (g a l[i])))) (he:f (mk l.length (l.foldl g s0))=some (.inr b)) (hk:k b=r):bn (iter big f a0) k=r:=by
 refine A7 b (fun i=>mk i ((l.take i).foldl g s0)) l.length (by unfold big;omega) h0 (fun i hi=>?_) ?_ hk
 ·rw[h i hi _ rfl,← List.take_append_getElem hi,List.foldl_append];rfl
 ·rw[List.take_length];exact he
theorem shapeG {key:α→ByteArray} (name:ByteArray):∀ l:List α,l.Pairwise (fun a b=>slt (key a) (key b)=true)→∃ A B C,l=A++B++C∧(∀ a∈A,slt (key a) name=true)∧(∀ c∈C,slt name (key c)=true)∧(B=[]∨∃ x,B=[x]∧key x=name)
 |[],_=>⟨[],[],[],rfl,by simp,by simp,.inl rfl⟩
 |a::l,h=>by
  obtain⟨h1,h2⟩:=List.pairwise_cons.1 h;cases hs:slt (key a) name
  ·rcases (Pz _ _).1 hs with e|e
   ·exact⟨[],[a],l,rfl,by simp,fun c hc=>e ▸ h1 c hc,.inr ⟨a,rfl,e⟩⟩
   ·refine⟨[],[],a::l,rfl,by simp,fun c hc=>?_,.inl rfl⟩;rcases List.mem_cons.1 hc with rfl|hc
    ·exact e
    ·exact D5 e (h1 c hc)
  ·obtain⟨A,B,C,rfl,h3,h4,h5⟩:=shapeG name l h2;exact⟨a::A,B,C,rfl,fun x hx=>by rcases List.mem_cons.1 hx with rfl|hx;exact hs;exact h3 x hx,h4,h5⟩
theorem Rn.eq {m:Option α} {v:α} (h:Rn m (·=v)):m=Option.some v:=by
 obtain⟨w,h1,rfl⟩:=h;exact h1
end
def SrtP (l:List Pair):Prop:=l.Pairwise (fun a b=>slt a.key b.key=true)
def newP (e:Effect):List Pair:=if e.gone then [] else [⟨e.key,e.item⟩]
def applyP (l:List Pair) (e:Effect):List Pair:=l.filter (fun p=>slt p.key e.key)++newP e++l.filter (fun p=>slt e.key p.key)
theorem Ff {α:Type} {p:α→Bool} {l:List α} (h:∀ a∈l,p a=true):l.filter p=l:=List.filter_eq_self.2 h
theorem DG {α:Type} {p:α→Bool} {l:List α} (h:∀ a∈l,p a=false):l.filter p=[]:=List.filter_eq_nil_iff.2 fun a ha=>by simp[h a ha]
theorem Ei {A B C:List Pair} {e:Effect} (hA:∀ a∈A,slt a.key e.key=true) (hC:∀ c∈C,slt e.key c.key=true) (hB:B=[]∨∃ x,B=[x]∧x.key=e.key):applyP (A++B++C) e=A++newP e++C:=by
 have hB1:∀ b∈B,slt b.key e.key=false:=fun b hb=>by
  rcases hB with rfl|⟨x,rfl,hx⟩
  ·simp at hb
  ·simp at hb;subst hb;rw[hx];exact Ca _
 have hB2:∀ b∈B,slt e.key b.key=false:=fun b hb=>by
  rcases hB with rfl|⟨x,rfl,hx⟩
  ·simp at hb
  ·simp at hb;subst hb;rw[hx];exact Ca _
 unfold applyP;rw[List.filter_append,List.filter_append,List.filter_append,List.filter_append,Ff hA,DG hB1,DG (fun c hc=>Dv (hC c hc)),DG (fun a ha=>Dv (hA a ha)),DG hB2,Ff hC];simp
theorem Ka {l:List Pair} (h:SrtP l) (e:Effect):SrtP (applyP l e):=by
 unfold SrtP applyP newP;have h1:SrtP (l.filter (fun p=>slt p.key e.key)):=List.Pairwise.filter _ h;have h2:SrtP (l.filter (fun p=>slt e.key p.key)):=List.Pairwise.filter _ h;refine List.pairwise_append.2 ⟨List.pairwise_append.2 ⟨h1,?_,fun a ha b hb=>?_⟩,h2,fun a ha b hb=>?_⟩
 ·split <;> simp
 ·split at hb
  ·simp at hb
  ·simp at hb;subst hb;exact (List.mem_filter.1 ha).2
 ·have hb2:=(List.mem_filter.1 hb).2;rcases List.mem_append.1 ha with ha|ha
  ·exact D5 (List.mem_filter.1 ha).2 hb2
  ·split at ha
   ·simp at ha
   ·simp at ha;subst ha;exact hb2
theorem Kb (l:List Pair) (e:Effect) (h:SrtP l):(applyP l e).length≤l.length+1:=by
 obtain⟨A,B,C,rfl,hA,hC,hB⟩:=shapeG (key:=Pair.key) e.key l h;rw[Ei hA hC hB];have:(newP e).length≤1:=by unfold newP;split <;> simp
 simp;omega
def okP (l:List Pair):Prop:=∀ p∈l,okI p.item
theorem Lf {l:List Pair} {e:Effect} (h:okP l) (he:okI e.item):okP (applyP l e):=by
 intro p hp;unfold applyP newP at hp;rcases List.mem_append.1 hp with hp|hp
 ·rcases List.mem_append.1 hp with hp|hp
  ·exact h p (List.mem_filter.1 hp).1
  ·split at hp
   ·simp at hp
   ·simp at hp;subst hp;exact he
 ·exact h p (List.mem_filter.1 hp).1
def stepP (e:Effect) (a:Bool×List Pair) (x:Pair):Bool×List Pair :=
 let a1:=if a.1=false∧slt x.key e.key=false then (true,a.2++[⟨e.key,e.item⟩]) else a
 if x.key=e.key then a1 else (a1.1,a1.2++[x])
theorem P1 (e:Effect) (a:Bool×List Pair) (x:Pair):(stepP e a x).2.length≤a.2.length+2:=by
 unfold stepP;dsimp only
 split <;> split <;> simp <;> omega
theorem Iz (e:Effect):∀ (l:List Pair) (a:Bool×List Pair),(l.foldl (stepP e) a).2.length≤a.2.length+2*l.length
 |[],a=>by simp
 |x::l,a=>by
  have h1:=Iz e l (stepP e a x);have h2:=P1 e a x;simp only[List.foldl_cons,List.length_cons];omega
theorem Lg {e:Effect}:∀ (A:List Pair) (d:Bool) (out:List Pair),(∀ a∈A,slt a.key e.key=true)→A.foldl (stepP e) (d,out)=(d,out++A)
 |[],d,out,_=>by simp
 |a::A,d,out,h=>by
  have h1:=h a (by simp);have e1:stepP e (d,out) a=(d,out++[a]):=by simp[stepP,h1,Cg h1]
  rw[List.foldl_cons,e1,Lg A d (out++[a]) fun b hb=>h b (by simp[hb])];simp
theorem Fz {e:Effect}:∀ (A:List Pair) (out:List Pair),(∀ a∈A,slt e.key a.key=true)→A.foldl (stepP e) (true,out)=(true,out++A)
 |[],out,_=>by simp
 |a::A,out,h=>by
  have h1:=h a (by simp);have hne:¬ a.key=e.key:=fun h=>Cg h1 h.symm;have e1:stepP e (true,out) a=(true,out++[a]):=by simp[stepP,hne]
  rw[List.foldl_cons,e1,Fz A (out++[a]) fun b hb=>h b (by simp[hb])];simp
theorem P2 {e:Effect} {l:List Pair} (h:SrtP l):(bif (l.foldl (stepP e) (e.gone,[])).1 then (l.foldl (stepP e) (e.gone,[])).2 else (l.foldl (stepP e) (e.gone,[])).2++[⟨e.key,e.item⟩])=applyP l e:=by
 obtain⟨A,B,C,rfl,hA,hC,hB⟩:=shapeG (key:=Pair.key) e.key l h;rw[Ei hA hC hB,List.foldl_append,List.foldl_append,Lg A _ _ hA];cases hg:e.gone
 ·rcases hB with rfl|⟨x,rfl,hx⟩
  ·cases C with
   |nil=>simp[newP,hg]
   |cons c C =>
    have h1:=hC c (by simp);have hne:¬ c.key=e.key:=fun h=>Cg h1 h.symm;have e1:stepP e (false,[]++A) c=(true,A++[⟨e.key,e.item⟩,c]):=by simp[stepP,Dv h1,hne]
    rw[List.foldl_nil,List.foldl_cons,e1,Fz C _ fun b hb=>hC b (by simp[hb])];simp[newP,hg]
  ·have e1:stepP e (false,[]++A) x=(true,A++[⟨e.key,e.item⟩]):=by simp[stepP,hx,Ca]
   rw[List.foldl_cons,List.foldl_nil,e1,Fz C _ hC];simp[newP,hg]
 ·rcases hB with rfl|⟨x,rfl,hx⟩
  ·rw[List.foldl_nil,Fz C _ hC];simp[newP,hg]
  ·have e1:stepP e (true,[]++A) x=(true,A):=by simp[stepP,hx]
   rw[List.foldl_cons,List.foldl_nil,e1,Fz C _ hC];simp[newP,hg]
theorem O7 (l:List Pair) (e:Effect) (h:SrtP l) (hl:l.length≤100000000):EB big l e=some (applyP l e):=by
 unfold EB;refine Gq l (stepP e) (fun i a=>(a.1,(i:Int),a.2)) (e.gone,[]) (l.foldl (stepP e) (e.gone,[])) (by omega) rfl (fun i hi a ha=>?_) ?_ ?_
 ·have hlen:a.2.length≤2*i:=by
   have:=Iz e (l.take i) (e.gone,[]);rw[← ha] at this;simp at this;omega
  simp only[Ag,Ac,Ah,Aj,Ak,Al,Ai,Option.some.injEq];rw[AT (by omega)];simp only[Ag,Ac,Ah,Aj,Ak,Al,Ai,Option.some.injEq,Au hi];have e2:(ite' (ite' (notB a.1) (some (geS l[i].key e.key)) (some false)).get! (some (true,a.2++[(⟨e.key,e.item⟩:Pair)])) (some (a.1,a.2)))=some (if a.1=false∧slt l[i].key e.key=false then (true,a.2++[⟨e.key,e.item⟩]) else a):=by
   cases h1:a.1 <;> cases h2:slt l[i].key e.key <;> simp[notB,geS,h1,h2,ite'] <;> (rw[← h1])
  rw[AL (by omega) (by omega)];have e3:ite' (notB a.1) (some (geS l[i].key e.key)) (some false)=some (ite' (notB a.1) (some (geS l[i].key e.key)) (some false)).get!:=by
   cases a.1 <;> rfl
  rw[e3];simp only[Ag,Ac,Ah,Aj,Ak,Al,Ai,Option.some.injEq];rw[e2];simp only[Ag,Ac,Ah,Aj,Ak,Al,Ai,Option.some.injEq];rw[As (by omega) (by omega)];unfold stepP;dsimp only
  generalize hq:(if a.1=false∧slt l[i].key e.key=false then (true,a.2++[(⟨e.key,e.item⟩:Pair)]) else a)=q;have hq2:q.2.length≤2*i+1:=by
   rw[← hq];split
   ·simp only[List.length_append,List.length_cons,List.length_nil];omega
   ·omega
  by_cases hk:l[i].key=e.key
  ·rw[hk,GJ];simp[Aj,Ac]
  ·rw[show neS l[i].key e.key=true by simp[neS,hk],if_neg hk,Ah,AL (by omega) (by omega)];simp only[Ag,Ac,Ah,Aj,Ak,Al,Ai,Option.some.injEq];simp
 ·simp only[Ag,Ac,Ah,Aj,Ak,Al,Ai,Option.some.injEq];rw[AQ (by omega)];rfl
 ·have hlen:(l.foldl (stepP e) (e.gone,[])).2.length≤2*l.length:=by
   have:=Iz e l (e.gone,[]);simp at this;omega
  have hA:=P2 (e:=e) h;have hn:=Kb l e h;simp only[Ag,Ac,Ah,Aj,Ak,Al,Ai,Option.some.injEq];rw[AL (by omega) (by omega)];revert hA
  cases (l.foldl (stepP e) (e.gone,[])).1 <;> intro hA <;> simp at hA <;> rw[hA] <;> simp[notB,ite',Ac] <;> rw[AL (by omega) (by omega)]
end Go.Proofs.YtlbdhlbbkibgpaaGreat
namespace Go.Proofs.YtlbdhlbbkibgpaaGreat
open Go Go.RowKit
theorem shr1 {x:Int} (h:0≤x):shrI .u64 x 1=some (x / 2):=by
 simp[shrI,IntKind.bits,Int.fdiv_eq_ediv_of_nonneg]
theorem P3 {a:Int} (h:0≤a) (h2:a<18446744073709551616):cvI .u64 a=a:=by
 simp only[cvI,Jn];omega
theorem N9 (A B C:List Pair) (k:ByteArray) (hA:∀ a∈A,slt a.key k=true) (hC:∀ c∈C,slt k c.key=true) (hB:B=[]∨∃ x,B=[x]∧x.key=k) (hl:(A++B++C).length≤1000000000) :
  A1 big (A++B++C) k=some ((A.length:Int),!B.isEmpty):=by
 have hget:∀ i x,(A++B++C)[i]?=some x→slt x.key k=decide (i<A.length):=fun i x hx=>by
  rw[List.append_assoc] at hx;by_cases h:i<A.length
  ·rw[List.getElem?_append_left h] at hx;simp only[h,decide_true];exact hA _ (List.mem_of_getElem? hx)
  ·rw[List.getElem?_append_right (by omega)] at hx;simp only[h,decide_false];rcases List.mem_append.1 (List.mem_of_getElem? hx) with hm|hm
   ·rcases hB with rfl|⟨y,rfl,hy⟩
    ·simp at hm
    ·simp at hm;rw[hm,hy];exact Ca _
   ·exact Dv (hC _ hm)
 have hB2:(A++B++C)[A.length]?=(B++C)[0]?:=by rw[List.append_assoc,List.getElem?_append_right (Nat.le_refl _),Nat.sub_self]
 have hAL:A.length≤(A++B++C).length:=by simp
 generalize A++B++C=L at hget hB2 hl hAL ⊢;refine Rn.eq ?_;unfold A1;refine Rn.lt (Rn.bn (P:=fun i=>i=(A.length:Int)) (zI _ (fun q a=>∃ lo hi:Nat,a=((lo:Int),(hi:Int))∧lo≤A.length∧A.length≤hi∧hi≤L.length∧hi - lo<2 ^ (48 - q)) 48 (by unfold big;omega) ⟨0,L.length,rfl,by omega,hAL,Nat.le_refl _,by omega⟩ fun q a hq hI=>?_) fun i hi=>?_)
 ·obtain⟨lo,hi,rfl,h1,h2,h3,h4⟩:=hI;refine Rn.lt (zB (fun hg=>?_) (fun hg=>Rn.some ?_))
  ·have hg:=Eu hg;simp only at hg;have hq2:q<48:=by
    apply Nat.lt_of_not_le;intro h;have:48 - q=0:=by omega
    rw[this] at h4;omega
   have e48:48 - q=(48 - (q+1))+1:=by omega
   rw[e48,Nat.pow_succ] at h4;refine Rn.lt (Rn.lt ?_);rw[As (by simp only;omega) (by simp only;omega),P3 (by simp only;omega) (by simp only;omega)];refine zA (shr1 (by simp only;omega)) (Rn.lt ?_);rw[C8 (by simp only;omega) (by simp only;omega)];have em:((lo:Int)+(hi:Int)) / 2=(((lo+hi) / 2:Nat):Int):=by omega
   simp only;rw[em];have hm:(lo+hi) / 2<L.length:=by omega
   have hge:=hget _ _ (List.getElem?_eq_getElem hm);refine zA (Au hm) (zA (v:=cmpB L[(lo+hi) / 2].key k) rfl (Rn.lt (zB (fun hc=>Rn.lt (Rn.some ⟨hq2,(lo+hi) / 2+1,hi,?_,?_⟩)) (fun hc=>Rn.some ⟨hq2,lo,(lo+hi) / 2,rfl,?_⟩))))
   ·rw[As (by omega) (by omega)];exact congrArg (·,(hi:Int)) (by omega)
   ·rw[(N0 _ _).1 (Eu hc)] at hge;have:=of_decide_eq_true hge.symm;refine⟨?_,h2,h3,?_⟩ <;> omega
   ·have hc2:slt L[(lo+hi) / 2].key k=false:=by
     cases h:slt L[(lo+hi) / 2].key k
     ·rfl
     ·have:=(N0 _ _).2 h;have:=Ev hc;omega
    rw[hc2] at hge;have:=of_decide_eq_false hge.symm;refine⟨h1,?_,?_,?_⟩ <;> omega
  ·have hg:=Ev hg;simp only at hg ⊢;omega
 ·subst hi;refine Rn.bn (P:=fun b=>b=!B.isEmpty) ?_ fun b hb=>Rn.some (by rw[hb]);refine Rn.lt (zB (fun hg=>?_) (fun hg=>Rn.some ?_))
  ·have hg:=Eu hg;simp only[lenI] at hg;have hm:A.length<L.length:=by omega
   refine zA (Au hm) (zA (v:=cmpB L[A.length].key k) rfl (Rn.lt (Rn.some ?_)));rw[List.getElem?_eq_getElem hm] at hB2;rcases hB with rfl|⟨y,rfl,hy⟩
   ·have hc:=hC L[A.length] (List.mem_of_getElem? (by simpa using hB2.symm));have hne:¬ cmpB L[A.length].key k=0:=fun h=>Cg hc ((N1 _ _).1 h).symm;simp[eqI,hne]
   ·simp at hB2;rw[hB2,hy];simp[eqI,(N1 k k).2 rfl]
  ·have hg:=Ev hg;simp only[lenI] at hg;have e:L[A.length]?=none:=List.getElem?_eq_none (by omega);rw[e] at hB2;rcases hB with rfl|⟨y,rfl,hy⟩
   ·rfl
   ·simp at hB2
theorem Q0 (A B C:List Pair) (k:ByteArray) (hA:∀ a∈A,slt a.key k=true) (hC:∀ c∈C,slt k c.key=true) (hB:B=[]∨∃ x,B=[x]∧x.key=k) (hl:(A++B++C).length≤1000000000) :
  B1 big (A++B++C) k=some ((A.length:Int),!B.isEmpty):=by
 have:=N9 A B C k hA hC hB hl;unfold B1;rw[show A5 big (A++B++C) k=A1 big (A++B++C) k from rfl,this];rfl
theorem Q1 (A B C:List Pair) (k:ByteArray) (hA:∀ a∈A,slt a.key k=true) (hC:∀ c∈C,slt k c.key=true) (hB:B=[]∨∃ x,B=[x]∧x.key=k) (hl:(A++B++C).length≤1000000000) :
  DJ big (A++B++C) k=some ((A.length:Int),!B.isEmpty):=by
 unfold DJ;rw[N9 A B C k hA hC hB hl];rfl
theorem F5:∀ (es:List Effect) (l:List Pair),SrtP l→okP l→(∀ e∈es,okI e.item)→SrtP (es.foldl applyP l)∧okP (es.foldl applyP l)∧(es.foldl applyP l).length≤l.length+es.length
 |[],l,h1,h2,_=>⟨h1,h2,by simp⟩
 |e::es,l,h1,h2,h3=>by
  obtain⟨g1,g2,g3⟩:=F5 es (applyP l e) (Ka h1 e) (Lf h2 (h3 e (by simp))) fun x hx=>h3 x (by simp[hx]);have:=Kb l e h1;exact⟨g1,g2,by simp only[List.foldl_cons,List.length_cons];omega⟩
theorem KJ (l:List Pair) (es:List Effect) (h:SrtP l) (h2:okP l) (he:∀ e∈es,okI e.item) (hl:l.length+es.length≤100000000):Cz big l es=some (es.foldl applyP l):=by
 unfold Cz;rw[Eg (by omega) (by omega)];simp only[Ag,Ac,Ah,Aj,Ak,Al,Ai,Option.some.injEq];refine A7 l (fun i=>((i:Int),l)) l.length (by unfold big;omega) rfl (fun i hi=>?_) ?_ ?_
 ·simp only[Ag,Ac,Ah,Aj,Ak,Al,Ai,Option.some.injEq];rw[AT (by omega),Au hi];simp only[Ag,Ac,Ah,Aj,Ak,Al,Ai,Option.some.injEq];rw[Eh _ (h2 _ (List.getElem_mem hi))];simp only[Ag,Ac,Ah,Aj,Ak,Al,Ai,Option.some.injEq];rw[As (by omega) (by omega)];have e:l.set i { key:=l[i].key,item:=l[i].item }=l:=List.set_getElem_self hi;simp[e]
 ·simp only[Ag,Ac,Ah,Aj,Ak,Al,Ai,Option.some.injEq];rw[AQ (by omega)];rfl
 refine Gq es applyP (fun i a=>((i:Int),a)) l (es.foldl applyP l) (by omega) rfl (fun i hi a ha=>?_) ?_ ?_
 ·obtain⟨g1,g2,g3⟩:=F5 (es.take i) l h h2 fun x hx=>he x (List.mem_of_mem_take hx);rw[← ha] at g1 g2 g3;have hal:a.length≤100000000:=by rw[List.length_take] at g3;omega
  have hok:=he _ (List.getElem_mem hi);simp only[Ag,Ac,Ah,Aj,Ak,Al,Ai,Option.some.injEq];rw[AT (by omega),Au hi];simp only[Ag,Ac,Ah,Aj,Ak,Al,Ai,Option.some.injEq];rw[AL (by omega) (by omega)];obtain⟨A,B,C,e,hA,hC,hB⟩:=shapeG (key:=Pair.key) es[i].key a g1;have hap:applyP a es[i]=A++newP es[i]++C:=by rw[e];exact Ei hA hC hB
  have hf:B1 big a es[i].key=some ((A.length:Int),!B.isEmpty):=by rw[e];exact Q0 A B C _ hA hC hB (by rw[← e];omega)
  rw[hf,hap];simp only[Ag,Ac,Ah,Aj,Ak,Al,Ai,Option.some.injEq];rw[As (a:=(i:Int)) (by omega) (by omega)];have hlen:A.length+B.length+C.length=a.length:=by rw[e];simp;omega
  rcases hB with rfl|⟨x,rfl,hx⟩
  ·simp only[List.isEmpty_nil,Bool.not_true,Ag,Ac,Ah,Aj,Ak,Al,Ai,Option.some.injEq];cases hg:es[i].gone
   ·simp only[Gw,Ag,Ac,Ah,Aj,Ak,Al,Ai,Option.some.injEq];rw[Eh _ hok];simp only[Ag,Ac,Ah,Aj,Ak,Al,Ai,Option.some.injEq];rw[HI (by simp[insB];simp at hlen;omega)];have e1:insL a A.length ⟨es[i].key,es[i].item⟩=A++newP es[i]++C:=by rw[e];simp[insL,newP,hg]
    simp[e1,Ac]
   ·simp only[Bc,Ag,Ac,Ah,Aj,Ak,Al,Ai,Option.some.injEq];rw[e];simp[newP,hg]
  ·simp only[List.isEmpty_cons,Bool.not_false,Ag,Ac,Ah,Aj,Ak,Al,Ai,Option.some.injEq];have hn:(A++[x]++C)[A.length]?=some x:=by simp
   cases hg:es[i].gone
   ·simp only[Ag,Ac,Ah,Aj,Ak,Al,Ai,Option.some.injEq];rw[Eh _ hok];simp only[Ag,Ac,Ah,Aj,Ak,Al,Ai,Option.some.injEq];rw[Gn,e,hn];have e1:(A++[x]++C).set A.length ⟨x.key,es[i].item⟩=A++newP es[i]++C:=by simp[newP,hg,hx]
    simp[e1,Ac,Ag];simp[newP,hg,hx]
   ·simp only[Ag,Ac,Ah,Aj,Ak,Al,Ai,Option.some.injEq];rw[As (by omega) (by omega),HI (by simp[delB];simp at hlen;omega)];have e1:delL a A.length=A++newP es[i]++C:=by rw[e];simp[delL,newP,hg]
    simp[e1,Ac]
 ·simp only[Ag,Ac,Ah,Aj,Ak,Al,Ai,Option.some.injEq];rw[AQ (by omega)];rfl
 ·obtain⟨g1,g2,g3⟩:=F5 es l h h2 he;rw[AL (by omega) (by omega)]
theorem Gm (l:List Pair) (es:List Effect) (h:SrtP l) (h2:okP l) (he:∀ e∈es,okI e.item) (hl:l.length+es.length≤100000000):Db big l es=some (es.foldl applyP l):=by
 unfold Db;rw[AL (by omega) (by omega),AL (by omega) (by omega)];refine Gq es applyP (fun i a=>(a,(i:Int))) l (es.foldl applyP l) (by omega) rfl (fun i hi a ha=>?_) ?_ rfl
 ·obtain⟨g1,g2,g3⟩:=F5 (es.take i) l h h2 fun x hx=>he x (List.mem_of_mem_take hx);rw[← ha] at g1 g2 g3;rw[List.length_take] at g3;simp only[Ag,Ac,Ah,Aj,Ak,Al,Ai,Option.some.injEq];rw[AT (by omega),Au hi];simp only[Ag,Ac,Ah,Aj,Ak,Al,Ai,Option.some.injEq];rw[O7 _ _ g1 (by omega)];simp only[Ag,Ac,Ah,Aj,Ak,Al,Ai,Option.some.injEq];rw[As (by omega) (by omega)];rfl
 ·simp only[Ag,Ac,Ah,Aj,Ak,Al,Ai,Option.some.injEq];rw[AQ (by omega)];rfl
end Go.Proofs.YtlbdhlbbkibgpaaGreat
namespace Go.Proofs.YtlbdhlbbkibgpaaGreat
open Go Go.RowKit
theorem Oa (b c:Bool):ite' b (some c) (some false)=some (b && c):=by cases b <;> rfl
theorem MT (b c:Bool):ite' b (some true) (some c)=some (b || c):=by cases b <;> rfl
def addF (f:Feed) (l:List Effect):Feed:={ f with off:=addI .i64 f.off l.length,back:=lastN (f.back++l) }
theorem Q2 (f:Feed) (l:List Effect) (h:okE f.back) (h2:okE l) (h3:f.back.length+l.length≤1000000000):DT big f l=some (addF f l):=by
 have hl:=h2.1;unfold DT;simp only[Ag,Ac,Ah,Aj,Ak,Al,Ai,Option.some.injEq];rw[HI (by simp[catB];omega)];simp only[Ag,Ac,Ah,Aj,Ak,Al,Ai,Option.some.injEq,List.flatten_cons,List.flatten_nil,List.append_nil];rw[MS _ (h.app h2 h3)];rfl
theorem MU (f:Feed) (l:List Effect) (h3:f.back.length+l.length≤1000000000):En big f l=some (addF f l):=by
 unfold En;simp only[Ag,Ac,Ah,Aj,Ak,Al,Ai,Option.some.injEq];rw[AL (by omega) (by omega),AL (by omega) (by omega),AL (by simp;omega) (by simp;omega),Bu (by simp;omega) (by simp;omega)];have e:maxI 0 (((f.back++l).length:Int) - 64)=(((f.back++l).length - 64:Nat):Int):=by simp only[maxI];omega
 rw[e,DF (by omega)];rfl
def allP (l:List Pair):List Effect:=l.map fun p=>⟨p.key,false,p.item⟩
def goesF (f:Feed) (rid:Rid) (off:Int):Bool:=(decide (rid=f.rid) || (decide (rid=f.prev) && decide (off≤f.upto))) && (decide (off≤f.off) && decide (f.off - f.back.length≤off))
def ansF (f:Feed) (db:List Pair) (rid:Rid) (off:Int):Msg :=
 bif goesF f rid off then ⟨5,0,0,0,[],[],0,0,0,f.rid,rid,off,(f.back.drop (off - (f.off - f.back.length)).toNat).take 16⟩ else ⟨6,0,0,0,[],[],0,0,0,f.rid,⟨0,0⟩,f.off,allP db⟩
def okF (f:Feed):Prop:=okE f.back∧f.back.length≤64∧(f.back.length:Int)≤f.off∧f.off≤9223372036854775807
theorem okE.take {l:List Effect} (h:okE l) (k:Nat):okE (l.take k):=⟨by have:=h.1;simp;omega,fun e he=>h.2 e (List.mem_of_mem_take he)⟩
end Go.Proofs.YtlbdhlbbkibgpaaGreat
namespace Go.Proofs.YtlbdhlbbkibgpaaGreat
open Go Go.RowKit
def newerF (f:Feed) (m:Msg):Bool:=!decide (m.rid.node=f.rid.node) || (decide (f.rid.epoch<m.rid.epoch) || (decide (m.rid=f.rid) && decide (f.off<m.off)))
def nextF (f:Feed) (m:Msg):Bool:=decide (m.kind=5) && (decide (m.prev=f.rid) && decide (m.off=f.off))
def gotF (f:Feed) (db:List Pair) (m:Msg):Feed×List Pair×Bool :=
 bif nextF f m then (addF (bif decide (m.rid=f.rid) then f else { f with rid:=m.rid,prev:=f.rid,upto:=f.off }) m.effects,m.effects.foldl applyP db,true)
 else bif decide (m.kind=6) && newerF f m then (⟨m.rid,m.off,[],⟨0,0⟩,0⟩,m.effects.foldl applyP [],true) else (f,db,false)
theorem Q3 (f:Feed) (h:f.back.length≤64) (h2:-9223372036854775808≤f.off) (h3:f.off≤9223372036854775807):addF f []=f:=by
 unfold addF lastN;rw[As (by simp;omega) (by simp;omega),List.append_nil,show f.back.length - 64=0 by omega,List.drop_zero];simp
theorem Jz (l:List Pair) (h:okP l) (hl:l.length≤1000000000):C4 big l l=some true:=by
 unfold C4;simp only[Ag,Ac,Ah,Aj,Ak,Al,Ai,Option.some.injEq,Ba];refine A7 (.inl ()) (fun i=>(i:Int)) l.length (by unfold big;omega) rfl (fun i hi=>?_) ?_ rfl
 ·rw[AT (by omega)];simp only[Ag,Ac,Ah,Aj,Ak,Al,Ai,Option.some.injEq,Au hi,GJ,Fy _ (h _ (List.getElem_mem hi)),Bc];rw[As (by omega) (by omega)];rfl
 ·rw[AQ (by omega)];rfl
theorem Kc (f:Feed) (h:okE f.back):C5 big f f=some true:=by
 unfold C5;simp only[Ag,Ac,Ah,Aj,Ak,Al,Ai,Option.some.injEq,B9,Gp,F4 _ h]
theorem H0 (l:List Claim) (hl:l.length≤1000000000):BR big l l=some true:=by
 unfold BR;simp only[Ag,Ac,Ah,Aj,Ak,Al,Ai,Option.some.injEq,Ba];refine A7 (.inl ()) (fun i=>(i:Int)) l.length (by unfold big;omega) rfl (fun i hi=>?_) ?_ rfl
 ·rw[AT (by omega)];simp only[Ag,Ac,Ah,Aj,Ak,Al,Ai,Option.some.injEq,Au hi,B9,Gp,Bc];rw[As (by omega) (by omega)];rfl
 ·rw[AQ (by omega)];rfl
theorem FP (l:List Int) (hl:l.length≤1000000000):C6 big l l=some true:=by
 unfold C6;simp only[Ag,Ac,Ah,Aj,Ak,Al,Ai,Option.some.injEq,Ba];refine A7 (.inl ()) (fun i=>(i:Int)) l.length (by unfold big;omega) rfl (fun i hi=>?_) ?_ rfl
 ·rw[AT (by omega)];simp only[Ag,Ac,Ah,Aj,Ak,Al,Ai,Option.some.injEq,Au hi,Ba];rw[As (by omega) (by omega)];rfl
 ·rw[AQ (by omega)];rfl
theorem KL (m:Msg) (h:okE m.effects) (hc:m.claims.length≤1000000000) (hn:m.nodes.length≤1000000000):Dr big m m=some true:=by
 unfold Dr;simp only[Ag,Ac,Ah,Aj,Ak,Al,Ai,Option.some.injEq,B9,Gp,H0 _ hc,FP _ hn,F4 _ h]
end Go.Proofs.YtlbdhlbbkibgpaaGreat
namespace Go.Proofs.YtlbdhlbbkibgpaaGreat
open Go Go.RowKit
end Go.Proofs.YtlbdhlbbkibgpaaGreat
namespace Go.Proofs.YtlbdhlbbkibgpaaGreat
open Go Go.RowKit
def effAt (l:List Int) (i:Nat):Option Effect :=
 bn (nth l ((4*i:Nat):Int)) fun v11=>bn (Bb big v11) fun v12=>bn (nth l ((4*i+1:Nat):Int)) fun v14=>bn (remI .u8 v14 4) fun v15 =>
 bn (ite' (notB (eqI v15 0)) (bn (seglh l ((4*i+1:Nat):Int) ((4*i+4:Nat):Int)) fun v20=>bn (nth l ((4*i+2:Nat):Int)) fun v23=>bn (C0 big v20 v23) fun v24=>some ((⟨v12,eqI v15 0,v24⟩:Effect))) (some ((⟨v12,eqI v15 0,(⟨0,⟨#[]⟩,[],[],0⟩:Item)⟩:Effect)))) fun (y17:Effect) =>
 some y17
theorem Q4 (l:List Int) (hl:u8s l) (i:Nat) (h:4*i+3<l.length) (hlen:l.length≤1000000000):Rn (effAt l i) fun e=>okI e.item:=by
 have hb0:=hl _ (List.getElem_mem (show 4*i<l.length by omega));have hb1:=hl _ (List.getElem_mem (show 4*i+1<l.length by omega));have hb2:=hl _ (List.getElem_mem (show 4*i+2<l.length by omega));unfold effAt;refine zA (Au (show 4*i<l.length by omega)) (Rn.bn (Ta _ hb0.1 hb0.2) fun key _=>zA (Au (show 4*i+1<l.length by omega)) (zA (Bd hb1.1 (by omega)) (Rn.bn (P:=fun b:Effect=>b.item.f.length≤9∧b.item.l.length≤9) ?_ fun b hb=>Rn.some ?_)))
 ·refine zB (fun _=>?_) (fun _=>Rn.some ⟨by simp,by simp⟩);exact zA (Le (by omega) (by omega)) (zA (Au (show 4*i+2<l.length by omega)) (Rn.bn (QZ _ _ (hl.seg _ _) hb2.1 hb2.2) fun it hit=>Rn.some hit))
 ·exact⟨by omega,by omega⟩
theorem IA (l:List Int) (hl:u8s l) (h:l.length≤1000000000):Rn (B3 big l) fun m=>m.length=min 40 (l.length / 4)∧(∀ i,i<m.length→effAt l i=m[i]?)∧∀ e∈m,okI e.item:=by
 unfold B3;refine Rn.bn (P:=fun m:List Effect=>m.length=min 40 (l.length / 4)∧(∀ i,i<m.length→effAt l i=m[i]?)∧∀ e∈m,okI e.item)
  (zI _ (fun k a=>a.1=((4*k:Nat):Int)∧a.2.length=k∧4*k≤l.length∧(∀ i,i<k→effAt l i=a.2[i]?)∧∀ e∈a.2,okI e.item) 40 (by unfold big;omega) ⟨rfl,rfl,by omega,by simp,by simp⟩ fun k a hk hI=>?_) fun m hm=>Rn.room (by omega) (by omega) (Rn.some hm)
 obtain⟨i,m⟩:=a;obtain⟨rfl,i2,i5,i6,i3⟩:=hI;simp only at i2 i3 i6;refine Rn.bn (P:=fun b:Bool=>(b=true→k<40∧4*k+3<l.length)∧(b=false→k=min 40 (l.length / 4))) ?_ fun b hb=>Rn.lt (zB (fun hd=>?_) (fun hd=>Rn.some ⟨by simp only[i2];exact hb.2 hd,by simp only[i2];exact i6,i3⟩))
 ·refine Rn.lt ?_;rw[As (by simp only;omega) (by simp only;omega)];refine Rn.lt (Rn.lt (zB (fun hg=>Rn.lt (Rn.lt (Rn.some ?_))) (fun hg=>Rn.some ?_)))
  ·have h1:=Eu hg;simp only[lenI] at h1;refine⟨fun h2=>?_,fun h2=>?_⟩
   ·have h2:=Eu h2;simp only[lenI,i2] at h2;omega
   ·have h2:=Ev h2;simp only[lenI,i2] at h2;omega
  ·have h1:=Ev hg;simp only[lenI] at h1;exact⟨fun h=>by simp at h,fun _=>by omega⟩
 ·obtain⟨h40,h4⟩:=hb.1 hd;obtain⟨e,he,hok⟩:=Q4 l hl k h4 h;have he':=he;unfold effAt at he;rw[show addI .i64 ((4*k:Nat):Int) 1=((4*k+1:Nat):Int) by rw[As (by omega) (by omega)];omega,show addI .i64 ((4*k:Nat):Int) 4=((4*k+4:Nat):Int) by rw[As (by omega) (by omega)];omega,show addI .i64 ((4*k:Nat):Int) 2=((4*k+2:Nat):Int) by rw[As (by omega) (by omega)];omega];obtain⟨w1,e1,he⟩:=bnE he;obtain⟨w2,e2,he⟩:=bnE he;obtain⟨w3,e3,he⟩:=bnE he;obtain⟨w4,e4,he⟩:=bnE he;obtain⟨w5,e5,he⟩:=bnE he;have heq:=Option.some.inj he;clear he
  subst heq;refine zA e1 (zA e2 (Rn.lt (zA e3 (zA e4 (Rn.lt (zA (v:=w5) e5 (Rn.room ?_ ?_ (Rn.lt (Rn.lt (Rn.some ⟨h40,?_,?_,by omega,?_,?_⟩))))))))))
  ·simp only;omega
  ·simp only;omega
  ·simp only;omega
  ·simp[i2]
  ·intro i hi;show effAt l i=(m++[_])[i]?;by_cases hik:i<k
   ·rw[i6 i hik,List.getElem?_append_left (by omega)]
   ·have:i=k:=by omega
    subst this;rw[he',List.getElem?_append_right (by omega),i2,Nat.sub_self];rfl
  ·intro x hx;rcases List.mem_append.1 hx with hx|hx
   ·exact i3 x hx
   ·simp only[List.mem_singleton] at hx;rw[hx];exact hok
end Go.Proofs.YtlbdhlbbkibgpaaGreat
namespace Go.Proofs.YtlbdhlbbkibgpaaGreat
open Go Go.RowKit
def mkF (r:Int) (l:List Effect):Feed:=⟨⟨r % 4,r / 64⟩,l.length,l,⟨0,0⟩,0⟩
def dbOf (l:List Effect):List Pair:=l.foldl applyP []
theorem Se {l:List Effect} (h:∀ e∈l,okI e.item):SrtP (dbOf l)∧okP (dbOf l)∧(dbOf l).length≤l.length:=by
 obtain⟨g1,g2,g3⟩:=F5 l [] .nil (by simp[okP]) h;exact⟨g1,g2,by simp at g3;exact g3⟩
def harm (fr:Rid) (o:Nat) (m:Msg):Prop:=m.rid=fr∧okE m.effects∧m.effects.length≤100∧((m.kind=5∧(m.prev≠fr∨m.off<o∨m.effects=[]))∨(m.kind=6∧m.off≤o))
theorem harm.mono {fr:Rid} {o o':Nat} {m:Msg} (h:harm fr o m) (ho:o≤o'):harm fr o' m:=by
 obtain⟨h1,h2,h3,h4⟩:=h;refine⟨h1,h2,h3,?_⟩;rcases h4 with ⟨a,b|b|b⟩|⟨a,b⟩
 ·exact .inl ⟨a,.inl b⟩
 ·exact .inl ⟨a,.inr (.inl (by omega))⟩
 ·exact .inl ⟨a,.inr (.inr b)⟩
 ·exact .inr ⟨a,by omega⟩
theorem harm.got {g:Feed} {own:List Pair} {o:Nat} {m:Msg} (h:harm g.rid o m) (ho:g.off=o) (hb:g.back.length≤64) (hs:o≤1000000):(gotF g own m).1=g∧(gotF g own m).2.1=own:=by
 obtain⟨h1,h2,h3,h4⟩:=h;unfold gotF;cases hn:nextF g m
 ·have hw:(decide (m.kind=6) && newerF g m)=false:=by
   rcases h4 with ⟨a,b⟩|⟨a,b⟩
   ·simp[a]
   ·simp only[newerF,h1,ho];have:¬ (o:Int)<m.off:=by omega
    simp[this]
  rw[hw];exact⟨rfl,rfl⟩
 ·have he:m.effects=[]:=by
   simp only[nextF,Bool.and_eq_true,decide_eq_true_eq] at hn;obtain⟨n1,n2,n3⟩:=hn;rcases h4 with ⟨a,b|b|b⟩|⟨a,b⟩
   ·exact absurd n2 b
   ·omega
   ·exact b
   ·omega
  rw[he,show decide (m.rid=g.rid)=true by simp[h1]];exact⟨Q3 g hb (by omega) (by omega),rfl⟩
def At (r other:Int) (l:List Effect) (k i:Nat) (g:Feed) (own:List Pair) (sent:List Msg):Prop :=
 sent.length=i∧okE g.back∧g.back.length≤64∧((i=0∧g.rid≠(mkF r l).rid∧g=mkF other (l.take k)∧own=dbOf (l.take k)) ∨
 ∃ o:Nat,g.rid=(mkF r l).rid∧g.off=o∧o≤l.length∧min l.length (16*i)≤o∧own=dbOf (l.take o)∧∀ m∈sent,harm (mkF r l).rid o m)
end Go.Proofs.YtlbdhlbbkibgpaaGreat
namespace Go.Proofs.YtlbdhlbbkibgpaaGreat
open Go Go.RowKit
theorem IP {a b:Int} (h:gtI a b=false):a≤b:=by simpa [gtI] using h
theorem gtI_d {a b:Int} (h:gtI a b=true):b<a:=by simpa [gtI] using h
theorem leI_d {a b:Int} (h:leI a b=true):a≤b:=by simpa [leI] using h
theorem geI_d {a b:Int} (h:geI a b=true):b≤a:=by simpa [geI] using h
end Go.Proofs.YtlbdhlbbkibgpaaGreat
namespace Go.Proofs.YtlbdhlbbkibgpaaGreat
open Go Go.RowKit
def rawP (l:List Pair) (k:ByteArray):Option Item:=(l.find? fun p=>decide (p.key=k)).map fun p=>p.item
def noI:Item:=⟨0,⟨#[]⟩,[],[],0⟩
theorem Oc {l:List Pair} {k:ByteArray} (h:∀ p∈l,p.key≠k):rawP l k=none:=by
 unfold rawP;rw[List.find?_eq_none.2 (fun p hp=>by simpa using h p hp)];rfl
theorem Sf {l:List Pair} {k:ByteArray} {i:Nat} (hi:i<l.length) (h:l[i].key=k) (hb:∀ j (hj:j<i),l[j].key≠k):rawP l k=some l[i].item:=by
 unfold rawP;rw[List.find?_eq_some_iff_getElem.2 ⟨by simpa using h,i,hi,rfl,fun j hj=>by simpa using hb j hj⟩];rfl
theorem Kd {A B C:List Pair} {k:ByteArray} (hA:∀ a∈A,slt a.key k=true) (hC:∀ c∈C,slt k c.key=true) (hB:B=[]∨∃ x,B=[x]∧x.key=k):rawP (A++B++C) k=(B.head?).map fun p=>p.item:=by
 have h1:A.find? (fun p=>decide (p.key=k))=none:=List.find?_eq_none.2 fun p hp=>by simpa using Cg (hA p hp)
 have h2:C.find? (fun p=>decide (p.key=k))=none:=List.find?_eq_none.2 fun p hp=>by simpa using fun e=>Cg (hC p hp) e.symm
 unfold rawP;rw[List.find?_append,List.find?_append,h1,h2];rcases hB with rfl|⟨x,rfl,hx⟩
 ·rfl
 ·simp[hx]
theorem MV (l:List Pair) (k:ByteArray) (h:SrtP l) (ho:okP l) (hl:l.length≤1000000000):D9 big l k=some ((rawP l k).getD noI,(rawP l k).isSome):=by
 obtain⟨A,B,C,rfl,hA,hC,hB⟩:=shapeG (key:=Pair.key) k l h;unfold D9;rw[Q1 A B C k hA hC hB hl,Kd hA hC hB];rcases hB with rfl|⟨x,rfl,hx⟩
 ·rfl
 ·have hn:(A++[x]++C)[A.length]?=some x:=by simp
  simp only[Ag,Ac,Ah,Aj,Ak,Al,Ai,Option.some.injEq,List.isEmpty_cons,Bool.not_false,Bc,Gn,hn];rw[Eh _ (ho x (by simp))];rfl
theorem HK (l:List Pair) (k:ByteArray) (hl:l.length≤1000000000):D7 big l k=some ⟨(rawP l k).getD noI,(rawP l k).isSome⟩:=by
 refine Rn.eq ?_;unfold D7;refine Rn.bn (P:=fun y=>(y=.inl ()∧rawP l k=none)∨(∃ it,y=.inr ⟨it,true⟩∧rawP l k=some it)) (zI _ (fun q x=>x=(q:Int)∧∀ i (h:i<q) (hi:i<l.length),l[i].key≠k) l.length (by unfold big;omega) ⟨rfl,fun i h=>by omega⟩ fun q x hq hI=>?_) fun y hy=>?_
 ·obtain⟨rfl,hI⟩:=hI;by_cases hq2:q<l.length
  ·simp only[Ag];rw[AT (by simp only[lenI];omega),Au hq2];simp only[Ag,Ac,Ah,Aj,Ak,Al,Ai,Option.some.injEq,eqS];by_cases hk:l[q].key=k
   ·rw[decide_eq_true hk];exact⟨_,rfl,.inr ⟨_,rfl,Sf hq2 hk fun j hj=>hI j hj (by omega)⟩⟩
   ·rw[decide_eq_false hk];refine⟨_,rfl,hq2,by rw[As (by omega) (by omega)];omega,fun i hi h1=>?_⟩;by_cases hiq:i=q
    ·subst hiq;exact hk
    ·exact hI i (by omega) h1
  ·obtain rfl:q=l.length:=by omega
   simp only[Ag];rw[AQ (by simp only[lenI];omega)];refine⟨_,rfl,.inl ⟨rfl,Oc fun p hp=>?_⟩⟩;obtain⟨i,hi,rfl⟩:=List.getElem_of_mem hp;exact hI i hi hi
 ·rcases hy with ⟨rfl,h⟩|⟨it,rfl,h⟩
  ·rw[h];exact⟨_,rfl,rfl⟩
  ·rw[h];exact⟨_,rfl,rfl⟩
def alive (i:Item) (now:Int):Bool:=decide (i.exp=0) || decide (now<i.exp)
def getP (l:List Pair) (k:ByteArray) (now:Int):Option Item:=bif alive ((rawP l k).getD noI) now then rawP l k else none
theorem MW:okI noI:=⟨by simp[noI],by simp[noI]⟩
end Go.Proofs.YtlbdhlbbkibgpaaGreat
namespace Go.Proofs.YtlbdhlbbkibgpaaGreat
open Go Go.RowKit
theorem ltT {a b:Int} (h:a<b):ltI a b=true:=by simp[ltI,h]
theorem ltF {a b:Int} (h:¬ a<b):ltI a b=false:=by simp[ltI];omega
theorem Ht (c:UInt8):∀ l:List UInt8,(Lib.indexByte l c=-1∧∀ b∈l,b≠c)∨∃ i:Nat,Lib.indexByte l c=i∧∃ hi:i<l.length,l[i]=c∧∀ j (hj:j<i),l[j]≠c
 |[]=>.inl ⟨rfl,by simp⟩
 |b::l=>by
  by_cases h:b=c
  ·refine .inr ⟨0,?_,by simp,h,fun j hj=>by omega⟩;unfold Lib.indexByte;simp[h]
  ·rcases Ht c l with ⟨h1,h2⟩|⟨i,h1,hi,h2,h3⟩
   ·refine .inl ⟨?_,fun x hx=>?_⟩
    ·unfold Lib.indexByte;simp[h,h1]
    ·rcases List.mem_cons.1 hx with rfl|hx
     ·exact h
     ·exact h2 x hx
   ·refine .inr ⟨i+1,?_,by simp;omega,by simpa using h2,fun j hj=>?_⟩
    ·unfold Lib.indexByte;have:¬ ((i:Int)=-1):=by omega
     simp[h,h1,this]
    ·cases j with
     |zero=>exact h
     |succ j=>simpa using h3 j (by omega)
theorem HL {s:ByteArray} {i:Nat} (h:i<s.size):bAt s i=((s.data.toList[i]'(by simpa using h)).toNat:Int):=by
 unfold bAt;rw[dif_pos h];rfl
theorem JA {a:UInt8} {c:Nat} (hc:c<256):((a.toNat:Int)=(c:Int))↔a=(c:Int).toNat.toUInt8:=by
 have e:((c:Int).toNat.toUInt8).toNat=c:=by simp;omega
 constructor
 ·intro h;apply UInt8.toNat_inj.1;rw[e];omega
 ·rintro rfl;rw[e]
theorem Lh (s:ByteArray) (c:Int) (hc0:0≤c) (hc:c<256):(idxB s c=-1∧∀ i,i<s.size→bAt s i≠c)∨∃ i:Nat,idxB s c=i∧i<s.size∧bAt s i=c∧∀ j,j<i→bAt s j≠c:=by
 obtain⟨c,rfl⟩:∃ n:Nat,c=n:=⟨c.toNat,by omega⟩;have hc:c<256:=by omega
 have hlen:s.data.toList.length=s.size:=by simp
 rcases Ht ((c:Int).toNat.toUInt8) s.data.toList with ⟨h1,h2⟩|⟨i,h1,hi,h2,h3⟩
 ·refine .inl ⟨h1,fun i hi=>?_⟩;rw[HL hi,Ne,JA hc];exact h2 _ (List.getElem_mem _)
 ·refine .inr ⟨i,h1,by omega,?_,fun j hj=>?_⟩
  ·rw[HL (by omega),JA hc];exact h2
  ·rw[HL (by omega),Ne,JA hc];exact h3 j hj
theorem MX (s:ByteArray):BO big s=some (idxB s 123):=by
 unfold BO;by_cases h:(⟨#[123]⟩:ByteArray)=s
 ·subst h;rfl
 ·simp only[Ag,eqS,decide_eq_false h,Aj];rfl
theorem Jf (s:ByteArray):Bv big s=some (idxB s 125):=by
 unfold Bv;by_cases h:(⟨#[125]⟩:ByteArray)=s
 ·subst h;rfl
 ·simp only[Ag,eqS,decide_eq_false h,Aj];rfl
theorem geT {a b:Int} (h:b≤a):geI a b=true:=by simp[geI,h]
theorem geF {a b:Int} (h:¬ b≤a):geI a b=false:=by simp[geI];omega
theorem Tb (s:ByteArray) (h:idxB s 123=-1):B2 big s=some (s,⟨#[]⟩,false):=by
 unfold B2 Ci;rw[MX,h];rfl
theorem P4 (s:ByteArray) (h:idxB s 125=-1):Bw big s=some (s,⟨#[]⟩,false):=by
 unfold Bw BH;rw[Jf,h];rfl
theorem P5 (s:ByteArray) (i:Nat) (h:idxB s 123=i) (hi:i<s.size) (hs:s.size≤1000000000000):B2 big s=some (s.extract 0 i,s.extract (i+1) s.size,true):=by
 unfold B2 Ci;rw[MX,h];have e1:segSh s (i:Int)=some (s.extract 0 i):=by
  unfold segSh;rw[if_pos (by omega)];rfl
 have e2:segSl s ((i:Int)+1)=some (s.extract (i+1) s.size):=by
  unfold segSl;rw[if_pos (by omega)];rfl
 simp only[Ag,Ac,Ah,Aj,Ak,Al,Ai,Option.some.injEq];rw[geT (by omega),As (by omega) (by omega),e1,e2];rfl
theorem P6 (s:ByteArray) (i:Nat) (h:idxB s 125=i) (hi:i<s.size) (hs:s.size≤1000000000000):Bw big s=some (s.extract 0 i,s.extract (i+1) s.size,true):=by
 unfold Bw BH;rw[Jf,h];have e1:segSh s (i:Int)=some (s.extract 0 i):=by
  unfold segSh;rw[if_pos (by omega)];rfl
 have e2:segSl s ((i:Int)+1)=some (s.extract (i+1) s.size):=by
  unfold segSl;rw[if_pos (by omega)];rfl
 simp only[Ag,Ac,Ah,Aj,Ak,Al,Ai,Option.some.injEq];rw[geT (by omega),As (by omega) (by omega),e1,e2];rfl
theorem G7 {s:ByteArray} {a j:Nat} (h:a+j<s.size):bAt (s.extract a s.size) j=bAt s (a+j):=by
 have h2:j<(s.extract a s.size).size:=by rw[ByteArray.size_extract];omega
 unfold bAt;rw[dif_pos h2,dif_pos h,ByteArray.getElem_extract]
theorem F6 {s:ByteArray} {i:Nat} (h:i<s.size):atS s (i:Int)=some (bAt s i):=by
 unfold atS;rw[if_pos (by omega)];rfl
theorem neT {a b:Int} (h:a≠b):neI a b=true:=by simp[neI,h]
theorem eqF' {a b:Int} (h:a≠b):eqI a b=false:=by simp[eqI,h]
theorem Tc (s:ByteArray) (hs:s.size≤1000000000000):∃ t:ByteArray,Dx big s=some t∧Cv big s=some t∧t.size≤s.size:=by
 rcases Lh s 123 (by omega) (by omega) with ⟨h1,h2⟩|⟨i,h1,h2,h3,h4⟩
 ·refine⟨s,?_,?_,Nat.le_refl _⟩
  ·unfold Dx;refine A7 (.inl ()) (fun i=>(i:Int)) s.size (by unfold big;omega) rfl (fun i hi=>?_) ?_ rfl
   ·simp only[Ag];rw[ltT (by simp only[lenS];omega),F6 hi];simp only[Ag,Ac,Ah,Aj,Ak,Al,Ai,Option.some.injEq];rw[neT (h2 i hi),Ah,As (by omega) (by omega)];rfl
   ·simp only[Ag];rw[ltF (by simp only[lenS];omega)];rfl
  ·unfold Cv;rw[Tb s h1];rfl
 have hstep:∀ q,q<i→∀ {γ:Type} (x:Option (Int ⊕ γ)) (y:Option (Int ⊕ γ)),ite' (ltI (q:Int) (lenS s)) (bn (atS s (q:Int)) fun v6=>ite' (neI v6 123) (some (.inl (addI .i64 (q:Int) 1))) x) y=some (.inl ((q+1:Nat):Int)):=fun q hq γ x y=>by
  rw[ltT (by simp only[lenS];omega),F6 (by omega)];simp only[Ag,Ac,Ah,Aj,Ak,Al,Ai,Option.some.injEq];rw[neT (h4 q hq),Ah,As (by omega) (by omega)];rfl
 have hsz:(s.extract (i+1) s.size).size=s.size - (i+1):=by rw[ByteArray.size_extract];omega
 rcases Lh (s.extract (i+1) s.size) 125 (by omega) (by omega) with ⟨k1,k2⟩|⟨j,k1,k2,k3,k4⟩
 ·have k2:∀ q,i+1+q<s.size→bAt s (i+1+q)≠125:=fun q hq=>by
   have:=k2 q (by omega);rwa [G7 hq] at this
  refine⟨s,?_,?_,Nat.le_refl _⟩
  ·unfold Dx;refine A7 (.inr s) (fun i=>(i:Int)) i (by unfold big;omega) rfl (fun q hq=>hstep q hq _ _) ?_ rfl;simp only[Ag];rw[ltT (by simp only[lenS];omega),F6 h2];simp only[Ag,Ac,Ah,Aj,Ak,Al,Ai,Option.some.injEq,h3];rw[show neI (123:Int) 123=false by rfl,Aj];refine A7 (.inl ()) (fun q=>((i+1+q:Nat):Int)) (s.size - (i+1)) (by unfold big;omega) (by rw[As (by omega) (by omega)];omega) (fun q hq=>?_) ?_ rfl
   ·rw[ltT (by simp only[lenS];omega),F6 (by omega)];simp only[Ag,Ac,Ah,Aj,Ak,Al,Ai,Option.some.injEq];rw[eqF' (k2 q (by omega)),Aj,As (by omega) (by omega)];rfl
   ·rw[ltF (by simp only[lenS];omega)];rfl
  ·unfold Cv;rw[P5 s i h1 h2 hs];simp only[Ag,Ac,Ah,Aj,Ak,Al,Ai,Option.some.injEq];rw[P4 _ k1];rfl
 ·have hj:i+1+j<s.size:=by omega
  have k3:bAt s (i+1+j)=125:=by rwa [G7 hj] at k3
  have k4:∀ q,q<j→bAt s (i+1+q)≠125:=fun q hq=>by
   have:=k4 q hq;rwa [G7 (by omega)] at this
  have hex:(s.extract (i+1) s.size).extract 0 j=s.extract (i+1) (i+1+j):=by
   rw[ByteArray.extract_extract];congr 1
   omega
  have hez:(s.extract (i+1) (i+1+j)).size=j:=by rw[ByteArray.size_extract];omega
  have hslot:Cv big s=some (bif decide (j=0) then s else s.extract (i+1) (i+1+j)):=by
   unfold Cv;rw[P5 s i h1 h2 hs];simp only[Ag,Ac,Ah,Aj,Ak,Al,Ai,Option.some.injEq];rw[P6 _ j k1 k2 (by omega)];simp only[Ag,Ac,Ah,Aj,Ak,Al,Ai,Option.some.injEq,hex];by_cases h0:j=0
   ·have:s.extract (i+1) (i+1+j)=⟨#[]⟩:=by
     apply ByteArray.ext;apply Array.eq_empty_of_size_eq_zero;exact hez.trans h0
    rw[this,show neS (⟨#[]⟩:ByteArray) ⟨#[]⟩=false by rfl,decide_eq_true h0];rfl
   ·have:s.extract (i+1) (i+1+j)≠⟨#[]⟩:=fun h=>by
     rw[h] at hez;exact h0 hez.symm
    rw[show neS (s.extract (i+1) (i+1+j)) ⟨#[]⟩=true by simp[neS,this],decide_eq_false h0];rfl
  have hr1:Dx big s=some (bif decide (j=0) then s else s.extract (i+1) (i+1+j)):=by
   unfold Dx;refine A7 (.inr (bif decide (j=0) then s else s.extract (i+1) (i+1+j))) (fun i=>(i:Int)) i (by unfold big;omega) rfl (fun q hq=>hstep q hq _ _) ?_ rfl;simp only[Ag];rw[ltT (by simp only[lenS];omega),F6 h2];simp only[Ag,Ac,Ah,Aj,Ak,Al,Ai,Option.some.injEq,h3];rw[show neI (123:Int) 123=false by rfl,Aj];refine A7 (.inr (bif decide (j=0) then s else s.extract (i+1) (i+1+j))) (fun q=>((i+1+q:Nat):Int)) j (by unfold big;omega) (by rw[As (by omega) (by omega)];omega) (fun q hq=>?_) ?_ rfl
   ·rw[ltT (by simp only[lenS];omega),F6 (by omega)];simp only[Ag,Ac,Ah,Aj,Ak,Al,Ai,Option.some.injEq];rw[eqF' (k4 q hq),Aj,As (by omega) (by omega)];rfl
   ·rw[ltT (by simp only[lenS];omega),F6 hj];simp only[Ag,Ac,Ah,Aj,Ak,Al,Ai,Option.some.injEq,k3];rw[show eqI (125:Int) 125=true by rfl,Ah,As (by omega) (by omega)];by_cases h0:j=0
    ·rw[show eqI ((i+1+j:Nat):Int) ((i:Int)+1)=true by simp[eqI];omega,decide_eq_true h0];rfl
    ·rw[eqF' (by omega),decide_eq_false h0,Aj];have:segSlh s ((i:Int)+1) ((i+1+j:Nat):Int)=some (s.extract (i+1) (i+1+j)):=by
      unfold segSlh segS;rw[if_pos (by omega)];rfl
     rw[this];rfl
  refine⟨_,hr1,hslot,?_⟩;cases decide (j=0)
  ·simp only[cond_false];omega
  ·exact Nat.le_refl _
theorem Od {x y:Nat} (hx:x<2 ^ 62) (hy:y<2 ^ 62):xorI .i64 (x:Int) (y:Int)=((x ^^^ y:Nat):Int):=by
 have h:=Nat.xor_lt_two_pow hx hy;show IntKind.i64.wrap ((BitVec.ofInt 64 (x:Int) ^^^ BitVec.ofInt 64 (y:Int)).toNat:Int)=_;simp only[BitVec.ofInt_natCast,BitVec.toNat_xor,BitVec.toNat_ofNat];rw[Nat.mod_eq_of_lt (show x<2 ^ 64 by omega),Nat.mod_eq_of_lt (show y<2 ^ 64 by omega),wrap64 (by omega) (by omega)]
theorem wrapU16 (a:Int):IntKind.u16.wrap a=a % 65536:=by simp[IntKind.wrap,IntKind.bits,IntKind.signed]
theorem Oe {x y:Nat} (hx:x<2 ^ 16) (hy:y<2 ^ 16):xorI .u16 (x:Int) (y:Int)=((x ^^^ y:Nat):Int):=by
 have h:=Nat.xor_lt_two_pow hx hy;show IntKind.u16.wrap ((BitVec.ofInt 16 (x:Int) ^^^ BitVec.ofInt 16 (y:Int)).toNat:Int)=_;simp only[BitVec.ofInt_natCast,BitVec.toNat_xor,BitVec.toNat_ofNat];rw[Nat.mod_eq_of_lt hx,Nat.mod_eq_of_lt hy,wrapU16];omega
theorem Sg {x:Nat} (hx:x<2 ^ 62):andI .i64 (x:Int) 65535=((x % 65536:Nat):Int):=by
 have e:(65535:Int)=((65535:Nat):Int):=rfl;rw[e];show IntKind.i64.wrap ((BitVec.ofInt 64 (x:Int) &&& BitVec.ofInt 64 ((65535:Nat):Int)).toNat:Int)=_;simp only[BitVec.ofInt_natCast,BitVec.toNat_and,BitVec.toNat_ofNat];rw[Nat.mod_eq_of_lt (show x<2 ^ 64 by omega),show 65535 % 2 ^ 64=2 ^ 16 - 1 by rfl,Nat.and_two_pow_sub_one_eq_mod,wrap64 (by omega) (by omega)]
def bit1 (c:Nat):Nat:=if 32768≤c then (2*c ^^^ 4129) % 65536 else 2*c
theorem Sh {c:Nat} (h:c<65536):bit1 c<65536:=by unfold bit1;split <;> omega
def bits:Nat→Nat→Nat
 |0,c=>c
 |k+1,c=>bit1 (bits k c)
theorem IQ {c:Nat} (h:c<65536):∀ k,bits k c<65536
 |0=>h
 |k+1=>Sh (IQ h k)
def byteN (s:ByteArray) (i:Nat):Nat:=(bAt s i).toNat
theorem JB (s:ByteArray) (i:Nat):bAt s i=(byteN s i:Int)∧byteN s i<256:=by
 unfold byteN bAt;split
 ·rename_i h
  have:=(s[i]'h).toNat_lt;omega
 ·exact⟨rfl,by simp⟩
def crcN (s:ByteArray):Nat→Nat
 |0=>0
 |i+1=>bits 8 (crcN s i ^^^ byteN s i*256)
theorem Hu (s:ByteArray):∀ i,crcN s i<65536
 |0=>by simp[crcN]
 |i+1=>by
  have h1:=Hu s i;have h2:=(JB s i).2;exact IQ (Nat.xor_lt_two_pow (n:=16) (by omega) (by omega)) 8
theorem P7 (s:ByteArray) (hs:s.size≤1000000000000):F0 big s=some (crcN s s.size:Int):=by
 unfold F0;refine A7 (crcN s s.size:Int) (fun i=>((crcN s i:Int),(i:Int))) s.size (by unfold big;omega) rfl (fun i hi=>?_) ?_ rfl
 ·simp only[Ag];rw[ltT (by simp only[lenS];omega),F6 hi];obtain⟨b1,b2⟩:=JB s i;have hc:=Hu s i;rw[b1];simp only[Ag,Ac,Ah,Aj,Ak,Al,Ai,Option.some.injEq];rw[C8 (by omega) (by omega)];have e1:shlI .i64 (byteN s i:Int) 8=some ((byteN s i*256:Nat):Int):=by
   unfold shlI;rw[if_pos (by omega)];simp only[IntKind.bits,show min (8:Int).toNat 64=8 by rfl];rw[wrap64 (by omega) (by omega)];congr 1
  rw[e1];simp only[Ac];rw[Od (by omega) (by omega)];have hx:crcN s i ^^^ byteN s i*256<65536:=Nat.xor_lt_two_pow (n:=16) (by omega) (by omega);have hcs:crcN s (i+1)=bits 8 (crcN s i ^^^ byteN s i*256):=rfl;rw[hcs];clear hcs
  generalize crcN s i ^^^ byteN s i*256=x at hx ⊢;refine A7 (bits 8 x:Int) (fun k=>((bits k x:Int),(k:Int))) 8 (by unfold big;omega) rfl (fun k hk=>?_) ?_ ?_
  ·simp only;rw[ltT (by omega),Ah];have hb:=IQ hx k;have e2:shlI .i64 (bits k x:Int) 1=some ((2*bits k x:Nat):Int):=by
    unfold shlI;rw[if_pos (by omega)];simp only[IntKind.bits,show min (1:Int).toNat 64=1 by rfl];rw[wrap64 (by omega) (by omega)];congr 1
    omega
   rw[e2];simp only[Ac];have e3:ite' (geI ((2*bits k x:Nat):Int) 65536) (some (andI .i64 (xorI .i64 ((2*bits k x:Nat):Int) 4129) 65535)) (some ((2*bits k x:Nat):Int))=some (bit1 (bits k x):Int):=by
    unfold bit1;by_cases h:32768≤bits k x
    ·rw[geT (by omega),if_pos h,Ah,show (4129:Int)=((4129:Nat):Int) by rfl,Od (by omega) (by omega)];have h2:2*bits k x ^^^ 4129<2 ^ 17:=Nat.xor_lt_two_pow (by omega) (by omega);rw[Sg (by omega)]
    ·rw[geF (by omega),if_neg h,Aj]
   rw[e3];simp only[Ac];rw[As (by omega) (by omega)];rfl
  ·simp only;rw[ltF (by omega)];rfl
  ·rw[As (by omega) (by omega)];rfl
 ·simp only[Ag];rw[ltF (by simp only[lenS];omega)];rfl
theorem Ke (s:ByteArray):(bytesI s).length=s.size:=by simp[bytesI]
theorem O8 (s:ByteArray) (i:Nat) (h:i<(bytesI s).length):(bytesI s)[i]=bAt s i:=by
 rw[HL (by rw[Ke] at h;exact h)];simp[bytesI]
theorem NH (s:ByteArray) (hs:s.size≤1000000000000):EE big (bytesI s)=some (crcN s s.size:Int):=by
 unfold EE;have hl:=Ke s;simp only[Ag];refine A7 (crcN s s.size:Int) (fun i=>((crcN s i:Int),(i:Int))) s.size (by unfold big;omega) rfl (fun i hi=>?_) ?_ ?_
 ·simp only;rw[ltT (by simp only[lenI];omega),Au (by omega),O8];obtain⟨b1,b2⟩:=JB s i;have hc:=Hu s i;rw[b1];simp only[Ag,Ac,Ah,Aj,Ak,Al,Ai,Option.some.injEq];have e0:cvI .u16 (byteN s i:Int)=(byteN s i:Int):=by unfold cvI;rw[wrapU16];omega
  rw[e0];have e1:shlI .u16 (byteN s i:Int) 8=some ((byteN s i*256:Nat):Int):=by
   unfold shlI;rw[if_pos (by omega)];simp only[IntKind.bits,show min (8:Int).toNat 16=8 by rfl];rw[wrapU16];congr 1
   omega
  rw[e1];simp only[Ac];rw[Oe (by omega) (by omega)];have hx:crcN s i ^^^ byteN s i*256<65536:=Nat.xor_lt_two_pow (n:=16) (by omega) (by omega);have hcs:crcN s (i+1)=bits 8 (crcN s i ^^^ byteN s i*256):=rfl;rw[hcs];clear hcs
  generalize crcN s i ^^^ byteN s i*256=x at hx ⊢;refine A7 (bits 8 x:Int) (fun k=>((bits k x:Int),(k:Int))) 8 (by unfold big;omega) rfl (fun k hk=>?_) ?_ ?_
  ·simp only;rw[ltT (by omega),Ah];have hb:=IQ hx k;have e2:shlI .u16 (bits k x:Int) 1=some ((2*bits k x % 65536:Nat):Int):=by
    unfold shlI;rw[if_pos (by omega)];simp only[IntKind.bits,show min (1:Int).toNat 16=1 by rfl];rw[wrapU16];congr 1
    omega
   have e4:shrI .u16 (bits k x:Int) 15=some ((bits k x / 32768:Nat):Int):=by
    unfold shrI;rw[if_pos (by omega)];simp only[IntKind.bits,show min (15:Int).toNat 16=15 by rfl];rw[Int.fdiv_eq_ediv_of_nonneg _ (by omega)];rfl
   rw[e2,e4];simp only[Ac];have e5:mulI .u16 4129 ((bits k x / 32768:Nat):Int)=((4129*(bits k x / 32768):Nat):Int):=by
    unfold mulI;rw[wrapU16];omega
   rw[e5,Oe (by omega) (by omega)];have e3:(2*bits k x % 65536) ^^^ (4129*(bits k x / 32768))=bit1 (bits k x):=by
    unfold bit1;by_cases h:32768≤bits k x
    ·rw[if_pos h,show bits k x / 32768=1 by omega];have:=@Nat.xor_mod_two_pow (2*bits k x) 4129 16;rw[show (2:Nat) ^ 16=65536 by rfl] at this;rw[this]
    ·rw[if_neg h,show bits k x / 32768=0 by omega,Nat.mod_eq_of_lt (by omega),Nat.mul_zero,Nat.xor_zero]
   rw[e3,As (by omega) (by omega)];rfl
  ·simp only;rw[ltF (by omega)];rfl
  ·rw[As (by omega) (by omega)];rfl
 ·simp only;rw[ltF (by simp only[lenI];omega)];rfl
 ·have hc:=Hu s s.size;rw[C8 (by omega) (by omega)]
def slotOf (k:ByteArray):Int:=(Cc big k).getD 0
theorem Hv (k:ByteArray) (h:k.size≤1000000000000):Cc big k=some (slotOf k)∧DC big k=some (slotOf k):=by
 obtain⟨t,h1,h2,h3⟩:=Tc k h;have hc:=Hu t t.size;have e:remI .i64 (crcN t t.size:Int) 16384=some (((crcN t t.size) % 16384:Nat):Int):=by
  simp[remI,Int.tmod_eq_emod_of_nonneg]
 have e1:Cc big k=some (((crcN t t.size) % 16384:Nat):Int):=by
  unfold Cc;rw[h1];simp only[Ac];rw[P7 t (by omega)];simp only[Ac];rw[e];rfl
 have e2:DC big k=some (((crcN t t.size) % 16384:Nat):Int):=by
  unfold DC;rw[h2];simp only[Ac];rw[AL (by omega) (by omega)];simp only[Ag];rw[NH t (by omega)];simp only[Ac];rw[e];rfl
 unfold slotOf;rw[e1,e2];exact⟨rfl,rfl⟩
def inP (l:List Pair) (s:Int):List ByteArray:=(l.filter fun p=>decide (slotOf p.key=s)).map fun p=>p.key
theorem MY (l:List Pair) (s:Int) (i:Nat) (hi:i<l.length):inP (l.take (i+1)) s=bif decide (slotOf l[i].key=s) then inP (l.take i) s++[l[i].key] else inP (l.take i) s:=by
 rw[← List.take_append_getElem hi];unfold inP;rw[List.filter_append,List.map_append];by_cases h:slotOf l[i].key=s
 ·simp[h]
 ·simp[h]
theorem IR (l:List Pair) (s:Int):(inP l s).length≤l.length:=by
 unfold inP;rw[List.length_map];exact List.length_filter_le _ _
theorem Si (l:List Pair) (s:Int) (hl:l.length≤1000000000) (hk:∀ p∈l,p.key.size≤1000000000000):GA big l s=some (inP l s):=by
 unfold GA;have hlen:=IR l s;refine A7 (inP l s) (fun i=>((i:Int),inP (l.take i) s)) l.length (by unfold big;omega) rfl (fun i hi=>?_) ?_ ?_
 ·have hn:=IR (l.take i) s;rw[List.length_take] at hn;simp only[Ag,Ac,Ah,Aj,Ak,Al,Ai,Option.some.injEq];rw[ltT (by omega),Au hi];simp only[Ag,Ac,Ah,Aj,Ak,Al,Ai,Option.some.injEq];rw[(Hv _ (hk _ (List.getElem_mem hi))).1];simp only[Ag,Ac,Ah,Aj,Ak,Al,Ai,Option.some.injEq];rw[AL (by omega) (by omega),As (by omega) (by omega),MY l s i hi];unfold eqI;cases decide (slotOf l[i].key=s) <;> rfl
 ·simp only[Ag,Ac,Ah,Aj,Ak,Al,Ai,Option.some.injEq];rw[ltF (by omega),List.take_length];rfl
 ·rw[AL (by omega) (by omega)]
theorem NI (l:List Pair) (s:Int) (hl:l.length≤1000000000) (hk:∀ p∈l,p.key.size≤1000000000000):EF big l s=some (inP l s):=by
 unfold EF ES BP BE;have hlen:=IR l s;simp only[Ag,Ac,Ah,Aj,Ak,Al,Ai,Option.some.injEq];have e:∀ x:Option (List ByteArray),x=some (inP l s)→(bn (bn (bn x fun y4=>some y4) fun y1=>chk (room y1.length 1) (some y1)) fun v1=>some v1)=some (inP l s):=by
  rintro x rfl;simp only[Ag,Ac,Ah,Aj,Ak,Al,Ai,Option.some.injEq];rw[AL (by omega) (by omega)];rfl
 refine (congrArg (fun x=>bn x fun v2=>some v2) (e _ ?_)).trans rfl;refine GI (fun i=>((i:Int),inP (l.take i) s)) l.length (by unfold big;omega) rfl (fun i hi=>?_) ?_
 ·have hn:=IR (l.take i) s;rw[List.length_take] at hn;simp only[Ag,Ac,Ah,Aj,Ak,Al,Ai,Option.some.injEq];rw[ltT (by omega),Au hi];simp only[Ag,Ac,Ah,Aj,Ak,Al,Ai,Option.some.injEq];rw[(Hv _ (hk _ (List.getElem_mem hi))).2];simp only[Ag,Ac,Ah,Aj,Ak,Al,Ai,Option.some.injEq];rw[AL (by omega) (by omega),As (by omega) (by omega),MY l s i hi];unfold eqI;cases decide (slotOf l[i].key=s) <;> rfl
 ·simp only[Ag,Ac,Ah,Aj,Ak,Al,Ai,Option.some.injEq];rw[ltF (by omega),List.take_length];rfl
end Go.Proofs.YtlbdhlbbkibgpaaGreat
namespace Go.Proofs.YtlbdhlbbkibgpaaGreat
open Go Go.RowKit
def keyT (j:Nat):ByteArray:=(Bb big (j:Int)).getD ⟨#[]⟩
theorem Sj (n:Int) (h:0≤n) (h2:n≤255):Bb big n=Bb big (n % 20):=by
 unfold Bb;rw[Bd h (by omega),Bd (show 0≤n % 20 by omega) (by omega),C8 (by omega) (by omega),C8 (show -9223372036854775808≤n % 20 by omega) (by omega)];simp only[Ac,Ag];rw[IO h (by omega) (by omega),IO (show 0≤n % 20 by omega) (by omega) (by omega)];simp only[Ac];rw[Bd (by omega) (by omega),Bd (show 0≤n % 20 / 4 by omega) (by omega),show n % 20 % 4=n % 4 by omega,show n % 20 / 4 % 5=n / 4 % 5 by omega]
def keysB:Bool:=(List.range 20).all fun j=>(Bb big (j:Int)).isSome && decide ((keyT j).size=4) && decide (slotOf (keyT j)=slotOf (keyT (j % 4)))
theorem Q5:keysB=true:=by kernel_rfl
def slotsB:Bool:=(List.range 4).all fun a=>(List.range 4).all fun b=>decide (a=b) || !decide (slotOf (keyT a)=slotOf (keyT b))
theorem KM {j:Nat} (h:j<20):Bb big (j:Int)=some (keyT j)∧(keyT j).size=4∧slotOf (keyT j)=slotOf (keyT (j % 4)):=by
 have h1:=List.all_eq_true.1 Q5 j (List.mem_range.2 h);simp only[Bool.and_eq_true,decide_eq_true_eq] at h1;refine⟨?_,h1.1.2,h1.2⟩;unfold keyT;cases h2:Bb big (j:Int) with
 |none=>rw[h2] at h1;simp at h1
 |some v=>rfl
theorem JC (n:Int) (h:0≤n) (h2:n≤255):∃ j:Nat,j<20∧(j:Int)=n % 20∧Bb big n=some (keyT j):=by
 refine⟨(n % 20).toNat,by omega,by omega,?_⟩;rw[Sj n h h2,← (KM (show (n % 20).toNat<20 by omega)).1];congr 1
 omega
def keyed (k:ByteArray):Prop:=∃ j,j<20∧k=keyT j
theorem P8 (l:List Int) (hl:u8s l) (i:Nat) (h:4*i+3<l.length) (e:Effect) (he:effAt l i=some e):keyed e.key∧(e.gone=true→e.item=noI):=by
 have hb0:=hl _ (List.getElem_mem (show 4*i<l.length by omega));have hb1:=hl _ (List.getElem_mem (show 4*i+1<l.length by omega));unfold effAt at he;rw[Au (show 4*i<l.length by omega),Au (show 4*i+1<l.length by omega)] at he;simp only[Ac] at he;obtain⟨j,hj,-,hk⟩:=JC _ hb0.1 hb0.2;rw[hk,Bd hb1.1 (by omega)] at he;simp only[Ac] at he;cases hg:eqI (l[4*i+1] % 4) 0
 ·rw[hg] at he;obtain⟨y,hy,he⟩:=bnE he;have he:=Option.some.inj he;subst he;rw[show notB false=true from rfl,Ah] at hy;obtain⟨_,-,hy⟩:=bnE hy;obtain⟨_,-,hy⟩:=bnE hy;obtain⟨_,-,hy⟩:=bnE hy;have hy:=Option.some.inj hy;subst hy;exact⟨⟨j,hj,rfl⟩,fun h=>by cases h⟩
 ·rw[hg] at he;simp only[Bc,Aj,Ac,Option.some.injEq] at he;subst he;exact⟨⟨j,hj,rfl⟩,fun _=>rfl⟩
def okM (m:List Effect):Prop:=m.length≤40∧∀ e∈m,okI e.item∧keyed e.key∧(e.gone=true→e.item=noI)
theorem IB (l:List Int) (hl:u8s l) (h:l.length≤1000000000):Rn (B3 big l) okM:=by
 refine (IA l hl h).mono fun m hm=>?_;obtain⟨h1,h2,h3⟩:=hm;refine⟨by omega,fun e he=>⟨h3 e he,?_⟩⟩;obtain⟨i,hi,rfl⟩:=List.getElem_of_mem he;exact P8 l hl i (by omega) _ (by rw[h2 i hi,List.getElem?_eq_getElem hi])
theorem Kf (Q:ByteArray→Prop):∀ (es:List Effect) (l:List Pair),(∀ p∈l,Q p.key)→(∀ e∈es,Q e.key)→∀ p∈es.foldl applyP l,Q p.key
 |[],l,h1,_=>h1
 |e::es,l,h1,h2=>by
  refine Kf Q es (applyP l e) (fun p hp=>?_) fun x hx=>h2 x (by simp[hx]);unfold applyP newP at hp;rcases List.mem_append.1 hp with hp|hp
  ·rcases List.mem_append.1 hp with hp|hp
   ·exact h1 p (List.mem_filter.1 hp).1
   ·split at hp
    ·simp at hp
    ·simp at hp;subst hp;exact h2 e (by simp)
  ·exact h1 p (List.mem_filter.1 hp).1
def setO (k:ByteArray) (o:Option Item) (e:Effect):Option Item:=if e.key=k then (if e.gone then none else some e.item) else o
theorem Sk {l:List Pair} {s:Int} {k:ByteArray}:k∈inP l s↔slotOf k=s∧∃ p∈l,p.key=k:=by
 unfold inP;simp only[List.mem_map,List.mem_filter,decide_eq_true_eq];constructor
 ·rintro⟨p,⟨h1,h2⟩,rfl⟩;exact⟨h2,p,h1,rfl⟩
 ·rintro⟨h1,p,h2,rfl⟩;exact⟨p,⟨h2,h1⟩,rfl⟩
def okDB (db:List Pair):Prop:=SrtP db∧okP db∧db.length≤40∧∀ p∈db,keyed p.key
theorem P9 (ns:List Int) (hu:u8s ns) (h:ns.length≤1000000000):Rn (Cd big ns) okDB:=by
 unfold Cd;refine Rn.bn (IB ns hu h) fun m hm=>?_;obtain⟨h1,h2⟩:=hm;have ho:∀ e∈m,okI e.item:=fun e he=>(h2 e he).1;refine zA (Gm [] m .nil (by simp[okP]) ho (by simp;omega)) (Rn.some ?_);obtain⟨g1,g2,g3⟩:=Se ho;exact⟨g1,g2,by have:=g3;unfold dbOf at this;omega,Kf keyed m [] (by simp) fun e he=>(h2 e he).2.1⟩
theorem FA {k:ByteArray} (h:keyed k):k.size=4:=by
 obtain⟨j,hj,rfl⟩:=h;exact (KM hj).2.1
def cntS (f:Nat→Nat):Nat→Nat
 |0=>0
 |k+1=>cntS f k+f k
def hasS (l:List ByteArray) (x:ByteArray):Bool:=l.any fun y=>decide (y=x)
theorem Qa {l:List ByteArray} {x:ByteArray} (h:x∈l):hasS l x=true:=List.any_eq_true.2 ⟨x,h,by simp⟩
theorem Td {l:List ByteArray} {x:ByteArray} (h:x ∉ l):hasS l x=false:=by
 cases hh:hasS l x
 ·rfl
 ·obtain⟨y,h1,h2⟩:=List.any_eq_true.1 hh;exact absurd (of_decide_eq_true h2 ▸ h1) h
theorem Qb (l:List ByteArray) (x:ByteArray) (h:l.length≤1000000000):J1 big l x=some (hasS l x):=by
 refine Rn.eq ?_;unfold J1;refine Rn.bn (P:=fun y=>(y=.inl ()∧x ∉ l)∨(y=.inr true∧x∈l)) (zI _ (fun q a=>a=(q:Int)∧∀ i (h:i<q) (hi:i<l.length),l[i]≠x) l.length (by unfold big;omega) ⟨rfl,fun i h=>by omega⟩ fun q a hq hI=>?_) fun y hy=>?_
 ·obtain⟨rfl,hI⟩:=hI;simp only[Ag,Ac,Ah,Aj,Ak,Al,Ai,Option.some.injEq];by_cases hq2:q<l.length
  ·rw[AT (by omega),Au hq2];simp only[Ag,Ac,Ah,Aj,Ak,Al,Ai,Option.some.injEq,eqS];by_cases hk:l[q]=x
   ·rw[decide_eq_true hk];exact⟨_,rfl,.inr ⟨rfl,hk ▸ List.getElem_mem hq2⟩⟩
   ·rw[decide_eq_false hk];refine⟨_,rfl,hq2,by rw[As (by omega) (by omega)];omega,fun i hi h1=>?_⟩;by_cases hiq:i=q
    ·subst hiq;exact hk
    ·exact hI i (by omega) h1
  ·obtain rfl:q=l.length:=by omega
   rw[AQ (by omega)];refine⟨_,rfl,.inl ⟨rfl,fun hx=>?_⟩⟩;obtain⟨i,hi,e⟩:=List.getElem_of_mem hx;exact hI i hi hi e
 ·rcases hy with ⟨rfl,h⟩|⟨rfl,h⟩
  ·exact⟨_,rfl,(Td h).symm⟩
  ·exact⟨_,rfl,(Qa h).symm⟩
end Go.Proofs.YtlbdhlbbkibgpaaGreat
namespace Go.Proofs.YtlbdhlbbkibgpaaGreat
open Go Go.RowKit
end Go.Proofs.YtlbdhlbbkibgpaaGreat
namespace Go.Proofs.YtlbdhlbbkibgpaaGreat
open Go Go.RowKit
theorem gtT {a b:Int} (h:b<a):gtI a b=true:=decide_eq_true h
theorem gtF {a b:Int} (h:¬ b<a):gtI a b=false:=decide_eq_false h
theorem Of {a b:Int}:gtI a b=false↔a≤b:=⟨IP,fun h=>gtF (by omega)⟩
theorem Og {a b:Int}:ltI a b=false↔b≤a:=⟨fun h=>Ev h,fun h=>AQ (by omega)⟩
theorem Sl {a b:Int}:leI a b=true↔a≤b:=⟨fun h=>leI_d h,fun h=>decide_eq_true h⟩
theorem Sm {a b:Int}:geI a b=true↔b≤a:=⟨fun h=>geI_d h,fun h=>decide_eq_true h⟩
theorem FL {s:ByteArray} (h:¬ s.size≤300):gtI (lenS s) 300=true:=gtT (by simp only[lenS];omega)
theorem CU {s:ByteArray} (h:s.size≤300):gtI (lenS s) 300=false:=gtF (by simp only[lenS];omega)
theorem allN {ρ:Type} (n:Nat) (hn:n<big) (ok:Nat→Prop) (r:ρ) (f:Int→Option (Int ⊕ (Unit ⊕ ρ))) (h1:∀ i,i<n→ok i→f (i:Int)=some (.inl ((i+1:Nat):Int)))
  (h2:∀ i,i<n→¬ ok i→f (i:Int)=some (.inr (.inr r))) (he:f (n:Int)=some (.inr (.inl ()))):Rn (iter big f 0) fun y=>(y=.inl ()∧∀ i,i<n→ok i)∨(y=.inr r∧∃ i,i<n∧¬ ok i):=by
 refine zI _ (fun q a=>a=(q:Int)∧∀ i,i<q→ok i) n hn ⟨rfl,fun i h=>by omega⟩ fun q a hq hI=>?_;obtain⟨rfl,hI⟩:=hI;by_cases hl:q<n
 ·by_cases h:ok q
  ·rw[h1 q hl h];refine⟨_,rfl,hl,rfl,fun i hi=>?_⟩;by_cases hiq:i=q
   ·subst hiq;exact h
   ·exact hI i (by omega)
  ·rw[h2 q hl h];exact⟨_,rfl,.inr ⟨rfl,q,hl,h⟩⟩
 ·obtain rfl:q=n:=by omega
  rw[he];exact⟨_,rfl,.inl ⟨rfl,hI⟩⟩
def risesAt {α:Type} (key:α→ByteArray) (l:List α) (i:Nat):Prop:=∀ (h:0<i) (hi:i<l.length),slt (key l[i - 1]) (key l[i])=true
def rises {α:Type} (key:α→ByteArray) (l:List α):Prop:=l.Pairwise fun a b=>slt (key a) (key b)=true
theorem G0 {α:Type} (key:α→ByteArray) (l:List α):rises key l↔∀ i,i<l.length→risesAt key l i:=by
 constructor
 ·intro h i hi h0 hi2;exact List.pairwise_iff_getElem.1 h (i - 1) i (by omega) hi2 (by omega)
 ·intro h;refine List.pairwise_iff_getElem.2 fun i j hi hj hij=>?_;obtain⟨d,rfl⟩:∃ d,j=i+1+d:=⟨j - (i+1),by omega⟩;clear hij
  induction d with
  |zero=>exact h (i+1) hj (by omega) hj
  |succ d ih=>exact D5 (ih (by omega)) (h (i+1+(d+1)) hj (by omega) hj)
theorem FQ {α:Type} (key:α→ByteArray) (l:List α) (i:Nat) (hi:i<l.length) (hl:l.length≤140737488355328):∃ b,ite' (gtI (i:Int) 0) (bn (nth l (subI .i64 (i:Int) 1)) fun v=>some (geS (key v) (key l[i]))) (some false)=some b∧(b=false↔risesAt key l i):=by
 by_cases h0:0<i
 ·rw[gtT (a:=(i:Int)) (b:=0) (by omega),Ah,Bu (by omega) (by omega),show (i:Int) - 1=((i - 1:Nat):Int) by omega,Au (show i - 1<l.length by omega)];refine⟨_,rfl,?_⟩;unfold geS risesAt;constructor
  ·intro h _ _;simpa using h
  ·intro h;simp[h h0 hi]
 ·rw[gtF (a:=(i:Int)) (b:=0) (by omega)];exact⟨_,rfl,fun _ h=>absurd h h0,fun _=>rfl⟩
def okFld (x:Field):Prop:=x.name.size≤300∧x.val.size≤300
def shapeI (it:Item):Prop:=(it.kind=1∧it.f=[]∧it.l=[])∨(it.kind=2∧it.s=⟨#[]⟩∧it.l=[]∧it.f≠[])∨((it.kind=3∨it.kind=4)∧it.s=⟨#[]⟩∧it.f=[]∧it.l≠[])
def sizesI (it:Item):Prop:=it.s.size≤300∧(∀ x∈it.f,okFld x)∧∀ x∈it.l,x.size≤300
def mayI (it:Item):Prop:=shapeI it∧sizesI it∧it.f.length≤40∧it.l.length≤40∧0≤it.exp∧it.exp≤9007199254740992∧rises (fun x:Field=>x.name) it.f∧(it.kind=4→rises (fun x=>x) it.l)
theorem len0 {α:Type} (l:List α):eqI (lenI l) 0=decide (l=[]):=by
 cases l with
 |nil=>rfl
 |cons x l=>rw[decide_eq_false (by simp)];exact decide_eq_false (by simp only[lenI,List.length_cons];omega)
theorem len1 {α:Type} (l:List α):gtI (lenI l) 0=decide (l≠[]):=by
 cases l with
 |nil=>rfl
 |cons x l=>rw[decide_eq_true (by simp)];exact gtT (by simp only[lenI,List.length_cons];omega)
theorem Q6 (it:Item):Rn (Fw big it) fun b=>(b=true↔shapeI it):=by
 unfold Fw;simp only[Ag,Oa,MT,Ac,len0,len1];by_cases h1:it.kind=1
 ·refine⟨_,by rw[show eqI it.kind 1=true by simp[eqI,h1],Ah],?_⟩;simp[shapeI,h1]
 by_cases h2:it.kind=2
 ·refine⟨_,by rw[show eqI it.kind 1=false by simp[eqI,h1],Aj,show eqI it.kind 2=true by simp[eqI,h2],Ah],?_⟩;simp[shapeI,h2,eqS]
 by_cases h3:it.kind=3∨it.kind=4
 ·refine⟨_,by rw[show eqI it.kind 1=false by simp[eqI,h1],Aj,show eqI it.kind 2=false by simp[eqI,h2],Aj,show (eqI it.kind 3 || eqI it.kind 4)=true by simpa [eqI] using h3],?_⟩;simp[shapeI,h1,h2,h3,eqS]
 ·refine⟨_,by rw[show eqI it.kind 1=false by simp[eqI,h1],Aj,show eqI it.kind 2=false by simp[eqI,h2],Aj,show (eqI it.kind 3 || eqI it.kind 4)=false by simpa [eqI] using h3],?_⟩;simp[shapeI,h1,h2,h3]
theorem NJ (it:Item):Rn (DO big it) fun b=>(b=true↔mayI it):=by
 unfold DO;refine Rn.bn (P:=fun b=>(b=false↔(shapeI it∧it.s.size≤300∧it.f.length≤40∧it.l.length≤40∧0≤it.exp∧it.exp≤9007199254740992))) ?_ fun b hb=>Rn.lt (zB (fun hd=>Rn.some ?_) (fun hd=>?_))
 ·obtain⟨v,hv,hv2⟩:=Q6 it;refine zA hv ⟨_,by simp only[Ag,MT];rfl,?_⟩;cases v
  ·have:¬ shapeI it:=fun h=>by simpa using hv2.2 h
   simp[notB,this]
  ·have:shapeI it:=hv2.1 rfl;simp only[this,Bc,Bool.false_or,Of,Og,lenI,lenS,Bool.or_eq_false_iff,true_and];constructor
   ·rintro⟨a1,a2,a3,a4,a5⟩;refine⟨?_,?_,?_,?_,?_⟩ <;> omega
   ·rintro⟨a1,a2,a3,a4,a5⟩;refine⟨?_,?_,?_,?_,?_⟩ <;> omega
 ·have hno:¬ mayI it:=fun h=>by
   have:=hb.2 ⟨h.1,h.2.1.1,h.2.2.1,h.2.2.2.1,h.2.2.2.2.1,h.2.2.2.2.2.1⟩;rw[hd] at this;simp at this
  simp[hno]
 ·obtain⟨b1,b2,b3,b4,b5,b6⟩:=hb.1 hd;have hF:(∀ i,(hi:i<it.f.length)→okFld it.f[i]∧risesAt (fun x:Field=>x.name) it.f i)↔(∀ x∈it.f,okFld x)∧rises (fun x:Field=>x.name) it.f:=by
   rw[G0];constructor
   ·intro h;refine⟨fun x hx=>?_,fun i hi=>(h i hi).2⟩;obtain⟨i,hi,rfl⟩:=List.getElem_of_mem hx;exact (h i hi).1
   ·intro h i hi;exact⟨h.1 _ (List.getElem_mem hi),h.2 i hi⟩
  have hL:(∀ i,(hi:i<it.l.length)→it.l[i].size≤300∧(it.kind=4→risesAt (fun x=>x) it.l i))↔(∀ x∈it.l,x.size≤300)∧(it.kind=4→rises (fun x=>x) it.l):=by
   rw[G0];constructor
   ·intro h;refine⟨fun x hx=>?_,fun h4 i hi=>(h i hi).2 h4⟩;obtain⟨i,hi,rfl⟩:=List.getElem_of_mem hx;exact (h i hi).1
   ·intro h i hi;exact⟨h.1 _ (List.getElem_mem hi),fun h4=>h.2 h4 i hi⟩
  refine Rn.bn (allN it.f.length (by unfold big;omega) (fun i=>(hi:i<it.f.length)→okFld it.f[i]∧risesAt (fun x:Field=>x.name) it.f i) false _ (fun i hi hok=>?_) (fun i hi hok=>?_) ?_) fun y hy=>?_
  ·obtain⟨⟨o1,o2⟩,o3⟩:=hok hi;obtain⟨b,e1,e2⟩:=FQ (fun x:Field=>x.name) it.f i hi (by omega);obtain rfl:=e2.2 o3;simp only[Ag];rw[AT (by simp only[lenI];omega),Au hi];simp only[Ag,Ac,Ah,Aj,Ak,Al,Ai,Option.some.injEq] at e1 ⊢;rw[CU (s:=it.f[i].name) (by omega),CU (s:=it.f[i].val) (by omega),Aj,Aj,e1];simp only[Ag,Ac,Ah,Aj,Ak,Al,Ai,Option.some.injEq];rw[As (by omega) (by omega)];rfl
  ·obtain⟨b,e1,e2⟩:=FQ (fun x:Field=>x.name) it.f i hi (by omega);simp only[Ag];rw[AT (by simp only[lenI];omega),Au hi];simp only[Ag,Ac,Ah,Aj,Ak,Al,Ai,Option.some.injEq] at e1 ⊢;rw[e1];by_cases o1:it.f[i].name.size≤300
   ·by_cases o2:it.f[i].val.size≤300
    ·have o3:b=true:=by
      cases b
      ·exact absurd (fun _=>⟨⟨o1,o2⟩,e2.1 rfl⟩) hok
      ·rfl
     subst o3;rw[CU (s:=it.f[i].name) (by omega),CU (s:=it.f[i].val) (by omega)];rfl
    ·rw[CU (s:=it.f[i].name) (by omega),FL (s:=it.f[i].val) (by omega)];rfl
   ·rw[FL (s:=it.f[i].name) (by omega)];rfl
  ·simp only[Ag];rw[AQ (by simp only[lenI];omega)];rfl
  ·rcases hy with ⟨rfl,hy⟩|⟨rfl,i,hi,hy⟩
   rotate_left
   ·rw[Al];refine Rn.some ?_;have:¬ mayI it:=fun h=>hy fun _=>hF.2 ⟨h.2.1.2.1,h.2.2.2.2.2.2.1⟩ i hi;simp[this]
   ·have hy:=hF.1 fun i hi=>hy i hi hi;rw[Ak];refine Rn.bn (allN it.l.length (by unfold big;omega) (fun i=>(hi:i<it.l.length)→it.l[i].size≤300∧(it.kind=4→risesAt (fun x=>x) it.l i)) false _ (fun i hi hok=>?_) (fun i hi hok=>?_) ?_) fun y hy2=>?_
    ·obtain⟨o1,o3⟩:=hok hi;obtain⟨b,e1,e2⟩:=FQ (fun x=>x) it.l i hi (by omega);simp only[Ag];rw[AT (by simp only[lenI];omega),Au hi];simp only[Ag,Ac,Ah,Aj,Ak,Al,Ai,Option.some.injEq] at e1 ⊢;rw[CU (s:=it.l[i]) (by omega),Aj,e1];by_cases h4:it.kind=4
     ·obtain rfl:=e2.2 (o3 h4);rw[show eqI it.kind 4=true by simp[eqI,h4]];simp only[Ag,Ac,Ah,Aj,Ak,Al,Ai,Option.some.injEq];rw[As (by omega) (by omega)];rfl
     ·rw[show eqI it.kind 4=false by simp[eqI,h4]];simp only[Ag,Ac,Ah,Aj,Ak,Al,Ai,Option.some.injEq];rw[As (by omega) (by omega)];rfl
    ·obtain⟨b,e1,e2⟩:=FQ (fun x=>x) it.l i hi (by omega);simp only[Ag];rw[AT (by simp only[lenI];omega),Au hi];simp only[Ag,Ac,Ah,Aj,Ak,Al,Ai,Option.some.injEq] at e1 ⊢;rw[e1];by_cases o1:it.l[i].size≤300
     ·by_cases h4:it.kind=4
      ·have o3:b=true:=by
        cases b
        ·exact absurd (fun _=>⟨o1,fun _=>e2.1 rfl⟩) hok
        ·rfl
       subst o3;rw[CU (s:=it.l[i]) (by omega),show eqI it.kind 4=true by simp[eqI,h4]];rfl
      ·exact absurd (fun _=>⟨o1,fun h=>absurd h h4⟩) hok
     ·rw[FL (s:=it.l[i]) (by omega)];rfl
    ·simp only[Ag];rw[AQ (by simp only[lenI];omega)];rfl
    ·rcases hy2 with ⟨rfl,hy2⟩|⟨rfl,i,hi,hy2⟩
     ·rw[Ak];have hy2:=hL.1 fun i hi=>hy2 i hi hi;refine Rn.some ⟨fun _=>⟨b1,⟨b2,hy.1,hy2.1⟩,b3,b4,b5,b6,hy.2,hy2.2⟩,fun _=>rfl⟩
     ·rw[Al];refine Rn.some ?_;have:¬ mayI it:=fun h=>hy2 fun _=>hL.2 ⟨h.2.1.2.2,h.2.2.2.2.2.2.2⟩ i hi;simp[this]
theorem risingLoop {α:Type} (key:α→ByteArray) (l:List α) (hl:l.length≤140737488355328) :
  Rn (bn (lt (lenI l) fun v2=>bn (iter big (fun (y3:Int×Bool×ByteArray)=>lt (ltI y3.1 v2) fun v6=>ite' v6 (bn (nth l y3.1) fun v7=>bn (bn (lt (notB y3.2.1) fun v10=>ite' v10 (lt (leS (key v7) y3.2.2) fun v11=>some (v11)) (some (false))) fun (y9:Bool)=>lt (y9) fun v12=>ite' v12 (some (.inr ())) (some (.inl ()))) fun (y8:Unit ⊕ Unit) =>
   sm y8 (fun y13=>lt (addI .i64 y3.1 1) fun v15=>some (.inl (v15,false,key v7))) (fun y14=>some (.inr (.inr (y3.2.1,y3.2.2))))) (some (.inr (.inl (y3.2.1,y3.2.2))))) (0,true,⟨#[]⟩)) fun (y4:(Bool×ByteArray) ⊕ (Bool×ByteArray))=>sm y4 (fun y16=>some (.inl ())) (fun y17=>some (.inr false))) fun (y1:Unit ⊕ Bool)=>sm y1 (fun y18=>some true) (fun y19=>some y19))
   fun b=>(b=true↔rises key l):=by
 refine Rn.bn (P:=fun y=>(y=.inl ()∧rises key l)∨(y=.inr false∧¬ rises key l)) ?_ fun y hy=>?_
 ·refine Rn.lt (Rn.bn (P:=fun y=>(∃ z,y=.inl z∧rises key l)∨(∃ z,y=.inr z∧¬ rises key l)) (zI _ (fun q a=>a.1=(q:Int)∧(a.2.1=true↔q=0)∧(∀ (h:0<q) (hq:q - 1<l.length),a.2.2=key l[q - 1])∧∀ i,i<q→risesAt key l i) l.length (by unfold big;omega) ⟨rfl,by simp,fun h=>by omega,fun i h=>by omega⟩ fun q a hq hI=>?_) fun y hy=>?_)
  ·obtain⟨i,first,ahead⟩:=a;obtain⟨rfl,h1,h2,h3⟩:=hI;simp only at h1 h2;simp only[Ag,Ac,Ah,Aj,Ak,Al,Ai,Option.some.injEq];by_cases hl2:q<l.length
   ·rw[AT (by omega),Au hl2];simp only[Ag,Ac,Ah,Aj,Ak,Al,Ai,Option.some.injEq];by_cases hr:risesAt key l q
    ·have e:ite' (notB first) (some (leS (key l[q]) ahead)) (some false)=some false:=by
      cases first
      ·have hq0:0<q:=by
        apply Nat.pos_of_ne_zero;intro h;simpa using h1.2 h
       rw[h2 hq0 (by omega),Gw,Ah];simp[leS,hr hq0 hl2]
      ·rfl
     rw[e];simp only[Ag,Ac,Ah,Aj,Ak,Al,Ai,Option.some.injEq];refine⟨_,rfl,hl2,?_,by simp,fun _ _=>by simp,fun i hi=>?_⟩
     ·rw[As (by omega) (by omega)];omega
     ·by_cases hiq:i=q
      ·subst hiq;exact hr
      ·exact h3 i (by omega)
    ·have hq0:0<q:=by
      apply Nat.pos_of_ne_zero;intro h;exact hr fun h0=>by omega
     have hf:first=false:=by
      cases first
      ·rfl
      ·have:=h1.1 rfl;omega
     subst hf;have hn:slt (key l[q - 1]) (key l[q])=false:=by
      cases h:slt (key l[q - 1]) (key l[q])
      ·rfl
      ·exact absurd (fun _ _=>h) hr
     rw[h2 hq0 (by omega),Gw,Ah];simp only[leS,hn,Ag,Ac,Ah,Aj,Ak,Al,Ai,Option.some.injEq,Bool.not_false];exact⟨_,rfl,.inr ⟨_,rfl,fun h=>hr ((G0 key l).1 h q hl2)⟩⟩
   ·obtain rfl:q=l.length:=by omega
    rw[AQ (by omega)];exact⟨_,rfl,.inl ⟨_,rfl,(G0 key l).2 h3⟩⟩
  ·rcases hy with ⟨z,rfl,h⟩|⟨z,rfl,h⟩
   ·exact⟨_,rfl,.inl ⟨rfl,h⟩⟩
   ·exact⟨_,rfl,.inr ⟨rfl,h⟩⟩
 ·rcases hy with ⟨rfl,h⟩|⟨rfl,h⟩
  ·exact⟨_,rfl,by simp[h]⟩
  ·exact⟨_,rfl,by simp[h]⟩
theorem Q7 (l:List Field) (hl:l.length≤140737488355328):Rn (Ep big l) fun b=>(b=true↔rises (fun x:Field=>x.name) l):=risingLoop (fun x:Field=>x.name) l hl
theorem Q8 (l:List ByteArray) (hl:l.length≤140737488355328):Rn (CN big l) fun b=>(b=true↔rises (fun x=>x) l):=risingLoop (fun x=>x) l hl
def shapeP (it:Item):Prop:=shapeI it∧it.f.length≤40∧it.l.length≤40∧rises (fun x:Field=>x.name) it.f∧(it.kind=4→rises (fun x=>x) it.l)
theorem KN {α:Type} (l:List α):CK big (lenI l)=some (decide (l≠[]∧l.length≤40)):=by
 unfold CK;simp only[Ag,Oa,Ac];congr 1
 rw[Bool.eq_iff_iff];simp only[Bool.and_eq_true,decide_eq_true_eq,Sl,Sm,lenI];cases l with
 |nil=>simp
 |cons x l =>
  simp only[List.length_cons,ne_eq,reduceCtorEq,not_false_eq_true,true_and];constructor
  ·rintro⟨-,h⟩;omega
  ·intro h;omega
theorem IC {α:Type} (key:α→ByteArray):rises key []:=.nil
theorem O9 (it:Item) (ho:okI it):Rn (Dn big it) fun b=>(b=true↔shapeP it):=by
 unfold Dn;obtain⟨o1,o2⟩:=ho;refine Rn.lt (zB (fun h1=>?_) (fun h1=>Rn.lt (zB (fun h2=>?_) (fun h2=>Rn.lt (zB (fun h3=>?_) (fun h3=>Rn.lt (zB (fun h4=>?_) (fun h4=>?_))))))))
 ·have h1:it.kind=1:=by simpa [eqI] using h1
  refine Rn.lt (Rn.lt (Rn.lt (Rn.lt (Rn.some ?_))));simp only[lenI];rw[As (by omega) (by omega)];unfold shapeP shapeI;simp only[h1,eqI,decide_eq_true_eq];constructor
  ·intro h;have hf:it.f=[]:=List.length_eq_zero_iff.1 (by omega);have hl:it.l=[]:=List.length_eq_zero_iff.1 (by omega);simp[hf,hl,IC]
  ·intro h;simp at h;simp[h.1]
 ·have h2:it.kind=2:=by simpa [eqI] using h2
  refine Rn.bn (P:=fun b=>(b=true↔shapeP it)) ?_ fun b hb=>Rn.some hb;refine Rn.lt (zB (fun hs=>?_) (fun hs=>Rn.some ?_));rotate_left
  ·have hs:it.s≠⟨#[]⟩:=by simpa [eqS] using hs
   simp[shapeP,shapeI,h2,hs]
  have hs:it.s=⟨#[]⟩:=by simpa [eqS] using hs
  refine Rn.lt (Rn.lt ?_);rw[len0];refine zB (fun hl=>?_) (fun hl=>Rn.some ?_);rotate_left
  ·have hl:it.l≠[]:=by simpa using hl
   simp[shapeP,shapeI,h2,hl]
  have hl:it.l=[]:=by simpa using hl
  refine Rn.lt (zA (KN it.f) (zB (fun hf=>?_) (fun hf=>Rn.some ?_)));rotate_left
  ·have hf:¬ (it.f≠[]∧it.f.length≤40):=of_decide_eq_false hf;unfold shapeP shapeI;simp only[h2,hs,hl];constructor
   ·intro h;simp at h
   ·rintro⟨h,h',-⟩;simp at h;exact absurd ⟨h,h'⟩ hf
  have hf:it.f≠[]∧it.f.length≤40:=of_decide_eq_true hf;unfold EU;refine zA rfl (Rn.bn (Q7 it.f (by omega)) fun b hb=>Rn.some (hb.trans ?_));unfold shapeP shapeI;simp[h2,hs,hl,hf.1,hf.2]
 ·have h3:it.kind=3:=by simpa [eqI] using h3
  refine Rn.bn (P:=fun b=>(b=true↔shapeP it)) ?_ fun b hb=>Rn.some hb;refine Rn.lt (zB (fun hs=>?_) (fun hs=>Rn.some ?_));rotate_left
  ·have hs:it.s≠⟨#[]⟩:=by simpa [eqS] using hs
   simp[shapeP,shapeI,h3,hs]
  have hs:it.s=⟨#[]⟩:=by simpa [eqS] using hs
  refine Rn.lt (Rn.lt ?_);rw[len0];refine zB (fun hf=>?_) (fun hf=>Rn.some ?_);rotate_left
  ·have hf:it.f≠[]:=by simpa using hf
   simp[shapeP,shapeI,h3,hf]
  have hf:it.f=[]:=by simpa using hf
  refine Rn.lt (zA (KN it.l) (Rn.some ?_));unfold shapeP shapeI;simp[h3,hs,hf,IC]
 ·have h4:it.kind=4:=by simpa [eqI] using h4
  refine Rn.bn (P:=fun b=>(b=true↔shapeP it)) ?_ fun b hb=>Rn.some hb;refine Rn.lt (zB (fun hs=>?_) (fun hs=>Rn.some ?_));rotate_left
  ·have hs:it.s≠⟨#[]⟩:=by simpa [eqS] using hs
   simp[shapeP,shapeI,h4,hs]
  have hs:it.s=⟨#[]⟩:=by simpa [eqS] using hs
  refine Rn.lt (Rn.lt ?_);rw[len0];refine zB (fun hf=>?_) (fun hf=>Rn.some ?_);rotate_left
  ·have hf:it.f≠[]:=by simpa using hf
   simp[shapeP,shapeI,h4,hf]
  have hf:it.f=[]:=by simpa using hf
  refine Rn.lt (zA (KN it.l) (zB (fun hl=>?_) (fun hl=>Rn.some ?_)));rotate_left
  ·have hl:¬ (it.l≠[]∧it.l.length≤40):=of_decide_eq_false hl;unfold shapeP shapeI;simp only[h4,hs,hf];constructor
   ·intro h;simp at h
   ·rintro⟨h,-,h',-⟩;simp at h;exact absurd ⟨h,h'⟩ hl
  have hl:it.l≠[]∧it.l.length≤40:=of_decide_eq_true hl;unfold BX;refine zA rfl (Rn.bn (Q8 it.l (by omega)) fun b hb=>Rn.some (hb.trans ?_));unfold shapeP shapeI;simp[h4,hs,hf,hl.1,hl.2,IC]
 ·have h1:it.kind≠1:=by simpa [eqI] using h1
  have h2:it.kind≠2:=by simpa [eqI] using h2
  have h3:it.kind≠3:=by simpa [eqI] using h3
  have h4:it.kind≠4:=by simpa [eqI] using h4
  refine Rn.some ?_;simp[shapeP,shapeI,h1,h2,h3,h4]
theorem MZ (it:Item) (ho:okI it):Rn (EK big it) fun b=>(b=true↔mayI it):=by
 unfold EK;refine Rn.bn (P:=fun b=>(b=false↔(shapeP it∧0≤it.exp∧it.exp≤9007199254740992))) ?_ fun b hb=>Rn.lt (zB (fun hd=>Rn.some ?_) (fun hd=>?_))
 ·obtain⟨v,hv,hv2⟩:=O9 it ho;refine zA hv ⟨_,by simp only[Ag,MT];rfl,?_⟩;cases v
  ·have:¬ shapeP it:=fun h=>by simpa using hv2.2 h
   simp[notB,this]
  ·have:shapeP it:=hv2.1 rfl;simp only[this,Bc,Bool.false_or,Of,Og,Bool.or_eq_false_iff,true_and]
 ·have hno:¬ mayI it:=fun h=>by
   have:=hb.2 ⟨⟨h.1,h.2.2.1,h.2.2.2.1,h.2.2.2.2.2.2⟩,h.2.2.2.2.1,h.2.2.2.2.2.1⟩;rw[hd] at this;simp at this
  simp[hno]
 ·obtain⟨⟨b1,b2,b3,b4⟩,b5,b6⟩:=hb.1 hd;refine Rn.bn (P:=fun y=>(y=.inl ()∧sizesI it)∨(y=.inr false∧¬ sizesI it)) ?_ fun y hy=>?_;rotate_left
  ·rcases hy with ⟨rfl,h⟩|⟨rfl,h⟩
   ·exact⟨_,rfl,fun _=>⟨b1,h,b2,b3,b5,b6,b4⟩,fun _=>rfl⟩
   ·have:¬ mayI it:=fun hm=>h hm.2.1;exact⟨_,rfl,by simp[this]⟩
  unfold EV;refine zA rfl ?_;by_cases hs:it.s.size≤300
  rotate_left
  ·have:¬ sizesI it:=fun h=>hs h.1;refine⟨_,by simp only[Ag];rw[FL (s:=it.s) (by omega)];rfl,.inr ⟨rfl,this⟩⟩
  simp only[Ag];rw[CU (s:=it.s) (by omega)];simp only[Ag,Ac,Ah,Aj,Ak,Al,Ai,Option.some.injEq];refine Rn.bn (allN it.f.length (by unfold big;omega) (fun i=>(hi:i<it.f.length)→okFld it.f[i]) () _ (fun i hi hok=>?_) (fun i hi hok=>?_) ?_) fun y hy=>?_
  ·obtain⟨o1,o2⟩:=hok hi;rw[AT (by omega),Au hi];simp only[Ag,Ac,Ah,Aj,Ak,Al,Ai,Option.some.injEq];rw[CU (s:=it.f[i].name) (by omega),CU (s:=it.f[i].val) (by omega)];simp only[Ag,Ac,Ah,Aj,Ak,Al,Ai,Option.some.injEq];rw[As (by omega) (by omega)];rfl
  ·rw[AT (by omega),Au hi];simp only[Ag,Ac,Ah,Aj,Ak,Al,Ai,Option.some.injEq];by_cases o1:it.f[i].name.size≤300
   ·by_cases o2:it.f[i].val.size≤300
    ·exact absurd (fun _=>⟨o1,o2⟩) hok
    ·rw[CU (s:=it.f[i].name) (by omega),FL (s:=it.f[i].val) (by omega)];rfl
   ·rw[FL (s:=it.f[i].name) (by omega)];rfl
  ·rw[AQ (by omega)];rfl
  ·rcases hy with ⟨rfl,hy⟩|⟨rfl,i,hi,hy⟩
   rotate_left
   ·have:¬ sizesI it:=fun h=>hy fun _=>h.2.1 _ (List.getElem_mem hi);exact⟨_,rfl,.inr ⟨rfl,this⟩⟩
   simp only[Ag,Ac,Ah,Aj,Ak,Al,Ai,Option.some.injEq];refine Rn.bn (allN it.l.length (by unfold big;omega) (fun i=>(hi:i<it.l.length)→it.l[i].size≤300) () _ (fun i hi hok=>?_) (fun i hi hok=>?_) ?_) fun y hy2=>?_
   ·have o1:=hok hi;rw[AT (by omega),Au hi];simp only[Ag,Ac,Ah,Aj,Ak,Al,Ai,Option.some.injEq];rw[CU (s:=it.l[i]) (by omega)];simp only[Ag,Ac,Ah,Aj,Ak,Al,Ai,Option.some.injEq];rw[As (by omega) (by omega)];rfl
   ·rw[AT (by omega),Au hi];simp only[Ag,Ac,Ah,Aj,Ak,Al,Ai,Option.some.injEq];by_cases o1:it.l[i].size≤300
    ·exact absurd (fun _=>o1) hok
    ·rw[FL (s:=it.l[i]) (by omega)];rfl
   ·rw[AQ (by omega)];rfl
   ·rcases hy2 with ⟨rfl,hy2⟩|⟨rfl,i,hi,hy2⟩
    ·refine⟨_,rfl,.inl ⟨rfl,hs,fun x hx=>?_,fun x hx=>?_⟩⟩
     ·obtain⟨i,hi,rfl⟩:=List.getElem_of_mem hx;exact hy i hi hi
     ·obtain⟨i,hi,rfl⟩:=List.getElem_of_mem hx;exact hy2 i hi hi
    ·have:¬ sizesI it:=fun h=>hy2 fun _=>h.2.2 _ (List.getElem_mem hi);exact⟨_,rfl,.inr ⟨rfl,this⟩⟩
def mayP (p:Pair):Prop:=p.key.size≤40∧mayI p.item
def mayS (l:List Pair):Prop:=(∀ p∈l,mayP p)∧SrtP l
end Go.Proofs.YtlbdhlbbkibgpaaGreat
namespace Go.Proofs.YtlbdhlbbkibgpaaGreat
open Go Go.RowKit
def SrtH (l:List Field):Prop:=rises (fun x:Field=>x.name) l
def applyH (l:List Field) (e:Field):List Field:=l.filter (fun p=>slt p.name e.name)++[e]++l.filter (fun p=>slt e.name p.name)
theorem ID {A B C:List Field} {e:Field} (hA:∀ a∈A,slt a.name e.name=true) (hC:∀ c∈C,slt e.name c.name=true) (hB:B=[]∨∃ x,B=[x]∧x.name=e.name):applyH (A++B++C) e=A++[e]++C:=by
 have hB1:∀ b∈B,slt b.name e.name=false:=fun b hb=>by
  rcases hB with rfl|⟨x,rfl,hx⟩
  ·simp at hb
  ·simp at hb;subst hb;rw[hx];exact Ca _
 have hB2:∀ b∈B,slt e.name b.name=false:=fun b hb=>by
  rcases hB with rfl|⟨x,rfl,hx⟩
  ·simp at hb
  ·simp at hb;subst hb;rw[hx];exact Ca _
 unfold applyH;rw[List.filter_append,List.filter_append,List.filter_append,List.filter_append,Ff hA,DG hB1,DG (fun c hc=>Dv (hC c hc)),DG (fun a ha=>Dv (hA a ha)),DG hB2,Ff hC];simp
theorem Pa {l:List Field} (h:SrtH l) (e:Field):SrtH (applyH l e):=by
 unfold SrtH applyH;have h1:SrtH (l.filter (fun p=>slt p.name e.name)):=List.Pairwise.filter _ h;have h2:SrtH (l.filter (fun p=>slt e.name p.name)):=List.Pairwise.filter _ h;refine List.pairwise_append.2 ⟨List.pairwise_append.2 ⟨h1,by simp,fun a ha b hb=>?_⟩,h2,fun a ha b hb=>?_⟩
 ·simp at hb;subst hb;exact (List.mem_filter.1 ha).2
 ·have hb2:=(List.mem_filter.1 hb).2;rcases List.mem_append.1 ha with ha|ha
  ·exact D5 (List.mem_filter.1 ha).2 hb2
  ·simp at ha;subst ha;exact hb2
theorem Kg (l:List Field) (e:Field) (h:SrtH l):(applyH l e).length≤l.length+1:=by
 obtain⟨A,B,C,rfl,hA,hC,hB⟩:=shapeG (key:=Field.name) e.name l h;rw[ID hA hC hB];simp;omega
def stepH (e:Field) (a:Bool×List Field) (x:Field):Bool×List Field :=
 let a1:=if a.1=false∧slt x.name e.name=false then (true,a.2++[e]) else a
 if x.name=e.name then a1 else (a1.1,a1.2++[x])
theorem Qc (e:Field) (a:Bool×List Field) (x:Field):(stepH e a x).2.length≤a.2.length+2:=by
 unfold stepH;dsimp only
 split <;> split <;> simp <;> omega
theorem IE (e:Field):∀ (l:List Field) (a:Bool×List Field),(l.foldl (stepH e) a).2.length≤a.2.length+2*l.length
 |[],a=>by simp
 |x::l,a=>by
  have h1:=IE e l (stepH e a x);have h2:=Qc e a x;simp only[List.foldl_cons,List.length_cons];omega
theorem Li {e:Field}:∀ (A:List Field) (d:Bool) (out:List Field),(∀ a∈A,slt a.name e.name=true)→A.foldl (stepH e) (d,out)=(d,out++A)
 |[],d,out,_=>by simp
 |a::A,d,out,h=>by
  have h1:=h a (by simp);have e1:stepH e (d,out) a=(d,out++[a]):=by simp[stepH,h1,Cg h1]
  rw[List.foldl_cons,e1,Li A d (out++[a]) fun b hb=>h b (by simp[hb])];simp
theorem HM {e:Field}:∀ (A:List Field) (out:List Field),(∀ a∈A,slt e.name a.name=true)→A.foldl (stepH e) (true,out)=(true,out++A)
 |[],out,_=>by simp
 |a::A,out,h=>by
  have h1:=h a (by simp);have hne:¬ a.name=e.name:=fun h=>Cg h1 h.symm;have e1:stepH e (true,out) a=(true,out++[a]):=by simp[stepH,hne]
  rw[List.foldl_cons,e1,HM A (out++[a]) fun b hb=>h b (by simp[hb])];simp
theorem Qd {e:Field} {l:List Field} (h:SrtH l):(bif (l.foldl (stepH e) (false,[])).1 then (l.foldl (stepH e) (false,[])).2 else (l.foldl (stepH e) (false,[])).2++[e])=applyH l e:=by
 obtain⟨A,B,C,rfl,hA,hC,hB⟩:=shapeG (key:=Field.name) e.name l h;rw[ID hA hC hB,List.foldl_append,List.foldl_append,Li A _ _ hA];rcases hB with rfl|⟨x,rfl,hx⟩
 ·cases C with
  |nil=>simp
  |cons c C =>
   have h1:=hC c (by simp);have hne:¬ c.name=e.name:=fun h=>Cg h1 h.symm;have e1:stepH e (false,[]++A) c=(true,A++[e,c]):=by simp[stepH,Dv h1,hne]
   rw[List.foldl_nil,List.foldl_cons,e1,HM C _ fun b hb=>hC b (by simp[hb])];simp
 ·have e1:stepH e (false,[]++A) x=(true,A++[e]):=by simp[stepH,hx,Ca]
  rw[List.foldl_cons,List.foldl_nil,e1,HM C _ hC];simp
theorem Qe (l:List Field) (e:Field) (h:SrtH l) (hl:l.length≤100000000):DD big l e.name e.val=some (applyH l e):=by
 unfold DD;refine Gq l (stepH e) (fun i a=>(a.1,(i:Int),a.2)) (false,[]) (l.foldl (stepH e) (false,[])) (by omega) rfl (fun i hi a ha=>?_) ?_ ?_
 ·have hlen:a.2.length≤2*i:=by
   have:=IE e (l.take i) (false,[]);rw[← ha] at this;simp at this;omega
  simp only[Ag,Ac,Ah,Aj,Ak,Al,Ai,Option.some.injEq];rw[AT (by omega)];simp only[Ag,Ac,Ah,Aj,Ak,Al,Ai,Option.some.injEq,Au hi];have e2:(ite' (ite' (notB a.1) (some (geS l[i].name e.name)) (some false)).get! (some (true,a.2++[(e:Field)])) (some (a.1,a.2)))=some (if a.1=false∧slt l[i].name e.name=false then (true,a.2++[e]) else a):=by
   cases h1:a.1 <;> cases h2:slt l[i].name e.name <;> simp[notB,geS,h1,h2,ite'] <;> (rw[← h1])
  rw[AL (by omega) (by omega)];have e3:ite' (notB a.1) (some (geS l[i].name e.name)) (some false)=some (ite' (notB a.1) (some (geS l[i].name e.name)) (some false)).get!:=by
   cases a.1 <;> rfl
  rw[e3];simp only[Ag,Ac,Ah,Aj,Ak,Al,Ai,Option.some.injEq];rw[e2];simp only[Ag,Ac,Ah,Aj,Ak,Al,Ai,Option.some.injEq];rw[As (by omega) (by omega)];unfold stepH;dsimp only
  generalize hq:(if a.1=false∧slt l[i].name e.name=false then (true,a.2++[(e:Field)]) else a)=q;have hq2:q.2.length≤2*i+1:=by
   rw[← hq];split
   ·simp only[List.length_append,List.length_cons,List.length_nil];omega
   ·omega
  by_cases hk:l[i].name=e.name
  ·rw[hk,GJ];simp[Aj,Ac]
  ·rw[show neS l[i].name e.name=true by simp[neS,hk],if_neg hk,Ah,AL (by omega) (by omega)];simp only[Ag,Ac,Ah,Aj,Ak,Al,Ai,Option.some.injEq];simp
 ·simp only[Ag,Ac,Ah,Aj,Ak,Al,Ai,Option.some.injEq];rw[AQ (by omega)];rfl
 ·have hlen:(l.foldl (stepH e) (false,[])).2.length≤2*l.length:=by
   have:=IE e l (false,[]);simp at this;omega
  have hA:=Qd (e:=e) h;have hn:=Kg l e h;simp only[Ag,Ac,Ah,Aj,Ak,Al,Ai,Option.some.injEq];rw[AL (by omega) (by omega)];revert hA
  cases (l.foldl (stepH e) (false,[])).1 <;> intro hA <;> simp at hA <;> rw[hA] <;> simp[notB,ite',Ac] <;> rw[AL (by omega) (by omega)]
theorem Pb {l:List Field} {e x:Field} (h:x∈applyH l e):x∈l∨x=e:=by
 unfold applyH at h;rcases List.mem_append.1 h with h|h
 ·rcases List.mem_append.1 h with h|h
  ·exact .inl (List.mem_filter.1 h).1
  ·exact .inr (List.mem_singleton.1 h)
 ·exact .inl (List.mem_filter.1 h).1
theorem Qf (l:List Field) (e:Field):applyH l e≠[]:=by simp[applyH]
theorem NK (l:List ByteArray) (x:ByteArray) (h:l.length≤1000000000):CR big l x=some (hasS l x):=Qb l x h
theorem Pc (l:List ByteArray) (x:ByteArray) (h:l.length≤1000000000) (hr:rises (fun x=>x) l):Rn (Cp big l x) fun m=>rises (fun x=>x) m∧(∀ y∈m,y∈l∨y=x)∧m≠[]∧m.length≤l.length+1:=by
 unfold Cp;refine zA (NK l x h) (zB (fun hd=>Rn.room (by omega) (by omega) (Rn.some ⟨hr,fun y hy=>.inl hy,fun e=>?_,by omega⟩)) (fun hd=>?_))
 ·rw[e] at hd;simp[hasS] at hd
 have hx:x ∉ l:=fun h=>by
  rw[Qa h] at hd;simp at hd
 refine Rn.bn (P:=fun i:Int=>∃ k:Nat,i=k∧k≤l.length∧(∀ i (hi:i<l.length),i<k→slt l[i] x=true)∧(∀ hk:k<l.length,slt l[k] x=false)) (zI _ (fun q a=>a=(q:Int)∧∀ i (hi:i<l.length),i<q→slt l[i] x=true) l.length (by unfold big;omega) ⟨rfl,fun i hi h=>by omega⟩ fun q a hq hI=>?_) fun b hb=>?_
 ·obtain⟨rfl,hI⟩:=hI;simp only[Ag,Ac,Ah,Aj,Ak,Al,Ai,Option.some.injEq];by_cases hq2:q<l.length
  ·rw[AT (by omega),Au hq2];simp only[Ag,Ac,Ah,Aj,Ak,Al,Ai,Option.some.injEq,ltS];cases hs:slt l[q] x
   ·exact⟨_,rfl,q,rfl,hq,hI,fun _=>hs⟩
   ·refine⟨_,rfl,hq2,by rw[As (by omega) (by omega)];omega,fun i hi h1=>?_⟩;by_cases hiq:i=q
    ·subst hiq;exact hs
    ·exact hI i hi (by omega)
  ·obtain rfl:q=l.length:=by omega
   rw[AQ (by omega)];exact⟨_,rfl,l.length,rfl,Nat.le_refl _,hI,fun h=>by omega⟩
 ·obtain⟨k,rfl,hk,h1,h2⟩:=hb;refine zA (FK hk) (Rn.room ?_ ?_ (Rn.room ?_ ?_ (Rn.lt (zA (DF hk) (Rn.room ?_ ?_ (Rn.lt (Rn.some ?_)))))));iterate 6 (simp only[List.length_append,List.length_cons,List.length_nil,List.length_take,List.length_drop];omega)
  have hlow:∀ a∈l.take k,slt a x=true:=fun a ha=>by
   obtain⟨i,hi,rfl⟩:=List.getElem_of_mem ha;rw[List.length_take] at hi;rw[List.getElem_take];exact h1 i (by omega) (by omega)
  have hhigh:∀ b∈l.drop k,slt x b=true:=fun b hb=>by
   obtain⟨i,hi,rfl⟩:=List.getElem_of_mem hb;rw[List.length_drop] at hi;rw[List.getElem_drop];have hk2:k<l.length:=by omega
   have hxk:slt x l[k]=true:=by
    rcases (Pz _ _).1 (h2 hk2) with e|e
    ·exact absurd (e ▸ List.getElem_mem hk2) hx
    ·exact e
   by_cases hi0:i=0
   ·subst hi0;exact hxk
   ·exact D5 hxk (List.pairwise_iff_getElem.1 hr k (k+i) hk2 (by omega) (by omega))
  refine⟨?_,fun y hy=>?_,by simp,by simp only[List.length_append,List.length_cons,List.length_nil,List.length_take,List.length_drop];omega⟩
  ·refine List.pairwise_append.2 ⟨List.pairwise_append.2 ⟨List.Pairwise.sublist (List.take_sublist _ _) hr,by simp,fun a ha b hb=>?_⟩,List.Pairwise.sublist (List.drop_sublist _ _) hr,fun a ha b hb=>?_⟩
   ·simp only[List.mem_singleton] at hb;subst hb;exact hlow a ha
   ·rcases List.mem_append.1 ha with ha|ha
    ·exact D5 (hlow a ha) (hhigh b hb)
    ·simp only[List.mem_singleton] at ha;subst ha;exact hhigh b hb
  ·rcases List.mem_append.1 hy with hy|hy
   ·rcases List.mem_append.1 hy with hy|hy
    ·exact .inl (List.mem_of_mem_take hy)
    ·exact .inr (List.mem_singleton.1 hy)
   ·exact .inl (List.mem_of_mem_drop hy)
def keepM (kind:Int) (q:Nat) (s:ByteArray) (f:List Field) (l:List ByteArray):Prop :=
 s.size≤40*q∧f.length≤q∧l.length≤q∧(∀ x∈f,okFld x)∧SrtH f∧(∀ x∈l,x.size≤300)∧(kind=4→rises (fun x=>x) l) ∧
 ((kind=1∧f=[]∧l=[])∨(kind=2∧s=⟨#[]⟩∧l=[]∧(0<q→f≠[]))∨((kind=3∨kind=4)∧s=⟨#[]⟩∧f=[]∧(0<q→l≠[])))
theorem Q9 (l:List Int) (e:Int) (hl:u8s l) (hlen:2≤l.length) (hlen2:l.length≤4) (h:0≤e) (h2:e≤255):Rn (C0 big l e) mayI:=by
 unfold C0;have hb0:=hl _ (List.getElem_mem (show 0<l.length by omega));refine Rn.lt (Rn.lt (zB (fun hg=>?_) (fun _=>?_)))
 ·have:(l.length:Int)=0:=of_decide_eq_true hg;omega
 refine zA (Au (i:=0) (show 0<l.length by omega)) (Rn.lt ?_);rw[C8 (by omega) (by omega)];refine zA (Bd hb0.1 (by omega)) (Rn.lt ?_);rw[As (by omega) (by omega)];have hkind:1+l[0] % 4=1∨1+l[0] % 4=2∨1+l[0] % 4=3∨1+l[0] % 4=4:=by omega
 generalize 1+l[0] % 4=kind at hkind;refine Rn.bn (P:=fun x:Int=>0≤x∧x≤255) (zA (Bd h (by omega)) (Rn.lt (zB (fun _=>Rn.lt (Rn.some ?_)) (fun _=>Rn.some (by omega))))) fun ex hex=>?_
 ·rw[C8 (by omega) (by omega)];omega
 refine Rn.bn (P:=fun b:ByteArray×List Field×List ByteArray=>∃ q,1≤q∧q≤3∧keepM kind q b.1 b.2.1 b.2.2)
  (zI _ (fun q a=>a.1=((q+1:Nat):Int)∧q+1≤l.length∧keepM kind q a.2.1 a.2.2.1 a.2.2.2) 4 (by unfold big;omega) ⟨rfl,by omega,by decide,by simp,by simp,by simp,.nil,by simp,fun _=>.nil,?_⟩ fun q a hq hI=>?_) fun b hb=>?_
 ·rcases hkind with h|h|h|h <;> simp[h]
 ·obtain⟨i,s,f,t⟩:=a;obtain⟨i1,i2,i3⟩:=hI;simp only at i1 i3;subst i1;refine Rn.bn (P:=fun b:Bool=>(b=true→q+1<l.length)∧(b=false→q+1=l.length)) ?_ fun b hb=>Rn.lt (zB (fun hd=>?_) (fun hd=>Rn.some ⟨q,by have:=hb.2 hd;omega,by have:=hb.2 hd;omega,i3⟩))
  ·refine Rn.lt (Rn.lt (zB (fun hg=>Rn.lt (Rn.some ?_)) (fun hg=>Rn.some ?_)))
   ·have hg:=Eu hg;simp only[lenI] at hg;refine⟨fun _=>by omega,fun h=>?_⟩;have h:=Ev h;omega
   ·have hg:=Ev hg;simp only[lenI] at hg;exact⟨fun h=>by simp at h,fun _=>by omega⟩
  ·have hql:=hb.1 hd;have hb1:=hl _ (List.getElem_mem hql);refine Rn.bn (P:=fun b:ByteArray×List Field×List ByteArray=>keepM kind (q+1) b.1 b.2.1 b.2.2) ?_ fun b hb=>Rn.lt (Rn.some ⟨by omega,?_,hql,hb⟩);rotate_left
   ·show addI .i64 ((q+1:Nat):Int) 1=_;rw[As (by omega) (by omega)];omega
   refine zA (Au hql) (zA (Bd hb1.1 (by omega)) (Rn.lt (Rn.lt (Rn.lt ?_))));rw[C8 (by omega) (by omega)];refine zA (Bd hb1.1 (by omega)) ?_;refine Rn.bn (Fe _ (by omega) (by omega)) fun d hd=>?_;refine Rn.cat (by rw[strL1];omega) ?_;have hw:∀ x:Int,(strL [x]++d).size≤31:=fun x=>by
    rw[ByteArray.size_append,strL1];omega
   have hw:=hw (addI .u8 97 (l[q+1] % 5));revert hw
   generalize strL [addI .u8 97 (l[q+1] % 5)]++d=w;intro hw;obtain⟨k1,k2,k3,k4,k5,k6,k7,k8⟩:=i3;refine Rn.lt (zB (fun e1=>?_) (fun e1=>?_))
   ·have e1:kind=1:=of_decide_eq_true e1;refine Rn.cat (by simp only;omega) (Rn.some ?_);rcases k8 with k8|k8|k8
    ·refine⟨?_,?_,?_,k4,k5,k6,k7,.inl k8⟩
     ·rw[ByteArray.size_append];simp only;omega
     ·simp only;omega
     ·simp only;omega
    ·omega
    ·omega
   have e1:kind≠1:=of_decide_eq_false e1;refine Rn.lt (zB (fun e2=>?_) (fun e2=>?_))
   ·have e2:kind=2:=of_decide_eq_true e2;refine Rn.lt ?_;rw[Bu (by omega) (by omega)];refine Rn.bn (Fe _ (by omega) (by omega)) fun v hv=>?_;refine zA (Qe f ⟨w,v⟩ k5 (by omega)) (Rn.some ?_);rcases k8 with k8|k8|k8
    ·omega
    ·have hn:=Kg f ⟨w,v⟩ k5;refine⟨by simp only;omega,by simp only;omega,by simp only;omega,fun x hx=>?_,Pa k5 _,k6,k7,.inr (.inl ⟨e2,k8.2.1,k8.2.2.1,fun _=>Qf f _⟩)⟩;rcases Pb hx with hx|rfl
     ·exact k4 x hx
     ·exact⟨by simp only;omega,by simp only;omega⟩
    ·omega
   have e2:kind≠2:=of_decide_eq_false e2;have k8:(kind=3∨kind=4)∧s=⟨#[]⟩∧f=[]∧(0<q→t≠[]):=by
    rcases k8 with k8|k8|k8
    ·omega
    ·omega
    ·exact k8
   refine Rn.lt (zB (fun e3=>?_) (fun e3=>?_))
   ·have e3:kind=3:=of_decide_eq_true e3;refine Rn.room (by simp only;omega) (by simp only;omega) (Rn.lt (Rn.some ?_));refine⟨by simp only;omega,by simp only;omega,by simp only[List.length_append,List.length_cons,List.length_nil];omega,k4,k5,fun x hx=>?_,fun h=>by omega,.inr (.inr ⟨k8.1,k8.2.1,k8.2.2.1,fun _=>by simp⟩)⟩;rcases List.mem_append.1 hx with hx|hx
    ·exact k6 x hx
    ·simp only[List.mem_singleton] at hx;subst hx;omega
   ·have e3:kind≠3:=of_decide_eq_false e3;have e4:kind=4:=by omega
    refine Rn.room (by simp only;omega) (by simp only;omega) ?_;refine Rn.bn (Pc t w (by omega) (k7 e4)) fun z hz=>Rn.some ?_;obtain⟨z1,z2,z3,z4⟩:=hz;refine⟨by simp only;omega,by simp only;omega,by simp only at z4 ⊢;omega,k4,k5,fun x hx=>?_,fun _=>z1,.inr (.inr ⟨k8.1,k8.2.1,k8.2.2.1,fun _=>z3⟩)⟩;rcases z2 x hx with hx|rfl
    ·exact k6 x hx
    ·omega
 ·obtain⟨s,f,t⟩:=b;obtain⟨q,q1,q2,k1,k2,k3,k4,k5,k6,k7,k8⟩:=hb;simp only at k1 k2 k3 k4 k5 k6 k7 k8;refine zA (v:=false) ?_ (Rn.lt ?_)
  ·simp only[Ag,Ac,Ah,Aj,Ak,Al,Ai,Option.some.injEq];rw[show eqI (l.length:Int) 1=false by simp[eqI];omega,Aj]
  ·rw[Aj];refine Rn.room (by simp only;omega) (by simp only;omega) (Rn.some ⟨?_,⟨by simp only;omega,k4,k6⟩,by simp only;omega,by simp only;omega,hex.1,by simp only;omega,k5,k7⟩);rcases k8 with k8|k8|k8
   ·exact .inl k8
   ·exact .inr (.inl ⟨k8.1,k8.2.1,k8.2.2.1,k8.2.2.2 (by omega)⟩)
   ·exact .inr (.inr ⟨k8.1,k8.2.1,k8.2.2.1,k8.2.2.2 (by omega)⟩)
theorem Qg (l:List Int) (hl:u8s l) (i:Nat) (h:4*i+3<l.length) (e:Effect) (he:effAt l i=some e) (hg:e.gone=false):mayI e.item:=by
 have hb0:=hl _ (List.getElem_mem (show 4*i<l.length by omega));have hb1:=hl _ (List.getElem_mem (show 4*i+1<l.length by omega));have hb2:=hl _ (List.getElem_mem (show 4*i+2<l.length by omega));unfold effAt at he;rw[Au (show 4*i<l.length by omega),Au (show 4*i+1<l.length by omega),Au (show 4*i+2<l.length by omega),Le (by omega) (by omega)] at he;simp only[Ac] at he;obtain⟨j,hj,-,hk⟩:=JC _ hb0.1 hb0.2;rw[hk,Bd hb1.1 (by omega)] at he;simp only[Ac] at he;obtain⟨it,hit,hit2⟩:=Q9 ((l.drop (4*i+1)).take (4*i+4 - (4*i+1))) l[4*i+2] (hl.seg _ _) (by simp;omega) (by simp;omega) hb2.1 hb2.2;rw[hit] at he;cases hg2:eqI (l[4*i+1] % 4) 0
 ·rw[hg2] at he;simp only[Gw,Ah,Ac,Option.some.injEq] at he;subst he;exact hit2
 ·rw[hg2] at he;simp only[Bc,Aj,Ac,Option.some.injEq] at he;subst he;simp at hg
def okM2 (m:List Effect):Prop:=okM m∧∀ e∈m,e.gone=false→mayI e.item
theorem NL (l:List Int) (hl:u8s l) (h:l.length≤1000000000):Rn (B3 big l) okM2:=by
 obtain⟨m,hm,h1,h2,h3⟩:=IA l hl h;obtain⟨m',hm',h4⟩:=IB l hl h;obtain rfl:m'=m:=Option.some.inj (hm'.symm.trans hm);refine⟨_,hm,h4,fun e he hg=>?_⟩;obtain⟨i,hi,rfl⟩:=List.getElem_of_mem he;exact Qg l hl i (by omega) _ (by rw[h2 i hi,List.getElem?_eq_getElem hi]) hg
theorem Lj (Q:Pair→Prop):∀ (es:List Effect) (l:List Pair),(∀ p∈l,Q p)→(∀ e∈es,e.gone=false→Q ⟨e.key,e.item⟩)→∀ p∈es.foldl applyP l,Q p
 |[],l,h1,_=>h1
 |e::es,l,h1,h2=>by
  refine Lj Q es (applyP l e) (fun p hp=>?_) fun x hx=>h2 x (by simp[hx]);unfold applyP newP at hp;rcases List.mem_append.1 hp with hp|hp
  ·rcases List.mem_append.1 hp with hp|hp
   ·exact h1 p (List.mem_filter.1 hp).1
   ·split at hp
    ·simp at hp
    ·rename_i hg
     simp at hp;subst hp;exact h2 e (by simp) (by simpa using hg)
  ·exact h1 p (List.mem_filter.1 hp).1
theorem Qh (ns:List Int) (hu:u8s ns) (h:ns.length≤1000000000):Rn (Cd big ns) fun db=>okDB db∧mayS db:=by
 obtain⟨db,hdb,h1⟩:=P9 ns hu h;refine⟨db,hdb,h1,?_,h1.1⟩;unfold Cd at hdb;obtain⟨m,hm,h2,h3⟩:=NL ns hu h;rw[hm] at hdb;simp only[Ac] at hdb;have ho:∀ e∈m,okI e.item:=fun e he=>(h2.2 e he).1;rw[Gm [] m .nil (by simp[okP]) ho (by have:=h2.1;simp;omega)] at hdb;have hdb:=Option.some.inj hdb;subst hdb;exact Lj mayP m [] (by simp) fun e he hg=>⟨by rw[FA (h2.2 e he).2.1];omega,h3 e he hg⟩
end Go.Proofs.YtlbdhlbbkibgpaaGreat
namespace Go.Proofs.YtlbdhlbbkibgpaaGreat
open Go Go.RowKit
structure OkN (n:Node):Prop where
 srt:SrtP n.db
 okd:okP n.db
 dl:n.db.length≤1000
 key:∀ p∈n.db,keyed p.key
 bk:okE n.feed.back
 bl:n.feed.back.length≤64
 cl:n.claims.length≤1000
 mv:n.moves.length≤1000
 sn:n.seen.length≤1000
 vt:n.votes.length≤1000
 hd:n.watch.heard.length≤1000
 sy:n.watch.says.length≤1000
 sz:∀ x∈n.watch.says,x.length≤1000
theorem M0 (i:Item) (h:okI i):BV big i=some i:=by
 unfold BV;have h1:=h.1;have h2:=h.2;rw[Eg (by omega) (by omega),Eg (by omega) (by omega),AL (by omega) (by omega),AL (by omega) (by omega)]
theorem IF {α γ:Type} [Inhabited α] (l:List α) (hl:l.length≤1000000000) (f:Int×List α→Option ((Int×List α) ⊕ List α)) (k:List α→Option γ) (r:Option γ)
  (h:∀ i (hi:i<l.length),f ((i:Int),l)=some (.inl ((i:Int)+1,l.set i l[i]))) (he:f ((l.length:Int),l)=some (.inr l)) (hk:k l=r):bn (iter big f (0,l)) k=r:=by
 refine A7 l (fun i=>((i:Int),l)) l.length (by unfold big;omega) rfl (fun i hi=>?_) he hk;rw[h i hi,List.set_getElem_self];exact congrArg (fun z=>some (Sum.inl (z,l))) (by omega)
theorem DH {α:Type} {c:Nat} {l:List α} {γ:Type} {k:Option γ} (h:l.length≤1000000000) (hc:c≤1000:=by omega):chk (small c l) k=k:=by
 have h3:l.length*c≤1000000000*1000:=Nat.mul_le_mul h hc;exact Eg (by omega) (by omega)
theorem A3 {α:Type} {l:List α} {γ:Type} {k:Option γ} (h:l.length≤1000000000):chk (room l.length 1) k=k:=AL (by omega) (by omega)
theorem Te {γ:Type} (l:List Pair) (hl:l.length≤1000000000) (ho:okP l) (k:List Pair→Option γ):bn (iter big (fun (y8:Int×List Pair) =>
  lt (ltI y8.1 (lenI l)) fun v11 =>
  ite' v11 (bn (nth y8.2 y8.1) fun v12 =>
  bn (BV big v12.item) fun v14 =>
  lt (y8.2.set y8.1.toNat (⟨v12.key,v14⟩:Pair)) fun v16 =>
  lt (addI .i64 y8.1 1) fun v20 =>
  some (.inl (v20,v16))) (some (.inr y8.2))) (0,l)) k=k l:=by
 have:Inhabited Pair:=⟨⟨⟨#[]⟩,noI⟩⟩;refine IF l hl _ k _ (fun i hi=>?_) ?_ rfl
 ·simp only[Ag,Ac,Ah,Aj,Ak,Al,Ai,Option.some.injEq];rw[AT (by omega),Ah,Au hi,Ac,M0 _ (ho _ (List.getElem_mem hi)),Ac,As (by omega) (by omega)];rfl
 ·simp only[Ag,Ac,Ah,Aj,Ak,Al,Ai,Option.some.injEq];rw[AQ (by omega),Aj]
theorem Tf {γ:Type} (l:List Effect) (ho:okE l) (k:List Effect→Option γ):bn (iter big (fun (y22:Int×List Effect) =>
  lt (ltI y22.1 (lenI l)) fun v25 =>
  ite' v25 (bn (nth y22.2 y22.1) fun v26 =>
  bn (BV big v26.item) fun v28 =>
  lt (y22.2.set y22.1.toNat (⟨v26.key,v26.gone,v28⟩:Effect)) fun v30 =>
  lt (addI .i64 y22.1 1) fun v34 =>
  some (.inl (v34,v30))) (some (.inr y22.2))) (0,l)) k=k l:=by
 have hl:=ho.1;have:Inhabited Effect:=⟨⟨⟨#[]⟩,false,noI⟩⟩;refine IF l hl _ k _ (fun i hi=>?_) ?_ rfl
 ·simp only[Ag,Ac,Ah,Aj,Ak,Al,Ai,Option.some.injEq];rw[AT (by omega),Ah,Au hi,Ac,M0 _ (ho.2 _ (List.getElem_mem hi)),Ac,As (by omega) (by omega)];rfl
 ·simp only[Ag,Ac,Ah,Aj,Ak,Al,Ai,Option.some.injEq];rw[AQ (by omega),Aj]
theorem Ra {γ:Type} (l:List (List Int)) (hl:l.length≤1000000000) (ho:∀ x∈l,x.length≤1000) (k:List (List Int)→Option γ):bn (iter big (fun (y38:Int×List (List Int)) =>
  lt (ltI y38.1 (lenI l)) fun v41 =>
  ite' v41 (bn (nth y38.2 y38.1) fun v42 =>
  chk (small 8 v42) <|
  lt (y38.2.set y38.1.toNat v42) fun v46 =>
  lt (addI .i64 y38.1 1) fun v49 =>
  some (.inl (v49,v46))) (some (.inr y38.2))) (0,l)) k=k l:=by
 refine IF l hl _ k _ (fun i hi=>?_) ?_ rfl
 ·have h2:=ho _ (List.getElem_mem hi);simp only[Ag,Ac,Ah,Aj,Ak,Al,Ai,Option.some.injEq];rw[AT (by omega),Ah,Au hi,Ac,DH (by omega),As (by omega) (by omega)];rfl
 ·simp only[Ag,Ac,Ah,Aj,Ak,Al,Ai,Option.some.injEq];rw[AQ (by omega),Aj]
theorem Hw (n:Node) (h:OkN n):Bm big n=some n:=by
 have h1:=h.cl;have h2:=h.mv;have h3:=h.sn;have h4:=h.vt;have h5:=h.dl;have h6:=h.bl;have h7:=h.hd;have h8:=h.sy;unfold Bm;rw[DH (by omega),DH (by omega),DH (by omega),DH (by omega),DH (by omega),DH (by omega),Ag,Te _ (by omega) h.okd,Ag,Tf _ h.bk,DH (by omega),DH (by omega),Ag,Ra _ (by omega) h.sz];rw[A3 (by omega),A3 (by omega),A3 (by omega),A3 (by omega),A3 (by omega),A3 (by omega)]
theorem Pd (w:Watch) (h:w.heard.length≤1000) (h2:w.says.length≤1000) (h3:∀ x∈w.says,x.length≤1000):CM big w w=some true:=by
 unfold CM;simp only[Ag,Ac,Ah,Aj,Ak,Al,Ai,Option.some.injEq,FP _ (show w.heard.length≤1000000000 by omega),Bc,Ba];refine A7 (.inl ()) (fun i=>(i:Int)) w.says.length (by unfold big;omega) rfl (fun i hi=>?_) ?_ rfl
 ·have h4:=h3 _ (List.getElem_mem hi);rw[AT (by omega)];simp only[Ag,Ac,Ah,Aj,Ak,Al,Ai,Option.some.injEq,Au hi,FP _ (show (w.says[i]).length≤1000000000 by omega),Bc];rw[As (by omega) (by omega)];rfl
 ·rw[AQ (by omega)];rfl
theorem EW (n:Node) (h:OkN n):By big n n=some true:=by
 have h1:=h.mv;have h2:=h.sn;have h3:=h.cl;have h4:=h.dl;have h5:=h.vt;unfold By;simp only[Ag,Ac,Ah,Aj,Ak,Al,Ai,Option.some.injEq,Ba,H0 _ (show n.claims.length≤1000000000 by omega),Jz _ h.okd (by omega),Kc _ h.bk,Pd _ h.hd h.sy h.sz,FP _ (show n.votes.length≤1000000000 by omega)];refine A7 (.inl ()) (fun i=>(i:Int)) n.moves.length (by unfold big;omega) rfl (fun i hi=>?_) ?_ ?_
 ·rw[AT (by omega)];simp only[Ag,Ac,Ah,Aj,Ak,Al,Ai,Option.some.injEq,Au hi,B9,HJ,Gp,Bc];rw[As (by omega) (by omega)];rfl
 ·rw[AQ (by omega)];rfl
 simp only[Ag,Ac,Ah,Aj,Ak,Al,Ai,Option.some.injEq];refine A7 (.inl ()) (fun i=>(i:Int)) n.seen.length (by unfold big;omega) rfl (fun i hi=>?_) ?_ rfl
 ·rw[AT (by omega)];simp only[Ag,Ac,Ah,Aj,Ak,Al,Ai,Option.some.injEq,Au hi,B9,HJ,Gp,Bc];rw[As (by omega) (by omega)];rfl
 ·rw[AQ (by omega)];rfl
def cmpI (a b:Int):Int:=if a<b then -1 else if b<a then 1 else 0
theorem Rb (x:Int):B4 big x=some false:=by
 unfold B4;simp[neI,Ag]
theorem HN (a b:Int):Bf big a b=some (cmpI a b):=by
 unfold Bf cmpI;simp only[Rb,Ag,Ac,Ah,Aj,Ak,Al,Ai,Option.some.injEq];by_cases h:a<b
 ·simp[h,ltI,ite',Ag,Ac,Ah,Aj,Ak,Al,Ai,Option.some.injEq]
 ·by_cases h2:b<a <;> simp[h,h2,ltI,gtI,ite',Ag,Ac,Ah,Aj,Ak,Al,Ai,Option.some.injEq]
theorem KO {a b:Int}:cmpI a b<0↔a<b:=by unfold cmpI;split <;> (try split) <;> omega
theorem KP {a b:Int}:0<cmpI a b↔b<a:=by unfold cmpI;split <;> (try split) <;> omega
theorem Hx {a b:Int}:cmpI a b=0↔a=b:=by unfold cmpI;split <;> (try split) <;> omega
def bsG {α:Type} (cmp:α→Option Int) (a0:List α):Option (Int×Bool) :=
lt (lenI a0) fun v1 =>
bn (iter big (fun (y2:Int×Int) =>
lt (ltI y2.1 y2.2) fun v5 =>
ite' v5 (lt (addI .i64 y2.1 y2.2) fun v6 =>
lt (cvI .u64 v6) fun v7 =>
bn (shrI .u64 v7 1) fun v8 =>
lt (cvI .i64 v8) fun v9 =>
bn (nth a0 v9) fun v10 =>
bn (cmp v10) fun v11 =>
lt (ltI v11 0) fun v12 =>
ite' v12 (lt (addI .i64 v9 1) fun v13 =>
some (.inl (v13,y2.2))) (some (.inl (y2.1,v9)))) (some (.inr y2.1))) (0,v1)) fun (y3:Int) =>
bn (lt (ltI y3 v1) fun v15 =>
ite' v15 (bn (nth a0 y3) fun v16 =>
bn (cmp v16) fun v17 =>
lt (eqI v17 0) fun v18 =>
some (v18)) (some (false))) fun (y14:Bool) =>
some (y3,y14)
theorem Qi {α:Type} (cmp:α→Option Int) (c:α→Int) (hc:∀ x,cmp x=some (c x)) (A B C:List α) (hA:∀ a∈A,c a<0) (hC:∀ x∈C,0<c x) (hB:B=[]∨∃ x,B=[x]∧c x=0) (hl:(A++B++C).length≤1000000000) :
  bsG cmp (A++B++C)=some ((A.length:Int),!B.isEmpty):=by
 have hget:∀ i x,(A++B++C)[i]?=some x→decide (c x<0)=decide (i<A.length):=fun i x hx=>by
  rw[List.append_assoc] at hx;by_cases h:i<A.length
  ·rw[List.getElem?_append_left h] at hx;simp only[h,decide_true,decide_eq_true_eq];exact hA _ (List.mem_of_getElem? hx)
  ·rw[List.getElem?_append_right (by omega)] at hx;simp only[h,decide_false,decide_eq_false_iff_not];rcases List.mem_append.1 (List.mem_of_getElem? hx) with hm|hm
   ·rcases hB with rfl|⟨y,rfl,hy⟩
    ·simp at hm
    ·simp at hm;rw[hm,hy];omega
   ·have:=hC _ hm;omega
 have hB2:(A++B++C)[A.length]?=(B++C)[0]?:=by rw[List.append_assoc,List.getElem?_append_right (Nat.le_refl _),Nat.sub_self]
 have hAL:A.length≤(A++B++C).length:=by simp
 generalize A++B++C=L at hget hB2 hl hAL ⊢;refine Rn.eq ?_;unfold bsG;refine Rn.lt (Rn.bn (P:=fun i=>i=(A.length:Int)) (zI _ (fun q a=>∃ lo hi:Nat,a=((lo:Int),(hi:Int))∧lo≤A.length∧A.length≤hi∧hi≤L.length∧hi - lo<2 ^ (48 - q)) 48 (by unfold big;omega) ⟨0,L.length,rfl,by omega,hAL,Nat.le_refl _,by omega⟩ fun q a hq hI=>?_) fun i hi=>?_)
 ·obtain⟨lo,hi,rfl,h1,h2,h3,h4⟩:=hI;refine Rn.lt (zB (fun hg=>?_) (fun hg=>Rn.some ?_))
  ·have hg:=Eu hg;simp only at hg;have hq2:q<48:=by
    apply Nat.lt_of_not_le;intro h;have:48 - q=0:=by omega
    rw[this] at h4;omega
   have e48:48 - q=(48 - (q+1))+1:=by omega
   rw[e48,Nat.pow_succ] at h4;refine Rn.lt (Rn.lt ?_);rw[As (by simp only;omega) (by simp only;omega),P3 (by simp only;omega) (by simp only;omega)];refine zA (shr1 (by simp only;omega)) (Rn.lt ?_);rw[C8 (by simp only;omega) (by simp only;omega)];have em:((lo:Int)+(hi:Int)) / 2=(((lo+hi) / 2:Nat):Int):=by omega
   simp only;rw[em];have hm:(lo+hi) / 2<L.length:=by omega
   have hge:=hget _ _ (List.getElem?_eq_getElem hm);refine zA (Au hm) (zA (hc _) (Rn.lt (zB (fun hc=>Rn.lt (Rn.some ⟨hq2,(lo+hi) / 2+1,hi,?_,?_⟩)) (fun hc=>Rn.some ⟨hq2,lo,(lo+hi) / 2,rfl,?_⟩))))
   ·rw[As (by omega) (by omega)];exact congrArg (·,(hi:Int)) (by omega)
   ·rw[decide_eq_true (Eu hc)] at hge;have:=of_decide_eq_true hge.symm;refine⟨?_,h2,h3,?_⟩ <;> omega
   ·rw[decide_eq_false (show ¬ _ by have:=Ev hc;omega)] at hge;have:=of_decide_eq_false hge.symm;refine⟨h1,?_,?_,?_⟩ <;> omega
  ·have hg:=Ev hg;simp only at hg ⊢;omega
 ·subst hi;refine Rn.bn (P:=fun b=>b=!B.isEmpty) ?_ fun b hb=>Rn.some (by rw[hb]);refine Rn.lt (zB (fun hg=>?_) (fun hg=>Rn.some ?_))
  ·have hg:=Eu hg;simp only[lenI] at hg;have hm:A.length<L.length:=by omega
   refine zA (Au hm) (zA (hc _) (Rn.lt (Rn.some ?_)));rw[List.getElem?_eq_getElem hm] at hB2;rcases hB with rfl|⟨y,rfl,hy⟩
   ·have hc:=hC L[A.length] (List.mem_of_getElem? (by simpa using hB2.symm));have hne:¬ c L[A.length]=0:=by omega
    simp[eqI,hne]
   ·simp at hB2;rw[hB2,hy];simp[eqI]
  ·have hg:=Ev hg;simp only[lenI] at hg;have e:L[A.length]?=none:=List.getElem?_eq_none (by omega);rw[e] at hB2;rcases hB with rfl|⟨y,rfl,hy⟩
   ·rfl
   ·simp at hB2
theorem JD (A B C:List Move) (s:Int) (hA:∀ a∈A,a.slot<s) (hC:∀ x∈C,s<x.slot) (hB:B=[]∨∃ x,B=[x]∧x.slot=s) (hl:(A++B++C).length≤1000) :
  Dm big (A++B++C) s=some ((A.length:Int),!B.isEmpty):=by
 have h:=Qi (fun m:Move=>B5 big m s) (fun m=>cmpI m.slot s) (fun x=>by unfold B5;rw[HN];rfl) A B C (fun a ha=>KO.2 (hA a ha)) (fun a ha=>KP.2 (hC a ha)) (hB.imp id fun ⟨x,h1,h2⟩=>⟨x,h1,Hx.2 h2⟩) (by omega);unfold Dm;rw[show Bo big (A++B++C) s=bsG (fun m:Move=>B5 big m s) (A++B++C) from rfl,h];rfl
end Go.Proofs.YtlbdhlbbkibgpaaGreat
