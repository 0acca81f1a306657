/- Part 3 of the proof. -/
import Derived.Test.YtenemndpignaoaaPd2
set_option linter.unusedVariables false
set_option linter.unusedSimpArgs false
set_option linter.constructorNameAsVariable false
set_option maxRecDepth 8000
set_option maxHeartbeats 8000000
namespace Go.Proofs.Ytenemndpignaoaa
open Go Go.RowKit
def BX (n:Nat) (a0:List Int) (a1:Int):Option (List Int) :=
lt (lenI a0) fun v1 =>
bn (iter n (fun (y2:Int) =>
bn (lt (gtI y2 0) fun v6 =>
ite' v6 (lt (subI .i64 y2 1) fun v7 =>
bn (nth a0 v7) fun v8 =>
lt (geI v8 a1) fun v9 =>
some (v9)) (some (false))) fun (y5:Bool) =>
lt (y5) fun v10 =>
ite' v10 (lt (subI .i64 y2 1) fun v11 =>
some (.inl v11)) (some (.inr y2))) v1) fun (y3:Int) =>
bn (lt (ltI a1 0) fun v13 =>
ite' v13 (some (true)) (lt (gtI a1 16384) fun v14 =>
ite' v14 (some (true)) (lt (lenI a0) fun v15 =>
lt (ltI y3 v15) fun v16 =>
ite' v16 (bn (nth a0 y3) fun v17 =>
lt (eqI v17 a1) fun v18 =>
some (v18)) (some (false))))) fun (y12:Bool) =>
lt (y12) fun v19 =>
ite' v19 (some a0) (bn (segh a0 y3) fun v20 =>
chk (room v20.length 8) <|
chk (room (v20.length+1) 8) <|
lt (v20++[a1]) fun v24 =>
bn (segl a0 y3) fun v25 =>
chk (room (v24.length+v25.length) 8) <|
lt (v24++v25) fun v28 =>
chk (room v28.length 1) <|
some v28)
theorem G0 {n:Nat} {a0:List Int} {a1:Int} {r:List Int} (h:BX n a0 a1=some r):Sound Try.prog 39 [.l (dC a0),.l (iA a1)] [] (.l (dC r)) []:=by
 unfold BX at h;refine SO 57 Try.func39 fun cx hG (hz:cx.nb=0)=>?_;simp only[it];refine ST ?_;obtain⟨v1,e1,h⟩:=ltE h;refine AW.step (by simp[Ao e1];intros;rfl) ?_;apply AW.seq;apply AW.block;obtain⟨y3,g3,h⟩:=bnE h;refine zE g3 (mk:=fun gh ls q=>(⟨[(0,.l (dC a0)),(1,.l (iA a1)),(5,.l (iA q))],[],57,gh,ls⟩:St)) (N:=fun gh ls=>(xP 0 (cx:=cx) (fun q=>(⟨[(0,.l (dC a0)),(1,.l (iA a1)),(5,.l (iA q))],[],57,gh,ls⟩:St)))) ?_ noX ?_ ?_
 ·exact WM [] hz
 ·clear h;intro y2 y4 h
  apply AW.seq;obtain⟨y5,g5,h⟩:=bnE h;refine zD (p:=fun gh ls=>(nP (cx:=cx) (fun q=>(⟨[(0,.l (dC a0)),(1,.l (iA a1)),(5,.l (iA y2)),(19,.l (bA q))],[],57,gh,ls⟩:St))) y5) ?_ ?_
  ·replace h:=g5;clear g5
   obtain⟨v6,e6,h⟩:=ltE h;cases v6 with
   |true=>
    replace h:=iT h;obtain⟨v7,e7,v8,e8,h⟩:=olb h;obtain⟨v9,e9,h⟩:=ltE h;refine AW.last (by simp[← e6,← e7,Aa e8,← e9];intros;rfl) ?_;obtain rfl:=oi h;exact nP_i (WM [] hz)
   |false=>
    replace h:=iF h;refine AW.last (by simp[← e6];intros;rfl) ?_;obtain rfl:=oi h;exact nP_i (WM [] hz)
  ·rintro e s⟨rfl,hw⟩;refine⟨_,hw,?_⟩;try simp only[nm]
   obtain⟨v10,e10,h⟩:=ltE h;rw[← e10];cases v10 with
   |true=>
    replace h:=iT h;refine CT ?_;apply AW.skip;try simp only[nm]
    apply AW.block;obtain⟨v11,e11,h⟩:=ltE h;refine AW.last (by simp[← e11];intros;rfl) ?_;obtain rfl:=oi h;exact nP_i (WM [] hz)
   |false=>
    replace h:=iF h;refine CF ?_;apply AW.exit;try simp only[nm]
    obtain rfl:=oi h;refine xP_i ?_;exact WM [] hz
 ·rintro e s⟨rfl,hw⟩;refine⟨_,hw,?_⟩;try simp only[nm]
  apply AW.seq;obtain⟨y12,g12,h⟩:=bnE h;refine zD (p:=fun gh ls=>(nP (cx:=cx) (fun q=>(⟨[(0,.l (dC a0)),(1,.l (iA a1)),(5,.l (iA y3)),(41,.l (bA q))],[],57,gh,ls⟩:St))) y12) ?_ ?_
  ·replace h:=g12;clear g12
   obtain⟨v13,e13,h⟩:=ltE h;cases v13 with
   |true=>
    replace h:=iT h;refine AW.last (by simp[← e13];intros;rfl) ?_;obtain rfl:=oi h;exact nP_i (WM [] hz)
   |false=>
    replace h:=iF h;obtain⟨v14,e14,h⟩:=ltE h;cases v14 with
    |true=>
     replace h:=iT h;refine AW.last (by simp[← e13,← e14];intros;rfl) ?_;obtain rfl:=oi h;exact nP_i (WM [] hz)
    |false=>
     replace h:=iF h;obtain⟨v15,e15,v16,e16,h⟩:=oll h;cases v16 with
     |true=>
      replace h:=iT h;obtain⟨v17,e17,v18,e18,h⟩:=obl h;refine AW.last (by simp[← e13,← e14,Ao e15,← e16,Aa e17,← e18];intros;rfl) ?_;obtain rfl:=oi h;exact nP_i (WM [] hz)
     |false=>
      replace h:=iF h;refine AW.last (by simp[← e13,← e14,Ao e15,← e16];intros;rfl) ?_;obtain rfl:=oi h;exact nP_i (WM [] hz)
  ·rintro e s⟨rfl,hw⟩;refine⟨_,hw,?_⟩;try simp only[nm]
   obtain⟨v19,e19,h⟩:=ltE h;rw[← e19];cases v19 with
   |true=>
    replace h:=iT h;refine CT ?_;refine ST ?_;obtain rfl:=oi h;apply AW.ret;exact LP hz
   |false=>
    replace h:=iF h;refine CF ?_;apply AW.skip;try simp only[nm]
    obtain⟨v20,e20,h⟩:=bnE h;have f21:=GX e20;try simp at f21
    obtain⟨e22,h⟩:=chkE h;apply AW.step
    ·simp[f21];intros;refine Bo ?_;try simp[f21]
     intros;refine Bv (acc:=[]) (ys:=encI v20) (cap:=none) (k:=v20.length) FA Ge (by simp) (by rw[IK];simp) (by simp) (by simp) (by simp) (by first|(simp;done)|simpa using (Bm e22).1) ?_;try simp[f21]
     intros;rfl
    obtain⟨e23,h⟩:=chkE h;obtain⟨v24,e24,h⟩:=ltE h;apply AW.step
    ·simp[← CX,← e24,Az e24];intros;refine Bo ?_;try simp[← CX,← e24,Az e24]
     intros;refine Bv (acc:=encI v20) (ys:=encI [a1]) (cap:=none) (k:=1) FA Ge (by simp) (by simp[encI,lvs]) (Cw _) (by simp) (by simp) (by first|(simp;done)|simpa using (Bm e23).1) ?_;try simp[← CX,← e24,Az e24]
     intros;rfl
    obtain⟨v25,e25,h⟩:=bnE h;have f26:=Jl e25;try simp at f26
    obtain⟨e27,h⟩:=chkE h;obtain⟨v28,e28,h⟩:=ltE h;apply AW.step
    ·simp[f26,← CX,← e28,It e28];intros;refine Bv (acc:=encI v24) (ys:=encI v25) (cap:=none) (k:=v25.length) FA Ge (by simp) (by rw[IK];simp) (Cw _) (by simp) (by simp) (by first|(simp;done)|simpa using (Bm e27).1) ?_;try simp[f26,← CX,← e28,It e28]
     intros;rfl
    obtain⟨e29,h⟩:=chkE h;refine FZ 4 3 1 (Cw v28) e29 ?_;obtain rfl:=oi h;apply AW.ret;exact LP hz
theorem Gg:Enters Try.prog 39:=enters Try.func39 (by kernel_rfl) rfl
def Dx (n:Nat) (a0:List Span) (a1:List Span):Option (List Int) :=
chk (room 2 1) <|
bn (iter n (fun (y1:List Int×Int) =>
lt (lenI a0) fun v5 =>
lt (lenI a1) fun v6 =>
lt (addI .i64 v5 v6) fun v7 =>
lt (ltI y1.2 v7) fun v8 =>
ite' v8 (bn (bn (lt (ltI y1.2 v5) fun v11 =>
ite' v11 (bn (nth a0 y1.2) fun v12 =>
some (v12)) (lt (subI .i64 y1.2 v5) fun v13 =>
bn (nth a1 v13) fun v14 =>
some (v14))) fun (y10:Span) =>
bn (lt (leI y10.frm y10.to) fun v16 =>
ite' v16 (bn (BX n y1.1 y10.frm) fun v17 =>
some (v17)) (some (y1.1))) fun (y15:List Int) =>
bn (lt (leI y10.frm y10.to) fun v19 =>
ite' v19 (lt (ltI y10.to 16384) fun v20 =>
some (v20)) (some (false))) fun (y18:Bool) =>
lt (y18) fun v21 =>
ite' v21 (lt (addI .i64 y10.to 1) fun v22 =>
bn (BX n y15 v22) fun v23 =>
some (v23)) (some (y15))) fun (y9:List Int) =>
lt (addI .i64 y1.2 1) fun v24 =>
some (.inl (y9,v24))) (some (.inr y1.1))) ([0,16384],0)) fun (y2:List Int) =>
some y2
theorem IS {n:Nat} {a0:List Span} {a1:List Span} {r:List Int} (h:Dx n a0 a1=some r):Sound Try.prog 64 [.l (dA a0),.l (dA a1)] [] (.l (dC r)) []:=by
 unfold Dx at h;refine SO 59 Try.func64 fun cx hG (hz:cx.nb=0)=>?_;simp only[it];refine ST ?_;apply AW.step
 ·simp;intros;refine Bo ?_;try simp
  intros;rfl
 apply AW.seq;refine ST ?_;apply AW.block;obtain⟨e3,h⟩:=chkE h;obtain⟨y2,g2,h⟩:=bnE h;refine zE g2 (mk:=fun gh ls q=>(⟨[(0,.l (dA a0)),(1,.l (dA a1)),(5,.l (dC q.1)),(6,.l (iA q.2))],[],59,gh,ls⟩:St)) (N:=fun gh ls=>(xP 0 (cx:=cx) (fun q=>(⟨[(5,.l (dC q))],[],59,gh,ls⟩:St)))) ?_ noX ?_ ?_
 ·refine W.frzRow 0 (ty:=3) (cap:=none) (sz:=1) (es:=encI [0,16384]) (by simp[encI,lvs]) (by omega) (Cw _) (by first|exact (Bm e3).2|simpa using (Bm e3).2|simp) (by simp[Tm.frz,AV.frz,LV.frz,(show List.take 2 (encI [0,16384])=encI [0,16384] from rfl)];rfl) (by simp[Ob.frz,LV.frz,(show List.take 2 (encI [0,16384])=encI [0,16384] from rfl)];rfl) rfl ?_;exact WM [] hz
 ·clear h;intro y1 y4 h
  apply AW.seq;obtain⟨v5,e5,v6,e6,h⟩:=oll h;obtain⟨v7,e7,v8,e8,h⟩:=oll h;refine AW.step (by simp[Ao e5,Ao e6,← e7,← e8];intros;rfl) ?_;cases v8 with
  |true=>
   replace h:=iT h;refine CT ?_;apply AW.skip;try simp only[nm]
   obtain⟨y9,g9,h⟩:=bnE h;refine zD (p:=fun gh ls=>(nP (cx:=cx) (fun q=>(⟨[(0,.l (dA a0)),(1,.l (dA a1)),(5,.l (dC q)),(6,.l (iA y1.2))],[],59,gh,ls⟩:St))) y9) ?_ ?_
   ·replace h:=g9;clear g9
    apply AW.block;refine ST ?_;obtain⟨y10,g10,h⟩:=bnE h;refine zD (p:=fun gh ls=>(nP (cx:=cx) (fun q=>(⟨[(0,.l (dA a0)),(1,.l (dA a1)),(5,.l (dC y1.1)),(6,.l (iA y1.2)),(7,.l (.p 0 0))],[some ⟨59,2,false,none,[iA q.frm,iA q.to]⟩],59,gh,ls⟩:St))) y10) ?_ ?_
    ·replace h:=g10;clear g10
     obtain⟨v11,e11,h⟩:=ltE h;refine AW.step (by simp[Ao e5,← e11];intros;rfl) ?_;cases v11 with
     |true=>
      replace h:=iT h;refine CT ?_;obtain⟨v12,e12,h⟩:=bnE h;refine AW.last (by simp[Aa e12];intros;rfl) ?_;obtain rfl:=oi h;exact nP_i (WM [0] hz)
     |false=>
      replace h:=iF h;refine CF ?_;obtain⟨v13,e13,v14,e14,h⟩:=olb h;refine AW.last (by simp[Ao e5,← e13,Aa e14];intros;rfl) ?_;obtain rfl:=oi h;exact nP_i (WM [0] hz)
    ·rintro e s⟨rfl,hw⟩;refine⟨_,hw,?_⟩;try simp only[nm]
     obtain⟨y15,g15,h⟩:=bnE h;refine zD (p:=fun gh ls=>(nP (cx:=cx) (fun q=>(⟨[(0,.l (dA a0)),(1,.l (dA a1)),(5,.l (dC q)),(6,.l (iA y1.2)),(7,.l (.p 0 0))],[some ⟨59,2,false,none,[iA y10.frm,iA y10.to]⟩],59,gh,ls⟩:St))) y15) ?_ ?_
     ·replace h:=g15;clear g15
      obtain⟨v16,e16,h⟩:=ltE h;refine AW.step (by simp[← e16];intros;rfl) ?_;cases v16 with
      |true=>
       replace h:=iT h;refine CT ?_;obtain⟨v17,e17,h⟩:=bnE h;apply AW.last
       ·simp;intros;refine Aj Gg (G0 e17) rfl ⟨.same rfl,.same rfl,trivial⟩ ?_;try simp
        intros;rfl
       obtain rfl:=oi h;exact nP_i (WM [0] hz)
      |false=>
       replace h:=iF h;refine CF ?_;apply AW.skip;try simp only[nm]
       obtain rfl:=oi h;exact nP_i (WM [0] hz)
     ·rintro e s⟨rfl,hw⟩;refine⟨_,hw,?_⟩;try simp only[nm]
      obtain⟨y18,g18,h⟩:=bnE h;refine zD (p:=fun gh ls=>(nP (cx:=cx) (fun q=>(⟨[(0,.l (dA a0)),(1,.l (dA a1)),(5,.l (dC y15)),(6,.l (iA y1.2)),(7,.l (.p 0 0)),(52,.l (bA q))],[some ⟨59,2,false,none,[iA y10.frm,iA y10.to]⟩],59,gh,ls⟩:St))) y18) ?_ ?_
      ·replace h:=g18;clear g18
       obtain⟨v19,e19,h⟩:=ltE h;cases v19 with
       |true=>
        replace h:=iT h;obtain⟨v20,e20,h⟩:=ltE h;refine AW.last (by simp[← e19,← e20];intros;rfl) ?_;obtain rfl:=oi h;exact nP_i (WM [0] hz)
       |false=>
        replace h:=iF h;refine AW.last (by simp[← e19];intros;rfl) ?_;obtain rfl:=oi h;exact nP_i (WM [0] hz)
      ·rintro e s⟨rfl,hw⟩;refine⟨_,hw,?_⟩;try simp only[nm]
       obtain⟨v21,e21,h⟩:=ltE h;rw[← e21];cases v21 with
       |true=>
        replace h:=iT h;refine CT ?_;obtain⟨v22,e22,v23,e23,h⟩:=olb h;apply AW.last
        ·simp[← e22];intros;refine Aj Gg (G0 e23) rfl ⟨.same rfl,.same rfl,trivial⟩ ?_;try simp[← e22]
         intros;rfl
        obtain rfl:=oi h;exact nP_i (WM [] hz)
       |false=>
        replace h:=iF h;refine CF ?_;apply AW.skip;try simp only[nm]
        obtain rfl:=oi h;exact nP_i (WM [] hz)
   ·rintro e s⟨rfl,hw⟩;refine⟨_,hw,?_⟩;try simp only[nm]
    obtain⟨v24,e24,h⟩:=ltE h;refine AW.last (by simp[← e24];intros;rfl) ?_;obtain rfl:=oi h;exact nP_i (WM [] hz)
  |false=>
   replace h:=iF h;refine CF ?_;apply AW.exit;try simp only[nm]
   obtain rfl:=oi h;refine xP_i ?_;exact WM [] hz
 ·rintro e s⟨rfl,hw⟩;refine⟨_,hw,?_⟩;try simp only[nm]
  refine ST ?_;obtain rfl:=oi h;apply AW.ret;exact LP hz
theorem Ic:Enters Try.prog 64:=enters Try.func64 (by kernel_rfl) rfl
def C9 (n:Nat) (a0:List Span) (a1:Int):Option Bool :=
bn (iter n (fun (y1:Int) =>
lt (lenI a0) fun v4 =>
lt (ltI y1 v4) fun v5 =>
ite' v5 (bn (lt (geI a1 0) fun v7 =>
ite' v7 (lt (ltI a1 16384) fun v8 =>
ite' v8 (bn (nth a0 y1) fun v9 =>
lt (leI v9.frm a1) fun v10 =>
ite' v10 (lt (leI a1 v9.to) fun v11 =>
some (v11)) (some (false))) (some (false))) (some (false))) fun (y6:Bool) =>
lt (y6) fun v12 =>
ite' v12 (some (.inr (.inr true))) (lt (addI .i64 y1 1) fun v13 =>
some (.inl v13))) (some (.inr (.inl ())))) 0) fun (y2:Unit ⊕ Bool) =>
sm y2 (fun y14=>some false) (fun y15=>some y15)
theorem HO {n:Nat} {a0:List Span} {a1:Int} {r:Bool} (h:C9 n a0 a1=some r):Sound Try.prog 40 [.l (dA a0),.l (iA a1)] [] (.l (bA r)) []:=by
 unfold C9 at h;refine SO 36 Try.func40 fun cx hG (hz:cx.nb=0)=>?_;simp only[it];refine ST ?_;apply AW.seq;refine ST ?_;apply AW.block;obtain⟨y2,g2,h⟩:=bnE h;refine zE g2 (mk:=fun gh ls q=>(⟨[(0,.l (dA a0)),(1,.l (iA a1)),(5,.l (iA q))],[],36,gh,ls⟩:St)) (N:=fun gh ls=>(sp (xP 0 (cx:=cx) (fun _=>(⟨[],[],36,gh,ls⟩:St))) (rP (cx:=cx) (P:=Try.prog) Try.f40 (fun q=>.l (bA q)) (fun q=>[])))) ?_ (noS noX noR) ?_ ?_
 ·exact WM [] hz
 ·clear h;intro y1 y3 h
  apply AW.seq;obtain⟨v4,e4,v5,e5,h⟩:=oll h;refine AW.step (by simp[Ao e4,← e5];intros;rfl) ?_;cases v5 with
  |true=>
   replace h:=iT h;refine CT ?_;apply AW.skip;try simp only[nm]
   apply AW.seq;apply AW.block;obtain⟨y6,g6,h⟩:=bnE h;refine zD (p:=fun gh ls=>(nP (cx:=cx) (fun q=>(⟨[(0,.l (dA a0)),(1,.l (iA a1)),(5,.l (iA y1)),(35,.l (bA q))],[],36,gh,ls⟩:St))) y6) ?_ ?_
   ·replace h:=g6;clear g6
    obtain⟨v7,e7,h⟩:=ltE h;cases v7 with
    |true=>
     replace h:=iT h;obtain⟨v8,e8,h⟩:=ltE h;cases v8 with
     |true=>
      replace h:=iT h;obtain⟨v9,e9,v10,e10,h⟩:=obl h;cases v10 with
      |true=>
       replace h:=iT h;obtain⟨v11,e11,h⟩:=ltE h;refine AW.last (by simp[← e7,← e8,Aa e9,← e10,← e11];intros;rfl) ?_;obtain rfl:=oi h;exact nP_i (WM [] hz)
      |false=>
       replace h:=iF h;refine AW.last (by simp[← e7,← e8,Aa e9,← e10];intros;rfl) ?_;obtain rfl:=oi h;exact nP_i (WM [] hz)
     |false=>
      replace h:=iF h;refine AW.last (by simp[← e7,← e8];intros;rfl) ?_;obtain rfl:=oi h;exact nP_i (WM [] hz)
    |false=>
     replace h:=iF h;refine AW.last (by simp[← e7];intros;rfl) ?_;obtain rfl:=oi h;exact nP_i (WM [] hz)
   ·rintro e s⟨rfl,hw⟩;refine⟨_,hw,?_⟩;try simp only[nm]
    obtain⟨v12,e12,h⟩:=ltE h;rw[← e12];cases v12 with
    |true=>
     replace h:=iT h;refine CT ?_;refine ST ?_;obtain rfl:=oi h;apply AW.ret;try simp only[nm]
     refine rP_i ?_;exact LP hz
    |false=>
     replace h:=iF h;refine CF ?_;apply AW.skip;try simp only[nm]
     obtain⟨v13,e13,h⟩:=ltE h;refine AW.last (by simp[← e13];intros;rfl) ?_;obtain rfl:=oi h;exact nP_i (WM [] hz)
  |false=>
   replace h:=iF h;refine CF ?_;apply AW.exit;try simp only[nm]
   obtain rfl:=oi h;try simp only[sp_l,sp_r]
   refine xP_i ?_;exact WM [] hz
 ·rintro e s hp;rcases y2 with y14|y15
  ·replace h:=smL h;obtain⟨rfl,hw⟩:=hp;refine⟨_,hw,?_⟩;try simp only[nm]
   refine ST ?_;obtain rfl:=oi h;apply AW.ret;exact LP hz
  ·replace h:=smR h;obtain⟨rfl,hl⟩:=hp;refine⟨_,Weak.refl _,?_⟩;obtain rfl:=oi h;exact hl
theorem G1:Enters Try.prog 40:=enters Try.func40 (by kernel_rfl) rfl
def EK (n:Nat) (a0:Int) (a1:List Span) (a2:List Span):Option (List Span) :=
bn (Dx n a1 a2) fun v1 =>
bn (iter n (fun (y2:Int×List Span) =>
lt (addI .i64 y2.1 1) fun v5 =>
lt (lenI v1) fun v6 =>
lt (ltI v5 v6) fun v7 =>
ite' v7 (bn (bn (nth v1 y2.1) fun v9 =>
bn (C9 n a1 v9) fun v10 =>
bn (C9 n a2 v9) fun v11 =>
bn (ite' v10 (some ((true,true))) (some ((false,v11)))) fun (y12:Bool×Bool) =>
bn (lt (eqI a0 1) fun v14 =>
ite' v14 (lt (y12.1) fun v15 =>
ite' v15 (lt (notB v11) fun v16 =>
some (v16)) (some (false))) (lt (eqI a0 2) fun v17 =>
ite' v17 (lt (y12.1) fun v18 =>
ite' v18 (some (v11)) (some (false))) (some (y12.2)))) fun (y13:Bool) =>
lt (notB y13) fun v19 =>
ite' v19 (some (y2.2)) (bn (lt (lenI y2.2) fun v21 =>
lt (gtI v21 0) fun v22 =>
ite' v22 (lt (subI .i64 v21 1) fun v23 =>
bn (nth y2.2 v23) fun v24 =>
bn (nth v1 y2.1) fun v26 =>
lt (subI .i64 v26 1) fun v27 =>
lt (eqI v24.to v27) fun v28 =>
some (v28)) (some (false))) fun (y20:Bool) =>
lt (y20) fun v29 =>
ite' v29 (lt (lenI y2.2) fun v30 =>
lt (subI .i64 v30 1) fun v31 =>
lt (addI .i64 y2.1 1) fun v32 =>
bn (nth v1 v32) fun v33 =>
lt (subI .i64 v33 1) fun v34 =>
bn (nth y2.2 v31) fun v35 =>
lt (y2.2.set v31.toNat (⟨v35.frm,v34⟩:Span)) fun v37 =>
some (v37)) (bn (nth v1 y2.1) fun v40 =>
lt (addI .i64 y2.1 1) fun v41 =>
bn (nth v1 v41) fun v42 =>
lt (subI .i64 v42 1) fun v43 =>
chk (room (y2.2.length+1) 16) <|
lt (y2.2++[(⟨v40,v43⟩:Span)]) fun v45 =>
some (v45)))) fun (y8:List Span) =>
lt (addI .i64 y2.1 1) fun v46 =>
some (.inl (v46,y8))) (some (.inr y2.2))) (0,[])) fun (y3:List Span) =>
chk (room y3.length 1) <|
some y3
def DX1t1:List DI:=[⟨[0],[],[(8,none)],false⟩,⟨[0],[0],[(71,some 0)],false⟩,⟨[0],[0,1],[(72,some 1)],false⟩,⟨[0],[0,1,2],[(73,some 2)],false⟩,⟨[0],[0,1,2,3],[(8,none),(74,some 3)],false⟩,⟨[0],[0,1,2,3],[(8,none),(74,some 3)],false⟩,⟨[0],[0,1,2,3,5],[(74,some 3),(76,some 5)],false⟩,⟨[0],[0,1,2,3,5,6],[(74,some 3),(77,some 6)],false⟩,⟨[0],[0,1,2,3,4,5,6,7],[(74,some 3),(75,some 4),(78,some 7)],false⟩,⟨[0],[0,1,2,3,4,5,6,7,8],[(74,some 3),(79,some 8)],false⟩,⟨[0],[0,1,2,3,4,5,6,7,8,9],[(74,some 3),(80,some 9)],false⟩,⟨[0],[0,1,2,3],[(7,none),(74,some 3)],false⟩,⟨[0],[0,1,2,3],[(9,none),(74,some 3)],false⟩,⟨[0],[0,1,2,3,11,12],[(74,some 3),(82,some 11),(83,some 12)],false⟩,⟨[0],[0,1,2,3,11,12,13],[(74,some 3),(84,some 13)],false⟩,⟨[0],[0,1,2,3,11,12,13,14],[(74,some 3),(85,some 14)],false⟩,⟨[],[0,1,2,3,4,5,6,7,8,9,10,11,12,13,14,15],[],false⟩,⟨[],[0,1,2,3,4,5,6,7,8,9,10,11,12,13,14,15,16],[],false⟩,⟨[],[0,1,2,3,4,5,6,7,8,9,10,11,12,13,14,15,16,17],[],false⟩]
theorem JS {n:Nat} {a0:Int} {a1:List Span} {a2:List Span} {r:List Span} (h:EK n a0 a1 a2=some r):Sound Try.prog 44 [.l (iA a0),.l (dA a1),.l (dA a2)] [] (.l (dA r)) []:=by
 unfold EK at h;refine SO 102 Try.func44 fun cx hG (hz:cx.nb=0)=>?_;simp only[it];refine ST ?_;obtain⟨v1,e1,h⟩:=bnE h;apply AW.step
 ·simp;intros;refine Aj Ic (IS e1) rfl ⟨.same rfl,.same rfl,trivial⟩ ?_;try simp
  intros;rfl
 refine ST ?_;apply AW.seq;refine ST ?_;apply AW.block;obtain⟨y3,g3,h⟩:=bnE h;refine zE g3 (mk:=fun gh ls q=>(⟨[(0,.l (iA a0)),(1,.l (dA a1)),(2,.l (dA a2)),(7,.l (dC v1)),(8,.l (.r 0 2 0 q.2.length)),(9,.l (iA q.1))],[some ⟨59,2,true,none,lvs (Ah q.2)⟩],102,gh,ls⟩:St)) (N:=fun gh ls=>(xP 0 (cx:=cx) (fun q=>(⟨[(8,.l (.r 0 2 0 q.length))],[some ⟨59,2,true,none,lvs (Ah q)⟩],102,gh,ls⟩:St)))) ?_ noX ?_ ?_
 ·refine W.nilRow 8 59 2 0 (by simp) rfl rfl ?_;exact WM [0] hz
 ·clear h;intro y2 y4 h
  apply AW.seq;obtain⟨v5,e5,v6,e6,h⟩:=oll h;obtain⟨v7,e7,h⟩:=ltE h;refine AW.step (by simp[← e5,Ao e6,← e7];intros;rfl) ?_;cases v7 with
  |true=>
   replace h:=iT h;refine CT ?_;apply AW.skip;try simp only[nm]
   obtain⟨y8,g8,h⟩:=bnE h;refine zD (p:=fun gh ls=>(nP (cx:=cx) (fun q=>(⟨[(0,.l (iA a0)),(1,.l (dA a1)),(2,.l (dA a2)),(7,.l (dC v1)),(8,.l (.r 0 2 0 q.length)),(9,.l (iA y2.1))],[some ⟨59,2,true,none,lvs (Ah q)⟩],102,gh,ls⟩:St))) y8) ?_ ?_
   ·replace h:=g8;clear g8
    apply AW.block;obtain⟨v9,e9,h⟩:=bnE h;obtain⟨v10,e10,h⟩:=bnE h;obtain⟨v11,e11,h⟩:=bnE h;apply zI (V:=[_,_,_,_,_,_,_,_,_,_,_]) mixed [⟨[0],[],[(1,none)],false⟩,⟨[0],[],[(7,none)],false⟩,⟨[0],[],[(9,none)],false⟩,⟨[0],[1,2],[(24,some 1),(25,some 2)],false⟩,⟨[0],[1,2,3],[(26,some 3)],false⟩,⟨[0],[0,1,2,3,4],[(23,some 0),(27,some 4)],false⟩,⟨[0],[],[(2,none)],false⟩,⟨[0],[],[(7,none)],false⟩,⟨[0],[],[(9,none)],false⟩,⟨[0],[7,8],[(30,some 7),(31,some 8)],false⟩,⟨[0],[7,8,9],[(32,some 9)],false⟩,⟨[],[0,1,2,3,4,5,6,7,8,9,10],[],false⟩,⟨[],[0,1,2,3,4,5,6,7,8,9,10,11],[],false⟩,⟨[],[0,1,2,3,4,5,6,7,8,9,10,11,12],[],false⟩] 11 (by kernel_rfl) (by kernel_rfl)
    ·refine⟨?_,?_,?_,?_,?_,?_,?_,?_,?_,?_,?_,trivial⟩;iterate 5 (· intro tm hr;simp[AllL,rdV] at hr;simp[hr,Aa e9];intros;exact KA)
     ·intro tm hr;simp[AllL,rdV] at hr;simp[hr,Aa e9];intros;refine Aj G1 (HO e10) rfl ⟨.same rfl,.same rfl,trivial⟩ ?_;try simp[Aa e9]
      intros;exact KA
     iterate 5 (· intro tm hr;simp[AllL,rdV] at hr;simp[hr,Aa e9];intros;exact KA)
    ·rfl
    ·simp[tmD,putD,Aa e9];rfl
    ·simp[Aa e9];intros;refine Aj G1 (HO e11) rfl ⟨.same rfl,.same rfl,trivial⟩ ?_;try simp[Aa e9]
     intros;rfl
    obtain⟨y12,g12,h⟩:=bnE h;refine zD (p:=fun gh ls=>(nP (cx:=cx) (fun q=>(⟨[(0,.l (iA a0)),(1,.l (dA a1)),(2,.l (dA a2)),(7,.l (dC v1)),(8,.l (.r 0 2 0 y2.2.length)),(9,.l (iA y2.1)),(10,.l (bA q.1)),(11,.l (bA v11)),(12,.l (bA q.2))],[some ⟨59,2,true,none,lvs (Ah y2.2)⟩],102,gh,ls⟩:St))) y12) ?_ ?_
    ·replace h:=g12;clear g12
     cases v10 with
     |true=>
      replace h:=iT h;refine SL ?_;obtain rfl:=oi h;exact nP_i (WM [0] hz)
     |false=>
      replace h:=iF h;refine SL ?_;obtain rfl:=oi h;exact nP_i (WM [0] hz)
    ·rintro e s⟨rfl,hw⟩;refine⟨_,hw,?_⟩;try simp only[nm]
     obtain⟨y13,g13,h⟩:=bnE h;refine zD (p:=fun gh ls=>(nP (cx:=cx) (fun q=>(⟨[(0,.l (iA a0)),(1,.l (dA a1)),(2,.l (dA a2)),(7,.l (dC v1)),(8,.l (.r 0 2 0 y2.2.length)),(9,.l (iA y2.1)),(12,.l (bA q))],[some ⟨59,2,true,none,lvs (Ah y2.2)⟩],102,gh,ls⟩:St))) y13) ?_ ?_
     ·replace h:=g13;clear g13
      refine ST ?_;apply AW.block;obtain⟨v14,e14,h⟩:=ltE h;refine AW.step (by simp[← e14];intros;rfl) ?_;cases v14 with
      |true=>
       replace h:=iT h;refine CT ?_;obtain⟨v15,e15,h⟩:=ltE h;cases v15 with
       |true=>
        replace h:=iT h;obtain⟨v16,e16,h⟩:=ltE h;refine AW.last (by simp[← e15,← e16];intros;rfl) ?_;obtain rfl:=oi h;exact nP_i (WM [0] hz)
       |false=>
        replace h:=iF h;refine AW.last (by simp[← e15];intros;rfl) ?_;obtain rfl:=oi h;exact nP_i (WM [0] hz)
      |false=>
       replace h:=iF h;refine CF ?_;obtain⟨v17,e17,h⟩:=ltE h;refine AW.step (by simp[← e17];intros;rfl) ?_;cases v17 with
       |true=>
        replace h:=iT h;refine CT ?_;obtain⟨v18,e18,h⟩:=ltE h;cases v18 with
        |true=>
         replace h:=iT h;refine AW.last (by simp[← e18];intros;rfl) ?_;obtain rfl:=oi h;exact nP_i (WM [0] hz)
        |false=>
         replace h:=iF h;refine AW.last (by simp[← e18];intros;rfl) ?_;obtain rfl:=oi h;exact nP_i (WM [0] hz)
       |false=>
        replace h:=iF h;refine CF ?_;apply AW.skip;try simp only[nm]
        obtain rfl:=oi h;exact nP_i (WM [0] hz)
     ·rintro e s⟨rfl,hw⟩;refine⟨_,hw,?_⟩;try simp only[nm]
      apply AW.block;obtain⟨v19,e19,h⟩:=ltE h;refine AW.step (by simp[← e19];intros;rfl) ?_;cases v19 with
      |true=>
       replace h:=iT h;refine CT ?_;apply AW.exit;try simp only[nm]
       obtain rfl:=oi h;exact nP_i (WM [0] hz)
      |false=>
       replace h:=iF h;refine CF ?_;obtain⟨y20,g20,h⟩:=bnE h;refine zD (p:=fun gh ls=>(nP (cx:=cx) (fun q=>(⟨[(0,.l (iA a0)),(1,.l (dA a1)),(2,.l (dA a2)),(7,.l (dC v1)),(8,.l (.r 0 2 0 y2.2.length)),(9,.l (iA y2.1)),(70,.l (bA q))],[some ⟨59,2,true,none,lvs (Ah y2.2)⟩],102,gh,ls⟩:St))) y20) ?_ ?_
       ·replace h:=g20;clear g20
        obtain⟨v21,e21,v22,e22,h⟩:=oll h;cases v22 with
        |true=>
         replace h:=iT h;obtain⟨v23,e23,v24,e24,h⟩:=olb h;have f25:=Ai e24;try simp[Ao e21,← e22,← e23,Aa e24] at f25
         obtain⟨v26,e26,v27,e27,v28,e28,h⟩:=obll h;apply zH (V:=[_,_,_,_,_,_,_,_,_,_,_,_,_,_,_,_]) mixed DX1t1 16 (by kernel_rfl) (by kernel_rfl)
         ·refine⟨?_,?_,?_,?_,?_,?_,?_,?_,?_,?_,?_,?_,?_,?_,?_,?_,trivial⟩;iterate 16 (· intro tm hr;simp[AllL,rdV] at hr;simp[hr,Ao e21,← e22,← e23,Aa e24,f25,BG (Aa e24).2 (j:=1) (by decide),lvs1,Aa e26,← e27,← e28];intros;exact KA)
         ·rfl
         ·simp[tmD,putD,Ao e21,← e22,← e23,Aa e24,f25,BG (Aa e24).2 (j:=1) (by decide),lvs1,Aa e26,← e27,← e28];rfl
         ·simp[Ao e21,← e22,← e23,Aa e24,f25,BG (Aa e24).2 (j:=1) (by decide),lvs1,Aa e26,← e27,← e28];intros;rfl
         obtain rfl:=oi h;exact nP_i (WM [0] hz)
        |false=>
         replace h:=iF h;apply zH (V:=[_,_,_,_,_,_,_,_,_,_,_,_,_,_,_,_]) mixed DX1t1 16 (by kernel_rfl) (by kernel_rfl)
         ·refine⟨?_,?_,?_,?_,?_,?_,?_,?_,?_,?_,?_,?_,?_,?_,?_,?_,trivial⟩;iterate 16 (· intro tm hr;simp[AllL,rdV] at hr;simp[hr,Ao e21,← e22];intros;exact KA)
         ·rfl
         ·simp[tmD,putD,Ao e21,← e22];rfl
         ·simp[Ao e21,← e22];intros;rfl
         obtain rfl:=oi h;exact nP_i (WM [0] hz)
       ·rintro e s⟨rfl,hw⟩;refine⟨_,hw,?_⟩;try simp only[nm]
        obtain⟨v29,e29,h⟩:=ltE h;rw[← e29];cases v29 with
        |true=>
         replace h:=iT h;refine CT ?_;obtain⟨v30,e30,v31,e31,h⟩:=oll h;obtain⟨v32,e32,v33,e33,h⟩:=olb h;obtain⟨v34,e34,v35,e35,h⟩:=olb h;have f36:=Ai e35;try simp[Ao e30,← e31,← e32,Aa e33,← e34,Aa e35] at f36
         obtain⟨v37,e37,h⟩:=ltE h;have f38:=FO (Aa e35).2 e37 (j:=1) (cs:=[iA v34]) (by simp) rfl;try simp at f38
         have f39:=f36;try simp only[Ac e37] at f39
         refine AW.last (by simp[Ao e30,← e31,← e32,Aa e33,← e34,Aa e35,f36,DX (Aa e35).2 (j:=1) (m:=1) (by decide),f38,f39];intros;rfl) ?_;obtain rfl:=oi h;refine nP_i ?_;refine zK [some 0] hz (by decide) ?_ ?_ rfl;all_goals first|(simp[Ab,Af,pickOb,Ac e37];done)|rfl
        |false=>
         replace h:=iF h;refine CF ?_;obtain⟨v40,e40,v41,e41,h⟩:=obl h;obtain⟨v42,e42,v43,e43,h⟩:=obl h;obtain⟨e44,h⟩:=chkE h;obtain⟨v45,e45,h⟩:=ltE h;apply zL (V:=[_,_,_,_,_,_,_,_,_,_,_,_,_]) (M:=[[some ⟨59,2,true,none,lvs (Ah y2.2)⟩],[some ⟨59,2,true,none,lvs (Ah y2.2)⟩,some ⟨59,2,true,none,[iA v40,iA v43]⟩]]) mixed [⟨[0,1],[],[(8,none)],false⟩,⟨[0],[],[(7,none)],false⟩,⟨[0],[],[(9,none)],false⟩,⟨[0],[1,2],[(54,some 1),(55,some 2)],false⟩,⟨[0],[1,2,3],[(56,some 3)],false⟩,⟨[0],[],[(7,none)],false⟩,⟨[0],[],[(9,none)],false⟩,⟨[0],[6],[(59,some 6)],false⟩,⟨[0],[5,6,7],[(58,some 5),(60,some 7)],false⟩,⟨[0],[5,6,7,8],[(61,some 8)],false⟩,⟨[0],[5,6,7,8,9],[(62,some 9)],false⟩,⟨[0],[1,2,3,4,5,6,7,8,9,10],[(57,some 4),(63,some 10)],false⟩,⟨[0],[1,2,3,4,5,6,7,8,9,10,11],[(64,some 11)],true⟩,⟨[],[0,1,2,3,4,5,6,7,8,9,10,11,12],[],false⟩,⟨[],[0,1,2,3,4,5,6,7,8,9,10,11,12,13],[],false⟩] 13 1 (by kernel_rfl) (by kernel_rfl)
         ·rfl
         ·refine⟨⟨?_,?_⟩,?_,?_,?_,?_,?_,?_,?_,?_,?_,?_,?_,?_,trivial⟩;iterate 13 (· intro tm hr;simp[AllL,rdV] at hr;simp[hr,Aa e40,← e41,Aa e42,← e43,← At,← e45,Az e45];intros;exact KA)
          ·intro tm hr;simp[AllL,rdV] at hr;simp[hr,Aa e40,← e41,Aa e42,← e43,← At,← e45,Az e45];intros;refine Bo ?_;try simp[Aa e40,← e41,Aa e42,← e43,← At,← e45,Az e45]
           intros;exact KA
         ·rfl
         ·simp[tmD,putD,Aa e40,← e41,Aa e42,← e43,← At,← e45,Az e45];rfl
         ·simp[Aa e40,← e41,Aa e42,← e43,← At,← e45,Az e45];intros;refine Bv (acc:=Ah y2.2) (ys:=Ah [(⟨v40,v43⟩:Span)]) (cap:=none) (k:=1) Dg Df (by simp) (by simp[Ah,lvs]) (Bh _) (by simp) (by simp) (by first|(simp;done)|simpa using (Bm e44).1) ?_;try simp[Aa e40,← e41,Aa e42,← e43,← At,← e45,Az e45]
          intros;rfl
         obtain rfl:=oi h;refine nP_i ?_;refine zK [some 2] hz (by decide) ?_ ?_ rfl;all_goals first|(simp[Ab,Af,pickOb,BF];done)|rfl
   ·rintro e s⟨rfl,hw⟩;refine⟨_,hw,?_⟩;try simp only[nm]
    obtain⟨v46,e46,h⟩:=ltE h;refine AW.last (by simp[← e46];intros;rfl) ?_;obtain rfl:=oi h;exact nP_i (WM [0] hz)
  |false=>
   replace h:=iF h;refine CF ?_;apply AW.exit;try simp only[nm]
   obtain rfl:=oi h;refine xP_i ?_;exact WM [0] hz
 ·rintro e s⟨rfl,hw⟩;refine⟨_,hw,?_⟩;try simp only[nm]
  refine ST ?_;obtain⟨e47,h⟩:=chkE h;refine FZ 0 59 2 (Bh y3) e47 ?_;obtain rfl:=oi h;apply AW.ret;exact LP hz
theorem Jp:Enters Try.prog 44:=enters Try.func44 (by kernel_rfl) rfl
def BY (n:Nat) (a0:List Span):Option (List Span) :=
bn (EK n 0 a0 []) fun v1 =>
some v1
theorem G2 {n:Nat} {a0:List Span} {r:List Span} (h:BY n a0=some r):Sound Try.prog 30 [.l (dA a0)] [] (.l (dA r)) []:=by
 unfold BY at h;refine SO 5 Try.func30 fun cx hG (hz:cx.nb=0)=>?_;simp only[it];refine ST ?_;obtain⟨v1,e1,h⟩:=bnE h;apply AW.step
 ·simp;intros;refine Aj Jp (JS e1) rfl ⟨.same rfl,.same rfl,.nil _ _,trivial⟩ ?_;try simp
  intros;rfl
 obtain rfl:=oi h;apply AW.ret;exact LP hz
theorem Gh:Enters Try.prog 30:=enters Try.func30 (by kernel_rfl) rfl
def ED (n:Nat) (a0:List Int) (a1:List Claim):Option (List Int) :=
bn (iter n (fun (y1:List Int×Int) =>
lt (lenI a1) fun v4 =>
lt (ltI y1.2 v4) fun v5 =>
ite' v5 (bn (nth a1 y1.2) fun v6 =>
bn (BX n y1.1 v6.frm) fun v7 =>
lt (addI .i64 v6.to 1) fun v8 =>
bn (BX n v7 v8) fun v9 =>
lt (addI .i64 y1.2 1) fun v10 =>
some (.inl (v9,v10))) (some (.inr y1.1))) (a0,0)) fun (y2:List Int) =>
some y2
def Fs (n:Nat) (a0:List Claim) (a1:Int):Option (Int×Int) :=
bn (iter n (fun (y1:Int) =>
lt (lenI a0) fun v4 =>
lt (ltI y1 v4) fun v5 =>
ite' v5 (bn (bn (nth a0 y1) fun v7 =>
lt (leI v7.frm a1) fun v8 =>
ite' v8 (lt (leI a1 v7.to) fun v9 =>
some (v9)) (some (false))) fun (y6:Bool) =>
lt (y6) fun v10 =>
ite' v10 (bn (nth a0 y1) fun v11 =>
some (.inr (.inr (v11.node,v11.epoch)))) (lt (addI .i64 y1 1) fun v12 =>
some (.inl v12))) (some (.inr (.inl ())))) 0) fun (y2:Unit ⊕ (Int×Int)) =>
sm y2 (fun y13=>some (-1,0)) (fun y14=>some y14)
def Dh (n:Nat) (a0:List Claim) (a1:Claim):Option (List Claim) :=
lt (lenI a0) fun v1 =>
lt (subI .i64 v1 1) fun v2 =>
bn (lt (geI v2 0) fun v4 =>
ite' v4 (bn (nth a0 v2) fun v5 =>
lt (subI .i64 a1.frm 1) fun v7 =>
lt (eqI v5.to v7) fun v8 =>
ite' v8 (lt (eqI v5.node a1.node) fun v10 =>
ite' v10 (lt (eqI v5.epoch a1.epoch) fun v12 =>
some (v12)) (some (false))) (some (false))) (some (false))) fun (y3:Bool) =>
lt (y3) fun v13 =>
ite' v13 (bn (nth a0 v2) fun v14 =>
lt (a0.set v2.toNat (⟨v14.frm,a1.to,v14.node,v14.epoch⟩:Claim)) fun v16 =>
some v16) (chk (room (a0.length+1) 32) <|
lt (a0++[a1]) fun v20 =>
some v20)
def Dy (n:Nat) (a0:List Claim) (a1:List Span) (a2:Int) (a3:Int):Option (List Claim) :=
bn (BY n a1) fun v1 =>
bn (ED n [] a0) fun v2 =>
bn (iter n (fun (y3:List Int×Int) =>
lt (lenI v1) fun v6 =>
lt (ltI y3.2 v6) fun v7 =>
ite' v7 (bn (nth v1 y3.2) fun v8 =>
bn (BX n y3.1 v8.frm) fun v9 =>
lt (addI .i64 v8.to 1) fun v10 =>
bn (BX n v9 v10) fun v11 =>
lt (addI .i64 y3.2 1) fun v12 =>
some (.inl (v11,v12))) (some (.inr y3.1))) (v2,0)) fun (y4:List Int) =>
bn (iter n (fun (y13:Int×List Claim) =>
lt (addI .i64 y13.1 1) fun v16 =>
lt (lenI y4) fun v17 =>
lt (ltI v16 v17) fun v18 =>
ite' v18 (bn (bn (nth y4 y13.1) fun v20 =>
bn (Fs n a0 v20) fun v21 =>
bn (bn (C9 n v1 v20) fun v23 =>
ite' v23 (some ((a2,a3))) (some ((v21.1,v21.2)))) fun (y22:Int×Int) =>
lt (geI y22.1 0) fun v24 =>
ite' v24 (bn (nth y4 y13.1) fun v25 =>
lt (addI .i64 y13.1 1) fun v26 =>
bn (nth y4 v26) fun v27 =>
lt (subI .i64 v27 1) fun v28 =>
bn (Dh n y13.2 (⟨v25,v28,y22.1,y22.2⟩:Claim)) fun v29 =>
some (v29)) (some (y13.2))) fun (y19:List Claim) =>
lt (addI .i64 y13.1 1) fun v30 =>
some (.inl (v30,y19))) (some (.inr y13.2))) (0,[])) fun (y14:List Claim) =>
chk (room y14.length 1) <|
some y14
def Cz (n:Nat) (a0:List Claim) (a1:Int):Option (List Span) :=
bn (iter n (fun (y1:Int×List Span) =>
lt (lenI a0) fun v4 =>
lt (ltI y1.1 v4) fun v5 =>
ite' v5 (bn (bn (nth a0 y1.1) fun v7 =>
lt (eqI v7.node a1) fun v8 =>
ite' v8 (chk (room (y1.2.length+1) 16) <|
lt (y1.2++[(⟨v7.frm,v7.to⟩:Span)]) fun v10 =>
some (v10)) (some (y1.2))) fun (y6:List Span) =>
lt (addI .i64 y1.1 1) fun v11 =>
some (.inl (v11,y6))) (some (.inr y1.2))) (0,[])) fun (y2:List Span) =>
chk (room y2.length 1) <|
bn (BY n y2) fun v13 =>
some v13
theorem Id {n:Nat} {a0:List Claim} {a1:Int} {r:List Span} (h:Cz n a0 a1=some r):Sound Try.prog 17 [.l (dB a0),.l (iA a1)] [] (.l (dA r)) []:=by
 unfold Cz at h;refine SO 36 Try.func17 fun cx hG (hz:cx.nb=0)=>?_;simp only[it];refine ST ?_;refine ST ?_;apply AW.seq;refine ST ?_;apply AW.block;obtain⟨y2,g2,h⟩:=bnE h;refine zE g2 (mk:=fun gh ls q=>(⟨[(0,.l (dB a0)),(1,.l (iA a1)),(5,.l (.r 0 2 0 q.2.length)),(6,.l (iA q.1))],[some ⟨59,2,true,none,lvs (Ah q.2)⟩],36,gh,ls⟩:St)) (N:=fun gh ls=>(xP 0 (cx:=cx) (fun q=>(⟨[(5,.l (.r 0 2 0 q.length))],[some ⟨59,2,true,none,lvs (Ah q)⟩],36,gh,ls⟩:St)))) ?_ noX ?_ ?_
 ·refine W.nilRow 5 59 2 0 (by simp) rfl rfl ?_;exact WM [0] hz
 ·clear h;intro y1 y3 h
  apply AW.seq;obtain⟨v4,e4,v5,e5,h⟩:=oll h;refine AW.step (by simp[Ao e4,← e5];intros;rfl) ?_;cases v5 with
  |true=>
   replace h:=iT h;refine CT ?_;apply AW.skip;try simp only[nm]
   obtain⟨y6,g6,h⟩:=bnE h;refine zD (p:=fun gh ls=>(nP (cx:=cx) (fun q=>(⟨[(0,.l (dB a0)),(1,.l (iA a1)),(5,.l (.r 0 2 0 q.length)),(6,.l (iA y1.1))],[some ⟨59,2,true,none,lvs (Ah q)⟩],36,gh,ls⟩:St))) y6) ?_ ?_
   ·replace h:=g6;clear g6
    apply AW.block;obtain⟨v7,e7,v8,e8,h⟩:=obl h;refine AW.step (by simp[Aa e7,← e8];intros;rfl) ?_;cases v8 with
    |true=>
     replace h:=iT h;refine CT ?_;obtain⟨e9,h⟩:=chkE h;obtain⟨v10,e10,h⟩:=ltE h;apply zL (V:=[_,_,_,_,_,_,_,_,_,_,_,_,_]) (M:=[[some ⟨59,2,true,none,lvs (Ah y1.2)⟩],[some ⟨59,2,true,none,lvs (Ah y1.2)⟩,some ⟨59,2,true,none,[iA v7.frm,iA v7.to]⟩]]) mixed [⟨[0,1],[],[(5,none)],false⟩,⟨[0],[],[(0,none)],false⟩,⟨[0],[],[(6,none)],false⟩,⟨[0],[1,2],[(21,some 1),(22,some 2)],false⟩,⟨[0],[1,2,3],[(23,some 3)],false⟩,⟨[0],[1,2,3,4],[(24,some 4)],false⟩,⟨[0],[],[(0,none)],false⟩,⟨[0],[],[(6,none)],false⟩,⟨[0],[6,7],[(26,some 6),(27,some 7)],false⟩,⟨[0],[6,7,8],[(28,some 8)],false⟩,⟨[0],[6,7,8,9],[(29,some 9)],false⟩,⟨[0],[1,2,3,4,5,6,7,8,9,10],[(25,some 5),(30,some 10)],false⟩,⟨[0],[1,2,3,4,5,6,7,8,9,10,11],[(31,some 11)],true⟩,⟨[],[0,1,2,3,4,5,6,7,8,9,10,11,12],[],false⟩,⟨[],[0,1,2,3,4,5,6,7,8,9,10,11,12,13],[],false⟩] 13 1 (by kernel_rfl) (by kernel_rfl)
     ·rfl
     ·refine⟨⟨?_,?_⟩,?_,?_,?_,?_,?_,?_,?_,?_,?_,?_,?_,?_,trivial⟩;iterate 13 (· intro tm hr;simp[AllL,rdV] at hr;simp[hr,Aa e7,← At,← e10,Az e10];intros;exact KA)
      ·intro tm hr;simp[AllL,rdV] at hr;simp[hr,Aa e7,← At,← e10,Az e10];intros;refine Bo ?_;try simp[Aa e7,← At,← e10,Az e10]
       intros;exact KA
     ·rfl
     ·simp[tmD,putD,Aa e7,← At,← e10,Az e10];rfl
     ·simp[Aa e7,← At,← e10,Az e10];intros;refine Bv (acc:=Ah y1.2) (ys:=Ah [(⟨v7.frm,v7.to⟩:Span)]) (cap:=none) (k:=1) Dg Df (by simp) (by simp[Ah,lvs]) (Bh _) (by simp) (by simp) (by first|(simp;done)|simpa using (Bm e9).1) ?_;try simp[Aa e7,← At,← e10,Az e10]
      intros;rfl
     obtain rfl:=oi h;refine nP_i ?_;refine zK [some 2] hz (by decide) ?_ ?_ rfl;all_goals first|(simp[Ab,Af,pickOb,BF];done)|rfl
    |false=>
     replace h:=iF h;refine CF ?_;apply AW.skip;try simp only[nm]
     obtain rfl:=oi h;exact nP_i (WM [0] hz)
   ·rintro e s⟨rfl,hw⟩;refine⟨_,hw,?_⟩;try simp only[nm]
    obtain⟨v11,e11,h⟩:=ltE h;refine AW.last (by simp[← e11];intros;rfl) ?_;obtain rfl:=oi h;exact nP_i (WM [0] hz)
  |false=>
   replace h:=iF h;refine CF ?_;apply AW.exit;try simp only[nm]
   obtain rfl:=oi h;refine xP_i ?_;exact WM [0] hz
 ·rintro e s⟨rfl,hw⟩;refine⟨_,hw,?_⟩;try simp only[nm]
  obtain⟨e12,h⟩:=chkE h;refine FZ 0 59 2 (Bh y2) e12 ?_;obtain⟨v13,e13,h⟩:=bnE h;apply AW.step
  ·simp;intros;refine Aj Gh (G2 e13) rfl ⟨.same rfl,trivial⟩ ?_;try simp
   intros;rfl
  obtain rfl:=oi h;apply AW.ret;exact LP hz
theorem HP:Enters Try.prog 17:=enters Try.func17 (by kernel_rfl) rfl
def CZ (n:Nat) (a0:List Span):Option Int :=
bn (BY n a0) fun v1 =>
bn (iter n (fun (y2:Int×Int) =>
lt (lenI v1) fun v5 =>
lt (ltI y2.2 v5) fun v6 =>
ite' v6 (bn (nth v1 y2.2) fun v7 =>
lt (addI .i64 y2.1 v7.to) fun v8 =>
lt (subI .i64 v8 v7.frm) fun v9 =>
lt (addI .i64 v9 1) fun v10 =>
lt (addI .i64 y2.2 1) fun v11 =>
some (.inl (v10,v11))) (some (.inr y2.1))) (0,0)) fun (y3:Int) =>
some y3
theorem IT {n:Nat} {a0:List Span} {r:Int} (h:CZ n a0=some r):Sound Try.prog 16 [.l (dA a0)] [] (.l (iA r)) []:=by
 unfold CZ at h;refine SO 29 Try.func16 fun cx hG (hz:cx.nb=0)=>?_;simp only[it];refine ST ?_;refine ST ?_;obtain⟨v1,e1,h⟩:=bnE h;apply AW.step
 ·simp;intros;refine Aj Gh (G2 e1) rfl ⟨.same rfl,trivial⟩ ?_;try simp
  intros;rfl
 apply AW.seq;refine ST ?_;apply AW.block;obtain⟨y3,g3,h⟩:=bnE h;refine zE g3 (mk:=fun gh ls q=>(⟨[(3,.l (iA q.1)),(4,.l (dA v1)),(5,.l (iA q.2))],[],29,gh,ls⟩:St)) (N:=fun gh ls=>(xP 0 (cx:=cx) (fun q=>(⟨[(3,.l (iA q))],[],29,gh,ls⟩:St)))) ?_ noX ?_ ?_
 ·exact WM [] hz
 ·clear h;intro y2 y4 h
  apply AW.seq;obtain⟨v5,e5,v6,e6,h⟩:=oll h;refine AW.step (by simp[Ao e5,← e6];intros;rfl) ?_;cases v6 with
  |true=>
   replace h:=iT h;refine CT ?_;apply AW.skip;try simp only[nm]
   apply AW.seq;apply AW.block;obtain⟨v7,e7,v8,e8,v9,e9,h⟩:=obll h;obtain⟨v10,e10,h⟩:=ltE h;apply zH (V:=[_,_,_,_,_,_,_,_,_,_,_,_]) mixed [⟨[0],[],[(3,none)],false⟩,⟨[0],[],[(4,none)],false⟩,⟨[0],[],[(5,none)],false⟩,⟨[0],[1,2],[(15,some 1),(16,some 2)],false⟩,⟨[0],[1,2,3],[(17,some 3)],false⟩,⟨[0],[1,2,3,4],[(18,some 4)],false⟩,⟨[0],[0,1,2,3,4,5],[(14,some 0),(19,some 5)],false⟩,⟨[0],[],[(4,none)],false⟩,⟨[0],[],[(5,none)],false⟩,⟨[0],[7,8],[(21,some 7),(22,some 8)],false⟩,⟨[0],[7,8,9],[(23,some 9)],false⟩,⟨[0],[7,8,9,10],[(24,some 10)],false⟩,⟨[],[0,1,2,3,4,5,6,7,8,9,10,11],[],false⟩,⟨[],[0,1,2,3,4,5,6,7,8,9,10,11,12],[],false⟩,⟨[],[0,1,2,3,4,5,6,7,8,9,10,11,12,13],[],false⟩] 12 (by kernel_rfl) (by kernel_rfl)
   ·refine⟨?_,?_,?_,?_,?_,?_,?_,?_,?_,?_,?_,?_,trivial⟩;iterate 12 (· intro tm hr;simp[AllL,rdV] at hr;simp[hr,Aa e7,← e8,← e9,← e10];intros;exact KA)
   ·rfl
   ·simp[tmD,putD,Aa e7,← e8,← e9,← e10];rfl
   ·simp[Aa e7,← e8,← e9,← e10];intros;rfl
   try simp only[nm]
   obtain⟨v11,e11,h⟩:=ltE h;refine AW.last (by simp[← e11];intros;rfl) ?_;obtain rfl:=oi h;exact nP_i (WM [] hz)
  |false=>
   replace h:=iF h;refine CF ?_;apply AW.exit;try simp only[nm]
   obtain rfl:=oi h;refine xP_i ?_;exact WM [] hz
 ·rintro e s⟨rfl,hw⟩;refine⟨_,hw,?_⟩;try simp only[nm]
  refine ST ?_;obtain rfl:=oi h;apply AW.ret;exact LP hz
theorem Ie:Enters Try.prog 16:=enters Try.func16 (by kernel_rfl) rfl
end Go.Proofs.Ytenemndpignaoaa
namespace Go.Proofs.Ytenemndpignaoaa
open Go Go.RowKit
def Em (n:Nat) (a0:Int):Option Int :=
bn (lt (geI a0 4294967296) fun v2 =>
ite' v2 (bn (shrI .u64 a0 32) fun v3 =>
some ((v3,32))) (some ((a0,0)))) fun (y1:Int×Int) =>
bn (lt (geI y1.1 65536) fun v5 =>
ite' v5 (bn (shrI .u64 y1.1 16) fun v6 =>
lt (addI .i64 y1.2 16) fun v7 =>
some ((v6,v7))) (some ((y1.1,y1.2)))) fun (y4:Int×Int) =>
bn (lt (geI y4.1 256) fun v9 =>
ite' v9 (bn (shrI .u64 y4.1 8) fun v10 =>
lt (addI .i64 y4.2 8) fun v11 =>
some ((v10,v11))) (some ((y4.1,y4.2)))) fun (y8:Int×Int) =>
lt (cvI .u8 y8.1) fun v12 =>
bn (atS ⟨#[0,1,2,2,3,3,3,3,4,4,4,4,4,4,4,4,5,5,5,5,5,5,5,5,5,5,5,5,5,5,5,5,6,6,6,6,6,6,6,6,6,6,6,6,6,6,6,6,6,6,6,6,6,6,6,6,6,6,6,6,6,6,6,6,7,7,7,7,7,7,7,7,7,7,7,7,7,7,7,7,7,7,7,7,7,7,7,7,7,7,7,7,7,7,7,7,7,7,7,7,7,7,7,7,7,7,7,7,7,7,7,7,7,7,7,7,7,7,7,7,7,7,7,7,7,7,7,7,8,8,8,8,8,8,8,8,8,8,8,8,8,8,8,8,8,8,8,8,8,8,8,8,8,8,8,8,8,8,8,8,8,8,8,8,8,8,8,8,8,8,8,8,8,8,8,8,8,8,8,8,8,8,8,8,8,8,8,8,8,8,8,8,8,8,8,8,8,8,8,8,8,8,8,8,8,8,8,8,8,8,8,8,8,8,8,8,8,8,8,8,8,8,8,8,8,8,8,8,8,8,8,8,8,8,8,8,8,8,8,8,8,8,8,8,8,8,8,8,8,8,8,8,8,8,8,8]⟩ v12) fun v13 =>
lt (cvI .i64 v13) fun v15 =>
lt (addI .i64 y8.2 v15) fun v16 =>
some v16
theorem HQ {n:Nat} {a0:Int} {r:Int} (h:Em n a0=some r):Sound Try.prog 55 [.l (.s (.int .u64 a0))] [] (.l (iA r)) []:=by
 unfold Em at h;refine SO 25 Try.func55 fun cx hG (hz:cx.nb=0)=>?_;simp only[it];refine ST ?_;obtain⟨y1,g1,h⟩:=bnE h;refine zD (p:=fun gh ls=>(nP (cx:=cx) (fun q=>(⟨[(0,.l (.s (.int .u64 q.1))),(2,.l (iA q.2))],[],25,gh,ls⟩:St))) y1) ?_ ?_
 ·replace h:=g1;clear g1
  obtain⟨v2,e2,h⟩:=ltE h;refine AW.step (by simp[← e2];intros;rfl) ?_;cases v2 with
  |true=>
   replace h:=iT h;refine CT ?_;obtain⟨v3,e3,h⟩:=bnE h;refine AW.step (by simp[e3];intros;rfl) ?_;refine SL ?_;obtain rfl:=oi h;exact nP_i (WM [] hz)
  |false=>
   replace h:=iF h;refine CF ?_;apply AW.skip;try simp only[nm]
   obtain rfl:=oi h;exact nP_i (WM [] hz)
 ·rintro e s⟨rfl,hw⟩;refine⟨_,hw,?_⟩;try simp only[nm]
  obtain⟨y4,g4,h⟩:=bnE h;refine zD (p:=fun gh ls=>(nP (cx:=cx) (fun q=>(⟨[(0,.l (.s (.int .u64 q.1))),(2,.l (iA q.2))],[],25,gh,ls⟩:St))) y4) ?_ ?_
  ·replace h:=g4;clear g4
   obtain⟨v5,e5,h⟩:=ltE h;refine AW.step (by simp[← e5];intros;rfl) ?_;cases v5 with
   |true=>
    replace h:=iT h;refine CT ?_;obtain⟨v6,e6,h⟩:=bnE h;refine AW.step (by simp[e6];intros;rfl) ?_;obtain⟨v7,e7,h⟩:=ltE h;refine AW.last (by simp[← e7];intros;rfl) ?_;obtain rfl:=oi h;exact nP_i (WM [] hz)
   |false=>
    replace h:=iF h;refine CF ?_;apply AW.skip;try simp only[nm]
    obtain rfl:=oi h;exact nP_i (WM [] hz)
  ·rintro e s⟨rfl,hw⟩;refine⟨_,hw,?_⟩;try simp only[nm]
   obtain⟨y8,g8,h⟩:=bnE h;refine zD (p:=fun gh ls=>(nP (cx:=cx) (fun q=>(⟨[(0,.l (.s (.int .u64 q.1))),(2,.l (iA q.2))],[],25,gh,ls⟩:St))) y8) ?_ ?_
   ·replace h:=g8;clear g8
    obtain⟨v9,e9,h⟩:=ltE h;refine AW.step (by simp[← e9];intros;rfl) ?_;cases v9 with
    |true=>
     replace h:=iT h;refine CT ?_;obtain⟨v10,e10,h⟩:=bnE h;refine AW.step (by simp[e10];intros;rfl) ?_;obtain⟨v11,e11,h⟩:=ltE h;refine AW.last (by simp[← e11];intros;rfl) ?_;obtain rfl:=oi h;exact nP_i (WM [] hz)
    |false=>
     replace h:=iF h;refine CF ?_;apply AW.skip;try simp only[nm]
     obtain rfl:=oi h;exact nP_i (WM [] hz)
   ·rintro e s⟨rfl,hw⟩;refine⟨_,hw,?_⟩;try simp only[nm]
    obtain⟨v12,e12,v13,e13,h⟩:=olb h;have f14:=atS_d e13;try simp[← e12] at f14
    obtain⟨v15,e15,v16,e16,h⟩:=oll h;refine AW.step (by simp[← e12,f14,← e15,← e16];intros;rfl) ?_;obtain rfl:=oi h;apply AW.ret;exact LP hz
theorem Hg:Enters Try.prog 55:=enters Try.func55 (by kernel_rfl) rfl
def Ct (n:Nat) (a0:Int):Option Int :=
bn (Em n a0) fun v1 =>
some v1
theorem E1 {n:Nat} {a0:Int} {r:Int} (h:Ct n a0=some r):Sound Try.prog 32 [.l (.s (.int .u64 a0))] [] (.l (iA r)) []:=by
 unfold Ct at h;refine SO 8 Try.func32 fun cx hG (hz:cx.nb=0)=>?_;simp only[it];refine ST ?_;apply AW.seq;refine CF ?_;apply AW.skip;try simp only[nm]
 obtain⟨v1,e1,h⟩:=bnE h;apply AW.step
 ·simp;intros;refine Aj Hg (HQ e1) rfl ⟨.same rfl,trivial⟩ ?_;try simp
  intros;rfl
 obtain rfl:=oi h;apply AW.ret;exact LP hz
theorem EP:Enters Try.prog 32:=enters Try.func32 (by kernel_rfl) rfl
def Bw (n:Nat) (a0:Int):Option Bool :=
lt (neI a0 a0) fun v1 =>
some v1
theorem BO {n:Nat} {a0:Int} {r:Bool} (h:Bw n a0=some r):Sound Try.prog 70 [.l (iA a0)] [] (.l (bA r)) []:=by
 unfold Bw at h;refine SO 6 Try.func70 fun cx hG (hz:cx.nb=0)=>?_;simp only[it];refine ST ?_;obtain⟨v1,e1,h⟩:=ltE h;refine AW.step (by simp[← e1];intros;rfl) ?_;obtain rfl:=oi h;apply AW.ret;exact LP hz
theorem BK:Enters Try.prog 70:=enters Try.func70 (by kernel_rfl) rfl
def B1 (n:Nat) (a0:Int) (a1:Int):Option Int :=
bn (Bw n a0) fun v1 =>
bn (Bw n a1) fun v2 =>
ite' v1 (ite' v2 (some 0) (some (-1))) (ite' v2 (some 1) (lt (ltI a0 a1) fun v3 =>
ite' v3 (some (-1)) (lt (gtI a0 a1) fun v4 =>
ite' v4 (some 1) (some 0))))
theorem FE {n:Nat} {a0:Int} {a1:Int} {r:Int} (h:B1 n a0 a1=some r):Sound Try.prog 73 [.l (iA a0),.l (iA a1)] [] (.l (iA r)) []:=by
 unfold B1 at h;refine SO 20 Try.func73 fun cx hG (hz:cx.nb=0)=>?_;simp only[it];refine ST ?_;obtain⟨v1,e1,h⟩:=bnE h;apply AW.step
 ·simp;intros;refine Aj BK (BO e1) rfl ⟨.same rfl,trivial⟩ ?_;try simp
  intros;rfl
 obtain⟨v2,e2,h⟩:=bnE h;apply AW.step
 ·simp;intros;refine Aj BK (BO e2) rfl ⟨.same rfl,trivial⟩ ?_;try simp
  intros;rfl
 apply AW.seq;refine ST ?_;cases v1 with
 |true=>
  replace h:=iT h;refine CT ?_;apply AW.seq;refine ST ?_;cases v2 with
  |true=>
   replace h:=iT h;refine CT ?_;refine ST ?_;obtain rfl:=oi h;apply AW.ret;exact LP hz
  |false=>
   replace h:=iF h;refine CF ?_;apply AW.skip;try simp only[nm]
   refine ST ?_;obtain rfl:=oi h;apply AW.ret;exact LP hz
 |false=>
  replace h:=iF h;refine CF ?_;apply AW.skip;try simp only[nm]
  apply AW.seq;refine ST ?_;cases v2 with
  |true=>
   replace h:=iT h;refine CT ?_;refine ST ?_;obtain rfl:=oi h;apply AW.ret;exact LP hz
  |false=>
   replace h:=iF h;refine CF ?_;apply AW.skip;try simp only[nm]
   apply AW.seq;obtain⟨v3,e3,h⟩:=ltE h;refine AW.step (by simp[← e3];intros;rfl) ?_;cases v3 with
   |true=>
    replace h:=iT h;refine CT ?_;refine ST ?_;obtain rfl:=oi h;apply AW.ret;exact LP hz
   |false=>
    replace h:=iF h;refine CF ?_;apply AW.skip;try simp only[nm]
    apply AW.seq;obtain⟨v4,e4,h⟩:=ltE h;refine AW.step (by simp[← e4];intros;rfl) ?_;cases v4 with
    |true=>
     replace h:=iT h;refine CT ?_;refine ST ?_;obtain rfl:=oi h;apply AW.ret;exact LP hz
    |false=>
     replace h:=iF h;refine CF ?_;apply AW.skip;try simp only[nm]
     refine ST ?_;obtain rfl:=oi h;apply AW.ret;exact LP hz
theorem Ft:Enters Try.prog 73:=enters Try.func73 (by kernel_rfl) rfl
def AJ (n:Nat) (a0:Span) (a1:Span):Option Int :=
bn (B1 n a0.frm a1.frm) fun v1 =>
some v1
theorem A7 {n:Nat} {a0:Span} {a1:Span} {r:Int} (h:AJ n a0 a1=some r):Sound Try.prog 72 [.g [iA a0.frm,iA a0.to],.g [iA a1.frm,iA a1.to]] [] (.l (iA r)) []:=by
 unfold AJ at h;refine SO 10 Try.func72 fun cx hG (hz:cx.nb=0)=>?_;simp only[it];refine ST ?_;obtain⟨v1,e1,h⟩:=bnE h;apply AW.step
 ·simp;intros;refine Aj Ft (FE e1) rfl ⟨.same rfl,.same rfl,trivial⟩ ?_;try simp
  intros;rfl
 obtain rfl:=oi h;apply AW.ret;exact LP hz
theorem A1:Enters Try.prog 72:=enters Try.func72 (by kernel_rfl) rfl
def AY (n:Nat) (a0:List Span) (a1:Int) (a2:Int):Option (List Span) :=
lt (addI .i64 a1 1) fun v1 =>
bn (iter n (fun (y2:Int×List Span) =>
lt (ltI y2.1 a2) fun v5 =>
ite' v5 (bn (iter n (fun (y6:Int×List Span) =>
bn (lt (gtI y6.1 a1) fun v10 =>
ite' v10 (bn (nth y6.2 y6.1) fun v11 =>
lt (subI .i64 y6.1 1) fun v13 =>
bn (nth y6.2 v13) fun v14 =>
bn (AJ n v11 v14) fun v16 =>
lt (ltI v16 0) fun v17 =>
some (v17)) (some (false))) fun (y9:Bool) =>
lt (y9) fun v18 =>
ite' v18 (lt (subI .i64 y6.1 1) fun v19 =>
bn (nth y6.2 v19) fun v20 =>
bn (nth y6.2 y6.1) fun v22 =>
lt (y6.2.set y6.1.toNat v20) fun v25 =>
bn (nth v25 v19) fun v30 =>
lt (v25.set v19.toNat v22) fun v32 =>
some (.inl (v19,v32))) (some (.inr y6.2))) (y2.1,y2.2)) fun (y7:List Span) =>
lt (addI .i64 y2.1 1) fun v41 =>
some (.inl (v41,y7))) (some (.inr y2.2))) (v1,a0)) fun (y3:List Span) =>
some y3
def DX20t1:List DI:=[⟨[0],[],[(9,none)],false⟩,⟨[0],[],[(1,none)],false⟩,⟨[0],[0,1],[(18,some 0),(19,some 1)],false⟩,⟨[0],[0,1,2],[(20,some 2)],false⟩,⟨[0],[0,1,2,3],[(3,none),(21,some 3)],false⟩,⟨[0],[0,1,2,3],[(0,none),(21,some 3)],false⟩,⟨[0],[0,1,2,3],[(9,none),(21,some 3)],false⟩,⟨[0],[0,1,2,3,5,6],[(21,some 3),(23,some 5),(24,some 6)],false⟩,⟨[0],[0,1,2,3,5,6,7],[(21,some 3),(25,some 7)],false⟩,⟨[0],[0,1,2,3],[(0,none),(21,some 3)],false⟩,⟨[0],[0,1,2,3],[(9,none),(21,some 3)],false⟩,⟨[0],[0,1,2,3,10],[(21,some 3),(28,some 10)],false⟩,⟨[0],[0,1,2,3,9,10,11],[(21,some 3),(27,some 9),(29,some 11)],false⟩,⟨[0],[0,1,2,3,9,10,11,12],[(21,some 3),(30,some 12)],false⟩,⟨[],[0,1,2,3,4,5,6,7,8,9,10,11,12,13],[],false⟩,⟨[],[0,1,2,3,4,5,6,7,8,9,10,11,12,13,14],[],false⟩,⟨[],[0,1,2,3,4,5,6,7,8,9,10,11,12,13,14,15],[],false⟩]
theorem C0 {n:Nat} {a0:List Span} {a1:Int} {a2:Int} {r:List Span} (h:AY n a0 a1 a2=some r):Sound Try.prog 81 [.l (.r 0 2 0 a0.length),.l (iA a1),.l (iA a2),.l (.s (.func (.func 72) #[] #[]))] [⟨59,2,false,some 0,lvs (Ah a0)⟩] (.t []) [some ⟨59,2,false,some 0,lvs (Ah r)⟩]:=by
 unfold AY at h;refine SO 53 Try.func81 fun cx hG (hz:cx.nb=1)=>?_;simp only[it];obtain⟨v1,e1,h⟩:=ltE h;refine AW.step (by simp[← e1];intros;rfl) ?_;apply AW.block;obtain⟨y3,g3,h⟩:=bnE h;refine zE g3 (mk:=fun gh ls q=>(⟨[(0,.l (.r 0 2 0 q.2.length)),(1,.l (iA a1)),(2,.l (iA a2)),(3,.l (.s (.func (.func 72) #[] #[]))),(8,.l (iA q.1))],[some ⟨59,2,false,some 0,lvs (Ah q.2)⟩],53,gh,ls⟩:St)) (N:=fun gh ls=>(xP 0 (cx:=cx) (fun q=>(⟨[],[some ⟨59,2,false,some 0,lvs (Ah q)⟩],53,gh,ls⟩:St)))) ?_ noX ?_ ?_
 ·refine zA 1 [some 0] hz (by decide) (by decide) ?_ ?_ ?_;all_goals first|(simp[Ab,Af,pickOb];done)|rfl
 ·clear h;intro y2 y4 h
  apply AW.seq;obtain⟨v5,e5,h⟩:=ltE h;refine AW.step (by simp[← e5];intros;rfl) ?_;cases v5 with
  |true=>
   replace h:=iT h;refine CT ?_;apply AW.skip;try simp only[nm]
   apply AW.seq;apply AW.block;refine ST ?_;apply AW.block;obtain⟨y7,g7,h⟩:=bnE h;refine zE g7 (mk:=fun gh ls q=>(⟨[(0,.l (.r 0 2 0 q.2.length)),(1,.l (iA a1)),(2,.l (iA a2)),(3,.l (.s (.func (.func 72) #[] #[]))),(8,.l (iA y2.1)),(9,.l (iA q.1))],[some ⟨59,2,false,some 0,lvs (Ah q.2)⟩],53,gh,ls⟩:St)) (N:=fun gh ls=>(xP 2 (cx:=cx) (fun q=>(⟨[(0,.l (.r 0 2 0 q.length)),(1,.l (iA a1)),(2,.l (iA a2)),(3,.l (.s (.func (.func 72) #[] #[]))),(8,.l (iA y2.1))],[some ⟨59,2,false,some 0,lvs (Ah q)⟩],53,gh,ls⟩:St)))) ?_ noX ?_ ?_
   ·refine zA 1 [some 0] hz (by decide) (by decide) ?_ ?_ ?_;all_goals first|(simp[Ab,Af,pickOb];done)|rfl
   ·clear h;intro y6 y8 h
    apply AW.seq;obtain⟨y9,g9,h⟩:=bnE h;refine zD (p:=fun gh ls=>(nP (cx:=cx) (fun q=>(⟨[(0,.l (.r 0 2 0 y6.2.length)),(1,.l (iA a1)),(2,.l (iA a2)),(3,.l (.s (.func (.func 72) #[] #[]))),(8,.l (iA y2.1)),(9,.l (iA y6.1)),(34,.l (bA q))],[some ⟨59,2,false,some 0,lvs (Ah y6.2)⟩],53,gh,ls⟩:St))) y9) ?_ ?_
    ·replace h:=g9;clear g9
     obtain⟨v10,e10,h⟩:=ltE h;cases v10 with
     |true=>
      replace h:=iT h;obtain⟨v11,e11,h⟩:=bnE h;have f12:=Ai e11;try simp[← e10,Aa e11] at f12
      obtain⟨v13,e13,v14,e14,h⟩:=olb h;have f15:=Ai e14;try simp[← e10,Aa e11,f12,Ae (Aa e11).2 (k:=2) (by decide),Ad (Aa e11).2 (show 2≤2 by decide),lvs1,← e13,Aa e14] at f15
      obtain⟨v16,e16,v17,e17,h⟩:=obl h;apply zH (V:=[_,_,_,_,_,_,_,_,_,_,_,_,_,_]) mixed DX20t1 14 (by kernel_rfl) (by kernel_rfl)
      ·refine⟨?_,?_,?_,?_,?_,?_,?_,?_,?_,?_,?_,?_,?_,?_,trivial⟩;iterate 14 (· intro tm hr;simp[AllL,rdV] at hr;simp[hr,← e10,Aa e11,f12,Ae (Aa e11).2 (k:=2) (by decide),Ad (Aa e11).2 (show 2≤2 by decide),lvs1,← e13,Aa e14,f15,Ae (Aa e14).2 (k:=2) (by decide),Ad (Aa e14).2 (show 2≤2 by decide),← e17];intros;exact KA)
      ·rfl
      ·simp[tmD,putD,← e10,Aa e11,f12,Ae (Aa e11).2 (k:=2) (by decide),Ad (Aa e11).2 (show 2≤2 by decide),lvs1,← e13,Aa e14,f15,Ae (Aa e14).2 (k:=2) (by decide),Ad (Aa e14).2 (show 2≤2 by decide),← e17];rfl
      ·simp[← e10,Aa e11,f12,Ae (Aa e11).2 (k:=2) (by decide),Ad (Aa e11).2 (show 2≤2 by decide),lvs1,← e13,Aa e14,f15,Ae (Aa e14).2 (k:=2) (by decide),Ad (Aa e14).2 (show 2≤2 by decide),← e17];intros;refine Aj A1 (A7 e16) rfl ⟨.same rfl,.same rfl,trivial⟩ ?_;try simp[← e10,Aa e11,f12,Ae (Aa e11).2 (k:=2) (by decide),Ad (Aa e11).2 (show 2≤2 by decide),lvs1,← e13,Aa e14,f15,Ae (Aa e14).2 (k:=2) (by decide),Ad (Aa e14).2 (show 2≤2 by decide),← e17]
       intros;rfl
      obtain rfl:=oi h;refine nP_i ?_;refine zA 1 [some 0] hz (by decide) (by decide) ?_ ?_ ?_;all_goals first|(simp[Ab,Af,pickOb];done)|rfl
     |false=>
      replace h:=iF h;apply zH (V:=[_,_,_,_,_,_,_,_,_,_,_,_,_,_]) mixed DX20t1 14 (by kernel_rfl) (by kernel_rfl)
      ·refine⟨?_,?_,?_,?_,?_,?_,?_,?_,?_,?_,?_,?_,?_,?_,trivial⟩;iterate 14 (· intro tm hr;simp[AllL,rdV] at hr;simp[hr,← e10];intros;exact KA)
      ·rfl
      ·simp[tmD,putD,← e10];rfl
      ·simp[← e10];intros;rfl
      obtain rfl:=oi h;refine nP_i ?_;refine zA 1 [some 0] hz (by decide) (by decide) ?_ ?_ ?_;all_goals first|(simp[Ab,Af,pickOb];done)|rfl
    ·rintro e s⟨rfl,hw⟩;refine⟨_,hw,?_⟩;try simp only[nm]
     obtain⟨v18,e18,h⟩:=ltE h;rw[← e18];cases v18 with
     |true=>
      replace h:=iT h;refine CT ?_;apply AW.skip;try simp only[nm]
      apply AW.seq;apply AW.block;obtain⟨v19,e19,v20,e20,h⟩:=olb h;have f21:=Ai e20;try simp[← e19,Aa e20] at f21
      obtain⟨v22,e22,h⟩:=bnE h;have f23:=Ai e22;try simp[← e19,Aa e20,f21,Ae (Aa e20).2 (k:=2) (by decide),Ad (Aa e20).2 (show 2≤2 by decide),lvs1,Aa e22] at f23
      have f24:=Ai e22;try simp[← e19,Aa e20,f21,Ae (Aa e20).2 (k:=2) (by decide),Ad (Aa e20).2 (show 2≤2 by decide),lvs1,Aa e22,f23,Ae (Aa e22).2 (k:=2) (by decide),Ad (Aa e22).2 (show 2≤2 by decide)] at f24
      obtain⟨v25,e25,h⟩:=ltE h;have f26:=AB (Aa e22).2 e25 (cs:=[iA v20.frm,iA v20.to]) (by simp) rfl;try simp at f26
      have f27:=f21;try simp only[Ac e25] at f27
      have f28:=f23;try simp only[Ac e25] at f28
      have f29:=f24;try simp only[Ac e25] at f29
      obtain⟨v30,e30,h⟩:=bnE h;have f31:=Ai e30;try simp[← e19,Aa e20,f21,Ae (Aa e20).2 (k:=2) (by decide),Ad (Aa e20).2 (show 2≤2 by decide),lvs1,Aa e22,f23,Ae (Aa e22).2 (k:=2) (by decide),Ad (Aa e22).2 (show 2≤2 by decide),f24,f26,f27,f28,f29,Aa e30] at f31
      obtain⟨v32,e32,h⟩:=ltE h;have f33:=AB (Aa e30).2 e32 (cs:=[iA v22.frm,iA v22.to]) (by simp) rfl;try simp at f33
      have f34:=f21;try simp only[Ac e32] at f34
      have f35:=f23;try simp only[Ac e32] at f35
      have f36:=f24;try simp only[Ac e32] at f36
      have f37:=f27;try simp only[Ac e32] at f37
      have f38:=f28;try simp only[Ac e32] at f38
      have f39:=f29;try simp only[Ac e32] at f39
      have f40:=f31;try simp only[Ac e32] at f40
      apply zL (V:=[_,_,_,_,_,_,_,_,_,_,_,_,_,_,_,_]) (M:=[[some ⟨59,2,false,some 0,lvs (Ah y6.2)⟩],[some ⟨59,2,false,some 0,lvs (Ah v25)⟩]]) mixed [⟨[0],[],[(0,none)],false⟩,⟨[0],[],[(9,none)],false⟩,⟨[0,1],[],[(0,none)],false⟩,⟨[0,1],[],[(9,none)],false⟩,⟨[0,1],[3],[(40,some 3)],false⟩,⟨[0],[],[(0,none)],false⟩,⟨[0],[],[(9,none)],false⟩,⟨[0],[6],[(43,some 6)],false⟩,⟨[0],[5,6,7],[(42,some 5),(44,some 7)],false⟩,⟨[0],[5,6,7,8],[(45,some 8)],false⟩,⟨[0],[],[(0,none)],false⟩,⟨[0],[],[(9,none)],false⟩,⟨[0],[10,11],[(47,some 10),(48,some 11)],false⟩,⟨[0],[10,11,12],[(49,some 12)],false⟩,⟨[0],[0,1,5,6,7,8,9,10,11,12,13],[(37,some 0),(38,some 1)],false⟩,⟨[0],[0,1,5,6,7,8,9,10,11,12,13,14],[(46,some 9),(51,some 14)],true⟩,⟨[],[0,1,2,3,4,5,6,7,8,9,10,11,12,13,14,15],[],false⟩,⟨[],[0,1,2,3,4,5,6,7,8,9,10,11,12,13,14,15,16],[],false⟩] 16 1 (by kernel_rfl) (by kernel_rfl)
      ·rfl
      ·refine⟨?_,?_,⟨?_,?_⟩,⟨?_,?_⟩,⟨?_,?_⟩,?_,?_,?_,?_,?_,?_,?_,?_,?_,?_,?_,trivial⟩;iterate 19 (· intro tm hr;simp[AllL,rdV] at hr;simp[hr,← e19,Aa e20,f21,Ae (Aa e20).2 (k:=2) (by decide),Ad (Aa e20).2 (show 2≤2 by decide),lvs1,Aa e22,f23,Ae (Aa e22).2 (k:=2) (by decide),Ad (Aa e22).2 (show 2≤2 by decide),f24,f26,f27,f28,f29,Aa e30,f31,Ac e25,Ad (Aa e30).2 (show 2≤2 by decide),f33,f34,f35,f36,f37,f38,f39,f40];intros;exact KA)
      ·rfl
      ·simp[tmD,putD,← e19,Aa e20,f21,Ae (Aa e20).2 (k:=2) (by decide),Ad (Aa e20).2 (show 2≤2 by decide),lvs1,Aa e22,f23,Ae (Aa e22).2 (k:=2) (by decide),Ad (Aa e22).2 (show 2≤2 by decide),f24,f26,f27,f28,f29,Aa e30,f31,Ac e25,Ad (Aa e30).2 (show 2≤2 by decide),f33,f34,f35,f36,f37,f38,f39,f40];rfl
      ·simp[← e19,Aa e20,f21,Ae (Aa e20).2 (k:=2) (by decide),Ad (Aa e20).2 (show 2≤2 by decide),lvs1,Aa e22,f23,Ae (Aa e22).2 (k:=2) (by decide),Ad (Aa e22).2 (show 2≤2 by decide),f24,f26,f27,f28,f29,Aa e30,f31,Ac e25,Ad (Aa e30).2 (show 2≤2 by decide),f33,f34,f35,f36,f37,f38,f39,f40];intros;rfl
      try simp only[nm]
      refine AW.last (by simp[← e19];intros;rfl) ?_;obtain rfl:=oi h;refine nP_i ?_;refine zA 1 [some 0] hz (by decide) (by decide) ?_ ?_ ?_;all_goals first|(simp[Ab,Af,pickOb,Ac e25,Ac e32];done)|rfl
     |false=>
      replace h:=iF h;refine CF ?_;apply AW.exit;try simp only[nm]
      obtain rfl:=oi h;refine xP_i ?_;refine zA 1 [some 0] hz (by decide) (by decide) ?_ ?_ ?_;all_goals first|(simp[Ab,Af,pickOb];done)|rfl
   ·rintro e s⟨rfl,hw⟩;refine⟨_,hw,?_⟩;try simp only[nm]
    obtain⟨v41,e41,h⟩:=ltE h;refine AW.last (by simp[← e41];intros;rfl) ?_;obtain rfl:=oi h;refine nP_i ?_;refine zA 1 [some 0] hz (by decide) (by decide) ?_ ?_ ?_;all_goals first|(simp[Ab,Af,pickOb];done)|rfl
  |false=>
   replace h:=iF h;refine CF ?_;apply AW.exit;try simp only[nm]
   obtain rfl:=oi h;refine xP_i ?_;refine zA 1 [some 0] hz (by decide) (by decide) ?_ ?_ ?_;all_goals first|(simp[Ab,Af,pickOb];done)|rfl
 ·rintro e s⟨rfl,hw⟩;refine⟨_,hw,?_⟩;try simp only[nm]
  obtain rfl:=oi h;refine Left.of (av:=_) (by simp[Try.f81,resV,resC,comp];rfl) ?_;exact zF 1 [some 0] hz rfl (by decide) rfl (by simp[pickOb,Ab,Af]) (by simp[Ab,Af])
theorem CP:Enters Try.prog 81:=enters Try.func81 (by kernel_rfl) rfl
def AX (n:Nat) (a0:List Span) (a1:Int) (a2:Int) (a3:Int):Option (List Span) :=
bn (iter n (fun (y1:Int×List Span) =>
lt (mulI .i64 2 y1.1) fun v4 =>
lt (addI .i64 v4 1) fun v5 =>
lt (geI v5 a2) fun v6 =>
ite' v6 (some (.inr (.inl y1.2))) (bn (bn (lt (addI .i64 v5 1) fun v9 =>
lt (ltI v9 a2) fun v10 =>
ite' v10 (lt (addI .i64 a3 v5) fun v11 =>
bn (nth y1.2 v11) fun v12 =>
lt (addI .i64 v11 1) fun v14 =>
bn (nth y1.2 v14) fun v15 =>
bn (AJ n v12 v15) fun v17 =>
lt (ltI v17 0) fun v18 =>
some (v18)) (some (false))) fun (y8:Bool) =>
lt (y8) fun v19 =>
ite' v19 (lt (addI .i64 v5 1) fun v20 =>
some (v20)) (some (v5))) fun (y7:Int) =>
lt (addI .i64 a3 y1.1) fun v21 =>
bn (nth y1.2 v21) fun v22 =>
lt (addI .i64 a3 y7) fun v24 =>
bn (nth y1.2 v24) fun v25 =>
bn (AJ n v22 v25) fun v27 =>
lt (ltI v27 0) fun v28 =>
lt (notB v28) fun v29 =>
ite' v29 (some (.inr (.inr y1.2))) (lt (y1.2.set v21.toNat v25) fun v33 =>
bn (nth v33 v24) fun v38 =>
lt (v33.set v24.toNat v22) fun v40 =>
some (.inl (y7,v40))))) (a1,a0)) fun (y2:(List Span) ⊕ (List Span)) =>
sm y2 (fun y49=>some y49) (fun y50=>some y50)
def DX20t2:List DI:=[⟨[0],[],[(11,none)],false⟩,⟨[0],[0],[(19,some 0)],false⟩,⟨[0],[],[(2,none)],false⟩,⟨[0],[0,1,2],[(20,some 1),(21,some 2)],false⟩,⟨[0],[0,1,2,3],[(22,some 3)],false⟩,⟨[0],[0,1,2,3,4],[(4,none),(23,some 4)],false⟩,⟨[0],[0,1,2,3,4],[(0,none),(23,some 4)],false⟩,⟨[0],[0,1,2,3,4],[(3,none),(23,some 4)],false⟩,⟨[0],[0,1,2,3,4],[(11,none),(23,some 4)],false⟩,⟨[0],[0,1,2,3,4,7,8],[(23,some 4),(26,some 7),(27,some 8)],false⟩,⟨[0],[0,1,2,3,4,6,7,8,9],[(23,some 4),(25,some 6),(28,some 9)],false⟩,⟨[0],[0,1,2,3,4,6,7,8,9,10],[(23,some 4),(29,some 10)],false⟩,⟨[0],[0,1,2,3,4],[(0,none),(23,some 4)],false⟩,⟨[0],[0,1,2,3,4],[(3,none),(23,some 4)],false⟩,⟨[0],[0,1,2,3,4],[(11,none),(23,some 4)],false⟩,⟨[0],[0,1,2,3,4,13,14],[(23,some 4),(32,some 13),(33,some 14)],false⟩,⟨[0],[0,1,2,3,4,13,14,15],[(23,some 4),(34,some 15)],false⟩,⟨[0],[0,1,2,3,4,12,13,14,15,16],[(23,some 4),(31,some 12),(35,some 16)],false⟩,⟨[0],[0,1,2,3,4,12,13,14,15,16,17],[(23,some 4),(36,some 17)],false⟩,⟨[],[0,1,2,3,4,5,6,7,8,9,10,11,12,13,14,15,16,17,18],[],false⟩,⟨[],[0,1,2,3,4,5,6,7,8,9,10,11,12,13,14,15,16,17,18,19],[],false⟩,⟨[],[0,1,2,3,4,5,6,7,8,9,10,11,12,13,14,15,16,17,18,19,20],[],false⟩]
theorem Cb {n:Nat} {a0:List Span} {a1:Int} {a2:Int} {a3:Int} {r:List Span} (h:AX n a0 a1 a2 a3=some r):Sound Try.prog 89 [.l (.r 0 2 0 a0.length),.l (iA a1),.l (iA a2),.l (iA a3),.l (.s (.func (.func 72) #[] #[]))] [⟨59,2,false,some 0,lvs (Ah a0)⟩] (.t []) [some ⟨59,2,false,some 0,lvs (Ah r)⟩]:=by
 unfold AX at h;refine SO 82 Try.func89 fun cx hG (hz:cx.nb=1)=>?_;simp only[it];refine ST ?_;apply AW.block;obtain⟨y2,g2,h⟩:=bnE h;refine zE g2 (mk:=fun gh ls q=>(⟨[(0,.l (.r 0 2 0 q.2.length)),(2,.l (iA a2)),(3,.l (iA a3)),(4,.l (.s (.func (.func 72) #[] #[]))),(10,.l (iA q.1))],[some ⟨59,2,false,some 0,lvs (Ah q.2)⟩],82,gh,ls⟩:St)) (N:=fun gh ls=>(sp (xP 0 (cx:=cx) (fun q=>(⟨[],[some ⟨59,2,false,some 0,lvs (Ah q)⟩],82,gh,ls⟩:St))) (rP (cx:=cx) (P:=Try.prog) Try.f89 (fun q=>.t []) (fun q=>[some ⟨59,2,false,some 0,lvs (Ah q)⟩])))) ?_ (noS noX noR) ?_ ?_
 ·refine zA 1 [some 0] hz (by decide) (by decide) ?_ ?_ ?_;all_goals first|(simp[Ab,Af,pickOb];done)|rfl
 ·clear h;intro y1 y3 h
  apply AW.block;obtain⟨v4,e4,v5,e5,h⟩:=oll h;refine AW.step (by simp[← e4,← e5];intros;rfl) ?_;apply AW.seq;obtain⟨v6,e6,h⟩:=ltE h;refine AW.step (by simp[← e6];intros;rfl) ?_;cases v6 with
  |true=>
   replace h:=iT h;refine CT ?_;apply AW.exit;try simp only[nm]
   obtain rfl:=oi h;try simp only[sp_l,sp_r]
   refine xP_i ?_;refine zA 1 [some 0] hz (by decide) (by decide) ?_ ?_ ?_;all_goals first|(simp[Ab,Af,pickOb];done)|rfl
  |false=>
   replace h:=iF h;refine CF ?_;apply AW.skip;try simp only[nm]
   obtain⟨y7,g7,h⟩:=bnE h;refine zD (p:=fun gh ls=>(nP (cx:=cx) (fun q=>(⟨[(0,.l (.r 0 2 0 y1.2.length)),(2,.l (iA a2)),(3,.l (iA a3)),(4,.l (.s (.func (.func 72) #[] #[]))),(10,.l (iA y1.1)),(11,.l (iA q))],[some ⟨59,2,false,some 0,lvs (Ah y1.2)⟩],82,gh,ls⟩:St))) y7) ?_ ?_
   ·replace h:=g7;clear g7
    obtain⟨y8,g8,h⟩:=bnE h;refine zD (p:=fun gh ls=>(nP (cx:=cx) (fun q=>(⟨[(0,.l (.r 0 2 0 y1.2.length)),(2,.l (iA a2)),(3,.l (iA a3)),(4,.l (.s (.func (.func 72) #[] #[]))),(10,.l (iA y1.1)),(11,.l (iA v5)),(40,.l (bA q))],[some ⟨59,2,false,some 0,lvs (Ah y1.2)⟩],82,gh,ls⟩:St))) y8) ?_ ?_
    ·replace h:=g8;clear g8
     obtain⟨v9,e9,v10,e10,h⟩:=oll h;cases v10 with
     |true=>
      replace h:=iT h;obtain⟨v11,e11,v12,e12,h⟩:=olb h;have f13:=Ai e12;try simp[← e9,← e10,← e11,Aa e12] at f13
      obtain⟨v14,e14,v15,e15,h⟩:=olb h;have f16:=Ai e15;try simp[← e9,← e10,← e11,Aa e12,f13,Ae (Aa e12).2 (k:=2) (by decide),Ad (Aa e12).2 (show 2≤2 by decide),lvs1,← e14,Aa e15] at f16
      obtain⟨v17,e17,v18,e18,h⟩:=obl h;apply zH (V:=[_,_,_,_,_,_,_,_,_,_,_,_,_,_,_,_,_,_,_]) mixed DX20t2 19 (by kernel_rfl) (by kernel_rfl)
      ·refine⟨?_,?_,?_,?_,?_,?_,?_,?_,?_,?_,?_,?_,?_,?_,?_,?_,?_,?_,?_,trivial⟩;iterate 19 (· intro tm hr;simp[AllL,rdV] at hr;simp[hr,← e9,← e10,← e11,Aa e12,f13,Ae (Aa e12).2 (k:=2) (by decide),Ad (Aa e12).2 (show 2≤2 by decide),lvs1,← e14,Aa e15,f16,Ae (Aa e15).2 (k:=2) (by decide),Ad (Aa e15).2 (show 2≤2 by decide),← e18];intros;exact KA)
      ·rfl
      ·simp[tmD,putD,← e9,← e10,← e11,Aa e12,f13,Ae (Aa e12).2 (k:=2) (by decide),Ad (Aa e12).2 (show 2≤2 by decide),lvs1,← e14,Aa e15,f16,Ae (Aa e15).2 (k:=2) (by decide),Ad (Aa e15).2 (show 2≤2 by decide),← e18];rfl
      ·simp[← e9,← e10,← e11,Aa e12,f13,Ae (Aa e12).2 (k:=2) (by decide),Ad (Aa e12).2 (show 2≤2 by decide),lvs1,← e14,Aa e15,f16,Ae (Aa e15).2 (k:=2) (by decide),Ad (Aa e15).2 (show 2≤2 by decide),← e18];intros;refine Aj A1 (A7 e17) rfl ⟨.same rfl,.same rfl,trivial⟩ ?_;try simp[← e9,← e10,← e11,Aa e12,f13,Ae (Aa e12).2 (k:=2) (by decide),Ad (Aa e12).2 (show 2≤2 by decide),lvs1,← e14,Aa e15,f16,Ae (Aa e15).2 (k:=2) (by decide),Ad (Aa e15).2 (show 2≤2 by decide),← e18]
       intros;rfl
      obtain rfl:=oi h;refine nP_i ?_;refine zA 1 [some 0] hz (by decide) (by decide) ?_ ?_ ?_;all_goals first|(simp[Ab,Af,pickOb];done)|rfl
     |false=>
      replace h:=iF h;apply zH (V:=[_,_,_,_,_,_,_,_,_,_,_,_,_,_,_,_,_,_,_]) mixed DX20t2 19 (by kernel_rfl) (by kernel_rfl)
      ·refine⟨?_,?_,?_,?_,?_,?_,?_,?_,?_,?_,?_,?_,?_,?_,?_,?_,?_,?_,?_,trivial⟩;iterate 19 (· intro tm hr;simp[AllL,rdV] at hr;simp[hr,← e9,← e10];intros;exact KA)
      ·rfl
      ·simp[tmD,putD,← e9,← e10];rfl
      ·simp[← e9,← e10];intros;rfl
      obtain rfl:=oi h;refine nP_i ?_;refine zA 1 [some 0] hz (by decide) (by decide) ?_ ?_ ?_;all_goals first|(simp[Ab,Af,pickOb];done)|rfl
    ·rintro e s⟨rfl,hw⟩;refine⟨_,hw,?_⟩;try simp only[nm]
     obtain⟨v19,e19,h⟩:=ltE h;rw[← e19];cases v19 with
     |true=>
      replace h:=iT h;refine CT ?_;obtain⟨v20,e20,h⟩:=ltE h;refine AW.last (by simp[← e20];intros;rfl) ?_;obtain rfl:=oi h;refine nP_i ?_;refine zA 1 [some 0] hz (by decide) (by decide) ?_ ?_ ?_;all_goals first|(simp[Ab,Af,pickOb];done)|rfl
     |false=>
      replace h:=iF h;refine CF ?_;apply AW.skip;try simp only[nm]
      obtain rfl:=oi h;refine nP_i ?_;refine zA 1 [some 0] hz (by decide) (by decide) ?_ ?_ ?_;all_goals first|(simp[Ab,Af,pickOb];done)|rfl
   ·rintro e s⟨rfl,hw⟩;refine⟨_,hw,?_⟩;try simp only[nm]
    apply AW.seq;obtain⟨v21,e21,v22,e22,h⟩:=olb h;have f23:=Ai e22;try simp[← e21,Aa e22] at f23
    obtain⟨v24,e24,v25,e25,h⟩:=olb h;have f26:=Ai e25;try simp[← e21,Aa e22,f23,Ae (Aa e22).2 (k:=2) (by decide),Ad (Aa e22).2 (show 2≤2 by decide),lvs1,← e24,Aa e25] at f26
    obtain⟨v27,e27,v28,e28,v29,e29,h⟩:=obll h;apply zI (V:=[_,_,_,_,_,_,_,_,_,_,_,_,_]) mixed [⟨[0],[],[(4,none)],false⟩,⟨[0],[],[(0,none)],false⟩,⟨[0],[],[(3,none)],false⟩,⟨[0],[],[(10,none)],false⟩,⟨[0],[2,3],[(45,some 2),(46,some 3)],false⟩,⟨[0],[1,2,3,4],[(44,some 1),(47,some 4)],false⟩,⟨[0],[1,2,3,4,5],[(48,some 5)],false⟩,⟨[0],[],[(0,none)],false⟩,⟨[0],[],[(3,none)],false⟩,⟨[0],[],[(11,none)],false⟩,⟨[0],[8,9],[(51,some 8),(52,some 9)],false⟩,⟨[0],[7,8,9,10],[(50,some 7),(53,some 10)],false⟩,⟨[0],[7,8,9,10,11],[(54,some 11)],false⟩,⟨[],[0,1,2,3,4,5,6,7,8,9,10,11,12],[],false⟩,⟨[],[0,1,2,3,4,5,6,7,8,9,10,11,12,13],[],false⟩,⟨[],[0,1,2,3,4,5,6,7,8,9,10,11,12,13,14],[],false⟩] 13 (by kernel_rfl) (by kernel_rfl)
    ·refine⟨?_,?_,?_,?_,?_,?_,?_,?_,?_,?_,?_,?_,?_,trivial⟩;iterate 13 (· intro tm hr;simp[AllL,rdV] at hr;simp[hr,← e21,Aa e22,f23,Ae (Aa e22).2 (k:=2) (by decide),Ad (Aa e22).2 (show 2≤2 by decide),lvs1,← e24,Aa e25,f26,Ae (Aa e25).2 (k:=2) (by decide),Ad (Aa e25).2 (show 2≤2 by decide),← e28,← e29];intros;exact KA)
    ·rfl
    ·simp[tmD,putD,← e21,Aa e22,f23,Ae (Aa e22).2 (k:=2) (by decide),Ad (Aa e22).2 (show 2≤2 by decide),lvs1,← e24,Aa e25,f26,Ae (Aa e25).2 (k:=2) (by decide),Ad (Aa e25).2 (show 2≤2 by decide),← e28,← e29];rfl
    ·simp[← e21,Aa e22,f23,Ae (Aa e22).2 (k:=2) (by decide),Ad (Aa e22).2 (show 2≤2 by decide),lvs1,← e24,Aa e25,f26,Ae (Aa e25).2 (k:=2) (by decide),Ad (Aa e25).2 (show 2≤2 by decide),← e28,← e29];intros;refine Aj A1 (A7 e27) rfl ⟨.same rfl,.same rfl,trivial⟩ ?_;try simp[← e21,Aa e22,f23,Ae (Aa e22).2 (k:=2) (by decide),Ad (Aa e22).2 (show 2≤2 by decide),lvs1,← e24,Aa e25,f26,Ae (Aa e25).2 (k:=2) (by decide),Ad (Aa e25).2 (show 2≤2 by decide),← e28,← e29]
     intros;rfl
    cases v29 with
    |true=>
     replace h:=iT h;refine CT ?_;obtain rfl:=oi h;apply AW.ret;try simp only[nm]
     refine rP_i ?_;refine Left.of (av:=_) (by simp[Try.f89,resV,resC,comp];rfl) ?_;exact zF 1 [some 0] hz rfl (by decide) rfl (by simp[pickOb,Ab,Af]) (by simp[Ab,Af])
    |false=>
     replace h:=iF h;refine CF ?_;apply AW.skip;try simp only[nm]
     have f30:=Ai e25;try simp[← e21,← e24,Aa e25] at f30
     have f31:=Ai e22;try simp[← e21,← e24,Aa e25,f30,Ae (Aa e25).2 (k:=2) (by decide),Ad (Aa e25).2 (show 2≤2 by decide),lvs1,Aa e22] at f31
     have f32:=Ai e22;try simp[← e21,← e24,Aa e25,f30,Ae (Aa e25).2 (k:=2) (by decide),Ad (Aa e25).2 (show 2≤2 by decide),lvs1,Aa e22,f31,Ae (Aa e22).2 (k:=2) (by decide),Ad (Aa e22).2 (show 2≤2 by decide)] at f32
     obtain⟨v33,e33,h⟩:=ltE h;have f34:=AB (Aa e22).2 e33 (cs:=[iA v25.frm,iA v25.to]) (by simp) rfl;try simp at f34
     have f35:=f30;try simp only[Ac e33] at f35
     have f36:=f31;try simp only[Ac e33] at f36
     have f37:=f32;try simp only[Ac e33] at f37
     obtain⟨v38,e38,h⟩:=bnE h;have f39:=Ai e38;try simp[← e21,← e24,Aa e25,f30,Ae (Aa e25).2 (k:=2) (by decide),Ad (Aa e25).2 (show 2≤2 by decide),lvs1,Aa e22,f31,Ae (Aa e22).2 (k:=2) (by decide),Ad (Aa e22).2 (show 2≤2 by decide),f32,f34,f35,f36,f37,Aa e38] at f39
     obtain⟨v40,e40,h⟩:=ltE h;have f41:=AB (Aa e38).2 e40 (cs:=[iA v22.frm,iA v22.to]) (by simp) rfl;try simp at f41
     have f42:=f30;try simp only[Ac e40] at f42
     have f43:=f31;try simp only[Ac e40] at f43
     have f44:=f32;try simp only[Ac e40] at f44
     have f45:=f35;try simp only[Ac e40] at f45
     have f46:=f36;try simp only[Ac e40] at f46
     have f47:=f37;try simp only[Ac e40] at f47
     have f48:=f39;try simp only[Ac e40] at f48
     apply zJ (V:=[_,_,_,_,_,_,_,_,_,_,_,_,_,_,_,_,_,_,_,_,_,_]) (M:=[[some ⟨59,2,false,some 0,lvs (Ah y1.2)⟩],[some ⟨59,2,false,some 0,lvs (Ah v33)⟩]]) mixed [⟨[0],[],[(0,none)],false⟩,⟨[0],[],[(3,none)],false⟩,⟨[0],[],[(10,none)],false⟩,⟨[0],[1,2],[(60,some 1),(61,some 2)],false⟩,⟨[0,1],[],[(0,none)],false⟩,⟨[0,1],[],[(3,none)],false⟩,⟨[0,1],[],[(11,none)],false⟩,⟨[0,1],[5,6],[(64,some 5),(65,some 6)],false⟩,⟨[0],[],[(0,none)],false⟩,⟨[0],[],[(3,none)],false⟩,⟨[0],[],[(11,none)],false⟩,⟨[0],[9,10],[(68,some 9),(69,some 10)],false⟩,⟨[0],[8,9,10,11],[(67,some 8),(70,some 11)],false⟩,⟨[0],[8,9,10,11,12],[(71,some 12)],false⟩,⟨[0],[],[(0,none)],false⟩,⟨[0],[],[(3,none)],false⟩,⟨[0],[],[(10,none)],false⟩,⟨[0],[15,16],[(74,some 15),(75,some 16)],false⟩,⟨[0],[14,15,16,17],[(73,some 14),(76,some 17)],false⟩,⟨[0],[14,15,16,17,18],[(77,some 18)],false⟩,⟨[0],[0,1,2,3,8,9,10,11,12,13,14,15,16,17,18,19],[(59,some 0),(62,some 3)],false⟩,⟨[0],[0,1,2,3,8,9,10,11,12,13,14,15,16,17,18,19,20],[(72,some 13),(79,some 20)],true⟩,⟨[],[0,1,2,3,4,5,6,7,8,9,10,11,12,13,14,15,16,17,18,19,20,21],[],false⟩,⟨[],[0,1,2,3,4,5,6,7,8,9,10,11,12,13,14,15,16,17,18,19,20,21,22],[],false⟩] 22 1 (by kernel_rfl) (by kernel_rfl)
     ·rfl
     ·refine⟨?_,?_,?_,?_,⟨?_,?_⟩,⟨?_,?_⟩,⟨?_,?_⟩,⟨?_,?_⟩,?_,?_,?_,?_,?_,?_,?_,?_,?_,?_,?_,?_,?_,?_,trivial⟩;iterate 26 (· intro tm hr;simp[AllL,rdV] at hr;simp[hr,← e21,← e24,Aa e25,f30,Ae (Aa e25).2 (k:=2) (by decide),Ad (Aa e25).2 (show 2≤2 by decide),lvs1,Aa e22,f31,Ae (Aa e22).2 (k:=2) (by decide),Ad (Aa e22).2 (show 2≤2 by decide),f32,f34,f35,f36,f37,Aa e38,f39,Ac e33,Ad (Aa e38).2 (show 2≤2 by decide),f41,f42,f43,f44,f45,f46,f47,f48];intros;exact KA)
     ·rfl
     ·simp[tmD,putD,← e21,← e24,Aa e25,f30,Ae (Aa e25).2 (k:=2) (by decide),Ad (Aa e25).2 (show 2≤2 by decide),lvs1,Aa e22,f31,Ae (Aa e22).2 (k:=2) (by decide),Ad (Aa e22).2 (show 2≤2 by decide),f32,f34,f35,f36,f37,Aa e38,f39,Ac e33,Ad (Aa e38).2 (show 2≤2 by decide),f41,f42,f43,f44,f45,f46,f47,f48];rfl
     ·simp[← e21,← e24,Aa e25,f30,Ae (Aa e25).2 (k:=2) (by decide),Ad (Aa e25).2 (show 2≤2 by decide),lvs1,Aa e22,f31,Ae (Aa e22).2 (k:=2) (by decide),Ad (Aa e22).2 (show 2≤2 by decide),f32,f34,f35,f36,f37,Aa e38,f39,Ac e33,Ad (Aa e38).2 (show 2≤2 by decide),f41,f42,f43,f44,f45,f46,f47,f48];intros;rfl
     refine SL ?_;obtain rfl:=oi h;refine nP_i ?_;refine zA 1 [some 0] hz (by decide) (by decide) ?_ ?_ ?_;all_goals first|(simp[Ab,Af,pickOb,Ac e33,Ac e40];done)|rfl
 ·rintro e s hp;rcases y2 with y49|y50
  ·replace h:=smL h;obtain⟨rfl,hw⟩:=hp;refine⟨_,hw,?_⟩;try simp only[nm]
   obtain rfl:=oi h;refine Left.of (av:=_) (by simp[Try.f89,resV,resC,comp];rfl) ?_;exact zF 1 [some 0] hz rfl (by decide) rfl (by simp[pickOb,Ab,Af]) (by simp[Ab,Af])
  ·replace h:=smR h;obtain⟨rfl,hl⟩:=hp;refine⟨_,Weak.refl _,?_⟩;obtain rfl:=oi h;exact hl
theorem B9:Enters Try.prog 89:=enters Try.func89 (by kernel_rfl) rfl
def Bd (n:Nat) (a0:List Span) (a1:Int) (a2:Int):Option (List Span) :=
lt (subI .i64 a2 a1) fun v1 =>
lt (subI .i64 v1 1) fun v2 =>
bn (quoI .i64 v2 2) fun v3 =>
bn (iter n (fun (y4:Int×List Span) =>
lt (geI y4.1 0) fun v7 =>
ite' v7 (bn (AX n y4.2 y4.1 v1 a1) fun v8 =>
chk (lenB v8 y4.2) <|
lt (subI .i64 y4.1 1) fun v10 =>
some (.inl (v10,v8))) (some (.inr y4.2))) (v3,a0)) fun (y5:List Span) =>
lt (subI .i64 v1 1) fun v11 =>
bn (iter n (fun (y12:Int×List Span) =>
lt (geI y12.1 0) fun v15 =>
ite' v15 (lt (addI .i64 a1 y12.1) fun v16 =>
bn (nth y12.2 v16) fun v17 =>
bn (nth y12.2 a1) fun v19 =>
lt (y12.2.set a1.toNat v17) fun v22 =>
bn (nth v22 v16) fun v27 =>
lt (v22.set v16.toNat v19) fun v29 =>
bn (AX n v29 0 y12.1 a1) fun v38 =>
chk (lenB v38 v29) <|
lt (subI .i64 y12.1 1) fun v40 =>
some (.inl (v40,v38))) (some (.inr y12.2))) (v11,y5)) fun (y13:List Span) =>
some y13
theorem Dz {n:Nat} {a0:List Span} {a1:Int} {a2:Int} {r:List Span} (h:Bd n a0 a1 a2=some r):Sound Try.prog 82 [.l (.r 0 2 0 a0.length),.l (iA a1),.l (iA a2),.l (.s (.func (.func 72) #[] #[]))] [⟨59,2,false,some 0,lvs (Ah a0)⟩] (.t []) [some ⟨59,2,false,some 0,lvs (Ah r)⟩]:=by
 unfold Bd at h;refine SO 60 Try.func82 fun cx hG (hz:cx.nb=1)=>?_;simp only[it];refine ST ?_;refine ST ?_;obtain⟨v1,e1,h⟩:=ltE h;refine AW.step (by simp[← e1];intros;rfl) ?_;apply AW.seq;obtain⟨v2,e2,v3,e3,h⟩:=olb h;refine AW.step (by simp[← e2,e3];intros;rfl) ?_;apply AW.block;obtain⟨y5,g5,h⟩:=bnE h;refine zE g5 (mk:=fun gh ls q=>(⟨[(0,.l (.r 0 2 0 q.2.length)),(3,.l (.s (.func (.func 72) #[] #[]))),(8,.l (iA a1)),(9,.l (iA 0)),(10,.l (iA v1)),(11,.l (iA q.1))],[some ⟨59,2,false,some 0,lvs (Ah q.2)⟩],60,gh,ls⟩:St)) (N:=fun gh ls=>(xP 0 (cx:=cx) (fun q=>(⟨[(0,.l (.r 0 2 0 q.length)),(3,.l (.s (.func (.func 72) #[] #[]))),(8,.l (iA a1)),(9,.l (iA 0)),(10,.l (iA v1))],[some ⟨59,2,false,some 0,lvs (Ah q)⟩],60,gh,ls⟩:St)))) ?_ noX ?_ ?_
 ·refine zA 1 [some 0] hz (by decide) (by decide) ?_ ?_ ?_;all_goals first|(simp[Ab,Af,pickOb];done)|rfl
 ·clear h;intro y4 y6 h
  apply AW.seq;obtain⟨v7,e7,h⟩:=ltE h;refine AW.step (by simp[← e7];intros;rfl) ?_;cases v7 with
  |true=>
   replace h:=iT h;refine CT ?_;apply AW.skip;try simp only[nm]
   apply AW.seq;apply AW.block;obtain⟨v8,e8,e9,h⟩:=obc h;apply AW.last
   ·simp;intros;refine As [0] B9 (Cb e8) (by decide) (by simp[pickOb,Ab,Af]) rfl rfl (by simp) ⟨.l (.own' (by simp[Ab,Af]) (by simp)),.l (.s _),.l (.s _),.l (.s _),.l (.s _),trivial⟩ ?_;try simp
    intros;rfl
   try simp only[nm]
   obtain⟨v10,e10,h⟩:=ltE h;refine AW.last (by simp[← e10];intros;rfl) ?_;obtain rfl:=oi h;refine nP_i ?_;refine zA 1 [some 0] hz (by decide) (by decide) ?_ ?_ ?_;all_goals first|(simp[Ab,Af,pickOb,Am e9];done)|rfl
  |false=>
   replace h:=iF h;refine CF ?_;apply AW.exit;try simp only[nm]
   obtain rfl:=oi h;refine xP_i ?_;refine zA 1 [some 0] hz (by decide) (by decide) ?_ ?_ ?_;all_goals first|(simp[Ab,Af,pickOb];done)|rfl
 ·rintro e s⟨rfl,hw⟩;refine⟨_,hw,?_⟩;try simp only[nm]
  obtain⟨v11,e11,h⟩:=ltE h;refine AW.step (by simp[← e11];intros;rfl) ?_;apply AW.block;obtain⟨y13,g13,h⟩:=bnE h;refine zE g13 (mk:=fun gh ls q=>(⟨[(0,.l (.r 0 2 0 q.2.length)),(3,.l (.s (.func (.func 72) #[] #[]))),(8,.l (iA a1)),(9,.l (iA 0)),(12,.l (iA q.1))],[some ⟨59,2,false,some 0,lvs (Ah q.2)⟩],60,gh,ls⟩:St)) (N:=fun gh ls=>(xP 2 (cx:=cx) (fun q=>(⟨[],[some ⟨59,2,false,some 0,lvs (Ah q)⟩],60,gh,ls⟩:St)))) ?_ noX ?_ ?_
  ·refine zA 1 [some 0] hz (by decide) (by decide) ?_ ?_ ?_;all_goals first|(simp[Ab,Af,pickOb];done)|rfl
  ·clear h;intro y12 y14 h
   apply AW.seq;obtain⟨v15,e15,h⟩:=ltE h;refine AW.step (by simp[← e15];intros;rfl) ?_;cases v15 with
   |true=>
    replace h:=iT h;refine CT ?_;apply AW.skip;try simp only[nm]
    apply AW.seq;apply AW.block;obtain⟨v16,e16,v17,e17,h⟩:=olb h;have f18:=Ai e17;try simp[← e16,Aa e17] at f18
    obtain⟨v19,e19,h⟩:=bnE h;have f20:=Ai e19;try simp[← e16,Aa e17,f18,Ae (Aa e17).2 (k:=2) (by decide),Ad (Aa e17).2 (show 2≤2 by decide),lvs1,Aa e19] at f20
    have f21:=Ai e19;try simp[← e16,Aa e17,f18,Ae (Aa e17).2 (k:=2) (by decide),Ad (Aa e17).2 (show 2≤2 by decide),lvs1,Aa e19,f20,Ae (Aa e19).2 (k:=2) (by decide),Ad (Aa e19).2 (show 2≤2 by decide)] at f21
    obtain⟨v22,e22,h⟩:=ltE h;have f23:=AB (Aa e19).2 e22 (cs:=[iA v17.frm,iA v17.to]) (by simp) rfl;try simp at f23
    have f24:=f18;try simp only[Ac e22] at f24
    have f25:=f20;try simp only[Ac e22] at f25
    have f26:=f21;try simp only[Ac e22] at f26
    obtain⟨v27,e27,h⟩:=bnE h;have f28:=Ai e27;try simp[← e16,Aa e17,f18,Ae (Aa e17).2 (k:=2) (by decide),Ad (Aa e17).2 (show 2≤2 by decide),lvs1,Aa e19,f20,Ae (Aa e19).2 (k:=2) (by decide),Ad (Aa e19).2 (show 2≤2 by decide),f21,f23,f24,f25,f26,Aa e27] at f28
    obtain⟨v29,e29,h⟩:=ltE h;have f30:=AB (Aa e27).2 e29 (cs:=[iA v19.frm,iA v19.to]) (by simp) rfl;try simp at f30
    have f31:=f18;try simp only[Ac e29] at f31
    have f32:=f20;try simp only[Ac e29] at f32
    have f33:=f21;try simp only[Ac e29] at f33
    have f34:=f24;try simp only[Ac e29] at f34
    have f35:=f25;try simp only[Ac e29] at f35
    have f36:=f26;try simp only[Ac e29] at f36
    have f37:=f28;try simp only[Ac e29] at f37
    apply zJ (V:=[_,_,_,_,_,_,_,_,_,_,_,_,_,_,_,_,_,_]) (M:=[[some ⟨59,2,false,some 0,lvs (Ah y12.2)⟩],[some ⟨59,2,false,some 0,lvs (Ah v22)⟩]]) mixed [⟨[0],[],[(0,none)],false⟩,⟨[0],[],[(8,none)],false⟩,⟨[0,1],[],[(0,none)],false⟩,⟨[0,1],[],[(8,none)],false⟩,⟨[0,1],[],[(12,none)],false⟩,⟨[0,1],[3,4],[(39,some 3),(40,some 4)],false⟩,⟨[0],[],[(0,none)],false⟩,⟨[0],[],[(8,none)],false⟩,⟨[0],[],[(12,none)],false⟩,⟨[0],[7,8],[(43,some 7),(44,some 8)],false⟩,⟨[0],[6,7,8,9],[(42,some 6),(45,some 9)],false⟩,⟨[0],[6,7,8,9,10],[(46,some 10)],false⟩,⟨[0],[],[(0,none)],false⟩,⟨[0],[],[(8,none)],false⟩,⟨[0],[12,13],[(48,some 12),(49,some 13)],false⟩,⟨[0],[12,13,14],[(50,some 14)],false⟩,⟨[0],[0,1,6,7,8,9,10,11,12,13,14,15],[(36,some 0),(37,some 1)],false⟩,⟨[0],[0,1,6,7,8,9,10,11,12,13,14,15,16],[(47,some 11),(52,some 16)],true⟩,⟨[],[0,1,2,3,4,5,6,7,8,9,10,11,12,13,14,15,16,17],[],false⟩,⟨[],[0,1,2,3,4,5,6,7,8,9,10,11,12,13,14,15,16,17,18],[],false⟩] 18 1 (by kernel_rfl) (by kernel_rfl)
    ·rfl
    ·refine⟨?_,?_,⟨?_,?_⟩,⟨?_,?_⟩,⟨?_,?_⟩,⟨?_,?_⟩,?_,?_,?_,?_,?_,?_,?_,?_,?_,?_,?_,?_,trivial⟩;iterate 22 (· intro tm hr;simp[AllL,rdV] at hr;simp[hr,← e16,Aa e17,f18,Ae (Aa e17).2 (k:=2) (by decide),Ad (Aa e17).2 (show 2≤2 by decide),lvs1,Aa e19,f20,Ae (Aa e19).2 (k:=2) (by decide),Ad (Aa e19).2 (show 2≤2 by decide),f21,f23,f24,f25,f26,Aa e27,f28,Ac e22,Ad (Aa e27).2 (show 2≤2 by decide),f30,f31,f32,f33,f34,f35,f36,f37];intros;exact KA)
    ·rfl
    ·simp[tmD,putD,← e16,Aa e17,f18,Ae (Aa e17).2 (k:=2) (by decide),Ad (Aa e17).2 (show 2≤2 by decide),lvs1,Aa e19,f20,Ae (Aa e19).2 (k:=2) (by decide),Ad (Aa e19).2 (show 2≤2 by decide),f21,f23,f24,f25,f26,Aa e27,f28,Ac e22,Ad (Aa e27).2 (show 2≤2 by decide),f30,f31,f32,f33,f34,f35,f36,f37];rfl
    ·simp[← e16,Aa e17,f18,Ae (Aa e17).2 (k:=2) (by decide),Ad (Aa e17).2 (show 2≤2 by decide),lvs1,Aa e19,f20,Ae (Aa e19).2 (k:=2) (by decide),Ad (Aa e19).2 (show 2≤2 by decide),f21,f23,f24,f25,f26,Aa e27,f28,Ac e22,Ad (Aa e27).2 (show 2≤2 by decide),f30,f31,f32,f33,f34,f35,f36,f37];intros;rfl
    obtain⟨v38,e38,e39,h⟩:=obc h;apply AW.last
    ·simp[Ac e22,Ac e29];intros;refine As [0] B9 (Cb e38) (by decide) (by simp[pickOb,Ab,Af]) rfl rfl (by simp) ⟨.l (.own' (by simp[Ab,Af]) (by simp[Ac e22,Ac e29])),.l (.s _),.l (.s _),.l (.s _),.l (.s _),trivial⟩ ?_;try simp[Ac e22,Ac e29]
     intros;rfl
    try simp only[nm]
    obtain⟨v40,e40,h⟩:=ltE h;refine AW.last (by simp[← e40];intros;rfl) ?_;obtain rfl:=oi h;refine nP_i ?_;refine zA 1 [some 0] hz (by decide) (by decide) ?_ ?_ ?_;all_goals first|(simp[Ab,Af,pickOb,Am e39,Ac e22,Ac e29];done)|rfl
   |false=>
    replace h:=iF h;refine CF ?_;apply AW.exit;try simp only[nm]
    obtain rfl:=oi h;refine xP_i ?_;refine zA 1 [some 0] hz (by decide) (by decide) ?_ ?_ ?_;all_goals first|(simp[Ab,Af,pickOb];done)|rfl
  ·rintro e s⟨rfl,hw⟩;refine⟨_,hw,?_⟩;try simp only[nm]
   obtain rfl:=oi h;refine Left.of (av:=_) (by simp[Try.f82,resV,resC,comp];rfl) ?_;exact zF 1 [some 0] hz rfl (by decide) rfl (by simp[pickOb,Ab,Af]) (by simp[Ab,Af])
theorem Dp:Enters Try.prog 82:=enters Try.func82 (by kernel_rfl) rfl
def AH (n:Nat) (a0:List Span) (a1:Int) (a2:Int) (a3:Int):Option (Int×Int×List Span×Int) :=
bn (nth a0 a2) fun v1 =>
bn (nth a0 a1) fun v3 =>
bn (AJ n v1 v3) fun v5 =>
lt (ltI v5 0) fun v6 =>
ite' v6 (lt (addI .i64 a3 1) fun v7 =>
some (a2,a1,a0,v7)) (some (a1,a2,a0,a3))
theorem BN {n:Nat} {a0:List Span} {a1:Int} {a2:Int} {a3:Int} {r:Int×Int×List Span×Int} (h:AH n a0 a1 a2 a3=some r):Sound Try.prog 92 [.l (.r 0 2 0 a0.length),.l (iA a1),.l (iA a2),.l (.p 1 0),.l (.s (.func (.func 72) #[] #[]))] [⟨59,2,false,some 0,lvs (Ah a0)⟩,⟨3,1,false,none,[iA a3]⟩] (.t [(false,[iA r.1]),(false,[iA r.2.1])]) [some ⟨59,2,false,some 0,lvs (Ah r.2.2.1)⟩,some ⟨3,1,false,none,[iA r.2.2.2]⟩]:=by
 unfold AH at h;refine SO 32 Try.func92 fun cx hG (hz:cx.nb=2)=>?_;simp only[it];refine ST ?_;apply AW.seq;obtain⟨v1,e1,h⟩:=bnE h;have f2:=Ai e1;try simp[Aa e1] at f2
 obtain⟨v3,e3,h⟩:=bnE h;have f4:=Ai e3;try simp[Aa e1,f2,Ae (Aa e1).2 (k:=2) (by decide),Ad (Aa e1).2 (show 2≤2 by decide),lvs1,Aa e3] at f4
 obtain⟨v5,e5,v6,e6,h⟩:=obl h;apply zI (V:=[_,_,_,_,_,_,_,_,_]) mixed [⟨[0],[],[(4,none)],false⟩,⟨[0],[],[(0,none)],false⟩,⟨[0],[],[(2,none)],false⟩,⟨[0],[1,2],[(13,some 1),(14,some 2)],false⟩,⟨[0],[1,2,3],[(15,some 3)],false⟩,⟨[0],[],[(0,none)],false⟩,⟨[0],[],[(1,none)],false⟩,⟨[0],[5,6],[(17,some 5),(18,some 6)],false⟩,⟨[0],[5,6,7],[(19,some 7)],false⟩,⟨[],[0,1,2,3,4,5,6,7,8],[],false⟩,⟨[],[0,1,2,3,4,5,6,7,8,9],[],false⟩] 9 (by kernel_rfl) (by kernel_rfl)
 ·refine⟨?_,?_,?_,?_,?_,?_,?_,?_,?_,trivial⟩;iterate 9 (· intro tm hr;simp[AllL,rdV] at hr;simp[hr,Aa e1,f2,Ae (Aa e1).2 (k:=2) (by decide),Ad (Aa e1).2 (show 2≤2 by decide),lvs1,Aa e3,f4,Ae (Aa e3).2 (k:=2) (by decide),Ad (Aa e3).2 (show 2≤2 by decide),← e6];intros;exact KA)
 ·rfl
 ·simp[tmD,putD,Aa e1,f2,Ae (Aa e1).2 (k:=2) (by decide),Ad (Aa e1).2 (show 2≤2 by decide),lvs1,Aa e3,f4,Ae (Aa e3).2 (k:=2) (by decide),Ad (Aa e3).2 (show 2≤2 by decide),← e6];rfl
 ·simp[Aa e1,f2,Ae (Aa e1).2 (k:=2) (by decide),Ad (Aa e1).2 (show 2≤2 by decide),lvs1,Aa e3,f4,Ae (Aa e3).2 (k:=2) (by decide),Ad (Aa e3).2 (show 2≤2 by decide),← e6];intros;refine Aj A1 (A7 e5) rfl ⟨.same rfl,.same rfl,trivial⟩ ?_;try simp[Aa e1,f2,Ae (Aa e1).2 (k:=2) (by decide),Ad (Aa e1).2 (show 2≤2 by decide),lvs1,Aa e3,f4,Ae (Aa e3).2 (k:=2) (by decide),Ad (Aa e3).2 (show 2≤2 by decide),← e6]
  intros;rfl
 cases v6 with
 |true=>
  replace h:=iT h;refine CT ?_;obtain⟨v7,e7,h⟩:=ltE h;refine AW.step (by simp[← e7];intros;rfl) ?_;refine ST ?_;obtain rfl:=oi h;apply AW.ret;refine Left.of (av:=_) (by simp[Try.f92,resV,resC,comp];rfl) ?_;exact zF 2 [some 0,some 1] hz rfl (by decide) rfl (by simp[pickOb,Ab,Af]) (by simp[Ab,Af])
 |false=>
  replace h:=iF h;refine CF ?_;apply AW.skip;try simp only[nm]
  refine ST ?_;obtain rfl:=oi h;apply AW.ret;refine Left.of (av:=_) (by simp[Try.f92,resV,resC,comp];rfl) ?_;exact zF 2 [some 0,some 1] hz rfl (by decide) rfl (by simp[pickOb,Ab,Af]) (by simp[Ab,Af])
theorem BL:Enters Try.prog 92:=enters Try.func92 (by kernel_rfl) rfl
def AI (n:Nat) (a0:List Span) (a1:Int) (a2:Int) (a3:Int) (a4:Int):Option (Int×List Span×Int) :=
bn (AH n a0 a1 a2 a4) fun v1 =>
chk (lenB v1.2.2.1 a0) <|
bn (AH n v1.2.2.1 v1.2.1 a3 v1.2.2.2) fun v3 =>
chk (lenB v3.2.2.1 v1.2.2.1) <|
bn (AH n v3.2.2.1 v1.1 v3.1 v3.2.2.2) fun v5 =>
chk (lenB v5.2.2.1 v3.2.2.1) <|
some (v5.2.1,v5.2.2.1,v5.2.2.2)
theorem Ck {n:Nat} {a0:List Span} {a1:Int} {a2:Int} {a3:Int} {a4:Int} {r:Int×List Span×Int} (h:AI n a0 a1 a2 a3 a4=some r):Sound Try.prog 91 [.l (.r 0 2 0 a0.length),.l (iA a1),.l (iA a2),.l (iA a3),.l (.p 1 0),.l (.s (.func (.func 72) #[] #[]))] [⟨59,2,false,some 0,lvs (Ah a0)⟩,⟨3,1,false,none,[iA a4]⟩] (.l (iA r.1)) [some ⟨59,2,false,some 0,lvs (Ah r.2.1)⟩,some ⟨3,1,false,none,[iA r.2.2]⟩]:=by
 unfold AI at h;refine SO 41 Try.func91 fun cx hG (hz:cx.nb=2)=>?_;simp only[it];refine ST ?_;obtain⟨v1,e1,e2,h⟩:=obc h;apply AW.step
 ·simp;intros;refine As [0,1] BL (BN e1) (by decide) (by simp[pickOb,Ab,Af]) rfl rfl (by simp) ⟨.l (.own' (by simp[Ab,Af]) (by simp)),.l (.s _),.l (.s _),.l (ptrV (by simp[Ab,Af])),.l (.s _),trivial⟩ ?_;try simp
  intros;rfl
 obtain⟨v3,e3,e4,h⟩:=obc h;apply AW.step
 ·simp[Am e2];intros;refine As [0,1] BL (BN e3) (by decide) (by simp[pickOb,Ab,Af]) rfl rfl (by simp) ⟨.l (.own' (by simp[Ab,Af]) (by simp[Am e2])),.l (.s _),.l (.s _),.l (ptrV (by simp[Ab,Af])),.l (.s _),trivial⟩ ?_;try simp[Am e2]
  intros;rfl
 obtain⟨v5,e5,e6,h⟩:=obc h;apply AW.step
 ·simp[Am e2,Am e4];intros;refine As [0,1] BL (BN e5) (by decide) (by simp[pickOb,Ab,Af]) rfl rfl (by simp) ⟨.l (.own' (by simp[Ab,Af]) (by simp[Am e2,Am e4])),.l (.s _),.l (.s _),.l (ptrV (by simp[Ab,Af])),.l (.s _),trivial⟩ ?_;try simp[Am e2,Am e4]
  intros;rfl
 refine ST ?_;obtain rfl:=oi h;apply AW.ret;refine Left.of (av:=_) (by simp[Try.f91,resV,resC,comp];rfl) ?_;exact zF 2 [some 0,some 1] hz rfl (by decide) rfl (by simp[pickOb,Ab,Af,Am e2,Am e4,Am e6]) (by simp[Ab,Af,Am e2,Am e4,Am e6])
theorem Ch:Enters Try.prog 91:=enters Try.func91 (by kernel_rfl) rfl
def Aw (n:Nat) (a0:List Span) (a1:Int) (a2:Int):Option (Int×List Span×Int) :=
lt (subI .i64 a1 1) fun v1 =>
lt (addI .i64 a1 1) fun v2 =>
bn (AI n a0 v1 a1 v2 a2) fun v3 =>
chk (lenB v3.2.1 a0) <|
some (v3.1,v3.2.1,v3.2.2)
theorem Bt {n:Nat} {a0:List Span} {a1:Int} {a2:Int} {r:Int×List Span×Int} (h:Aw n a0 a1 a2=some r):Sound Try.prog 90 [.l (.r 0 2 0 a0.length),.l (iA a1),.l (.p 1 0),.l (.s (.func (.func 72) #[] #[]))] [⟨59,2,false,some 0,lvs (Ah a0)⟩,⟨3,1,false,none,[iA a2]⟩] (.l (iA r.1)) [some ⟨59,2,false,some 0,lvs (Ah r.2.1)⟩,some ⟨3,1,false,none,[iA r.2.2]⟩]:=by
 unfold Aw at h;refine SO 18 Try.func90 fun cx hG (hz:cx.nb=2)=>?_;simp only[it];refine ST ?_;obtain⟨v1,e1,v2,e2,h⟩:=oll h;obtain⟨v3,e3,e4,h⟩:=obc h;apply AW.step
 ·simp[← e1,← e2];intros;refine As [0,1] Ch (Ck e3) (by decide) (by simp[pickOb,Ab,Af]) rfl rfl (by simp) ⟨.l (.own' (by simp[Ab,Af]) (by simp)),.l (.s _),.l (.s _),.l (.s _),.l (ptrV (by simp[Ab,Af])),.l (.s _),trivial⟩ ?_;try simp[← e1,← e2]
  intros;rfl
 obtain rfl:=oi h;apply AW.ret;refine Left.of (av:=_) (by simp[Try.f90,resV,resC,comp];rfl) ?_;exact zF 2 [some 0,some 1] hz rfl (by decide) rfl (by simp[pickOb,Ab,Af,Am e4]) (by simp[Ab,Af,Am e4])
theorem Bs:Enters Try.prog 90:=enters Try.func90 (by kernel_rfl) rfl
def AL (n:Nat) (a0:List Span) (a1:Int) (a2:Int):Option (Int×Int×List Span) :=
lt (subI .i64 a2 a1) fun v1 =>
bn (quoI .i64 v1 4) fun v2 =>
lt (mulI .i64 v2 1) fun v3 =>
lt (addI .i64 a1 v3) fun v4 =>
lt (mulI .i64 v2 2) fun v5 =>
lt (addI .i64 a1 v5) fun v6 =>
lt (mulI .i64 v2 3) fun v7 =>
lt (addI .i64 a1 v7) fun v8 =>
bn (lt (geI v1 8) fun v10 =>
ite' v10 (bn (lt (geI v1 50) fun v12 =>
ite' v12 (bn (Aw n a0 v4 0) fun v13 =>
chk (lenB v13.2.1 a0) <|
bn (Aw n v13.2.1 v6 v13.2.2) fun v15 =>
chk (lenB v15.2.1 v13.2.1) <|
bn (Aw n v15.2.1 v8 v15.2.2) fun v17 =>
chk (lenB v17.2.1 v15.2.1) <|
some ((v13.1,v15.1,v17.1,v17.2.1,v17.2.2))) (some ((v4,v6,v8,a0,0)))) fun (y11:Int×Int×Int×List Span×Int) =>
bn (AI n y11.2.2.2.1 y11.1 y11.2.1 y11.2.2.1 y11.2.2.2.2) fun v19 =>
chk (lenB v19.2.1 y11.2.2.2.1) <|
some ((v19.1,v19.2.1,v19.2.2))) (some ((v6,a0,0)))) fun (y9:Int×List Span×Int) =>
lt (eqI y9.2.2 0) fun v21 =>
ite' v21 (some (y9.1,1,y9.2.1)) (lt (eqI y9.2.2 12) fun v22 =>
ite' v22 (some (y9.1,2,y9.2.1)) (some (y9.1,0,y9.2.1)))
theorem Da {n:Nat} {a0:List Span} {a1:Int} {a2:Int} {r:Int×Int×List Span} (h:AL n a0 a1 a2=some r):Sound Try.prog 84 [.l (.r 0 2 0 a0.length),.l (iA a1),.l (iA a2),.l (.s (.func (.func 72) #[] #[]))] [⟨59,2,false,some 0,lvs (Ah a0)⟩] (.t [(false,[iA r.1]),(false,[iA r.2.1])]) [some ⟨59,2,false,some 0,lvs (Ah r.2.2)⟩]:=by
 unfold AL at h;refine SO 63 Try.func84 fun cx hG (hz:cx.nb=1)=>?_;simp only[it];refine ST ?_;obtain⟨v1,e1,h⟩:=ltE h;refine AW.step (by simp[← e1];intros;rfl) ?_;refine ST ?_;obtain⟨v2,e2,v3,e3,v4,e4,h⟩:=obll h;refine AW.step (by simp[e2,← e3,← e4];intros;rfl) ?_;obtain⟨v5,e5,v6,e6,h⟩:=oll h;refine AW.step (by simp[e2,← e5,← e6];intros;rfl) ?_;obtain⟨v7,e7,v8,e8,h⟩:=oll h;refine AW.step (by simp[e2,← e7,← e8];intros;rfl) ?_;obtain⟨y9,g9,h⟩:=bnE h;refine zD (p:=fun gh ls=>(nP (cx:=cx) (fun q=>(⟨[(11,.l (.p 1 0)),(13,.l (iA q.1))],[some ⟨59,2,false,some 0,lvs (Ah q.2.1)⟩,some ⟨3,1,false,none,[iA q.2.2]⟩],63,gh,ls⟩:St))) y9) ?_ ?_
 ·replace h:=g9;clear g9
  obtain⟨v10,e10,h⟩:=ltE h;refine AW.step (by simp[← e10];intros;rfl) ?_;cases v10 with
  |true=>
   replace h:=iT h;refine CT ?_;obtain⟨y11,g11,h⟩:=bnE h;refine zD (p:=fun gh ls=>(nP (cx:=cx) (fun q=>(⟨[(0,.l (.r 0 2 0 q.2.2.2.1.length)),(3,.l (.s (.func (.func 72) #[] #[]))),(11,.l (.p 1 0)),(12,.l (iA q.1)),(13,.l (iA q.2.1)),(14,.l (iA q.2.2.1))],[some ⟨59,2,false,some 0,lvs (Ah q.2.2.2.1)⟩,some ⟨3,1,false,none,[iA q.2.2.2.2]⟩],63,gh,ls⟩:St))) y11) ?_ ?_
   ·replace h:=g11;clear g11
    obtain⟨v12,e12,h⟩:=ltE h;refine AW.step (by simp[← e12];intros;rfl) ?_;cases v12 with
    |true=>
     replace h:=iT h;refine CT ?_;obtain⟨v13,e13,e14,h⟩:=obc h;apply AW.step
     ·simp;intros;refine As [0,1] Bs (Bt e13) (by decide) (by simp[pickOb,Ab,Af]) rfl rfl (by simp) ⟨.l (.own' (by simp[Ab,Af]) (by simp)),.l (.s _),.l (ptrV (by simp[Ab,Af])),.l (.s _),trivial⟩ ?_;try simp
      intros;rfl
     obtain⟨v15,e15,e16,h⟩:=obc h;apply AW.step
     ·simp[Am e14];intros;refine As [0,1] Bs (Bt e15) (by decide) (by simp[pickOb,Ab,Af]) rfl rfl (by simp) ⟨.l (.own' (by simp[Ab,Af]) (by simp[Am e14])),.l (.s _),.l (ptrV (by simp[Ab,Af])),.l (.s _),trivial⟩ ?_;try simp[Am e14]
      intros;rfl
     obtain⟨v17,e17,e18,h⟩:=obc h;apply AW.last
     ·simp[Am e14,Am e16];intros;refine As [0,1] Bs (Bt e17) (by decide) (by simp[pickOb,Ab,Af]) rfl rfl (by simp) ⟨.l (.own' (by simp[Ab,Af]) (by simp[Am e14,Am e16])),.l (.s _),.l (ptrV (by simp[Ab,Af])),.l (.s _),trivial⟩ ?_;try simp[Am e14,Am e16]
      intros;rfl
     obtain rfl:=oi h;refine nP_i ?_;refine zA 1 [some 0,some 1] hz (by decide) (by decide) ?_ ?_ ?_;all_goals first|(simp[Ab,Af,pickOb,Am e14,Am e16,Am e18];done)|rfl
    |false=>
     replace h:=iF h;refine CF ?_;apply AW.skip;try simp only[nm]
     obtain rfl:=oi h;refine nP_i ?_;refine zA 1 [some 0,some 1] hz (by decide) (by decide) ?_ ?_ ?_;all_goals first|(simp[Ab,Af,pickOb];done)|rfl
   ·rintro e s⟨rfl,hw⟩;refine⟨_,hw,?_⟩;try simp only[nm]
    obtain⟨v19,e19,e20,h⟩:=obc h;apply AW.last
    ·simp;intros;refine As [0,1] Ch (Ck e19) (by decide) (by simp[pickOb,Ab,Af]) rfl rfl (by simp) ⟨.l (.own' (by simp[Ab,Af]) (by simp)),.l (.s _),.l (.s _),.l (.s _),.l (ptrV (by simp[Ab,Af])),.l (.s _),trivial⟩ ?_;try simp
     intros;rfl
    obtain rfl:=oi h;refine nP_i ?_;refine zA 1 [some 0,some 1] hz (by decide) (by decide) ?_ ?_ ?_;all_goals first|(simp[Ab,Af,pickOb,Am e20];done)|rfl
  |false=>
   replace h:=iF h;refine CF ?_;apply AW.skip;try simp only[nm]
   obtain rfl:=oi h;refine nP_i ?_;refine zA 1 [some 0,some 1] hz (by decide) (by decide) ?_ ?_ ?_;all_goals first|(simp[Ab,Af,pickOb];done)|rfl
 ·rintro e s⟨rfl,hw⟩;refine⟨_,hw,?_⟩;try simp only[nm]
  refine ST ?_;apply AW.block;obtain⟨v21,e21,h⟩:=ltE h;refine AW.step (by simp[← e21];intros;rfl) ?_;cases v21 with
  |true=>
   replace h:=iT h;refine CT ?_;refine ST ?_;obtain rfl:=oi h;apply AW.ret;refine Left.of (av:=_) (by simp[Try.f84,resV,resC,comp];rfl) ?_;exact zF 1 [some 0] hz rfl (by decide) rfl (by simp[pickOb,Ab,Af]) (by simp[Ab,Af])
  |false=>
   replace h:=iF h;refine CF ?_;obtain⟨v22,e22,h⟩:=ltE h;refine AW.step (by simp[← e22];intros;rfl) ?_;cases v22 with
   |true=>
    replace h:=iT h;refine CT ?_;refine ST ?_;obtain rfl:=oi h;apply AW.ret;refine Left.of (av:=_) (by simp[Try.f84,resV,resC,comp];rfl) ?_;exact zF 1 [some 0] hz rfl (by decide) rfl (by simp[pickOb,Ab,Af]) (by simp[Ab,Af])
   |false=>
    replace h:=iF h;refine CF ?_;refine ST ?_;obtain rfl:=oi h;apply AW.ret;refine Left.of (av:=_) (by simp[Try.f84,resV,resC,comp];rfl) ?_;exact zF 1 [some 0] hz rfl (by decide) rfl (by simp[pickOb,Ab,Af]) (by simp[Ab,Af])
theorem C3:Enters Try.prog 84:=enters Try.func84 (by kernel_rfl) rfl
def A0 (n:Nat) (a0:List Span) (a1:Int) (a2:Int):Option (List Span) :=
lt (subI .i64 a2 1) fun v1 =>
bn (iter n (fun (y2:Int×Int×List Span) =>
lt (ltI y2.1 y2.2.1) fun v5 =>
ite' v5 (bn (nth y2.2.2 y2.2.1) fun v6 =>
bn (nth y2.2.2 y2.1) fun v8 =>
lt (y2.2.2.set y2.1.toNat v6) fun v11 =>
bn (nth v11 y2.2.1) fun v16 =>
lt (v11.set y2.2.1.toNat v8) fun v18 =>
lt (addI .i64 y2.1 1) fun v27 =>
lt (subI .i64 y2.2.1 1) fun v28 =>
some (.inl (v27,v28,v18))) (some (.inr y2.2.2))) (a1,v1,a0)) fun (y3:List Span) =>
some y3
theorem C4 {n:Nat} {a0:List Span} {a1:Int} {a2:Int} {r:List Span} (h:A0 n a0 a1 a2=some r):Sound Try.prog 85 [.l (.r 0 2 0 a0.length),.l (iA a1),.l (iA a2),.l (.s (.func (.func 72) #[] #[]))] [⟨59,2,false,some 0,lvs (Ah a0)⟩] (.t []) [some ⟨59,2,false,some 0,lvs (Ah r)⟩]:=by
 unfold A0 at h;refine SO 34 Try.func85 fun cx hG (hz:cx.nb=1)=>?_;simp only[it];refine ST ?_;obtain⟨v1,e1,h⟩:=ltE h;refine AW.step (by simp[← e1];intros;rfl) ?_;apply AW.block;obtain⟨y3,g3,h⟩:=bnE h;refine zE g3 (mk:=fun gh ls q=>(⟨[(0,.l (.r 0 2 0 q.2.2.length)),(8,.l (iA q.1)),(9,.l (iA q.2.1))],[some ⟨59,2,false,some 0,lvs (Ah q.2.2)⟩],34,gh,ls⟩:St)) (N:=fun gh ls=>(xP 0 (cx:=cx) (fun q=>(⟨[],[some ⟨59,2,false,some 0,lvs (Ah q)⟩],34,gh,ls⟩:St)))) ?_ noX ?_ ?_
 ·refine zA 1 [some 0] hz (by decide) (by decide) ?_ ?_ ?_;all_goals first|(simp[Ab,Af,pickOb];done)|rfl
 ·clear h;intro y2 y4 h
  apply AW.seq;obtain⟨v5,e5,h⟩:=ltE h;refine AW.step (by simp[← e5];intros;rfl) ?_;cases v5 with
  |true=>
   replace h:=iT h;refine CT ?_;apply AW.skip;try simp only[nm]
   apply AW.block;obtain⟨v6,e6,h⟩:=bnE h;have f7:=Ai e6;try simp[Aa e6] at f7
   obtain⟨v8,e8,h⟩:=bnE h;have f9:=Ai e8;try simp[Aa e6,f7,Ae (Aa e6).2 (k:=2) (by decide),Ad (Aa e6).2 (show 2≤2 by decide),lvs1,Aa e8] at f9
   have f10:=Ai e8;try simp[Aa e6,f7,Ae (Aa e6).2 (k:=2) (by decide),Ad (Aa e6).2 (show 2≤2 by decide),lvs1,Aa e8,f9,Ae (Aa e8).2 (k:=2) (by decide),Ad (Aa e8).2 (show 2≤2 by decide)] at f10
   obtain⟨v11,e11,h⟩:=ltE h;have f12:=AB (Aa e8).2 e11 (cs:=[iA v6.frm,iA v6.to]) (by simp) rfl;try simp at f12
   have f13:=f7;try simp only[Ac e11] at f13
   have f14:=f9;try simp only[Ac e11] at f14
   have f15:=f10;try simp only[Ac e11] at f15
   obtain⟨v16,e16,h⟩:=bnE h;have f17:=Ai e16;try simp[Aa e6,f7,Ae (Aa e6).2 (k:=2) (by decide),Ad (Aa e6).2 (show 2≤2 by decide),lvs1,Aa e8,f9,Ae (Aa e8).2 (k:=2) (by decide),Ad (Aa e8).2 (show 2≤2 by decide),f10,f12,f13,f14,f15,Aa e16] at f17
   obtain⟨v18,e18,h⟩:=ltE h;have f19:=AB (Aa e16).2 e18 (cs:=[iA v8.frm,iA v8.to]) (by simp) rfl;try simp at f19
   have f20:=f7;try simp only[Ac e18] at f20
   have f21:=f9;try simp only[Ac e18] at f21
   have f22:=f10;try simp only[Ac e18] at f22
   have f23:=f13;try simp only[Ac e18] at f23
   have f24:=f14;try simp only[Ac e18] at f24
   have f25:=f15;try simp only[Ac e18] at f25
   have f26:=f17;try simp only[Ac e18] at f26
   apply zJ (V:=[_,_,_,_,_,_,_,_,_,_,_,_,_,_]) (M:=[[some ⟨59,2,false,some 0,lvs (Ah y2.2.2)⟩],[some ⟨59,2,false,some 0,lvs (Ah v11)⟩]]) mixed [⟨[0],[],[(0,none)],false⟩,⟨[0],[],[(8,none)],false⟩,⟨[0,1],[],[(0,none)],false⟩,⟨[0,1],[],[(9,none)],false⟩,⟨[0],[],[(0,none)],false⟩,⟨[0],[],[(9,none)],false⟩,⟨[0],[4,5],[(20,some 4),(21,some 5)],false⟩,⟨[0],[4,5,6],[(22,some 6)],false⟩,⟨[0],[],[(0,none)],false⟩,⟨[0],[],[(8,none)],false⟩,⟨[0],[8,9],[(24,some 8),(25,some 9)],false⟩,⟨[0],[8,9,10],[(26,some 10)],false⟩,⟨[0],[0,1,4,5,6,7,8,9,10,11],[(16,some 0),(17,some 1)],false⟩,⟨[0],[0,1,4,5,6,7,8,9,10,11,12],[(23,some 7),(28,some 12)],true⟩,⟨[],[0,1,2,3,4,5,6,7,8,9,10,11,12,13],[],false⟩,⟨[],[0,1,2,3,4,5,6,7,8,9,10,11,12,13,14],[],false⟩] 14 1 (by kernel_rfl) (by kernel_rfl)
   ·rfl
   ·refine⟨?_,?_,⟨?_,?_⟩,⟨?_,?_⟩,?_,?_,?_,?_,?_,?_,?_,?_,?_,?_,trivial⟩;iterate 16 (· intro tm hr;simp[AllL,rdV] at hr;simp[hr,Aa e6,f7,Ae (Aa e6).2 (k:=2) (by decide),Ad (Aa e6).2 (show 2≤2 by decide),lvs1,Aa e8,f9,Ae (Aa e8).2 (k:=2) (by decide),Ad (Aa e8).2 (show 2≤2 by decide),f10,f12,f13,f14,f15,Aa e16,f17,Ac e11,Ad (Aa e16).2 (show 2≤2 by decide),f19,f20,f21,f22,f23,f24,f25,f26];intros;exact KA)
   ·rfl
   ·simp[tmD,putD,Aa e6,f7,Ae (Aa e6).2 (k:=2) (by decide),Ad (Aa e6).2 (show 2≤2 by decide),lvs1,Aa e8,f9,Ae (Aa e8).2 (k:=2) (by decide),Ad (Aa e8).2 (show 2≤2 by decide),f10,f12,f13,f14,f15,Aa e16,f17,Ac e11,Ad (Aa e16).2 (show 2≤2 by decide),f19,f20,f21,f22,f23,f24,f25,f26];rfl
   ·simp[Aa e6,f7,Ae (Aa e6).2 (k:=2) (by decide),Ad (Aa e6).2 (show 2≤2 by decide),lvs1,Aa e8,f9,Ae (Aa e8).2 (k:=2) (by decide),Ad (Aa e8).2 (show 2≤2 by decide),f10,f12,f13,f14,f15,Aa e16,f17,Ac e11,Ad (Aa e16).2 (show 2≤2 by decide),f19,f20,f21,f22,f23,f24,f25,f26];intros;rfl
   obtain⟨v27,e27,h⟩:=ltE h;refine AW.step (by simp[← e27];intros;rfl) ?_;obtain⟨v28,e28,h⟩:=ltE h;refine AW.last (by simp[← e28];intros;rfl) ?_;obtain rfl:=oi h;refine nP_i ?_;refine zA 1 [some 0] hz (by decide) (by decide) ?_ ?_ ?_;all_goals first|(simp[Ab,Af,pickOb,Ac e11,Ac e18];done)|rfl
  |false=>
   replace h:=iF h;refine CF ?_;apply AW.exit;try simp only[nm]
   obtain rfl:=oi h;refine xP_i ?_;refine zA 1 [some 0] hz (by decide) (by decide) ?_ ?_ ?_;all_goals first|(simp[Ab,Af,pickOb];done)|rfl
 ·rintro e s⟨rfl,hw⟩;refine⟨_,hw,?_⟩;try simp only[nm]
  obtain rfl:=oi h;refine Left.of (av:=_) (by simp[Try.f85,resV,resC,comp];rfl) ?_;exact zF 1 [some 0] hz rfl (by decide) rfl (by simp[pickOb,Ab,Af]) (by simp[Ab,Af])
theorem C1:Enters Try.prog 85:=enters Try.func85 (by kernel_rfl) rfl
def AC (n:Nat) (a0:List Span) (a1:Int) (a2:Int):Option (Bool×List Span) :=
lt (addI .i64 a1 1) fun v1 =>
bn (iter n (fun (y2:Int×Int×List Span) =>
lt (ltI y2.2.1 5) fun v5 =>
ite' v5 (bn (bn (iter n (fun (y7:Int) =>
bn (lt (ltI y7 a2) fun v11 =>
ite' v11 (bn (nth y2.2.2 y7) fun v12 =>
lt (subI .i64 y7 1) fun v14 =>
bn (nth y2.2.2 v14) fun v15 =>
bn (AJ n v12 v15) fun v17 =>
lt (ltI v17 0) fun v18 =>
lt (notB v18) fun v19 =>
some (v19)) (some (false))) fun (y10:Bool) =>
lt (y10) fun v20 =>
ite' v20 (lt (addI .i64 y7 1) fun v21 =>
some (.inl v21)) (some (.inr y7))) y2.1) fun (y8:Int) =>
lt (eqI y8 a2) fun v22 =>
ite' v22 (some (.inr (true,y2.2.2))) (lt (subI .i64 a2 a1) fun v23 =>
lt (ltI v23 50) fun v24 =>
ite' v24 (some (.inr (false,y2.2.2))) (lt (subI .i64 y8 1) fun v25 =>
bn (nth y2.2.2 v25) fun v26 =>
bn (nth y2.2.2 y8) fun v28 =>
lt (y2.2.2.set y8.toNat v26) fun v31 =>
bn (nth v31 v25) fun v36 =>
lt (v31.set v25.toNat v28) fun v38 =>
bn (lt (subI .i64 y8 a1) fun v48 =>
lt (geI v48 2) fun v49 =>
ite' v49 (bn (iter n (fun (y50:Int×List Span) =>
lt (geI y50.1 1) fun v53 =>
ite' v53 (bn (nth y50.2 y50.1) fun v54 =>
lt (subI .i64 y50.1 1) fun v56 =>
bn (nth y50.2 v56) fun v57 =>
bn (AJ n v54 v57) fun v59 =>
lt (ltI v59 0) fun v60 =>
lt (notB v60) fun v61 =>
ite' v61 (some (.inr y50.2)) (lt (y50.2.set y50.1.toNat v57) fun v65 =>
bn (nth v65 v56) fun v70 =>
lt (v65.set v56.toNat v54) fun v72 =>
some (.inl (v56,v72)))) (some (.inr y50.2))) (v25,v38)) fun (y51:List Span) =>
some (y51)) (some (v38))) fun (y47:List Span) =>
lt (subI .i64 a2 y8) fun v81 =>
lt (geI v81 2) fun v82 =>
ite' v82 (lt (addI .i64 y8 1) fun v83 =>
bn (iter n (fun (y84:Int×List Span) =>
lt (ltI y84.1 a2) fun v87 =>
ite' v87 (bn (nth y84.2 y84.1) fun v88 =>
lt (subI .i64 y84.1 1) fun v90 =>
bn (nth y84.2 v90) fun v91 =>
bn (AJ n v88 v91) fun v93 =>
lt (ltI v93 0) fun v94 =>
lt (notB v94) fun v95 =>
ite' v95 (some (.inr y84.2)) (lt (y84.2.set y84.1.toNat v91) fun v99 =>
bn (nth v99 v90) fun v104 =>
lt (v99.set v90.toNat v88) fun v106 =>
lt (addI .i64 y84.1 1) fun v115 =>
some (.inl (v115,v106)))) (some (.inr y84.2))) (v83,y47)) fun (y85:List Span) =>
some (.inl (y8,y85))) (some (.inl (y8,y47)))))) fun (y6:(Int×List Span) ⊕ (Bool×List Span)) =>
sm y6 (fun y116=>lt (addI .i64 y2.2.1 1) fun v118 =>
some (.inl (y116.1,v118,y116.2))) (fun y117=>some (.inr (.inr y117)))) (some (.inr (.inl y2.2.2)))) (v1,0,a0)) fun (y3:(List Span) ⊕ (Bool×List Span)) =>
sm y3 (fun y119=>some (false,y119)) (fun y120=>some y120)
def DX20t3:List DI:=[⟨[0],[],[(9,none)],false⟩,⟨[0],[],[(2,none)],false⟩,⟨[0],[0,1],[(19,some 0),(20,some 1)],false⟩,⟨[0],[0,1,2],[(21,some 2)],false⟩,⟨[0],[0,1,2,3],[(3,none),(22,some 3)],false⟩,⟨[0],[0,1,2,3],[(0,none),(22,some 3)],false⟩,⟨[0],[0,1,2,3],[(9,none),(22,some 3)],false⟩,⟨[0],[0,1,2,3,5,6],[(22,some 3),(24,some 5),(25,some 6)],false⟩,⟨[0],[0,1,2,3,5,6,7],[(22,some 3),(26,some 7)],false⟩,⟨[0],[0,1,2,3],[(0,none),(22,some 3)],false⟩,⟨[0],[0,1,2,3],[(9,none),(22,some 3)],false⟩,⟨[0],[0,1,2,3,10],[(22,some 3),(29,some 10)],false⟩,⟨[0],[0,1,2,3,9,10,11],[(22,some 3),(28,some 9),(30,some 11)],false⟩,⟨[0],[0,1,2,3,9,10,11,12],[(22,some 3),(31,some 12)],false⟩,⟨[],[0,1,2,3,4,5,6,7,8,9,10,11,12,13],[],false⟩,⟨[],[0,1,2,3,4,5,6,7,8,9,10,11,12,13,14],[],false⟩,⟨[],[0,1,2,3,4,5,6,7,8,9,10,11,12,13,14,15],[],false⟩,⟨[],[0,1,2,3,4,5,6,7,8,9,10,11,12,13,14,15,16],[],false⟩]
theorem Cp {n:Nat} {a0:List Span} {a1:Int} {a2:Int} {r:Bool×List Span} (h:AC n a0 a1 a2=some r):Sound Try.prog 86 [.l (.r 0 2 0 a0.length),.l (iA a1),.l (iA a2),.l (.s (.func (.func 72) #[] #[]))] [⟨59,2,false,some 0,lvs (Ah a0)⟩] (.l (bA r.1)) [some ⟨59,2,false,some 0,lvs (Ah r.2)⟩]:=by
 unfold AC at h;refine SO 141 Try.func86 fun cx hG (hz:cx.nb=1)=>?_;simp only[it];refine ST ?_;obtain⟨v1,e1,h⟩:=ltE h;refine AW.step (by simp[← e1];intros;rfl) ?_;apply AW.seq;refine ST ?_;apply AW.block;obtain⟨y3,g3,h⟩:=bnE h;refine zE g3 (mk:=fun gh ls q=>(⟨[(0,.l (.r 0 2 0 q.2.2.length)),(1,.l (iA a1)),(2,.l (iA a2)),(3,.l (.s (.func (.func 72) #[] #[]))),(9,.l (iA q.1)),(10,.l (iA q.2.1))],[some ⟨59,2,false,some 0,lvs (Ah q.2.2)⟩],141,gh,ls⟩:St)) (N:=fun gh ls=>(sp (xP 0 (cx:=cx) (fun q=>(⟨[],[some ⟨59,2,false,some 0,lvs (Ah q)⟩],141,gh,ls⟩:St))) (rP (cx:=cx) (P:=Try.prog) Try.f86 (fun q=>.l (bA q.1)) (fun q=>[some ⟨59,2,false,some 0,lvs (Ah q.2)⟩])))) ?_ (noS noX noR) ?_ ?_
 ·refine zA 1 [some 0] hz (by decide) (by decide) ?_ ?_ ?_;all_goals first|(simp[Ab,Af,pickOb];done)|rfl
 ·clear h;intro y2 y4 h
  apply AW.seq;obtain⟨v5,e5,h⟩:=ltE h;refine AW.step (by simp[← e5];intros;rfl) ?_;cases v5 with
  |true=>
   replace h:=iT h;refine CT ?_;apply AW.skip;try simp only[nm]
   obtain⟨y6,g6,h⟩:=bnE h;refine zD (p:=fun gh ls=>(sp (nP (cx:=cx) (fun q=>(⟨[(0,.l (.r 0 2 0 q.2.length)),(1,.l (iA a1)),(2,.l (iA a2)),(3,.l (.s (.func (.func 72) #[] #[]))),(9,.l (iA q.1)),(10,.l (iA y2.2.1))],[some ⟨59,2,false,some 0,lvs (Ah q.2)⟩],141,gh,ls⟩:St))) (rP (cx:=cx) (P:=Try.prog) Try.f86 (fun q=>.l (bA q.1)) (fun q=>[some ⟨59,2,false,some 0,lvs (Ah q.2)⟩]))) y6) ?_ ?_
   ·replace h:=g6;clear g6
    apply AW.block;apply AW.seq;apply AW.block;obtain⟨y8,g8,h⟩:=bnE h;refine zE g8 (mk:=fun gh ls q=>(⟨[(0,.l (.r 0 2 0 y2.2.2.length)),(1,.l (iA a1)),(2,.l (iA a2)),(3,.l (.s (.func (.func 72) #[] #[]))),(9,.l (iA q)),(10,.l (iA y2.2.1))],[some ⟨59,2,false,some 0,lvs (Ah y2.2.2)⟩],141,gh,ls⟩:St)) (N:=fun gh ls=>(xP 2 (cx:=cx) (fun q=>(⟨[(0,.l (.r 0 2 0 y2.2.2.length)),(1,.l (iA a1)),(2,.l (iA a2)),(3,.l (.s (.func (.func 72) #[] #[]))),(9,.l (iA q)),(10,.l (iA y2.2.1))],[some ⟨59,2,false,some 0,lvs (Ah y2.2.2)⟩],141,gh,ls⟩:St)))) ?_ noX ?_ ?_
    ·refine zA 1 [some 0] hz (by decide) (by decide) ?_ ?_ ?_;all_goals first|(simp[Ab,Af,pickOb];done)|rfl
    ·clear h;intro y7 y9 h
     apply AW.seq;obtain⟨y10,g10,h⟩:=bnE h;refine zD (p:=fun gh ls=>(nP (cx:=cx) (fun q=>(⟨[(0,.l (.r 0 2 0 y2.2.2.length)),(1,.l (iA a1)),(2,.l (iA a2)),(3,.l (.s (.func (.func 72) #[] #[]))),(9,.l (iA y7)),(10,.l (iA y2.2.1)),(36,.l (bA q))],[some ⟨59,2,false,some 0,lvs (Ah y2.2.2)⟩],141,gh,ls⟩:St))) y10) ?_ ?_
     ·replace h:=g10;clear g10
      obtain⟨v11,e11,h⟩:=ltE h;cases v11 with
      |true=>
       replace h:=iT h;obtain⟨v12,e12,h⟩:=bnE h;have f13:=Ai e12;try simp[← e11,Aa e12] at f13
       obtain⟨v14,e14,v15,e15,h⟩:=olb h;have f16:=Ai e15;try simp[← e11,Aa e12,f13,Ae (Aa e12).2 (k:=2) (by decide),Ad (Aa e12).2 (show 2≤2 by decide),lvs1,← e14,Aa e15] at f16
       obtain⟨v17,e17,v18,e18,v19,e19,h⟩:=obll h;apply zH (V:=[_,_,_,_,_,_,_,_,_,_,_,_,_,_]) mixed DX20t3 14 (by kernel_rfl) (by kernel_rfl)
       ·refine⟨?_,?_,?_,?_,?_,?_,?_,?_,?_,?_,?_,?_,?_,?_,trivial⟩;iterate 14 (· intro tm hr;simp[AllL,rdV] at hr;simp[hr,← e11,Aa e12,f13,Ae (Aa e12).2 (k:=2) (by decide),Ad (Aa e12).2 (show 2≤2 by decide),lvs1,← e14,Aa e15,f16,Ae (Aa e15).2 (k:=2) (by decide),Ad (Aa e15).2 (show 2≤2 by decide),← e18,← e19];intros;exact KA)
       ·rfl
       ·simp[tmD,putD,← e11,Aa e12,f13,Ae (Aa e12).2 (k:=2) (by decide),Ad (Aa e12).2 (show 2≤2 by decide),lvs1,← e14,Aa e15,f16,Ae (Aa e15).2 (k:=2) (by decide),Ad (Aa e15).2 (show 2≤2 by decide),← e18,← e19];rfl
       ·simp[← e11,Aa e12,f13,Ae (Aa e12).2 (k:=2) (by decide),Ad (Aa e12).2 (show 2≤2 by decide),lvs1,← e14,Aa e15,f16,Ae (Aa e15).2 (k:=2) (by decide),Ad (Aa e15).2 (show 2≤2 by decide),← e18,← e19];intros;refine Aj A1 (A7 e17) rfl ⟨.same rfl,.same rfl,trivial⟩ ?_;try simp[← e11,Aa e12,f13,Ae (Aa e12).2 (k:=2) (by decide),Ad (Aa e12).2 (show 2≤2 by decide),lvs1,← e14,Aa e15,f16,Ae (Aa e15).2 (k:=2) (by decide),Ad (Aa e15).2 (show 2≤2 by decide),← e18,← e19]
        intros;rfl
       obtain rfl:=oi h;refine nP_i ?_;refine zA 1 [some 0] hz (by decide) (by decide) ?_ ?_ ?_;all_goals first|(simp[Ab,Af,pickOb];done)|rfl
      |false=>
       replace h:=iF h;apply zH (V:=[_,_,_,_,_,_,_,_,_,_,_,_,_,_]) mixed DX20t3 14 (by kernel_rfl) (by kernel_rfl)
       ·refine⟨?_,?_,?_,?_,?_,?_,?_,?_,?_,?_,?_,?_,?_,?_,trivial⟩;iterate 14 (· intro tm hr;simp[AllL,rdV] at hr;simp[hr,← e11];intros;exact KA)
       ·rfl
       ·simp[tmD,putD,← e11];rfl
       ·simp[← e11];intros;rfl
       obtain rfl:=oi h;refine nP_i ?_;refine zA 1 [some 0] hz (by decide) (by decide) ?_ ?_ ?_;all_goals first|(simp[Ab,Af,pickOb];done)|rfl
     ·rintro e s⟨rfl,hw⟩;refine⟨_,hw,?_⟩;try simp only[nm]
      obtain⟨v20,e20,h⟩:=ltE h;rw[← e20];cases v20 with
      |true=>
       replace h:=iT h;refine CT ?_;apply AW.skip;try simp only[nm]
       apply AW.block;obtain⟨v21,e21,h⟩:=ltE h;refine AW.last (by simp[← e21];intros;rfl) ?_;obtain rfl:=oi h;refine nP_i ?_;refine zA 1 [some 0] hz (by decide) (by decide) ?_ ?_ ?_;all_goals first|(simp[Ab,Af,pickOb];done)|rfl
      |false=>
       replace h:=iF h;refine CF ?_;apply AW.exit;try simp only[nm]
       obtain rfl:=oi h;refine xP_i ?_;refine zA 1 [some 0] hz (by decide) (by decide) ?_ ?_ ?_;all_goals first|(simp[Ab,Af,pickOb];done)|rfl
    ·rintro e s⟨rfl,hw⟩;refine⟨_,hw,?_⟩;try simp only[nm]
     apply AW.seq;obtain⟨v22,e22,h⟩:=ltE h;refine AW.step (by simp[← e22];intros;rfl) ?_;cases v22 with
     |true=>
      replace h:=iT h;refine CT ?_;refine ST ?_;obtain rfl:=oi h;apply AW.ret;try simp only[nm]
      refine rP_i ?_;refine Left.of (av:=_) (by simp[Try.f86,resV,resC,comp];rfl) ?_;exact zF 1 [some 0] hz rfl (by decide) rfl (by simp[pickOb,Ab,Af]) (by simp[Ab,Af])
     |false=>
      replace h:=iF h;refine CF ?_;apply AW.skip;try simp only[nm]
      apply AW.seq;obtain⟨v23,e23,v24,e24,h⟩:=oll h;refine AW.step (by simp[← e23,← e24];intros;rfl) ?_;cases v24 with
      |true=>
       replace h:=iT h;refine CT ?_;refine ST ?_;obtain rfl:=oi h;apply AW.ret;try simp only[nm]
       refine rP_i ?_;refine Left.of (av:=_) (by simp[Try.f86,resV,resC,comp];rfl) ?_;exact zF 1 [some 0] hz rfl (by decide) rfl (by simp[pickOb,Ab,Af]) (by simp[Ab,Af])
      |false=>
       replace h:=iF h;refine CF ?_;apply AW.skip;try simp only[nm]
       obtain⟨v25,e25,v26,e26,h⟩:=olb h;have f27:=Ai e26;try simp[← e25,Aa e26] at f27
       obtain⟨v28,e28,h⟩:=bnE h;have f29:=Ai e28;try simp[← e25,Aa e26,f27,Ae (Aa e26).2 (k:=2) (by decide),Ad (Aa e26).2 (show 2≤2 by decide),lvs1,Aa e28] at f29
       have f30:=Ai e28;try simp[← e25,Aa e26,f27,Ae (Aa e26).2 (k:=2) (by decide),Ad (Aa e26).2 (show 2≤2 by decide),lvs1,Aa e28,f29,Ae (Aa e28).2 (k:=2) (by decide),Ad (Aa e28).2 (show 2≤2 by decide)] at f30
       obtain⟨v31,e31,h⟩:=ltE h;have f32:=AB (Aa e28).2 e31 (cs:=[iA v26.frm,iA v26.to]) (by simp) rfl;try simp at f32
       have f33:=f27;try simp only[Ac e31] at f33
       have f34:=f29;try simp only[Ac e31] at f34
       have f35:=f30;try simp only[Ac e31] at f35
       obtain⟨v36,e36,h⟩:=bnE h;have f37:=Ai e36;try simp[← e25,Aa e26,f27,Ae (Aa e26).2 (k:=2) (by decide),Ad (Aa e26).2 (show 2≤2 by decide),lvs1,Aa e28,f29,Ae (Aa e28).2 (k:=2) (by decide),Ad (Aa e28).2 (show 2≤2 by decide),f30,f32,f33,f34,f35,Aa e36] at f37
       obtain⟨v38,e38,h⟩:=ltE h;have f39:=AB (Aa e36).2 e38 (cs:=[iA v28.frm,iA v28.to]) (by simp) rfl;try simp at f39
       have f40:=f27;try simp only[Ac e38] at f40
       have f41:=f29;try simp only[Ac e38] at f41
       have f42:=f30;try simp only[Ac e38] at f42
       have f43:=f33;try simp only[Ac e38] at f43
       have f44:=f34;try simp only[Ac e38] at f44
       have f45:=f35;try simp only[Ac e38] at f45
       have f46:=f37;try simp only[Ac e38] at f46
       apply zJ (V:=[_,_,_,_,_,_,_,_,_,_,_,_,_,_,_,_]) (M:=[[some ⟨59,2,false,some 0,lvs (Ah y2.2.2)⟩],[some ⟨59,2,false,some 0,lvs (Ah v31)⟩]]) mixed [⟨[0],[],[(0,none)],false⟩,⟨[0],[],[(9,none)],false⟩,⟨[0,1],[],[(0,none)],false⟩,⟨[0,1],[],[(9,none)],false⟩,⟨[0,1],[3],[(49,some 3)],false⟩,⟨[0],[],[(0,none)],false⟩,⟨[0],[],[(9,none)],false⟩,⟨[0],[6],[(52,some 6)],false⟩,⟨[0],[5,6,7],[(51,some 5),(53,some 7)],false⟩,⟨[0],[5,6,7,8],[(54,some 8)],false⟩,⟨[0],[],[(0,none)],false⟩,⟨[0],[],[(9,none)],false⟩,⟨[0],[10,11],[(56,some 10),(57,some 11)],false⟩,⟨[0],[10,11,12],[(58,some 12)],false⟩,⟨[0],[0,1,5,6,7,8,9,10,11,12,13],[(46,some 0),(47,some 1)],false⟩,⟨[0],[0,1,5,6,7,8,9,10,11,12,13,14],[(55,some 9),(60,some 14)],true⟩,⟨[],[0,1,2,3,4,5,6,7,8,9,10,11,12,13,14,15],[],false⟩,⟨[],[0,1,2,3,4,5,6,7,8,9,10,11,12,13,14,15,16],[],false⟩] 16 1 (by kernel_rfl) (by kernel_rfl)
       ·rfl
       ·refine⟨?_,?_,⟨?_,?_⟩,⟨?_,?_⟩,⟨?_,?_⟩,?_,?_,?_,?_,?_,?_,?_,?_,?_,?_,?_,trivial⟩;iterate 19 (· intro tm hr;simp[AllL,rdV] at hr;simp[hr,← e25,Aa e26,f27,Ae (Aa e26).2 (k:=2) (by decide),Ad (Aa e26).2 (show 2≤2 by decide),lvs1,Aa e28,f29,Ae (Aa e28).2 (k:=2) (by decide),Ad (Aa e28).2 (show 2≤2 by decide),f30,f32,f33,f34,f35,Aa e36,f37,Ac e31,Ad (Aa e36).2 (show 2≤2 by decide),f39,f40,f41,f42,f43,f44,f45,f46];intros;exact KA)
       ·rfl
       ·simp[tmD,putD,← e25,Aa e26,f27,Ae (Aa e26).2 (k:=2) (by decide),Ad (Aa e26).2 (show 2≤2 by decide),lvs1,Aa e28,f29,Ae (Aa e28).2 (k:=2) (by decide),Ad (Aa e28).2 (show 2≤2 by decide),f30,f32,f33,f34,f35,Aa e36,f37,Ac e31,Ad (Aa e36).2 (show 2≤2 by decide),f39,f40,f41,f42,f43,f44,f45,f46];rfl
       ·simp[← e25,Aa e26,f27,Ae (Aa e26).2 (k:=2) (by decide),Ad (Aa e26).2 (show 2≤2 by decide),lvs1,Aa e28,f29,Ae (Aa e28).2 (k:=2) (by decide),Ad (Aa e28).2 (show 2≤2 by decide),f30,f32,f33,f34,f35,Aa e36,f37,Ac e31,Ad (Aa e36).2 (show 2≤2 by decide),f39,f40,f41,f42,f43,f44,f45,f46];intros;rfl
       obtain⟨y47,g47,h⟩:=bnE h;refine zD (p:=fun gh ls=>(nP (cx:=cx) (fun q=>(⟨[(0,.l (.r 0 2 0 q.length)),(1,.l (iA a1)),(2,.l (iA a2)),(3,.l (.s (.func (.func 72) #[] #[]))),(9,.l (iA y8)),(10,.l (iA y2.2.1))],[some ⟨59,2,false,some 0,lvs (Ah q)⟩],141,gh,ls⟩:St))) y47) ?_ ?_
       ·replace h:=g47;clear g47
        obtain⟨v48,e48,v49,e49,h⟩:=oll h;refine AW.step (by simp[← e48,← e49];intros;rfl) ?_;cases v49 with
        |true=>
         replace h:=iT h;refine CT ?_;refine AW.step (by simp[← e25];intros;rfl) ?_;apply AW.block;obtain⟨y51,g51,h⟩:=bnE h;refine zE g51 (mk:=fun gh ls q=>(⟨[(0,.l (.r 0 2 0 q.2.length)),(1,.l (iA a1)),(2,.l (iA a2)),(3,.l (.s (.func (.func 72) #[] #[]))),(9,.l (iA y8)),(10,.l (iA y2.2.1)),(11,.l (iA q.1))],[some ⟨59,2,false,some 0,lvs (Ah q.2)⟩],141,gh,ls⟩:St)) (N:=fun gh ls=>(xP 4 (cx:=cx) (fun q=>(⟨[(0,.l (.r 0 2 0 q.length)),(1,.l (iA a1)),(2,.l (iA a2)),(3,.l (.s (.func (.func 72) #[] #[]))),(9,.l (iA y8)),(10,.l (iA y2.2.1))],[some ⟨59,2,false,some 0,lvs (Ah q)⟩],141,gh,ls⟩:St)))) ?_ noX ?_ ?_
         ·refine zA 1 [some 0] hz (by decide) (by decide) ?_ ?_ ?_;all_goals first|(simp[Ab,Af,pickOb,Ac e31,Ac e38];done)|rfl
         ·clear h;intro y50 y52 h
          apply AW.seq;obtain⟨v53,e53,h⟩:=ltE h;refine AW.step (by simp[← e53];intros;rfl) ?_;cases v53 with
          |true=>
           replace h:=iT h;refine CT ?_;apply AW.skip;try simp only[nm]
           apply AW.seq;apply AW.block;apply AW.seq;obtain⟨v54,e54,h⟩:=bnE h;have f55:=Ai e54;try simp[Aa e54] at f55
           obtain⟨v56,e56,v57,e57,h⟩:=olb h;have f58:=Ai e57;try simp[Aa e54,f55,Ae (Aa e54).2 (k:=2) (by decide),Ad (Aa e54).2 (show 2≤2 by decide),lvs1,← e56,Aa e57] at f58
           obtain⟨v59,e59,v60,e60,v61,e61,h⟩:=obll h;apply zI (V:=[_,_,_,_,_,_,_,_,_,_]) mixed [⟨[0],[],[(3,none)],false⟩,⟨[0],[],[(0,none)],false⟩,⟨[0],[],[(11,none)],false⟩,⟨[0],[1,2],[(73,some 1),(74,some 2)],false⟩,⟨[0],[1,2,3],[(75,some 3)],false⟩,⟨[0],[],[(0,none)],false⟩,⟨[0],[],[(11,none)],false⟩,⟨[0],[6],[(78,some 6)],false⟩,⟨[0],[5,6,7],[(77,some 5),(79,some 7)],false⟩,⟨[0],[5,6,7,8],[(80,some 8)],false⟩,⟨[],[0,1,2,3,4,5,6,7,8,9],[],false⟩,⟨[],[0,1,2,3,4,5,6,7,8,9,10],[],false⟩,⟨[],[0,1,2,3,4,5,6,7,8,9,10,11],[],false⟩] 10 (by kernel_rfl) (by kernel_rfl)
           ·refine⟨?_,?_,?_,?_,?_,?_,?_,?_,?_,?_,trivial⟩;iterate 10 (· intro tm hr;simp[AllL,rdV] at hr;simp[hr,Aa e54,f55,Ae (Aa e54).2 (k:=2) (by decide),Ad (Aa e54).2 (show 2≤2 by decide),lvs1,← e56,Aa e57,f58,Ae (Aa e57).2 (k:=2) (by decide),Ad (Aa e57).2 (show 2≤2 by decide),← e60,← e61];intros;exact KA)
           ·rfl
           ·simp[tmD,putD,Aa e54,f55,Ae (Aa e54).2 (k:=2) (by decide),Ad (Aa e54).2 (show 2≤2 by decide),lvs1,← e56,Aa e57,f58,Ae (Aa e57).2 (k:=2) (by decide),Ad (Aa e57).2 (show 2≤2 by decide),← e60,← e61];rfl
           ·simp[Aa e54,f55,Ae (Aa e54).2 (k:=2) (by decide),Ad (Aa e54).2 (show 2≤2 by decide),lvs1,← e56,Aa e57,f58,Ae (Aa e57).2 (k:=2) (by decide),Ad (Aa e57).2 (show 2≤2 by decide),← e60,← e61];intros;refine Aj A1 (A7 e59) rfl ⟨.same rfl,.same rfl,trivial⟩ ?_;try simp[Aa e54,f55,Ae (Aa e54).2 (k:=2) (by decide),Ad (Aa e54).2 (show 2≤2 by decide),lvs1,← e56,Aa e57,f58,Ae (Aa e57).2 (k:=2) (by decide),Ad (Aa e57).2 (show 2≤2 by decide),← e60,← e61]
            intros;rfl
           cases v61 with
           |true=>
            replace h:=iT h;refine CT ?_;apply AW.exit;try simp only[nm]
            obtain rfl:=oi h;refine xP_i ?_;refine zA 1 [some 0] hz (by decide) (by decide) ?_ ?_ ?_;all_goals first|(simp[Ab,Af,pickOb];done)|rfl
           |false=>
            replace h:=iF h;refine CF ?_;apply AW.skip;try simp only[nm]
            have f62:=Ai e57;try simp[← e56,Aa e57] at f62
            have f63:=Ai e54;try simp[← e56,Aa e57,f62,Ae (Aa e57).2 (k:=2) (by decide),Ad (Aa e57).2 (show 2≤2 by decide),lvs1,Aa e54] at f63
            have f64:=Ai e54;try simp[← e56,Aa e57,f62,Ae (Aa e57).2 (k:=2) (by decide),Ad (Aa e57).2 (show 2≤2 by decide),lvs1,Aa e54,f63,Ae (Aa e54).2 (k:=2) (by decide),Ad (Aa e54).2 (show 2≤2 by decide)] at f64
            obtain⟨v65,e65,h⟩:=ltE h;have f66:=AB (Aa e54).2 e65 (cs:=[iA v57.frm,iA v57.to]) (by simp) rfl;try simp at f66
            have f67:=f62;try simp only[Ac e65] at f67
            have f68:=f63;try simp only[Ac e65] at f68
            have f69:=f64;try simp only[Ac e65] at f69
            obtain⟨v70,e70,h⟩:=bnE h;have f71:=Ai e70;try simp[← e56,Aa e57,f62,Ae (Aa e57).2 (k:=2) (by decide),Ad (Aa e57).2 (show 2≤2 by decide),lvs1,Aa e54,f63,Ae (Aa e54).2 (k:=2) (by decide),Ad (Aa e54).2 (show 2≤2 by decide),f64,f66,f67,f68,f69,Aa e70] at f71
            obtain⟨v72,e72,h⟩:=ltE h;have f73:=AB (Aa e70).2 e72 (cs:=[iA v54.frm,iA v54.to]) (by simp) rfl;try simp at f73
            have f74:=f62;try simp only[Ac e72] at f74
            have f75:=f63;try simp only[Ac e72] at f75
            have f76:=f64;try simp only[Ac e72] at f76
            have f77:=f67;try simp only[Ac e72] at f77
            have f78:=f68;try simp only[Ac e72] at f78
            have f79:=f69;try simp only[Ac e72] at f79
            have f80:=f71;try simp only[Ac e72] at f80
            apply zL (V:=[_,_,_,_,_,_,_,_,_,_,_,_,_,_,_,_]) (M:=[[some ⟨59,2,false,some 0,lvs (Ah y50.2)⟩],[some ⟨59,2,false,some 0,lvs (Ah v65)⟩]]) mixed [⟨[0],[],[(0,none)],false⟩,⟨[0],[],[(11,none)],false⟩,⟨[0,1],[],[(0,none)],false⟩,⟨[0,1],[],[(11,none)],false⟩,⟨[0,1],[3],[(88,some 3)],false⟩,⟨[0],[],[(0,none)],false⟩,⟨[0],[],[(11,none)],false⟩,⟨[0],[6],[(91,some 6)],false⟩,⟨[0],[5,6,7],[(90,some 5),(92,some 7)],false⟩,⟨[0],[5,6,7,8],[(93,some 8)],false⟩,⟨[0],[],[(0,none)],false⟩,⟨[0],[],[(11,none)],false⟩,⟨[0],[10,11],[(95,some 10),(96,some 11)],false⟩,⟨[0],[10,11,12],[(97,some 12)],false⟩,⟨[0],[0,1,5,6,7,8,9,10,11,12,13],[(85,some 0),(86,some 1)],false⟩,⟨[0],[0,1,5,6,7,8,9,10,11,12,13,14],[(94,some 9),(99,some 14)],true⟩,⟨[],[0,1,2,3,4,5,6,7,8,9,10,11,12,13,14,15],[],false⟩,⟨[],[0,1,2,3,4,5,6,7,8,9,10,11,12,13,14,15,16],[],false⟩] 16 1 (by kernel_rfl) (by kernel_rfl)
            ·rfl
            ·refine⟨?_,?_,⟨?_,?_⟩,⟨?_,?_⟩,⟨?_,?_⟩,?_,?_,?_,?_,?_,?_,?_,?_,?_,?_,?_,trivial⟩;iterate 19 (· intro tm hr;simp[AllL,rdV] at hr;simp[hr,← e56,Aa e57,f62,Ae (Aa e57).2 (k:=2) (by decide),Ad (Aa e57).2 (show 2≤2 by decide),lvs1,Aa e54,f63,Ae (Aa e54).2 (k:=2) (by decide),Ad (Aa e54).2 (show 2≤2 by decide),f64,f66,f67,f68,f69,Aa e70,f71,Ac e65,Ad (Aa e70).2 (show 2≤2 by decide),f73,f74,f75,f76,f77,f78,f79,f80];intros;exact KA)
            ·rfl
            ·simp[tmD,putD,← e56,Aa e57,f62,Ae (Aa e57).2 (k:=2) (by decide),Ad (Aa e57).2 (show 2≤2 by decide),lvs1,Aa e54,f63,Ae (Aa e54).2 (k:=2) (by decide),Ad (Aa e54).2 (show 2≤2 by decide),f64,f66,f67,f68,f69,Aa e70,f71,Ac e65,Ad (Aa e70).2 (show 2≤2 by decide),f73,f74,f75,f76,f77,f78,f79,f80];rfl
            ·simp[← e56,Aa e57,f62,Ae (Aa e57).2 (k:=2) (by decide),Ad (Aa e57).2 (show 2≤2 by decide),lvs1,Aa e54,f63,Ae (Aa e54).2 (k:=2) (by decide),Ad (Aa e54).2 (show 2≤2 by decide),f64,f66,f67,f68,f69,Aa e70,f71,Ac e65,Ad (Aa e70).2 (show 2≤2 by decide),f73,f74,f75,f76,f77,f78,f79,f80];intros;rfl
            try simp only[nm]
            refine AW.last (by simp[← e56];intros;rfl) ?_;obtain rfl:=oi h;refine nP_i ?_;refine zA 1 [some 0] hz (by decide) (by decide) ?_ ?_ ?_;all_goals first|(simp[Ab,Af,pickOb,Ac e65,Ac e72];done)|rfl
          |false=>
           replace h:=iF h;refine CF ?_;apply AW.exit;try simp only[nm]
           obtain rfl:=oi h;refine xP_i ?_;refine zA 1 [some 0] hz (by decide) (by decide) ?_ ?_ ?_;all_goals first|(simp[Ab,Af,pickOb];done)|rfl
         ·rintro e s⟨rfl,hw⟩;refine⟨_,hw,?_⟩;try simp only[nm]
          obtain rfl:=oi h;refine nP_i ?_;refine zA 1 [some 0] hz (by decide) (by decide) ?_ ?_ ?_;all_goals first|(simp[Ab,Af,pickOb];done)|rfl
        |false=>
         replace h:=iF h;refine CF ?_;apply AW.skip;try simp only[nm]
         obtain rfl:=oi h;refine nP_i ?_;refine zA 1 [some 0] hz (by decide) (by decide) ?_ ?_ ?_;all_goals first|(simp[Ab,Af,pickOb,Ac e31,Ac e38];done)|rfl
       ·rintro e s⟨rfl,hw⟩;refine⟨_,hw,?_⟩;try simp only[nm]
        obtain⟨v81,e81,v82,e82,h⟩:=oll h;refine AW.step (by simp[← e81,← e82];intros;rfl) ?_;cases v82 with
        |true=>
         replace h:=iT h;refine CT ?_;obtain⟨v83,e83,h⟩:=ltE h;refine AW.step (by simp[← e83];intros;rfl) ?_;apply AW.block;obtain⟨y85,g85,h⟩:=bnE h;refine zE g85 (mk:=fun gh ls q=>(⟨[(0,.l (.r 0 2 0 q.2.length)),(1,.l (iA a1)),(2,.l (iA a2)),(3,.l (.s (.func (.func 72) #[] #[]))),(9,.l (iA y8)),(10,.l (iA y2.2.1)),(12,.l (iA q.1))],[some ⟨59,2,false,some 0,lvs (Ah q.2)⟩],141,gh,ls⟩:St)) (N:=fun gh ls=>(xP 6 (cx:=cx) (fun q=>(⟨[(0,.l (.r 0 2 0 q.length)),(1,.l (iA a1)),(2,.l (iA a2)),(3,.l (.s (.func (.func 72) #[] #[]))),(9,.l (iA y8)),(10,.l (iA y2.2.1))],[some ⟨59,2,false,some 0,lvs (Ah q)⟩],141,gh,ls⟩:St)))) ?_ noX ?_ ?_
         ·refine zA 1 [some 0] hz (by decide) (by decide) ?_ ?_ ?_;all_goals first|(simp[Ab,Af,pickOb];done)|rfl
         ·clear h;intro y84 y86 h
          apply AW.seq;obtain⟨v87,e87,h⟩:=ltE h;refine AW.step (by simp[← e87];intros;rfl) ?_;cases v87 with
          |true=>
           replace h:=iT h;refine CT ?_;apply AW.skip;try simp only[nm]
           apply AW.seq;apply AW.block;apply AW.seq;obtain⟨v88,e88,h⟩:=bnE h;have f89:=Ai e88;try simp[Aa e88] at f89
           obtain⟨v90,e90,v91,e91,h⟩:=olb h;have f92:=Ai e91;try simp[Aa e88,f89,Ae (Aa e88).2 (k:=2) (by decide),Ad (Aa e88).2 (show 2≤2 by decide),lvs1,← e90,Aa e91] at f92
           obtain⟨v93,e93,v94,e94,v95,e95,h⟩:=obll h;apply zI (V:=[_,_,_,_,_,_,_,_,_,_]) mixed [⟨[0],[],[(3,none)],false⟩,⟨[0],[],[(0,none)],false⟩,⟨[0],[],[(12,none)],false⟩,⟨[0],[1,2],[(113,some 1),(114,some 2)],false⟩,⟨[0],[1,2,3],[(115,some 3)],false⟩,⟨[0],[],[(0,none)],false⟩,⟨[0],[],[(12,none)],false⟩,⟨[0],[6],[(118,some 6)],false⟩,⟨[0],[5,6,7],[(117,some 5),(119,some 7)],false⟩,⟨[0],[5,6,7,8],[(120,some 8)],false⟩,⟨[],[0,1,2,3,4,5,6,7,8,9],[],false⟩,⟨[],[0,1,2,3,4,5,6,7,8,9,10],[],false⟩,⟨[],[0,1,2,3,4,5,6,7,8,9,10,11],[],false⟩] 10 (by kernel_rfl) (by kernel_rfl)
           ·refine⟨?_,?_,?_,?_,?_,?_,?_,?_,?_,?_,trivial⟩;iterate 10 (· intro tm hr;simp[AllL,rdV] at hr;simp[hr,Aa e88,f89,Ae (Aa e88).2 (k:=2) (by decide),Ad (Aa e88).2 (show 2≤2 by decide),lvs1,← e90,Aa e91,f92,Ae (Aa e91).2 (k:=2) (by decide),Ad (Aa e91).2 (show 2≤2 by decide),← e94,← e95];intros;exact KA)
           ·rfl
           ·simp[tmD,putD,Aa e88,f89,Ae (Aa e88).2 (k:=2) (by decide),Ad (Aa e88).2 (show 2≤2 by decide),lvs1,← e90,Aa e91,f92,Ae (Aa e91).2 (k:=2) (by decide),Ad (Aa e91).2 (show 2≤2 by decide),← e94,← e95];rfl
           ·simp[Aa e88,f89,Ae (Aa e88).2 (k:=2) (by decide),Ad (Aa e88).2 (show 2≤2 by decide),lvs1,← e90,Aa e91,f92,Ae (Aa e91).2 (k:=2) (by decide),Ad (Aa e91).2 (show 2≤2 by decide),← e94,← e95];intros;refine Aj A1 (A7 e93) rfl ⟨.same rfl,.same rfl,trivial⟩ ?_;try simp[Aa e88,f89,Ae (Aa e88).2 (k:=2) (by decide),Ad (Aa e88).2 (show 2≤2 by decide),lvs1,← e90,Aa e91,f92,Ae (Aa e91).2 (k:=2) (by decide),Ad (Aa e91).2 (show 2≤2 by decide),← e94,← e95]
            intros;rfl
           cases v95 with
           |true=>
            replace h:=iT h;refine CT ?_;apply AW.exit;try simp only[nm]
            obtain rfl:=oi h;refine xP_i ?_;refine zA 1 [some 0] hz (by decide) (by decide) ?_ ?_ ?_;all_goals first|(simp[Ab,Af,pickOb];done)|rfl
           |false=>
            replace h:=iF h;refine CF ?_;apply AW.skip;try simp only[nm]
            have f96:=Ai e91;try simp[← e90,Aa e91] at f96
            have f97:=Ai e88;try simp[← e90,Aa e91,f96,Ae (Aa e91).2 (k:=2) (by decide),Ad (Aa e91).2 (show 2≤2 by decide),lvs1,Aa e88] at f97
            have f98:=Ai e88;try simp[← e90,Aa e91,f96,Ae (Aa e91).2 (k:=2) (by decide),Ad (Aa e91).2 (show 2≤2 by decide),lvs1,Aa e88,f97,Ae (Aa e88).2 (k:=2) (by decide),Ad (Aa e88).2 (show 2≤2 by decide)] at f98
            obtain⟨v99,e99,h⟩:=ltE h;have f100:=AB (Aa e88).2 e99 (cs:=[iA v91.frm,iA v91.to]) (by simp) rfl;try simp at f100
            have f101:=f96;try simp only[Ac e99] at f101
            have f102:=f97;try simp only[Ac e99] at f102
            have f103:=f98;try simp only[Ac e99] at f103
            obtain⟨v104,e104,h⟩:=bnE h;have f105:=Ai e104;try simp[← e90,Aa e91,f96,Ae (Aa e91).2 (k:=2) (by decide),Ad (Aa e91).2 (show 2≤2 by decide),lvs1,Aa e88,f97,Ae (Aa e88).2 (k:=2) (by decide),Ad (Aa e88).2 (show 2≤2 by decide),f98,f100,f101,f102,f103,Aa e104] at f105
            obtain⟨v106,e106,h⟩:=ltE h;have f107:=AB (Aa e104).2 e106 (cs:=[iA v88.frm,iA v88.to]) (by simp) rfl;try simp at f107
            have f108:=f96;try simp only[Ac e106] at f108
            have f109:=f97;try simp only[Ac e106] at f109
            have f110:=f98;try simp only[Ac e106] at f110
            have f111:=f101;try simp only[Ac e106] at f111
            have f112:=f102;try simp only[Ac e106] at f112
            have f113:=f103;try simp only[Ac e106] at f113
            have f114:=f105;try simp only[Ac e106] at f114
            apply zL (V:=[_,_,_,_,_,_,_,_,_,_,_,_,_,_,_,_]) (M:=[[some ⟨59,2,false,some 0,lvs (Ah y84.2)⟩],[some ⟨59,2,false,some 0,lvs (Ah v99)⟩]]) mixed [⟨[0],[],[(0,none)],false⟩,⟨[0],[],[(12,none)],false⟩,⟨[0,1],[],[(0,none)],false⟩,⟨[0,1],[],[(12,none)],false⟩,⟨[0,1],[3],[(128,some 3)],false⟩,⟨[0],[],[(0,none)],false⟩,⟨[0],[],[(12,none)],false⟩,⟨[0],[6],[(131,some 6)],false⟩,⟨[0],[5,6,7],[(130,some 5),(132,some 7)],false⟩,⟨[0],[5,6,7,8],[(133,some 8)],false⟩,⟨[0],[],[(0,none)],false⟩,⟨[0],[],[(12,none)],false⟩,⟨[0],[10,11],[(135,some 10),(136,some 11)],false⟩,⟨[0],[10,11,12],[(137,some 12)],false⟩,⟨[0],[0,1,5,6,7,8,9,10,11,12,13],[(125,some 0),(126,some 1)],false⟩,⟨[0],[0,1,5,6,7,8,9,10,11,12,13,14],[(134,some 9),(139,some 14)],true⟩,⟨[],[0,1,2,3,4,5,6,7,8,9,10,11,12,13,14,15],[],false⟩,⟨[],[0,1,2,3,4,5,6,7,8,9,10,11,12,13,14,15,16],[],false⟩] 16 1 (by kernel_rfl) (by kernel_rfl)
            ·rfl
            ·refine⟨?_,?_,⟨?_,?_⟩,⟨?_,?_⟩,⟨?_,?_⟩,?_,?_,?_,?_,?_,?_,?_,?_,?_,?_,?_,trivial⟩;iterate 19 (· intro tm hr;simp[AllL,rdV] at hr;simp[hr,← e90,Aa e91,f96,Ae (Aa e91).2 (k:=2) (by decide),Ad (Aa e91).2 (show 2≤2 by decide),lvs1,Aa e88,f97,Ae (Aa e88).2 (k:=2) (by decide),Ad (Aa e88).2 (show 2≤2 by decide),f98,f100,f101,f102,f103,Aa e104,f105,Ac e99,Ad (Aa e104).2 (show 2≤2 by decide),f107,f108,f109,f110,f111,f112,f113,f114];intros;exact KA)
            ·rfl
            ·simp[tmD,putD,← e90,Aa e91,f96,Ae (Aa e91).2 (k:=2) (by decide),Ad (Aa e91).2 (show 2≤2 by decide),lvs1,Aa e88,f97,Ae (Aa e88).2 (k:=2) (by decide),Ad (Aa e88).2 (show 2≤2 by decide),f98,f100,f101,f102,f103,Aa e104,f105,Ac e99,Ad (Aa e104).2 (show 2≤2 by decide),f107,f108,f109,f110,f111,f112,f113,f114];rfl
            ·simp[← e90,Aa e91,f96,Ae (Aa e91).2 (k:=2) (by decide),Ad (Aa e91).2 (show 2≤2 by decide),lvs1,Aa e88,f97,Ae (Aa e88).2 (k:=2) (by decide),Ad (Aa e88).2 (show 2≤2 by decide),f98,f100,f101,f102,f103,Aa e104,f105,Ac e99,Ad (Aa e104).2 (show 2≤2 by decide),f107,f108,f109,f110,f111,f112,f113,f114];intros;rfl
            try simp only[nm]
            obtain⟨v115,e115,h⟩:=ltE h;refine AW.last (by simp[← e115];intros;rfl) ?_;obtain rfl:=oi h;refine nP_i ?_;refine zA 1 [some 0] hz (by decide) (by decide) ?_ ?_ ?_;all_goals first|(simp[Ab,Af,pickOb,Ac e106,Ac e99];done)|rfl
          |false=>
           replace h:=iF h;refine CF ?_;apply AW.exit;try simp only[nm]
           obtain rfl:=oi h;refine xP_i ?_;refine zA 1 [some 0] hz (by decide) (by decide) ?_ ?_ ?_;all_goals first|(simp[Ab,Af,pickOb];done)|rfl
         ·rintro e s⟨rfl,hw⟩;refine⟨_,hw,?_⟩;try simp only[nm]
          obtain rfl:=oi h;try simp only[sp_l,sp_r]
          refine nP_i ?_;refine zA 1 [some 0] hz (by decide) (by decide) ?_ ?_ ?_;all_goals first|(simp[Ab,Af,pickOb];done)|rfl
        |false=>
         replace h:=iF h;refine CF ?_;apply AW.skip;try simp only[nm]
         obtain rfl:=oi h;try simp only[sp_l,sp_r]
         refine nP_i ?_;refine zA 1 [some 0] hz (by decide) (by decide) ?_ ?_ ?_;all_goals first|(simp[Ab,Af,pickOb];done)|rfl
   ·rintro e s hp;rcases y6 with y116|y117
    ·replace h:=smL h;obtain⟨rfl,hw⟩:=hp;refine⟨_,hw,?_⟩;try simp only[nm]
     obtain⟨v118,e118,h⟩:=ltE h;refine AW.last (by simp[← e118];intros;rfl) ?_;obtain rfl:=oi h;refine nP_i ?_;refine zA 1 [some 0] hz (by decide) (by decide) ?_ ?_ ?_;all_goals first|(simp[Ab,Af,pickOb];done)|rfl
    ·replace h:=smR h;obtain⟨rfl,hl⟩:=hp;refine⟨_,Weak.refl _,?_⟩;obtain rfl:=oi h;first|exact rP_i hl|(simp only[sp_l,sp_r];exact rP_i hl)|(simp only[sp_l,sp_r,Post.seq,Post.block,Nat.reduceEqDiff,reduceIte,Nat.zero_ne_one,Nat.one_ne_zero];exact rP_i hl)
  |false=>
   replace h:=iF h;refine CF ?_;apply AW.exit;try simp only[nm]
   obtain rfl:=oi h;try simp only[sp_l,sp_r]
   refine xP_i ?_;refine zA 1 [some 0] hz (by decide) (by decide) ?_ ?_ ?_;all_goals first|(simp[Ab,Af,pickOb];done)|rfl
 ·rintro e s hp;rcases y3 with y119|y120
  ·replace h:=smL h;obtain⟨rfl,hw⟩:=hp;refine⟨_,hw,?_⟩;try simp only[nm]
   refine ST ?_;obtain rfl:=oi h;apply AW.ret;refine Left.of (av:=_) (by simp[Try.f86,resV,resC,comp];rfl) ?_;exact zF 1 [some 0] hz rfl (by decide) rfl (by simp[pickOb,Ab,Af]) (by simp[Ab,Af])
  ·replace h:=smR h;obtain⟨rfl,hl⟩:=hp;refine⟨_,Weak.refl _,?_⟩;obtain rfl:=oi h;exact hl
theorem Cl:Enters Try.prog 86:=enters Try.func86 (by kernel_rfl) rfl
def AU (n:Nat) (a0:List Span) (a1:Int) (a2:Int) (a3:Int):Option (Int×List Span) :=
bn (nth a0 a3) fun v1 =>
bn (nth a0 a1) fun v3 =>
lt (a0.set a1.toNat v1) fun v6 =>
bn (nth v6 a3) fun v11 =>
lt (v6.set a3.toNat v3) fun v13 =>
lt (addI .i64 a1 1) fun v22 =>
lt (subI .i64 a2 1) fun v23 =>
bn (iter n (fun (y24:Int×Int×List Span) =>
bn (iter n (fun (y27:Int) =>
bn (lt (leI y27 y24.2.1) fun v31 =>
ite' v31 (bn (nth y24.2.2 a1) fun v32 =>
bn (nth y24.2.2 y27) fun v34 =>
bn (AJ n v32 v34) fun v36 =>
lt (ltI v36 0) fun v37 =>
lt (notB v37) fun v38 =>
some (v38)) (some (false))) fun (y30:Bool) =>
lt (y30) fun v39 =>
ite' v39 (lt (addI .i64 y27 1) fun v40 =>
some (.inl v40)) (some (.inr y27))) y24.1) fun (y28:Int) =>
bn (iter n (fun (y41:Int) =>
bn (lt (leI y28 y41) fun v45 =>
ite' v45 (bn (nth y24.2.2 a1) fun v46 =>
bn (nth y24.2.2 y41) fun v48 =>
bn (AJ n v46 v48) fun v50 =>
lt (ltI v50 0) fun v51 =>
some (v51)) (some (false))) fun (y44:Bool) =>
lt (y44) fun v52 =>
ite' v52 (lt (subI .i64 y41 1) fun v53 =>
some (.inl v53)) (some (.inr y41))) y24.2.1) fun (y42:Int) =>
lt (gtI y28 y42) fun v54 =>
ite' v54 (some (.inr (y28,y24.2.2))) (bn (nth y24.2.2 y42) fun v55 =>
bn (nth y24.2.2 y28) fun v57 =>
lt (y24.2.2.set y28.toNat v55) fun v60 =>
bn (nth v60 y42) fun v65 =>
lt (v60.set y42.toNat v57) fun v67 =>
lt (addI .i64 y28 1) fun v76 =>
lt (subI .i64 y42 1) fun v77 =>
some (.inl (v76,v77,v67)))) (v22,v23,v13)) fun (y25:Int×List Span) =>
some (y25.1,y25.2)
def DX20t4:List DI:=[⟨[0],[],[(11,none)],false⟩,⟨[0],[],[(12,none)],false⟩,⟨[0],[0,1],[(31,some 0),(32,some 1)],false⟩,⟨[0],[0,1,2],[(33,some 2)],false⟩,⟨[0],[0,1,2,3],[(4,none),(34,some 3)],false⟩,⟨[0],[0,1,2,3],[(0,none),(34,some 3)],false⟩,⟨[0],[0,1,2,3],[(1,none),(34,some 3)],false⟩,⟨[0],[0,1,2,3,5,6],[(34,some 3),(36,some 5),(37,some 6)],false⟩,⟨[0],[0,1,2,3,5,6,7],[(34,some 3),(38,some 7)],false⟩,⟨[0],[0,1,2,3],[(0,none),(34,some 3)],false⟩,⟨[0],[0,1,2,3],[(11,none),(34,some 3)],false⟩,⟨[0],[0,1,2,3,9,10],[(34,some 3),(40,some 9),(41,some 10)],false⟩,⟨[0],[0,1,2,3,9,10,11],[(34,some 3),(42,some 11)],false⟩,⟨[],[0,1,2,3,4,5,6,7,8,9,10,11,12],[],false⟩,⟨[],[0,1,2,3,4,5,6,7,8,9,10,11,12,13],[],false⟩,⟨[],[0,1,2,3,4,5,6,7,8,9,10,11,12,13,14],[],false⟩,⟨[],[0,1,2,3,4,5,6,7,8,9,10,11,12,13,14,15],[],false⟩]
def DX20t5:List DI:=[⟨[0],[],[(11,none)],false⟩,⟨[0],[],[(12,none)],false⟩,⟨[0],[0,1],[(50,some 0),(51,some 1)],false⟩,⟨[0],[0,1,2],[(52,some 2)],false⟩,⟨[0],[0,1,2,3],[(4,none),(53,some 3)],false⟩,⟨[0],[0,1,2,3],[(0,none),(53,some 3)],false⟩,⟨[0],[0,1,2,3],[(1,none),(53,some 3)],false⟩,⟨[0],[0,1,2,3,5,6],[(53,some 3),(55,some 5),(56,some 6)],false⟩,⟨[0],[0,1,2,3,5,6,7],[(53,some 3),(57,some 7)],false⟩,⟨[0],[0,1,2,3],[(0,none),(53,some 3)],false⟩,⟨[0],[0,1,2,3],[(12,none),(53,some 3)],false⟩,⟨[0],[0,1,2,3,9,10],[(53,some 3),(59,some 9),(60,some 10)],false⟩,⟨[0],[0,1,2,3,9,10,11],[(53,some 3),(61,some 11)],false⟩,⟨[],[0,1,2,3,4,5,6,7,8,9,10,11,12],[],false⟩,⟨[],[0,1,2,3,4,5,6,7,8,9,10,11,12,13],[],false⟩,⟨[],[0,1,2,3,4,5,6,7,8,9,10,11,12,13,14],[],false⟩]
theorem CQ {n:Nat} {a0:List Span} {a1:Int} {a2:Int} {a3:Int} {r:Int×List Span} (h:AU n a0 a1 a2 a3=some r):Sound Try.prog 87 [.l (.r 0 2 0 a0.length),.l (iA a1),.l (iA a2),.l (iA a3),.l (.s (.func (.func 72) #[] #[]))] [⟨59,2,false,some 0,lvs (Ah a0)⟩] (.l (iA r.1)) [some ⟨59,2,false,some 0,lvs (Ah r.2)⟩]:=by
 unfold AU at h;refine SO 90 Try.func87 fun cx hG (hz:cx.nb=1)=>?_;simp only[it];refine ST ?_;obtain⟨v1,e1,h⟩:=bnE h;have f2:=Ai e1;try simp[Aa e1] at f2
 obtain⟨v3,e3,h⟩:=bnE h;have f4:=Ai e3;try simp[Aa e1,f2,Ae (Aa e1).2 (k:=2) (by decide),Ad (Aa e1).2 (show 2≤2 by decide),lvs1,Aa e3] at f4
 have f5:=Ai e3;try simp[Aa e1,f2,Ae (Aa e1).2 (k:=2) (by decide),Ad (Aa e1).2 (show 2≤2 by decide),lvs1,Aa e3,f4,Ae (Aa e3).2 (k:=2) (by decide),Ad (Aa e3).2 (show 2≤2 by decide)] at f5
 obtain⟨v6,e6,h⟩:=ltE h;have f7:=AB (Aa e3).2 e6 (cs:=[iA v1.frm,iA v1.to]) (by simp) rfl;try simp at f7
 have f8:=f2;try simp only[Ac e6] at f8
 have f9:=f4;try simp only[Ac e6] at f9
 have f10:=f5;try simp only[Ac e6] at f10
 obtain⟨v11,e11,h⟩:=bnE h;have f12:=Ai e11;try simp[Aa e1,f2,Ae (Aa e1).2 (k:=2) (by decide),Ad (Aa e1).2 (show 2≤2 by decide),lvs1,Aa e3,f4,Ae (Aa e3).2 (k:=2) (by decide),Ad (Aa e3).2 (show 2≤2 by decide),f5,f7,f8,f9,f10,Aa e11] at f12
 obtain⟨v13,e13,h⟩:=ltE h;have f14:=AB (Aa e11).2 e13 (cs:=[iA v3.frm,iA v3.to]) (by simp) rfl;try simp at f14
 have f15:=f2;try simp only[Ac e13] at f15
 have f16:=f4;try simp only[Ac e13] at f16
 have f17:=f5;try simp only[Ac e13] at f17
 have f18:=f8;try simp only[Ac e13] at f18
 have f19:=f9;try simp only[Ac e13] at f19
 have f20:=f10;try simp only[Ac e13] at f20
 have f21:=f12;try simp only[Ac e13] at f21
 apply zJ (V:=[_,_,_,_,_,_,_,_,_,_,_,_,_,_]) (M:=[[some ⟨59,2,false,some 0,lvs (Ah a0)⟩],[some ⟨59,2,false,some 0,lvs (Ah v6)⟩]]) mixed [⟨[0],[],[(0,none)],false⟩,⟨[0],[],[(1,none)],false⟩,⟨[0,1],[],[(0,none)],false⟩,⟨[0,1],[],[(3,none)],false⟩,⟨[0],[],[(0,none)],false⟩,⟨[0],[],[(3,none)],false⟩,⟨[0],[4,5],[(17,some 4),(18,some 5)],false⟩,⟨[0],[4,5,6],[(19,some 6)],false⟩,⟨[0],[],[(0,none)],false⟩,⟨[0],[],[(1,none)],false⟩,⟨[0],[8,9],[(21,some 8),(22,some 9)],false⟩,⟨[0],[8,9,10],[(23,some 10)],false⟩,⟨[0],[0,1,4,5,6,7,8,9,10,11],[(13,some 0),(14,some 1)],false⟩,⟨[0],[0,1,4,5,6,7,8,9,10,11,12],[(20,some 7),(25,some 12)],true⟩,⟨[],[0,1,2,3,4,5,6,7,8,9,10,11,12,13],[],false⟩,⟨[],[0,1,2,3,4,5,6,7,8,9,10,11,12,13,14],[],false⟩] 14 1 (by kernel_rfl) (by kernel_rfl)
 ·rfl
 ·refine⟨?_,?_,⟨?_,?_⟩,⟨?_,?_⟩,?_,?_,?_,?_,?_,?_,?_,?_,?_,?_,trivial⟩;iterate 16 (· intro tm hr;simp[AllL,rdV] at hr;simp[hr,Aa e1,f2,Ae (Aa e1).2 (k:=2) (by decide),Ad (Aa e1).2 (show 2≤2 by decide),lvs1,Aa e3,f4,Ae (Aa e3).2 (k:=2) (by decide),Ad (Aa e3).2 (show 2≤2 by decide),f5,f7,f8,f9,f10,Aa e11,f12,Ac e6,Ad (Aa e11).2 (show 2≤2 by decide),f14,f15,f16,f17,f18,f19,f20,f21];intros;exact KA)
 ·rfl
 ·simp[tmD,putD,Aa e1,f2,Ae (Aa e1).2 (k:=2) (by decide),Ad (Aa e1).2 (show 2≤2 by decide),lvs1,Aa e3,f4,Ae (Aa e3).2 (k:=2) (by decide),Ad (Aa e3).2 (show 2≤2 by decide),f5,f7,f8,f9,f10,Aa e11,f12,Ac e6,Ad (Aa e11).2 (show 2≤2 by decide),f14,f15,f16,f17,f18,f19,f20,f21];rfl
 ·simp[Aa e1,f2,Ae (Aa e1).2 (k:=2) (by decide),Ad (Aa e1).2 (show 2≤2 by decide),lvs1,Aa e3,f4,Ae (Aa e3).2 (k:=2) (by decide),Ad (Aa e3).2 (show 2≤2 by decide),f5,f7,f8,f9,f10,Aa e11,f12,Ac e6,Ad (Aa e11).2 (show 2≤2 by decide),f14,f15,f16,f17,f18,f19,f20,f21];intros;rfl
 obtain⟨v22,e22,v23,e23,h⟩:=oll h;refine AW.step (by simp[← e22,← e23];intros;rfl) ?_;apply AW.seq;apply AW.block;obtain⟨y25,g25,h⟩:=bnE h;refine zE g25 (mk:=fun gh ls q=>(⟨[(0,.l (.r 0 2 0 q.2.2.length)),(1,.l (iA a1)),(4,.l (.s (.func (.func 72) #[] #[]))),(11,.l (iA q.1)),(12,.l (iA q.2.1))],[some ⟨59,2,false,some 0,lvs (Ah q.2.2)⟩],90,gh,ls⟩:St)) (N:=fun gh ls=>(xP 0 (cx:=cx) (fun q=>(⟨[(11,.l (iA q.1))],[some ⟨59,2,false,some 0,lvs (Ah q.2)⟩],90,gh,ls⟩:St)))) ?_ noX ?_ ?_
 ·refine zA 1 [some 0] hz (by decide) (by decide) ?_ ?_ ?_;all_goals first|(simp[Ab,Af,pickOb,Ac e13,Ac e6];done)|rfl
 ·clear h;intro y24 y26 h
  apply AW.block;apply AW.seq;apply AW.block;obtain⟨y28,g28,h⟩:=bnE h;refine zE g28 (mk:=fun gh ls q=>(⟨[(0,.l (.r 0 2 0 y24.2.2.length)),(1,.l (iA a1)),(4,.l (.s (.func (.func 72) #[] #[]))),(11,.l (iA q)),(12,.l (iA y24.2.1))],[some ⟨59,2,false,some 0,lvs (Ah y24.2.2)⟩],90,gh,ls⟩:St)) (N:=fun gh ls=>(xP 2 (cx:=cx) (fun q=>(⟨[(0,.l (.r 0 2 0 y24.2.2.length)),(1,.l (iA a1)),(4,.l (.s (.func (.func 72) #[] #[]))),(11,.l (iA q)),(12,.l (iA y24.2.1))],[some ⟨59,2,false,some 0,lvs (Ah y24.2.2)⟩],90,gh,ls⟩:St)))) ?_ noX ?_ ?_
  ·refine zA 1 [some 0] hz (by decide) (by decide) ?_ ?_ ?_;all_goals first|(simp[Ab,Af,pickOb];done)|rfl
  ·clear h;intro y27 y29 h
   apply AW.seq;obtain⟨y30,g30,h⟩:=bnE h;refine zD (p:=fun gh ls=>(nP (cx:=cx) (fun q=>(⟨[(0,.l (.r 0 2 0 y24.2.2.length)),(1,.l (iA a1)),(4,.l (.s (.func (.func 72) #[] #[]))),(11,.l (iA y27)),(12,.l (iA y24.2.1)),(47,.l (bA q))],[some ⟨59,2,false,some 0,lvs (Ah y24.2.2)⟩],90,gh,ls⟩:St))) y30) ?_ ?_
   ·replace h:=g30;clear g30
    obtain⟨v31,e31,h⟩:=ltE h;cases v31 with
    |true=>
     replace h:=iT h;obtain⟨v32,e32,h⟩:=bnE h;have f33:=Ai e32;try simp[← e31,Aa e32] at f33
     obtain⟨v34,e34,h⟩:=bnE h;have f35:=Ai e34;try simp[← e31,Aa e32,f33,Ae (Aa e32).2 (k:=2) (by decide),Ad (Aa e32).2 (show 2≤2 by decide),lvs1,Aa e34] at f35
     obtain⟨v36,e36,v37,e37,v38,e38,h⟩:=obll h;apply zH (V:=[_,_,_,_,_,_,_,_,_,_,_,_,_]) mixed DX20t4 13 (by kernel_rfl) (by kernel_rfl)
     ·refine⟨?_,?_,?_,?_,?_,?_,?_,?_,?_,?_,?_,?_,?_,trivial⟩;iterate 13 (· intro tm hr;simp[AllL,rdV] at hr;simp[hr,← e31,Aa e32,f33,Ae (Aa e32).2 (k:=2) (by decide),Ad (Aa e32).2 (show 2≤2 by decide),lvs1,Aa e34,f35,Ae (Aa e34).2 (k:=2) (by decide),Ad (Aa e34).2 (show 2≤2 by decide),← e37,← e38];intros;exact KA)
     ·rfl
     ·simp[tmD,putD,← e31,Aa e32,f33,Ae (Aa e32).2 (k:=2) (by decide),Ad (Aa e32).2 (show 2≤2 by decide),lvs1,Aa e34,f35,Ae (Aa e34).2 (k:=2) (by decide),Ad (Aa e34).2 (show 2≤2 by decide),← e37,← e38];rfl
     ·simp[← e31,Aa e32,f33,Ae (Aa e32).2 (k:=2) (by decide),Ad (Aa e32).2 (show 2≤2 by decide),lvs1,Aa e34,f35,Ae (Aa e34).2 (k:=2) (by decide),Ad (Aa e34).2 (show 2≤2 by decide),← e37,← e38];intros;refine Aj A1 (A7 e36) rfl ⟨.same rfl,.same rfl,trivial⟩ ?_;try simp[← e31,Aa e32,f33,Ae (Aa e32).2 (k:=2) (by decide),Ad (Aa e32).2 (show 2≤2 by decide),lvs1,Aa e34,f35,Ae (Aa e34).2 (k:=2) (by decide),Ad (Aa e34).2 (show 2≤2 by decide),← e37,← e38]
      intros;rfl
     obtain rfl:=oi h;refine nP_i ?_;refine zA 1 [some 0] hz (by decide) (by decide) ?_ ?_ ?_;all_goals first|(simp[Ab,Af,pickOb];done)|rfl
    |false=>
     replace h:=iF h;apply zH (V:=[_,_,_,_,_,_,_,_,_,_,_,_,_]) mixed DX20t4 13 (by kernel_rfl) (by kernel_rfl)
     ·refine⟨?_,?_,?_,?_,?_,?_,?_,?_,?_,?_,?_,?_,?_,trivial⟩;iterate 13 (· intro tm hr;simp[AllL,rdV] at hr;simp[hr,← e31];intros;exact KA)
     ·rfl
     ·simp[tmD,putD,← e31];rfl
     ·simp[← e31];intros;rfl
     obtain rfl:=oi h;refine nP_i ?_;refine zA 1 [some 0] hz (by decide) (by decide) ?_ ?_ ?_;all_goals first|(simp[Ab,Af,pickOb];done)|rfl
   ·rintro e s⟨rfl,hw⟩;refine⟨_,hw,?_⟩;try simp only[nm]
    obtain⟨v39,e39,h⟩:=ltE h;rw[← e39];cases v39 with
    |true=>
     replace h:=iT h;refine CT ?_;apply AW.skip;try simp only[nm]
     apply AW.block;obtain⟨v40,e40,h⟩:=ltE h;refine AW.last (by simp[← e40];intros;rfl) ?_;obtain rfl:=oi h;refine nP_i ?_;refine zA 1 [some 0] hz (by decide) (by decide) ?_ ?_ ?_;all_goals first|(simp[Ab,Af,pickOb];done)|rfl
    |false=>
     replace h:=iF h;refine CF ?_;apply AW.exit;try simp only[nm]
     obtain rfl:=oi h;refine xP_i ?_;refine zA 1 [some 0] hz (by decide) (by decide) ?_ ?_ ?_;all_goals first|(simp[Ab,Af,pickOb];done)|rfl
  ·rintro e s⟨rfl,hw⟩;refine⟨_,hw,?_⟩;try simp only[nm]
   apply AW.seq;apply AW.block;obtain⟨y42,g42,h⟩:=bnE h;refine zE g42 (mk:=fun gh ls q=>(⟨[(0,.l (.r 0 2 0 y24.2.2.length)),(1,.l (iA a1)),(4,.l (.s (.func (.func 72) #[] #[]))),(11,.l (iA y28)),(12,.l (iA q))],[some ⟨59,2,false,some 0,lvs (Ah y24.2.2)⟩],90,gh,ls⟩:St)) (N:=fun gh ls=>(xP 4 (cx:=cx) (fun q=>(⟨[(0,.l (.r 0 2 0 y24.2.2.length)),(1,.l (iA a1)),(4,.l (.s (.func (.func 72) #[] #[]))),(11,.l (iA y28)),(12,.l (iA q))],[some ⟨59,2,false,some 0,lvs (Ah y24.2.2)⟩],90,gh,ls⟩:St)))) ?_ noX ?_ ?_
   ·refine zA 1 [some 0] hz (by decide) (by decide) ?_ ?_ ?_;all_goals first|(simp[Ab,Af,pickOb];done)|rfl
   ·clear h;intro y41 y43 h
    apply AW.seq;obtain⟨y44,g44,h⟩:=bnE h;refine zD (p:=fun gh ls=>(nP (cx:=cx) (fun q=>(⟨[(0,.l (.r 0 2 0 y24.2.2.length)),(1,.l (iA a1)),(4,.l (.s (.func (.func 72) #[] #[]))),(11,.l (iA y28)),(12,.l (iA y41)),(65,.l (bA q))],[some ⟨59,2,false,some 0,lvs (Ah y24.2.2)⟩],90,gh,ls⟩:St))) y44) ?_ ?_
    ·replace h:=g44;clear g44
     obtain⟨v45,e45,h⟩:=ltE h;cases v45 with
     |true=>
      replace h:=iT h;obtain⟨v46,e46,h⟩:=bnE h;have f47:=Ai e46;try simp[← e45,Aa e46] at f47
      obtain⟨v48,e48,h⟩:=bnE h;have f49:=Ai e48;try simp[← e45,Aa e46,f47,Ae (Aa e46).2 (k:=2) (by decide),Ad (Aa e46).2 (show 2≤2 by decide),lvs1,Aa e48] at f49
      obtain⟨v50,e50,v51,e51,h⟩:=obl h;apply zH (V:=[_,_,_,_,_,_,_,_,_,_,_,_,_]) mixed DX20t5 13 (by kernel_rfl) (by kernel_rfl)
      ·refine⟨?_,?_,?_,?_,?_,?_,?_,?_,?_,?_,?_,?_,?_,trivial⟩;iterate 13 (· intro tm hr;simp[AllL,rdV] at hr;simp[hr,← e45,Aa e46,f47,Ae (Aa e46).2 (k:=2) (by decide),Ad (Aa e46).2 (show 2≤2 by decide),lvs1,Aa e48,f49,Ae (Aa e48).2 (k:=2) (by decide),Ad (Aa e48).2 (show 2≤2 by decide),← e51];intros;exact KA)
      ·rfl
      ·simp[tmD,putD,← e45,Aa e46,f47,Ae (Aa e46).2 (k:=2) (by decide),Ad (Aa e46).2 (show 2≤2 by decide),lvs1,Aa e48,f49,Ae (Aa e48).2 (k:=2) (by decide),Ad (Aa e48).2 (show 2≤2 by decide),← e51];rfl
      ·simp[← e45,Aa e46,f47,Ae (Aa e46).2 (k:=2) (by decide),Ad (Aa e46).2 (show 2≤2 by decide),lvs1,Aa e48,f49,Ae (Aa e48).2 (k:=2) (by decide),Ad (Aa e48).2 (show 2≤2 by decide),← e51];intros;refine Aj A1 (A7 e50) rfl ⟨.same rfl,.same rfl,trivial⟩ ?_;try simp[← e45,Aa e46,f47,Ae (Aa e46).2 (k:=2) (by decide),Ad (Aa e46).2 (show 2≤2 by decide),lvs1,Aa e48,f49,Ae (Aa e48).2 (k:=2) (by decide),Ad (Aa e48).2 (show 2≤2 by decide),← e51]
       intros;rfl
      obtain rfl:=oi h;refine nP_i ?_;refine zA 1 [some 0] hz (by decide) (by decide) ?_ ?_ ?_;all_goals first|(simp[Ab,Af,pickOb];done)|rfl
     |false=>
      replace h:=iF h;apply zH (V:=[_,_,_,_,_,_,_,_,_,_,_,_,_]) mixed DX20t5 13 (by kernel_rfl) (by kernel_rfl)
      ·refine⟨?_,?_,?_,?_,?_,?_,?_,?_,?_,?_,?_,?_,?_,trivial⟩;iterate 13 (· intro tm hr;simp[AllL,rdV] at hr;simp[hr,← e45];intros;exact KA)
      ·rfl
      ·simp[tmD,putD,← e45];rfl
      ·simp[← e45];intros;rfl
      obtain rfl:=oi h;refine nP_i ?_;refine zA 1 [some 0] hz (by decide) (by decide) ?_ ?_ ?_;all_goals first|(simp[Ab,Af,pickOb];done)|rfl
    ·rintro e s⟨rfl,hw⟩;refine⟨_,hw,?_⟩;try simp only[nm]
     obtain⟨v52,e52,h⟩:=ltE h;rw[← e52];cases v52 with
     |true=>
      replace h:=iT h;refine CT ?_;apply AW.skip;try simp only[nm]
      apply AW.block;obtain⟨v53,e53,h⟩:=ltE h;refine AW.last (by simp[← e53];intros;rfl) ?_;obtain rfl:=oi h;refine nP_i ?_;refine zA 1 [some 0] hz (by decide) (by decide) ?_ ?_ ?_;all_goals first|(simp[Ab,Af,pickOb];done)|rfl
     |false=>
      replace h:=iF h;refine CF ?_;apply AW.exit;try simp only[nm]
      obtain rfl:=oi h;refine xP_i ?_;refine zA 1 [some 0] hz (by decide) (by decide) ?_ ?_ ?_;all_goals first|(simp[Ab,Af,pickOb];done)|rfl
   ·rintro e s⟨rfl,hw⟩;refine⟨_,hw,?_⟩;try simp only[nm]
    apply AW.seq;obtain⟨v54,e54,h⟩:=ltE h;refine AW.step (by simp[← e54];intros;rfl) ?_;cases v54 with
    |true=>
     replace h:=iT h;refine CT ?_;apply AW.exit;try simp only[nm]
     obtain rfl:=oi h;refine xP_i ?_;refine zA 1 [some 0] hz (by decide) (by decide) ?_ ?_ ?_;all_goals first|(simp[Ab,Af,pickOb];done)|rfl
    |false=>
     replace h:=iF h;refine CF ?_;apply AW.skip;try simp only[nm]
     obtain⟨v55,e55,h⟩:=bnE h;have f56:=Ai e55;try simp[Aa e55] at f56
     obtain⟨v57,e57,h⟩:=bnE h;have f58:=Ai e57;try simp[Aa e55,f56,Ae (Aa e55).2 (k:=2) (by decide),Ad (Aa e55).2 (show 2≤2 by decide),lvs1,Aa e57] at f58
     have f59:=Ai e57;try simp[Aa e55,f56,Ae (Aa e55).2 (k:=2) (by decide),Ad (Aa e55).2 (show 2≤2 by decide),lvs1,Aa e57,f58,Ae (Aa e57).2 (k:=2) (by decide),Ad (Aa e57).2 (show 2≤2 by decide)] at f59
     obtain⟨v60,e60,h⟩:=ltE h;have f61:=AB (Aa e57).2 e60 (cs:=[iA v55.frm,iA v55.to]) (by simp) rfl;try simp at f61
     have f62:=f56;try simp only[Ac e60] at f62
     have f63:=f58;try simp only[Ac e60] at f63
     have f64:=f59;try simp only[Ac e60] at f64
     obtain⟨v65,e65,h⟩:=bnE h;have f66:=Ai e65;try simp[Aa e55,f56,Ae (Aa e55).2 (k:=2) (by decide),Ad (Aa e55).2 (show 2≤2 by decide),lvs1,Aa e57,f58,Ae (Aa e57).2 (k:=2) (by decide),Ad (Aa e57).2 (show 2≤2 by decide),f59,f61,f62,f63,f64,Aa e65] at f66
     obtain⟨v67,e67,h⟩:=ltE h;have f68:=AB (Aa e65).2 e67 (cs:=[iA v57.frm,iA v57.to]) (by simp) rfl;try simp at f68
     have f69:=f56;try simp only[Ac e67] at f69
     have f70:=f58;try simp only[Ac e67] at f70
     have f71:=f59;try simp only[Ac e67] at f71
     have f72:=f62;try simp only[Ac e67] at f72
     have f73:=f63;try simp only[Ac e67] at f73
     have f74:=f64;try simp only[Ac e67] at f74
     have f75:=f66;try simp only[Ac e67] at f75
     apply zJ (V:=[_,_,_,_,_,_,_,_,_,_,_,_,_,_]) (M:=[[some ⟨59,2,false,some 0,lvs (Ah y24.2.2)⟩],[some ⟨59,2,false,some 0,lvs (Ah v60)⟩]]) mixed [⟨[0],[],[(0,none)],false⟩,⟨[0],[],[(11,none)],false⟩,⟨[0,1],[],[(0,none)],false⟩,⟨[0,1],[],[(12,none)],false⟩,⟨[0],[],[(0,none)],false⟩,⟨[0],[],[(12,none)],false⟩,⟨[0],[4,5],[(75,some 4),(76,some 5)],false⟩,⟨[0],[4,5,6],[(77,some 6)],false⟩,⟨[0],[],[(0,none)],false⟩,⟨[0],[],[(11,none)],false⟩,⟨[0],[8,9],[(79,some 8),(80,some 9)],false⟩,⟨[0],[8,9,10],[(81,some 10)],false⟩,⟨[0],[0,1,4,5,6,7,8,9,10,11],[(71,some 0),(72,some 1)],false⟩,⟨[0],[0,1,4,5,6,7,8,9,10,11,12],[(78,some 7),(83,some 12)],true⟩,⟨[],[0,1,2,3,4,5,6,7,8,9,10,11,12,13],[],false⟩,⟨[],[0,1,2,3,4,5,6,7,8,9,10,11,12,13,14],[],false⟩] 14 1 (by kernel_rfl) (by kernel_rfl)
     ·rfl
     ·refine⟨?_,?_,⟨?_,?_⟩,⟨?_,?_⟩,?_,?_,?_,?_,?_,?_,?_,?_,?_,?_,trivial⟩;iterate 16 (· intro tm hr;simp[AllL,rdV] at hr;simp[hr,Aa e55,f56,Ae (Aa e55).2 (k:=2) (by decide),Ad (Aa e55).2 (show 2≤2 by decide),lvs1,Aa e57,f58,Ae (Aa e57).2 (k:=2) (by decide),Ad (Aa e57).2 (show 2≤2 by decide),f59,f61,f62,f63,f64,Aa e65,f66,Ac e60,Ad (Aa e65).2 (show 2≤2 by decide),f68,f69,f70,f71,f72,f73,f74,f75];intros;exact KA)
     ·rfl
     ·simp[tmD,putD,Aa e55,f56,Ae (Aa e55).2 (k:=2) (by decide),Ad (Aa e55).2 (show 2≤2 by decide),lvs1,Aa e57,f58,Ae (Aa e57).2 (k:=2) (by decide),Ad (Aa e57).2 (show 2≤2 by decide),f59,f61,f62,f63,f64,Aa e65,f66,Ac e60,Ad (Aa e65).2 (show 2≤2 by decide),f68,f69,f70,f71,f72,f73,f74,f75];rfl
     ·simp[Aa e55,f56,Ae (Aa e55).2 (k:=2) (by decide),Ad (Aa e55).2 (show 2≤2 by decide),lvs1,Aa e57,f58,Ae (Aa e57).2 (k:=2) (by decide),Ad (Aa e57).2 (show 2≤2 by decide),f59,f61,f62,f63,f64,Aa e65,f66,Ac e60,Ad (Aa e65).2 (show 2≤2 by decide),f68,f69,f70,f71,f72,f73,f74,f75];intros;rfl
     obtain⟨v76,e76,h⟩:=ltE h;refine AW.step (by simp[← e76];intros;rfl) ?_;obtain⟨v77,e77,h⟩:=ltE h;refine AW.last (by simp[← e77];intros;rfl) ?_;obtain rfl:=oi h;refine nP_i ?_;refine zA 1 [some 0] hz (by decide) (by decide) ?_ ?_ ?_;all_goals first|(simp[Ab,Af,pickOb,Ac e60,Ac e67];done)|rfl
 ·rintro e s⟨rfl,hw⟩;refine⟨_,hw,?_⟩;try simp only[nm]
  refine ST ?_;obtain rfl:=oi h;apply AW.ret;refine Left.of (av:=_) (by simp[Try.f87,resV,resC,comp];rfl) ?_;exact zF 1 [some 0] hz rfl (by decide) rfl (by simp[pickOb,Ab,Af]) (by simp[Ab,Af])
theorem CL:Enters Try.prog 87:=enters Try.func87 (by kernel_rfl) rfl
def A8 (n:Nat) (a0:List Span) (a1:Int) (a2:Int) (a3:Int):Option (Int×Bool×List Span) :=
bn (nth a0 a3) fun v1 =>
bn (nth a0 a1) fun v3 =>
lt (a0.set a1.toNat v1) fun v6 =>
bn (nth v6 a3) fun v11 =>
lt (v6.set a3.toNat v3) fun v13 =>
lt (addI .i64 a1 1) fun v22 =>
lt (subI .i64 a2 1) fun v23 =>
bn (iter n (fun (y24:Int) =>
bn (lt (leI y24 v23) fun v28 =>
ite' v28 (bn (nth v13 y24) fun v29 =>
bn (nth v13 a1) fun v31 =>
bn (AJ n v29 v31) fun v33 =>
lt (ltI v33 0) fun v34 =>
some (v34)) (some (false))) fun (y27:Bool) =>
lt (y27) fun v35 =>
ite' v35 (lt (addI .i64 y24 1) fun v36 =>
some (.inl v36)) (some (.inr y24))) v22) fun (y25:Int) =>
bn (iter n (fun (y37:Int) =>
bn (lt (leI y25 y37) fun v41 =>
ite' v41 (bn (nth v13 y37) fun v42 =>
bn (nth v13 a1) fun v44 =>
bn (AJ n v42 v44) fun v46 =>
lt (ltI v46 0) fun v47 =>
lt (notB v47) fun v48 =>
some (v48)) (some (false))) fun (y40:Bool) =>
lt (y40) fun v49 =>
ite' v49 (lt (subI .i64 y37 1) fun v50 =>
some (.inl v50)) (some (.inr y37))) v23) fun (y38:Int) =>
lt (gtI y25 y38) fun v51 =>
ite' v51 (bn (nth v13 a1) fun v52 =>
bn (nth v13 y38) fun v54 =>
lt (v13.set y38.toNat v52) fun v57 =>
bn (nth v57 a1) fun v62 =>
lt (v57.set a1.toNat v54) fun v64 =>
some (y38,true,v64)) (bn (nth v13 y38) fun v73 =>
bn (nth v13 y25) fun v75 =>
lt (v13.set y25.toNat v73) fun v78 =>
bn (nth v78 y38) fun v83 =>
lt (v78.set y38.toNat v75) fun v85 =>
lt (addI .i64 y25 1) fun v94 =>
lt (subI .i64 y38 1) fun v95 =>
bn (iter n (fun (y96:Int×Int×List Span) =>
bn (iter n (fun (y99:Int) =>
bn (lt (leI y99 y96.2.1) fun v103 =>
ite' v103 (bn (nth y96.2.2 y99) fun v104 =>
bn (nth y96.2.2 a1) fun v106 =>
bn (AJ n v104 v106) fun v108 =>
lt (ltI v108 0) fun v109 =>
some (v109)) (some (false))) fun (y102:Bool) =>
lt (y102) fun v110 =>
ite' v110 (lt (addI .i64 y99 1) fun v111 =>
some (.inl v111)) (some (.inr y99))) y96.1) fun (y100:Int) =>
bn (iter n (fun (y112:Int) =>
bn (lt (leI y100 y112) fun v116 =>
ite' v116 (bn (nth y96.2.2 y112) fun v117 =>
bn (nth y96.2.2 a1) fun v119 =>
bn (AJ n v117 v119) fun v121 =>
lt (ltI v121 0) fun v122 =>
lt (notB v122) fun v123 =>
some (v123)) (some (false))) fun (y115:Bool) =>
lt (y115) fun v124 =>
ite' v124 (lt (subI .i64 y112 1) fun v125 =>
some (.inl v125)) (some (.inr y112))) y96.2.1) fun (y113:Int) =>
lt (gtI y100 y113) fun v126 =>
ite' v126 (some (.inr (y113,y96.2.2))) (bn (nth y96.2.2 y113) fun v127 =>
bn (nth y96.2.2 y100) fun v129 =>
lt (y96.2.2.set y100.toNat v127) fun v132 =>
bn (nth v132 y113) fun v137 =>
lt (v132.set y113.toNat v129) fun v139 =>
lt (addI .i64 y100 1) fun v148 =>
lt (subI .i64 y113 1) fun v149 =>
some (.inl (v148,v149,v139)))) (v94,v95,v85)) fun (y97:Int×List Span) =>
bn (nth y97.2 a1) fun v150 =>
bn (nth y97.2 y97.1) fun v152 =>
lt (y97.2.set y97.1.toNat v150) fun v155 =>
bn (nth v155 a1) fun v160 =>
lt (v155.set a1.toNat v152) fun v162 =>
some (y97.1,false,v162))
def DX20t6:List DI:=[⟨[0],[],[(12,none)],false⟩,⟨[0],[],[(13,none)],false⟩,⟨[0],[0,1],[(32,some 0),(33,some 1)],false⟩,⟨[0],[0,1,2],[(34,some 2)],false⟩,⟨[0],[0,1,2,3],[(4,none),(35,some 3)],false⟩,⟨[0],[0,1,2,3],[(0,none),(35,some 3)],false⟩,⟨[0],[0,1,2,3],[(12,none),(35,some 3)],false⟩,⟨[0],[0,1,2,3,5,6],[(35,some 3),(37,some 5),(38,some 6)],false⟩,⟨[0],[0,1,2,3,5,6,7],[(35,some 3),(39,some 7)],false⟩,⟨[0],[0,1,2,3],[(0,none),(35,some 3)],false⟩,⟨[0],[0,1,2,3],[(1,none),(35,some 3)],false⟩,⟨[0],[0,1,2,3,9,10],[(35,some 3),(41,some 9),(42,some 10)],false⟩,⟨[0],[0,1,2,3,9,10,11],[(35,some 3),(43,some 11)],false⟩,⟨[],[0,1,2,3,4,5,6,7,8,9,10,11,12],[],false⟩,⟨[],[0,1,2,3,4,5,6,7,8,9,10,11,12,13],[],false⟩,⟨[],[0,1,2,3,4,5,6,7,8,9,10,11,12,13,14],[],false⟩]
def DX20t7:List DI:=[⟨[0],[],[(12,none)],false⟩,⟨[0],[],[(13,none)],false⟩,⟨[0],[0,1],[(50,some 0),(51,some 1)],false⟩,⟨[0],[0,1,2],[(52,some 2)],false⟩,⟨[0],[0,1,2,3],[(4,none),(53,some 3)],false⟩,⟨[0],[0,1,2,3],[(0,none),(53,some 3)],false⟩,⟨[0],[0,1,2,3],[(13,none),(53,some 3)],false⟩,⟨[0],[0,1,2,3,5,6],[(53,some 3),(55,some 5),(56,some 6)],false⟩,⟨[0],[0,1,2,3,5,6,7],[(53,some 3),(57,some 7)],false⟩,⟨[0],[0,1,2,3],[(0,none),(53,some 3)],false⟩,⟨[0],[0,1,2,3],[(1,none),(53,some 3)],false⟩,⟨[0],[0,1,2,3,9,10],[(53,some 3),(59,some 9),(60,some 10)],false⟩,⟨[0],[0,1,2,3,9,10,11],[(53,some 3),(61,some 11)],false⟩,⟨[],[0,1,2,3,4,5,6,7,8,9,10,11,12],[],false⟩,⟨[],[0,1,2,3,4,5,6,7,8,9,10,11,12,13],[],false⟩,⟨[],[0,1,2,3,4,5,6,7,8,9,10,11,12,13,14],[],false⟩,⟨[],[0,1,2,3,4,5,6,7,8,9,10,11,12,13,14,15],[],false⟩]
def DX20t8:List DI:=[⟨[0],[],[(12,none)],false⟩,⟨[0],[],[(13,none)],false⟩,⟨[0],[0,1],[(105,some 0),(106,some 1)],false⟩,⟨[0],[0,1,2],[(107,some 2)],false⟩,⟨[0],[0,1,2,3],[(4,none),(108,some 3)],false⟩,⟨[0],[0,1,2,3],[(0,none),(108,some 3)],false⟩,⟨[0],[0,1,2,3],[(12,none),(108,some 3)],false⟩,⟨[0],[0,1,2,3,5,6],[(108,some 3),(110,some 5),(111,some 6)],false⟩,⟨[0],[0,1,2,3,5,6,7],[(108,some 3),(112,some 7)],false⟩,⟨[0],[0,1,2,3],[(0,none),(108,some 3)],false⟩,⟨[0],[0,1,2,3],[(1,none),(108,some 3)],false⟩,⟨[0],[0,1,2,3,9,10],[(108,some 3),(114,some 9),(115,some 10)],false⟩,⟨[0],[0,1,2,3,9,10,11],[(108,some 3),(116,some 11)],false⟩,⟨[],[0,1,2,3,4,5,6,7,8,9,10,11,12],[],false⟩,⟨[],[0,1,2,3,4,5,6,7,8,9,10,11,12,13],[],false⟩,⟨[],[0,1,2,3,4,5,6,7,8,9,10,11,12,13,14],[],false⟩]
def DX20t9:List DI:=[⟨[0],[],[(12,none)],false⟩,⟨[0],[],[(13,none)],false⟩,⟨[0],[0,1],[(123,some 0),(124,some 1)],false⟩,⟨[0],[0,1,2],[(125,some 2)],false⟩,⟨[0],[0,1,2,3],[(4,none),(126,some 3)],false⟩,⟨[0],[0,1,2,3],[(0,none),(126,some 3)],false⟩,⟨[0],[0,1,2,3],[(13,none),(126,some 3)],false⟩,⟨[0],[0,1,2,3,5,6],[(126,some 3),(128,some 5),(129,some 6)],false⟩,⟨[0],[0,1,2,3,5,6,7],[(126,some 3),(130,some 7)],false⟩,⟨[0],[0,1,2,3],[(0,none),(126,some 3)],false⟩,⟨[0],[0,1,2,3],[(1,none),(126,some 3)],false⟩,⟨[0],[0,1,2,3,9,10],[(126,some 3),(132,some 9),(133,some 10)],false⟩,⟨[0],[0,1,2,3,9,10,11],[(126,some 3),(134,some 11)],false⟩,⟨[],[0,1,2,3,4,5,6,7,8,9,10,11,12],[],false⟩,⟨[],[0,1,2,3,4,5,6,7,8,9,10,11,12,13],[],false⟩,⟨[],[0,1,2,3,4,5,6,7,8,9,10,11,12,13,14],[],false⟩,⟨[],[0,1,2,3,4,5,6,7,8,9,10,11,12,13,14,15],[],false⟩]
theorem Dq {n:Nat} {a0:List Span} {a1:Int} {a2:Int} {a3:Int} {r:Int×Bool×List Span} (h:A8 n a0 a1 a2 a3=some r):Sound Try.prog 88 [.l (.r 0 2 0 a0.length),.l (iA a1),.l (iA a2),.l (iA a3),.l (.s (.func (.func 72) #[] #[]))] [⟨59,2,false,some 0,lvs (Ah a0)⟩] (.t [(false,[iA r.1]),(false,[bA r.2.1])]) [some ⟨59,2,false,some 0,lvs (Ah r.2.2)⟩]:=by
 unfold A8 at h;refine SO 178 Try.func88 fun cx hG (hz:cx.nb=1)=>?_;simp only[it];refine ST ?_;obtain⟨v1,e1,h⟩:=bnE h;have f2:=Ai e1;try simp[Aa e1] at f2
 obtain⟨v3,e3,h⟩:=bnE h;have f4:=Ai e3;try simp[Aa e1,f2,Ae (Aa e1).2 (k:=2) (by decide),Ad (Aa e1).2 (show 2≤2 by decide),lvs1,Aa e3] at f4
 have f5:=Ai e3;try simp[Aa e1,f2,Ae (Aa e1).2 (k:=2) (by decide),Ad (Aa e1).2 (show 2≤2 by decide),lvs1,Aa e3,f4,Ae (Aa e3).2 (k:=2) (by decide),Ad (Aa e3).2 (show 2≤2 by decide)] at f5
 obtain⟨v6,e6,h⟩:=ltE h;have f7:=AB (Aa e3).2 e6 (cs:=[iA v1.frm,iA v1.to]) (by simp) rfl;try simp at f7
 have f8:=f2;try simp only[Ac e6] at f8
 have f9:=f4;try simp only[Ac e6] at f9
 have f10:=f5;try simp only[Ac e6] at f10
 obtain⟨v11,e11,h⟩:=bnE h;have f12:=Ai e11;try simp[Aa e1,f2,Ae (Aa e1).2 (k:=2) (by decide),Ad (Aa e1).2 (show 2≤2 by decide),lvs1,Aa e3,f4,Ae (Aa e3).2 (k:=2) (by decide),Ad (Aa e3).2 (show 2≤2 by decide),f5,f7,f8,f9,f10,Aa e11] at f12
 obtain⟨v13,e13,h⟩:=ltE h;have f14:=AB (Aa e11).2 e13 (cs:=[iA v3.frm,iA v3.to]) (by simp) rfl;try simp at f14
 have f15:=f2;try simp only[Ac e13] at f15
 have f16:=f4;try simp only[Ac e13] at f16
 have f17:=f5;try simp only[Ac e13] at f17
 have f18:=f8;try simp only[Ac e13] at f18
 have f19:=f9;try simp only[Ac e13] at f19
 have f20:=f10;try simp only[Ac e13] at f20
 have f21:=f12;try simp only[Ac e13] at f21
 apply zJ (V:=[_,_,_,_,_,_,_,_,_,_,_,_,_,_]) (M:=[[some ⟨59,2,false,some 0,lvs (Ah a0)⟩],[some ⟨59,2,false,some 0,lvs (Ah v6)⟩]]) mixed [⟨[0],[],[(0,none)],false⟩,⟨[0],[],[(1,none)],false⟩,⟨[0,1],[],[(0,none)],false⟩,⟨[0,1],[],[(3,none)],false⟩,⟨[0],[],[(0,none)],false⟩,⟨[0],[],[(3,none)],false⟩,⟨[0],[4,5],[(18,some 4),(19,some 5)],false⟩,⟨[0],[4,5,6],[(20,some 6)],false⟩,⟨[0],[],[(0,none)],false⟩,⟨[0],[],[(1,none)],false⟩,⟨[0],[8,9],[(22,some 8),(23,some 9)],false⟩,⟨[0],[8,9,10],[(24,some 10)],false⟩,⟨[0],[0,1,4,5,6,7,8,9,10,11],[(14,some 0),(15,some 1)],false⟩,⟨[0],[0,1,4,5,6,7,8,9,10,11,12],[(21,some 7),(26,some 12)],true⟩,⟨[],[0,1,2,3,4,5,6,7,8,9,10,11,12,13],[],false⟩,⟨[],[0,1,2,3,4,5,6,7,8,9,10,11,12,13,14],[],false⟩] 14 1 (by kernel_rfl) (by kernel_rfl)
 ·rfl
 ·refine⟨?_,?_,⟨?_,?_⟩,⟨?_,?_⟩,?_,?_,?_,?_,?_,?_,?_,?_,?_,?_,trivial⟩;iterate 16 (· intro tm hr;simp[AllL,rdV] at hr;simp[hr,Aa e1,f2,Ae (Aa e1).2 (k:=2) (by decide),Ad (Aa e1).2 (show 2≤2 by decide),lvs1,Aa e3,f4,Ae (Aa e3).2 (k:=2) (by decide),Ad (Aa e3).2 (show 2≤2 by decide),f5,f7,f8,f9,f10,Aa e11,f12,Ac e6,Ad (Aa e11).2 (show 2≤2 by decide),f14,f15,f16,f17,f18,f19,f20,f21];intros;exact KA)
 ·rfl
 ·simp[tmD,putD,Aa e1,f2,Ae (Aa e1).2 (k:=2) (by decide),Ad (Aa e1).2 (show 2≤2 by decide),lvs1,Aa e3,f4,Ae (Aa e3).2 (k:=2) (by decide),Ad (Aa e3).2 (show 2≤2 by decide),f5,f7,f8,f9,f10,Aa e11,f12,Ac e6,Ad (Aa e11).2 (show 2≤2 by decide),f14,f15,f16,f17,f18,f19,f20,f21];rfl
 ·simp[Aa e1,f2,Ae (Aa e1).2 (k:=2) (by decide),Ad (Aa e1).2 (show 2≤2 by decide),lvs1,Aa e3,f4,Ae (Aa e3).2 (k:=2) (by decide),Ad (Aa e3).2 (show 2≤2 by decide),f5,f7,f8,f9,f10,Aa e11,f12,Ac e6,Ad (Aa e11).2 (show 2≤2 by decide),f14,f15,f16,f17,f18,f19,f20,f21];intros;rfl
 obtain⟨v22,e22,v23,e23,h⟩:=oll h;refine AW.step (by simp[← e22,← e23];intros;rfl) ?_;apply AW.seq;apply AW.block;obtain⟨y25,g25,h⟩:=bnE h;refine zE g25 (mk:=fun gh ls q=>(⟨[(0,.l (.r 0 2 0 v13.length)),(1,.l (iA a1)),(4,.l (.s (.func (.func 72) #[] #[]))),(12,.l (iA q)),(13,.l (iA v23))],[some ⟨59,2,false,some 0,lvs (Ah v13)⟩],178,gh,ls⟩:St)) (N:=fun gh ls=>(xP 0 (cx:=cx) (fun q=>(⟨[(0,.l (.r 0 2 0 v13.length)),(1,.l (iA a1)),(4,.l (.s (.func (.func 72) #[] #[]))),(12,.l (iA q)),(13,.l (iA v23))],[some ⟨59,2,false,some 0,lvs (Ah v13)⟩],178,gh,ls⟩:St)))) ?_ noX ?_ ?_
 ·refine zA 1 [some 0] hz (by decide) (by decide) ?_ ?_ ?_;all_goals first|(simp[Ab,Af,pickOb,Ac e13,Ac e6];done)|rfl
 ·clear h;intro y24 y26 h
  apply AW.seq;obtain⟨y27,g27,h⟩:=bnE h;refine zD (p:=fun gh ls=>(nP (cx:=cx) (fun q=>(⟨[(0,.l (.r 0 2 0 v13.length)),(1,.l (iA a1)),(4,.l (.s (.func (.func 72) #[] #[]))),(12,.l (iA y24)),(13,.l (iA v23)),(47,.l (bA q))],[some ⟨59,2,false,some 0,lvs (Ah v13)⟩],178,gh,ls⟩:St))) y27) ?_ ?_
  ·replace h:=g27;clear g27
   obtain⟨v28,e28,h⟩:=ltE h;cases v28 with
   |true=>
    replace h:=iT h;obtain⟨v29,e29,h⟩:=bnE h;have f30:=Ai e29;try simp[← e28,Aa e29] at f30
    obtain⟨v31,e31,h⟩:=bnE h;have f32:=Ai e31;try simp[← e28,Aa e29,f30,Ae (Aa e29).2 (k:=2) (by decide),Ad (Aa e29).2 (show 2≤2 by decide),lvs1,Aa e31] at f32
    obtain⟨v33,e33,v34,e34,h⟩:=obl h;apply zH (V:=[_,_,_,_,_,_,_,_,_,_,_,_,_]) mixed DX20t6 13 (by kernel_rfl) (by kernel_rfl)
    ·refine⟨?_,?_,?_,?_,?_,?_,?_,?_,?_,?_,?_,?_,?_,trivial⟩;iterate 13 (· intro tm hr;simp[AllL,rdV] at hr;simp[hr,← e28,Aa e29,f30,Ae (Aa e29).2 (k:=2) (by decide),Ad (Aa e29).2 (show 2≤2 by decide),lvs1,Aa e31,f32,Ae (Aa e31).2 (k:=2) (by decide),Ad (Aa e31).2 (show 2≤2 by decide),← e34];intros;exact KA)
    ·rfl
    ·simp[tmD,putD,← e28,Aa e29,f30,Ae (Aa e29).2 (k:=2) (by decide),Ad (Aa e29).2 (show 2≤2 by decide),lvs1,Aa e31,f32,Ae (Aa e31).2 (k:=2) (by decide),Ad (Aa e31).2 (show 2≤2 by decide),← e34];rfl
    ·simp[← e28,Aa e29,f30,Ae (Aa e29).2 (k:=2) (by decide),Ad (Aa e29).2 (show 2≤2 by decide),lvs1,Aa e31,f32,Ae (Aa e31).2 (k:=2) (by decide),Ad (Aa e31).2 (show 2≤2 by decide),← e34];intros;refine Aj A1 (A7 e33) rfl ⟨.same rfl,.same rfl,trivial⟩ ?_;try simp[← e28,Aa e29,f30,Ae (Aa e29).2 (k:=2) (by decide),Ad (Aa e29).2 (show 2≤2 by decide),lvs1,Aa e31,f32,Ae (Aa e31).2 (k:=2) (by decide),Ad (Aa e31).2 (show 2≤2 by decide),← e34]
     intros;rfl
    obtain rfl:=oi h;refine nP_i ?_;refine zA 1 [some 0] hz (by decide) (by decide) ?_ ?_ ?_;all_goals first|(simp[Ab,Af,pickOb];done)|rfl
   |false=>
    replace h:=iF h;apply zH (V:=[_,_,_,_,_,_,_,_,_,_,_,_,_]) mixed DX20t6 13 (by kernel_rfl) (by kernel_rfl)
    ·refine⟨?_,?_,?_,?_,?_,?_,?_,?_,?_,?_,?_,?_,?_,trivial⟩;iterate 13 (· intro tm hr;simp[AllL,rdV] at hr;simp[hr,← e28];intros;exact KA)
    ·rfl
    ·simp[tmD,putD,← e28];rfl
    ·simp[← e28];intros;rfl
    obtain rfl:=oi h;refine nP_i ?_;refine zA 1 [some 0] hz (by decide) (by decide) ?_ ?_ ?_;all_goals first|(simp[Ab,Af,pickOb];done)|rfl
  ·rintro e s⟨rfl,hw⟩;refine⟨_,hw,?_⟩;try simp only[nm]
   obtain⟨v35,e35,h⟩:=ltE h;rw[← e35];cases v35 with
   |true=>
    replace h:=iT h;refine CT ?_;apply AW.skip;try simp only[nm]
    apply AW.block;obtain⟨v36,e36,h⟩:=ltE h;refine AW.last (by simp[← e36];intros;rfl) ?_;obtain rfl:=oi h;refine nP_i ?_;refine zA 1 [some 0] hz (by decide) (by decide) ?_ ?_ ?_;all_goals first|(simp[Ab,Af,pickOb];done)|rfl
   |false=>
    replace h:=iF h;refine CF ?_;apply AW.exit;try simp only[nm]
    obtain rfl:=oi h;refine xP_i ?_;refine zA 1 [some 0] hz (by decide) (by decide) ?_ ?_ ?_;all_goals first|(simp[Ab,Af,pickOb];done)|rfl
 ·rintro e s⟨rfl,hw⟩;refine⟨_,hw,?_⟩;try simp only[nm]
  apply AW.seq;apply AW.block;obtain⟨y38,g38,h⟩:=bnE h;refine zE g38 (mk:=fun gh ls q=>(⟨[(0,.l (.r 0 2 0 v13.length)),(1,.l (iA a1)),(4,.l (.s (.func (.func 72) #[] #[]))),(12,.l (iA y25)),(13,.l (iA q))],[some ⟨59,2,false,some 0,lvs (Ah v13)⟩],178,gh,ls⟩:St)) (N:=fun gh ls=>(xP 2 (cx:=cx) (fun q=>(⟨[(0,.l (.r 0 2 0 v13.length)),(1,.l (iA a1)),(4,.l (.s (.func (.func 72) #[] #[]))),(12,.l (iA y25)),(13,.l (iA q))],[some ⟨59,2,false,some 0,lvs (Ah v13)⟩],178,gh,ls⟩:St)))) ?_ noX ?_ ?_
  ·refine zA 1 [some 0] hz (by decide) (by decide) ?_ ?_ ?_;all_goals first|(simp[Ab,Af,pickOb];done)|rfl
  ·clear h;intro y37 y39 h
   apply AW.seq;obtain⟨y40,g40,h⟩:=bnE h;refine zD (p:=fun gh ls=>(nP (cx:=cx) (fun q=>(⟨[(0,.l (.r 0 2 0 v13.length)),(1,.l (iA a1)),(4,.l (.s (.func (.func 72) #[] #[]))),(12,.l (iA y25)),(13,.l (iA y37)),(66,.l (bA q))],[some ⟨59,2,false,some 0,lvs (Ah v13)⟩],178,gh,ls⟩:St))) y40) ?_ ?_
   ·replace h:=g40;clear g40
    obtain⟨v41,e41,h⟩:=ltE h;cases v41 with
    |true=>
     replace h:=iT h;obtain⟨v42,e42,h⟩:=bnE h;have f43:=Ai e42;try simp[← e41,Aa e42] at f43
     obtain⟨v44,e44,h⟩:=bnE h;have f45:=Ai e44;try simp[← e41,Aa e42,f43,Ae (Aa e42).2 (k:=2) (by decide),Ad (Aa e42).2 (show 2≤2 by decide),lvs1,Aa e44] at f45
     obtain⟨v46,e46,v47,e47,v48,e48,h⟩:=obll h;apply zH (V:=[_,_,_,_,_,_,_,_,_,_,_,_,_]) mixed DX20t7 13 (by kernel_rfl) (by kernel_rfl)
     ·refine⟨?_,?_,?_,?_,?_,?_,?_,?_,?_,?_,?_,?_,?_,trivial⟩;iterate 13 (· intro tm hr;simp[AllL,rdV] at hr;simp[hr,← e41,Aa e42,f43,Ae (Aa e42).2 (k:=2) (by decide),Ad (Aa e42).2 (show 2≤2 by decide),lvs1,Aa e44,f45,Ae (Aa e44).2 (k:=2) (by decide),Ad (Aa e44).2 (show 2≤2 by decide),← e47,← e48];intros;exact KA)
     ·rfl
     ·simp[tmD,putD,← e41,Aa e42,f43,Ae (Aa e42).2 (k:=2) (by decide),Ad (Aa e42).2 (show 2≤2 by decide),lvs1,Aa e44,f45,Ae (Aa e44).2 (k:=2) (by decide),Ad (Aa e44).2 (show 2≤2 by decide),← e47,← e48];rfl
     ·simp[← e41,Aa e42,f43,Ae (Aa e42).2 (k:=2) (by decide),Ad (Aa e42).2 (show 2≤2 by decide),lvs1,Aa e44,f45,Ae (Aa e44).2 (k:=2) (by decide),Ad (Aa e44).2 (show 2≤2 by decide),← e47,← e48];intros;refine Aj A1 (A7 e46) rfl ⟨.same rfl,.same rfl,trivial⟩ ?_;try simp[← e41,Aa e42,f43,Ae (Aa e42).2 (k:=2) (by decide),Ad (Aa e42).2 (show 2≤2 by decide),lvs1,Aa e44,f45,Ae (Aa e44).2 (k:=2) (by decide),Ad (Aa e44).2 (show 2≤2 by decide),← e47,← e48]
      intros;rfl
     obtain rfl:=oi h;refine nP_i ?_;refine zA 1 [some 0] hz (by decide) (by decide) ?_ ?_ ?_;all_goals first|(simp[Ab,Af,pickOb];done)|rfl
    |false=>
     replace h:=iF h;apply zH (V:=[_,_,_,_,_,_,_,_,_,_,_,_,_]) mixed DX20t7 13 (by kernel_rfl) (by kernel_rfl)
     ·refine⟨?_,?_,?_,?_,?_,?_,?_,?_,?_,?_,?_,?_,?_,trivial⟩;iterate 13 (· intro tm hr;simp[AllL,rdV] at hr;simp[hr,← e41];intros;exact KA)
     ·rfl
     ·simp[tmD,putD,← e41];rfl
     ·simp[← e41];intros;rfl
     obtain rfl:=oi h;refine nP_i ?_;refine zA 1 [some 0] hz (by decide) (by decide) ?_ ?_ ?_;all_goals first|(simp[Ab,Af,pickOb];done)|rfl
   ·rintro e s⟨rfl,hw⟩;refine⟨_,hw,?_⟩;try simp only[nm]
    obtain⟨v49,e49,h⟩:=ltE h;rw[← e49];cases v49 with
    |true=>
     replace h:=iT h;refine CT ?_;apply AW.skip;try simp only[nm]
     apply AW.block;obtain⟨v50,e50,h⟩:=ltE h;refine AW.last (by simp[← e50];intros;rfl) ?_;obtain rfl:=oi h;refine nP_i ?_;refine zA 1 [some 0] hz (by decide) (by decide) ?_ ?_ ?_;all_goals first|(simp[Ab,Af,pickOb];done)|rfl
    |false=>
     replace h:=iF h;refine CF ?_;apply AW.exit;try simp only[nm]
     obtain rfl:=oi h;refine xP_i ?_;refine zA 1 [some 0] hz (by decide) (by decide) ?_ ?_ ?_;all_goals first|(simp[Ab,Af,pickOb];done)|rfl
  ·rintro e s⟨rfl,hw⟩;refine⟨_,hw,?_⟩;try simp only[nm]
   apply AW.seq;obtain⟨v51,e51,h⟩:=ltE h;refine AW.step (by simp[← e51];intros;rfl) ?_;cases v51 with
   |true=>
    replace h:=iT h;refine CT ?_;obtain⟨v52,e52,h⟩:=bnE h;have f53:=Ai e52;try simp[Aa e52] at f53
    obtain⟨v54,e54,h⟩:=bnE h;have f55:=Ai e54;try simp[Aa e52,f53,Ae (Aa e52).2 (k:=2) (by decide),Ad (Aa e52).2 (show 2≤2 by decide),lvs1,Aa e54] at f55
    have f56:=Ai e54;try simp[Aa e52,f53,Ae (Aa e52).2 (k:=2) (by decide),Ad (Aa e52).2 (show 2≤2 by decide),lvs1,Aa e54,f55,Ae (Aa e54).2 (k:=2) (by decide),Ad (Aa e54).2 (show 2≤2 by decide)] at f56
    obtain⟨v57,e57,h⟩:=ltE h;have f58:=AB (Aa e54).2 e57 (cs:=[iA v52.frm,iA v52.to]) (by simp) rfl;try simp at f58
    have f59:=f53;try simp only[Ac e57] at f59
    have f60:=f55;try simp only[Ac e57] at f60
    have f61:=f56;try simp only[Ac e57] at f61
    obtain⟨v62,e62,h⟩:=bnE h;have f63:=Ai e62;try simp[Aa e52,f53,Ae (Aa e52).2 (k:=2) (by decide),Ad (Aa e52).2 (show 2≤2 by decide),lvs1,Aa e54,f55,Ae (Aa e54).2 (k:=2) (by decide),Ad (Aa e54).2 (show 2≤2 by decide),f56,f58,f59,f60,f61,Aa e62] at f63
    obtain⟨v64,e64,h⟩:=ltE h;have f65:=AB (Aa e62).2 e64 (cs:=[iA v54.frm,iA v54.to]) (by simp) rfl;try simp at f65
    have f66:=f53;try simp only[Ac e64] at f66
    have f67:=f55;try simp only[Ac e64] at f67
    have f68:=f56;try simp only[Ac e64] at f68
    have f69:=f59;try simp only[Ac e64] at f69
    have f70:=f60;try simp only[Ac e64] at f70
    have f71:=f61;try simp only[Ac e64] at f71
    have f72:=f63;try simp only[Ac e64] at f72
    apply zJ (V:=[_,_,_,_,_,_,_,_,_,_,_,_,_,_]) (M:=[[some ⟨59,2,false,some 0,lvs (Ah v13)⟩],[some ⟨59,2,false,some 0,lvs (Ah v57)⟩]]) mixed [⟨[0],[],[(0,none)],false⟩,⟨[0],[],[(13,none)],false⟩,⟨[0,1],[],[(0,none)],false⟩,⟨[0,1],[],[(1,none)],false⟩,⟨[0],[],[(0,none)],false⟩,⟨[0],[],[(1,none)],false⟩,⟨[0],[4,5],[(76,some 4),(77,some 5)],false⟩,⟨[0],[4,5,6],[(78,some 6)],false⟩,⟨[0],[],[(0,none)],false⟩,⟨[0],[],[(13,none)],false⟩,⟨[0],[8,9],[(80,some 8),(81,some 9)],false⟩,⟨[0],[8,9,10],[(82,some 10)],false⟩,⟨[0],[0,1,4,5,6,7,8,9,10,11],[(72,some 0),(73,some 1)],false⟩,⟨[0],[0,1,4,5,6,7,8,9,10,11,12],[(79,some 7),(84,some 12)],true⟩,⟨[],[0,1,2,3,4,5,6,7,8,9,10,11,12,13],[],false⟩,⟨[],[0,1,2,3,4,5,6,7,8,9,10,11,12,13,14],[],false⟩] 14 1 (by kernel_rfl) (by kernel_rfl)
    ·rfl
    ·refine⟨?_,?_,⟨?_,?_⟩,⟨?_,?_⟩,?_,?_,?_,?_,?_,?_,?_,?_,?_,?_,trivial⟩;iterate 16 (· intro tm hr;simp[AllL,rdV] at hr;simp[hr,Aa e52,f53,Ae (Aa e52).2 (k:=2) (by decide),Ad (Aa e52).2 (show 2≤2 by decide),lvs1,Aa e54,f55,Ae (Aa e54).2 (k:=2) (by decide),Ad (Aa e54).2 (show 2≤2 by decide),f56,f58,f59,f60,f61,Aa e62,f63,Ac e57,Ad (Aa e62).2 (show 2≤2 by decide),f65,f66,f67,f68,f69,f70,f71,f72];intros;exact KA)
    ·rfl
    ·simp[tmD,putD,Aa e52,f53,Ae (Aa e52).2 (k:=2) (by decide),Ad (Aa e52).2 (show 2≤2 by decide),lvs1,Aa e54,f55,Ae (Aa e54).2 (k:=2) (by decide),Ad (Aa e54).2 (show 2≤2 by decide),f56,f58,f59,f60,f61,Aa e62,f63,Ac e57,Ad (Aa e62).2 (show 2≤2 by decide),f65,f66,f67,f68,f69,f70,f71,f72];rfl
    ·simp[Aa e52,f53,Ae (Aa e52).2 (k:=2) (by decide),Ad (Aa e52).2 (show 2≤2 by decide),lvs1,Aa e54,f55,Ae (Aa e54).2 (k:=2) (by decide),Ad (Aa e54).2 (show 2≤2 by decide),f56,f58,f59,f60,f61,Aa e62,f63,Ac e57,Ad (Aa e62).2 (show 2≤2 by decide),f65,f66,f67,f68,f69,f70,f71,f72];intros;rfl
    refine ST ?_;obtain rfl:=oi h;apply AW.ret;refine Left.of (av:=_) (by simp[Try.f88,resV,resC,comp];rfl) ?_;exact zF 1 [some 0] hz rfl (by decide) rfl (by simp[pickOb,Ab,Af,Ac e57,Ac e64]) (by simp[Ab,Af,Ac e57,Ac e64])
   |false=>
    replace h:=iF h;refine CF ?_;apply AW.skip;try simp only[nm]
    obtain⟨v73,e73,h⟩:=bnE h;have f74:=Ai e73;try simp[Aa e73] at f74
    obtain⟨v75,e75,h⟩:=bnE h;have f76:=Ai e75;try simp[Aa e73,f74,Ae (Aa e73).2 (k:=2) (by decide),Ad (Aa e73).2 (show 2≤2 by decide),lvs1,Aa e75] at f76
    have f77:=Ai e75;try simp[Aa e73,f74,Ae (Aa e73).2 (k:=2) (by decide),Ad (Aa e73).2 (show 2≤2 by decide),lvs1,Aa e75,f76,Ae (Aa e75).2 (k:=2) (by decide),Ad (Aa e75).2 (show 2≤2 by decide)] at f77
    obtain⟨v78,e78,h⟩:=ltE h;have f79:=AB (Aa e75).2 e78 (cs:=[iA v73.frm,iA v73.to]) (by simp) rfl;try simp at f79
    have f80:=f74;try simp only[Ac e78] at f80
    have f81:=f76;try simp only[Ac e78] at f81
    have f82:=f77;try simp only[Ac e78] at f82
    obtain⟨v83,e83,h⟩:=bnE h;have f84:=Ai e83;try simp[Aa e73,f74,Ae (Aa e73).2 (k:=2) (by decide),Ad (Aa e73).2 (show 2≤2 by decide),lvs1,Aa e75,f76,Ae (Aa e75).2 (k:=2) (by decide),Ad (Aa e75).2 (show 2≤2 by decide),f77,f79,f80,f81,f82,Aa e83] at f84
    obtain⟨v85,e85,h⟩:=ltE h;have f86:=AB (Aa e83).2 e85 (cs:=[iA v75.frm,iA v75.to]) (by simp) rfl;try simp at f86
    have f87:=f74;try simp only[Ac e85] at f87
    have f88:=f76;try simp only[Ac e85] at f88
    have f89:=f77;try simp only[Ac e85] at f89
    have f90:=f80;try simp only[Ac e85] at f90
    have f91:=f81;try simp only[Ac e85] at f91
    have f92:=f82;try simp only[Ac e85] at f92
    have f93:=f84;try simp only[Ac e85] at f93
    apply zJ (V:=[_,_,_,_,_,_,_,_,_,_,_,_,_,_]) (M:=[[some ⟨59,2,false,some 0,lvs (Ah v13)⟩],[some ⟨59,2,false,some 0,lvs (Ah v78)⟩]]) mixed [⟨[0],[],[(0,none)],false⟩,⟨[0],[],[(12,none)],false⟩,⟨[0,1],[],[(0,none)],false⟩,⟨[0,1],[],[(13,none)],false⟩,⟨[0],[],[(0,none)],false⟩,⟨[0],[],[(13,none)],false⟩,⟨[0],[4,5],[(91,some 4),(92,some 5)],false⟩,⟨[0],[4,5,6],[(93,some 6)],false⟩,⟨[0],[],[(0,none)],false⟩,⟨[0],[],[(12,none)],false⟩,⟨[0],[8,9],[(95,some 8),(96,some 9)],false⟩,⟨[0],[8,9,10],[(97,some 10)],false⟩,⟨[0],[0,1,4,5,6,7,8,9,10,11],[(87,some 0),(88,some 1)],false⟩,⟨[0],[0,1,4,5,6,7,8,9,10,11,12],[(94,some 7),(99,some 12)],true⟩,⟨[],[0,1,2,3,4,5,6,7,8,9,10,11,12,13],[],false⟩,⟨[],[0,1,2,3,4,5,6,7,8,9,10,11,12,13,14],[],false⟩] 14 1 (by kernel_rfl) (by kernel_rfl)
    ·rfl
    ·refine⟨?_,?_,⟨?_,?_⟩,⟨?_,?_⟩,?_,?_,?_,?_,?_,?_,?_,?_,?_,?_,trivial⟩;iterate 16 (· intro tm hr;simp[AllL,rdV] at hr;simp[hr,Aa e73,f74,Ae (Aa e73).2 (k:=2) (by decide),Ad (Aa e73).2 (show 2≤2 by decide),lvs1,Aa e75,f76,Ae (Aa e75).2 (k:=2) (by decide),Ad (Aa e75).2 (show 2≤2 by decide),f77,f79,f80,f81,f82,Aa e83,f84,Ac e78,Ad (Aa e83).2 (show 2≤2 by decide),f86,f87,f88,f89,f90,f91,f92,f93];intros;exact KA)
    ·rfl
    ·simp[tmD,putD,Aa e73,f74,Ae (Aa e73).2 (k:=2) (by decide),Ad (Aa e73).2 (show 2≤2 by decide),lvs1,Aa e75,f76,Ae (Aa e75).2 (k:=2) (by decide),Ad (Aa e75).2 (show 2≤2 by decide),f77,f79,f80,f81,f82,Aa e83,f84,Ac e78,Ad (Aa e83).2 (show 2≤2 by decide),f86,f87,f88,f89,f90,f91,f92,f93];rfl
    ·simp[Aa e73,f74,Ae (Aa e73).2 (k:=2) (by decide),Ad (Aa e73).2 (show 2≤2 by decide),lvs1,Aa e75,f76,Ae (Aa e75).2 (k:=2) (by decide),Ad (Aa e75).2 (show 2≤2 by decide),f77,f79,f80,f81,f82,Aa e83,f84,Ac e78,Ad (Aa e83).2 (show 2≤2 by decide),f86,f87,f88,f89,f90,f91,f92,f93];intros;rfl
    obtain⟨v94,e94,h⟩:=ltE h;refine AW.step (by simp[← e94];intros;rfl) ?_;obtain⟨v95,e95,h⟩:=ltE h;refine AW.step (by simp[← e95];intros;rfl) ?_;apply AW.seq;apply AW.block;obtain⟨y97,g97,h⟩:=bnE h;refine zE g97 (mk:=fun gh ls q=>(⟨[(0,.l (.r 0 2 0 q.2.2.length)),(1,.l (iA a1)),(4,.l (.s (.func (.func 72) #[] #[]))),(12,.l (iA q.1)),(13,.l (iA q.2.1))],[some ⟨59,2,false,some 0,lvs (Ah q.2.2)⟩],178,gh,ls⟩:St)) (N:=fun gh ls=>(xP 4 (cx:=cx) (fun q=>(⟨[(0,.l (.r 0 2 0 q.2.length)),(1,.l (iA a1)),(13,.l (iA q.1))],[some ⟨59,2,false,some 0,lvs (Ah q.2)⟩],178,gh,ls⟩:St)))) ?_ noX ?_ ?_
    ·refine zA 1 [some 0] hz (by decide) (by decide) ?_ ?_ ?_;all_goals first|(simp[Ab,Af,pickOb,Ac e78,Ac e85];done)|rfl
    ·clear h;intro y96 y98 h
     apply AW.block;apply AW.seq;apply AW.block;obtain⟨y100,g100,h⟩:=bnE h;refine zE g100 (mk:=fun gh ls q=>(⟨[(0,.l (.r 0 2 0 y96.2.2.length)),(1,.l (iA a1)),(4,.l (.s (.func (.func 72) #[] #[]))),(12,.l (iA q)),(13,.l (iA y96.2.1))],[some ⟨59,2,false,some 0,lvs (Ah y96.2.2)⟩],178,gh,ls⟩:St)) (N:=fun gh ls=>(xP 6 (cx:=cx) (fun q=>(⟨[(0,.l (.r 0 2 0 y96.2.2.length)),(1,.l (iA a1)),(4,.l (.s (.func (.func 72) #[] #[]))),(12,.l (iA q)),(13,.l (iA y96.2.1))],[some ⟨59,2,false,some 0,lvs (Ah y96.2.2)⟩],178,gh,ls⟩:St)))) ?_ noX ?_ ?_
     ·refine zA 1 [some 0] hz (by decide) (by decide) ?_ ?_ ?_;all_goals first|(simp[Ab,Af,pickOb];done)|rfl
     ·clear h;intro y99 y101 h
      apply AW.seq;obtain⟨y102,g102,h⟩:=bnE h;refine zD (p:=fun gh ls=>(nP (cx:=cx) (fun q=>(⟨[(0,.l (.r 0 2 0 y96.2.2.length)),(1,.l (iA a1)),(4,.l (.s (.func (.func 72) #[] #[]))),(12,.l (iA y99)),(13,.l (iA y96.2.1)),(120,.l (bA q))],[some ⟨59,2,false,some 0,lvs (Ah y96.2.2)⟩],178,gh,ls⟩:St))) y102) ?_ ?_
      ·replace h:=g102;clear g102
       obtain⟨v103,e103,h⟩:=ltE h;cases v103 with
       |true=>
        replace h:=iT h;obtain⟨v104,e104,h⟩:=bnE h;have f105:=Ai e104;try simp[← e103,Aa e104] at f105
        obtain⟨v106,e106,h⟩:=bnE h;have f107:=Ai e106;try simp[← e103,Aa e104,f105,Ae (Aa e104).2 (k:=2) (by decide),Ad (Aa e104).2 (show 2≤2 by decide),lvs1,Aa e106] at f107
        obtain⟨v108,e108,v109,e109,h⟩:=obl h;apply zH (V:=[_,_,_,_,_,_,_,_,_,_,_,_,_]) mixed DX20t8 13 (by kernel_rfl) (by kernel_rfl)
        ·refine⟨?_,?_,?_,?_,?_,?_,?_,?_,?_,?_,?_,?_,?_,trivial⟩;iterate 13 (· intro tm hr;simp[AllL,rdV] at hr;simp[hr,← e103,Aa e104,f105,Ae (Aa e104).2 (k:=2) (by decide),Ad (Aa e104).2 (show 2≤2 by decide),lvs1,Aa e106,f107,Ae (Aa e106).2 (k:=2) (by decide),Ad (Aa e106).2 (show 2≤2 by decide),← e109];intros;exact KA)
        ·rfl
        ·simp[tmD,putD,← e103,Aa e104,f105,Ae (Aa e104).2 (k:=2) (by decide),Ad (Aa e104).2 (show 2≤2 by decide),lvs1,Aa e106,f107,Ae (Aa e106).2 (k:=2) (by decide),Ad (Aa e106).2 (show 2≤2 by decide),← e109];rfl
        ·simp[← e103,Aa e104,f105,Ae (Aa e104).2 (k:=2) (by decide),Ad (Aa e104).2 (show 2≤2 by decide),lvs1,Aa e106,f107,Ae (Aa e106).2 (k:=2) (by decide),Ad (Aa e106).2 (show 2≤2 by decide),← e109];intros;refine Aj A1 (A7 e108) rfl ⟨.same rfl,.same rfl,trivial⟩ ?_;try simp[← e103,Aa e104,f105,Ae (Aa e104).2 (k:=2) (by decide),Ad (Aa e104).2 (show 2≤2 by decide),lvs1,Aa e106,f107,Ae (Aa e106).2 (k:=2) (by decide),Ad (Aa e106).2 (show 2≤2 by decide),← e109]
         intros;rfl
        obtain rfl:=oi h;refine nP_i ?_;refine zA 1 [some 0] hz (by decide) (by decide) ?_ ?_ ?_;all_goals first|(simp[Ab,Af,pickOb];done)|rfl
       |false=>
        replace h:=iF h;apply zH (V:=[_,_,_,_,_,_,_,_,_,_,_,_,_]) mixed DX20t8 13 (by kernel_rfl) (by kernel_rfl)
        ·refine⟨?_,?_,?_,?_,?_,?_,?_,?_,?_,?_,?_,?_,?_,trivial⟩;iterate 13 (· intro tm hr;simp[AllL,rdV] at hr;simp[hr,← e103];intros;exact KA)
        ·rfl
        ·simp[tmD,putD,← e103];rfl
        ·simp[← e103];intros;rfl
        obtain rfl:=oi h;refine nP_i ?_;refine zA 1 [some 0] hz (by decide) (by decide) ?_ ?_ ?_;all_goals first|(simp[Ab,Af,pickOb];done)|rfl
      ·rintro e s⟨rfl,hw⟩;refine⟨_,hw,?_⟩;try simp only[nm]
       obtain⟨v110,e110,h⟩:=ltE h;rw[← e110];cases v110 with
       |true=>
        replace h:=iT h;refine CT ?_;apply AW.skip;try simp only[nm]
        apply AW.block;obtain⟨v111,e111,h⟩:=ltE h;refine AW.last (by simp[← e111];intros;rfl) ?_;obtain rfl:=oi h;refine nP_i ?_;refine zA 1 [some 0] hz (by decide) (by decide) ?_ ?_ ?_;all_goals first|(simp[Ab,Af,pickOb];done)|rfl
       |false=>
        replace h:=iF h;refine CF ?_;apply AW.exit;try simp only[nm]
        obtain rfl:=oi h;refine xP_i ?_;refine zA 1 [some 0] hz (by decide) (by decide) ?_ ?_ ?_;all_goals first|(simp[Ab,Af,pickOb];done)|rfl
     ·rintro e s⟨rfl,hw⟩;refine⟨_,hw,?_⟩;try simp only[nm]
      apply AW.seq;apply AW.block;obtain⟨y113,g113,h⟩:=bnE h;refine zE g113 (mk:=fun gh ls q=>(⟨[(0,.l (.r 0 2 0 y96.2.2.length)),(1,.l (iA a1)),(4,.l (.s (.func (.func 72) #[] #[]))),(12,.l (iA y100)),(13,.l (iA q))],[some ⟨59,2,false,some 0,lvs (Ah y96.2.2)⟩],178,gh,ls⟩:St)) (N:=fun gh ls=>(xP 8 (cx:=cx) (fun q=>(⟨[(0,.l (.r 0 2 0 y96.2.2.length)),(1,.l (iA a1)),(4,.l (.s (.func (.func 72) #[] #[]))),(12,.l (iA y100)),(13,.l (iA q))],[some ⟨59,2,false,some 0,lvs (Ah y96.2.2)⟩],178,gh,ls⟩:St)))) ?_ noX ?_ ?_
      ·refine zA 1 [some 0] hz (by decide) (by decide) ?_ ?_ ?_;all_goals first|(simp[Ab,Af,pickOb];done)|rfl
      ·clear h;intro y112 y114 h
       apply AW.seq;obtain⟨y115,g115,h⟩:=bnE h;refine zD (p:=fun gh ls=>(nP (cx:=cx) (fun q=>(⟨[(0,.l (.r 0 2 0 y96.2.2.length)),(1,.l (iA a1)),(4,.l (.s (.func (.func 72) #[] #[]))),(12,.l (iA y100)),(13,.l (iA y112)),(139,.l (bA q))],[some ⟨59,2,false,some 0,lvs (Ah y96.2.2)⟩],178,gh,ls⟩:St))) y115) ?_ ?_
       ·replace h:=g115;clear g115
        obtain⟨v116,e116,h⟩:=ltE h;cases v116 with
        |true=>
         replace h:=iT h;obtain⟨v117,e117,h⟩:=bnE h;have f118:=Ai e117;try simp[← e116,Aa e117] at f118
         obtain⟨v119,e119,h⟩:=bnE h;have f120:=Ai e119;try simp[← e116,Aa e117,f118,Ae (Aa e117).2 (k:=2) (by decide),Ad (Aa e117).2 (show 2≤2 by decide),lvs1,Aa e119] at f120
         obtain⟨v121,e121,v122,e122,v123,e123,h⟩:=obll h;apply zH (V:=[_,_,_,_,_,_,_,_,_,_,_,_,_]) mixed DX20t9 13 (by kernel_rfl) (by kernel_rfl)
         ·refine⟨?_,?_,?_,?_,?_,?_,?_,?_,?_,?_,?_,?_,?_,trivial⟩;iterate 13 (· intro tm hr;simp[AllL,rdV] at hr;simp[hr,← e116,Aa e117,f118,Ae (Aa e117).2 (k:=2) (by decide),Ad (Aa e117).2 (show 2≤2 by decide),lvs1,Aa e119,f120,Ae (Aa e119).2 (k:=2) (by decide),Ad (Aa e119).2 (show 2≤2 by decide),← e122,← e123];intros;exact KA)
         ·rfl
         ·simp[tmD,putD,← e116,Aa e117,f118,Ae (Aa e117).2 (k:=2) (by decide),Ad (Aa e117).2 (show 2≤2 by decide),lvs1,Aa e119,f120,Ae (Aa e119).2 (k:=2) (by decide),Ad (Aa e119).2 (show 2≤2 by decide),← e122,← e123];rfl
         ·simp[← e116,Aa e117,f118,Ae (Aa e117).2 (k:=2) (by decide),Ad (Aa e117).2 (show 2≤2 by decide),lvs1,Aa e119,f120,Ae (Aa e119).2 (k:=2) (by decide),Ad (Aa e119).2 (show 2≤2 by decide),← e122,← e123];intros;refine Aj A1 (A7 e121) rfl ⟨.same rfl,.same rfl,trivial⟩ ?_;try simp[← e116,Aa e117,f118,Ae (Aa e117).2 (k:=2) (by decide),Ad (Aa e117).2 (show 2≤2 by decide),lvs1,Aa e119,f120,Ae (Aa e119).2 (k:=2) (by decide),Ad (Aa e119).2 (show 2≤2 by decide),← e122,← e123]
          intros;rfl
         obtain rfl:=oi h;refine nP_i ?_;refine zA 1 [some 0] hz (by decide) (by decide) ?_ ?_ ?_;all_goals first|(simp[Ab,Af,pickOb];done)|rfl
        |false=>
         replace h:=iF h;apply zH (V:=[_,_,_,_,_,_,_,_,_,_,_,_,_]) mixed DX20t9 13 (by kernel_rfl) (by kernel_rfl)
         ·refine⟨?_,?_,?_,?_,?_,?_,?_,?_,?_,?_,?_,?_,?_,trivial⟩;iterate 13 (· intro tm hr;simp[AllL,rdV] at hr;simp[hr,← e116];intros;exact KA)
         ·rfl
         ·simp[tmD,putD,← e116];rfl
         ·simp[← e116];intros;rfl
         obtain rfl:=oi h;refine nP_i ?_;refine zA 1 [some 0] hz (by decide) (by decide) ?_ ?_ ?_;all_goals first|(simp[Ab,Af,pickOb];done)|rfl
       ·rintro e s⟨rfl,hw⟩;refine⟨_,hw,?_⟩;try simp only[nm]
        obtain⟨v124,e124,h⟩:=ltE h;rw[← e124];cases v124 with
        |true=>
         replace h:=iT h;refine CT ?_;apply AW.skip;try simp only[nm]
         apply AW.block;obtain⟨v125,e125,h⟩:=ltE h;refine AW.last (by simp[← e125];intros;rfl) ?_;obtain rfl:=oi h;refine nP_i ?_;refine zA 1 [some 0] hz (by decide) (by decide) ?_ ?_ ?_;all_goals first|(simp[Ab,Af,pickOb];done)|rfl
        |false=>
         replace h:=iF h;refine CF ?_;apply AW.exit;try simp only[nm]
         obtain rfl:=oi h;refine xP_i ?_;refine zA 1 [some 0] hz (by decide) (by decide) ?_ ?_ ?_;all_goals first|(simp[Ab,Af,pickOb];done)|rfl
      ·rintro e s⟨rfl,hw⟩;refine⟨_,hw,?_⟩;try simp only[nm]
       apply AW.seq;obtain⟨v126,e126,h⟩:=ltE h;refine AW.step (by simp[← e126];intros;rfl) ?_;cases v126 with
       |true=>
        replace h:=iT h;refine CT ?_;apply AW.exit;try simp only[nm]
        obtain rfl:=oi h;refine xP_i ?_;refine zA 1 [some 0] hz (by decide) (by decide) ?_ ?_ ?_;all_goals first|(simp[Ab,Af,pickOb];done)|rfl
       |false=>
        replace h:=iF h;refine CF ?_;apply AW.skip;try simp only[nm]
        obtain⟨v127,e127,h⟩:=bnE h;have f128:=Ai e127;try simp[Aa e127] at f128
        obtain⟨v129,e129,h⟩:=bnE h;have f130:=Ai e129;try simp[Aa e127,f128,Ae (Aa e127).2 (k:=2) (by decide),Ad (Aa e127).2 (show 2≤2 by decide),lvs1,Aa e129] at f130
        have f131:=Ai e129;try simp[Aa e127,f128,Ae (Aa e127).2 (k:=2) (by decide),Ad (Aa e127).2 (show 2≤2 by decide),lvs1,Aa e129,f130,Ae (Aa e129).2 (k:=2) (by decide),Ad (Aa e129).2 (show 2≤2 by decide)] at f131
        obtain⟨v132,e132,h⟩:=ltE h;have f133:=AB (Aa e129).2 e132 (cs:=[iA v127.frm,iA v127.to]) (by simp) rfl;try simp at f133
        have f134:=f128;try simp only[Ac e132] at f134
        have f135:=f130;try simp only[Ac e132] at f135
        have f136:=f131;try simp only[Ac e132] at f136
        obtain⟨v137,e137,h⟩:=bnE h;have f138:=Ai e137;try simp[Aa e127,f128,Ae (Aa e127).2 (k:=2) (by decide),Ad (Aa e127).2 (show 2≤2 by decide),lvs1,Aa e129,f130,Ae (Aa e129).2 (k:=2) (by decide),Ad (Aa e129).2 (show 2≤2 by decide),f131,f133,f134,f135,f136,Aa e137] at f138
        obtain⟨v139,e139,h⟩:=ltE h;have f140:=AB (Aa e137).2 e139 (cs:=[iA v129.frm,iA v129.to]) (by simp) rfl;try simp at f140
        have f141:=f128;try simp only[Ac e139] at f141
        have f142:=f130;try simp only[Ac e139] at f142
        have f143:=f131;try simp only[Ac e139] at f143
        have f144:=f134;try simp only[Ac e139] at f144
        have f145:=f135;try simp only[Ac e139] at f145
        have f146:=f136;try simp only[Ac e139] at f146
        have f147:=f138;try simp only[Ac e139] at f147
        apply zJ (V:=[_,_,_,_,_,_,_,_,_,_,_,_,_,_]) (M:=[[some ⟨59,2,false,some 0,lvs (Ah y96.2.2)⟩],[some ⟨59,2,false,some 0,lvs (Ah v132)⟩]]) mixed [⟨[0],[],[(0,none)],false⟩,⟨[0],[],[(12,none)],false⟩,⟨[0,1],[],[(0,none)],false⟩,⟨[0,1],[],[(13,none)],false⟩,⟨[0],[],[(0,none)],false⟩,⟨[0],[],[(13,none)],false⟩,⟨[0],[4,5],[(149,some 4),(150,some 5)],false⟩,⟨[0],[4,5,6],[(151,some 6)],false⟩,⟨[0],[],[(0,none)],false⟩,⟨[0],[],[(12,none)],false⟩,⟨[0],[8,9],[(153,some 8),(154,some 9)],false⟩,⟨[0],[8,9,10],[(155,some 10)],false⟩,⟨[0],[0,1,4,5,6,7,8,9,10,11],[(145,some 0),(146,some 1)],false⟩,⟨[0],[0,1,4,5,6,7,8,9,10,11,12],[(152,some 7),(157,some 12)],true⟩,⟨[],[0,1,2,3,4,5,6,7,8,9,10,11,12,13],[],false⟩,⟨[],[0,1,2,3,4,5,6,7,8,9,10,11,12,13,14],[],false⟩] 14 1 (by kernel_rfl) (by kernel_rfl)
        ·rfl
        ·refine⟨?_,?_,⟨?_,?_⟩,⟨?_,?_⟩,?_,?_,?_,?_,?_,?_,?_,?_,?_,?_,trivial⟩;iterate 16 (· intro tm hr;simp[AllL,rdV] at hr;simp[hr,Aa e127,f128,Ae (Aa e127).2 (k:=2) (by decide),Ad (Aa e127).2 (show 2≤2 by decide),lvs1,Aa e129,f130,Ae (Aa e129).2 (k:=2) (by decide),Ad (Aa e129).2 (show 2≤2 by decide),f131,f133,f134,f135,f136,Aa e137,f138,Ac e132,Ad (Aa e137).2 (show 2≤2 by decide),f140,f141,f142,f143,f144,f145,f146,f147];intros;exact KA)
        ·rfl
        ·simp[tmD,putD,Aa e127,f128,Ae (Aa e127).2 (k:=2) (by decide),Ad (Aa e127).2 (show 2≤2 by decide),lvs1,Aa e129,f130,Ae (Aa e129).2 (k:=2) (by decide),Ad (Aa e129).2 (show 2≤2 by decide),f131,f133,f134,f135,f136,Aa e137,f138,Ac e132,Ad (Aa e137).2 (show 2≤2 by decide),f140,f141,f142,f143,f144,f145,f146,f147];rfl
        ·simp[Aa e127,f128,Ae (Aa e127).2 (k:=2) (by decide),Ad (Aa e127).2 (show 2≤2 by decide),lvs1,Aa e129,f130,Ae (Aa e129).2 (k:=2) (by decide),Ad (Aa e129).2 (show 2≤2 by decide),f131,f133,f134,f135,f136,Aa e137,f138,Ac e132,Ad (Aa e137).2 (show 2≤2 by decide),f140,f141,f142,f143,f144,f145,f146,f147];intros;rfl
        obtain⟨v148,e148,h⟩:=ltE h;refine AW.step (by simp[← e148];intros;rfl) ?_;obtain⟨v149,e149,h⟩:=ltE h;refine AW.last (by simp[← e149];intros;rfl) ?_;obtain rfl:=oi h;refine nP_i ?_;refine zA 1 [some 0] hz (by decide) (by decide) ?_ ?_ ?_;all_goals first|(simp[Ab,Af,pickOb,Ac e132,Ac e139];done)|rfl
    ·rintro e s⟨rfl,hw⟩;refine⟨_,hw,?_⟩;try simp only[nm]
     obtain⟨v150,e150,h⟩:=bnE h;have f151:=Ai e150;try simp[Aa e150] at f151
     obtain⟨v152,e152,h⟩:=bnE h;have f153:=Ai e152;try simp[Aa e150,f151,Ae (Aa e150).2 (k:=2) (by decide),Ad (Aa e150).2 (show 2≤2 by decide),lvs1,Aa e152] at f153
     have f154:=Ai e152;try simp[Aa e150,f151,Ae (Aa e150).2 (k:=2) (by decide),Ad (Aa e150).2 (show 2≤2 by decide),lvs1,Aa e152,f153,Ae (Aa e152).2 (k:=2) (by decide),Ad (Aa e152).2 (show 2≤2 by decide)] at f154
     obtain⟨v155,e155,h⟩:=ltE h;have f156:=AB (Aa e152).2 e155 (cs:=[iA v150.frm,iA v150.to]) (by simp) rfl;try simp at f156
     have f157:=f151;try simp only[Ac e155] at f157
     have f158:=f153;try simp only[Ac e155] at f158
     have f159:=f154;try simp only[Ac e155] at f159
     obtain⟨v160,e160,h⟩:=bnE h;have f161:=Ai e160;try simp[Aa e150,f151,Ae (Aa e150).2 (k:=2) (by decide),Ad (Aa e150).2 (show 2≤2 by decide),lvs1,Aa e152,f153,Ae (Aa e152).2 (k:=2) (by decide),Ad (Aa e152).2 (show 2≤2 by decide),f154,f156,f157,f158,f159,Aa e160] at f161
     obtain⟨v162,e162,h⟩:=ltE h;have f163:=AB (Aa e160).2 e162 (cs:=[iA v152.frm,iA v152.to]) (by simp) rfl;try simp at f163
     have f164:=f151;try simp only[Ac e162] at f164
     have f165:=f153;try simp only[Ac e162] at f165
     have f166:=f154;try simp only[Ac e162] at f166
     have f167:=f157;try simp only[Ac e162] at f167
     have f168:=f158;try simp only[Ac e162] at f168
     have f169:=f159;try simp only[Ac e162] at f169
     have f170:=f161;try simp only[Ac e162] at f170
     apply zJ (V:=[_,_,_,_,_,_,_,_,_,_,_,_,_,_]) (M:=[[some ⟨59,2,false,some 0,lvs (Ah y97.2)⟩],[some ⟨59,2,false,some 0,lvs (Ah v155)⟩]]) mixed [⟨[0],[],[(0,none)],false⟩,⟨[0],[],[(13,none)],false⟩,⟨[0,1],[],[(0,none)],false⟩,⟨[0,1],[],[(1,none)],false⟩,⟨[0],[],[(0,none)],false⟩,⟨[0],[],[(1,none)],false⟩,⟨[0],[4,5],[(167,some 4),(168,some 5)],false⟩,⟨[0],[4,5,6],[(169,some 6)],false⟩,⟨[0],[],[(0,none)],false⟩,⟨[0],[],[(13,none)],false⟩,⟨[0],[8,9],[(171,some 8),(172,some 9)],false⟩,⟨[0],[8,9,10],[(173,some 10)],false⟩,⟨[0],[0,1,4,5,6,7,8,9,10,11],[(163,some 0),(164,some 1)],false⟩,⟨[0],[0,1,4,5,6,7,8,9,10,11,12],[(170,some 7),(175,some 12)],true⟩,⟨[],[0,1,2,3,4,5,6,7,8,9,10,11,12,13],[],false⟩,⟨[],[0,1,2,3,4,5,6,7,8,9,10,11,12,13,14],[],false⟩] 14 1 (by kernel_rfl) (by kernel_rfl)
     ·rfl
     ·refine⟨?_,?_,⟨?_,?_⟩,⟨?_,?_⟩,?_,?_,?_,?_,?_,?_,?_,?_,?_,?_,trivial⟩;iterate 16 (· intro tm hr;simp[AllL,rdV] at hr;simp[hr,Aa e150,f151,Ae (Aa e150).2 (k:=2) (by decide),Ad (Aa e150).2 (show 2≤2 by decide),lvs1,Aa e152,f153,Ae (Aa e152).2 (k:=2) (by decide),Ad (Aa e152).2 (show 2≤2 by decide),f154,f156,f157,f158,f159,Aa e160,f161,Ac e155,Ad (Aa e160).2 (show 2≤2 by decide),f163,f164,f165,f166,f167,f168,f169,f170];intros;exact KA)
     ·rfl
     ·simp[tmD,putD,Aa e150,f151,Ae (Aa e150).2 (k:=2) (by decide),Ad (Aa e150).2 (show 2≤2 by decide),lvs1,Aa e152,f153,Ae (Aa e152).2 (k:=2) (by decide),Ad (Aa e152).2 (show 2≤2 by decide),f154,f156,f157,f158,f159,Aa e160,f161,Ac e155,Ad (Aa e160).2 (show 2≤2 by decide),f163,f164,f165,f166,f167,f168,f169,f170];rfl
     ·simp[Aa e150,f151,Ae (Aa e150).2 (k:=2) (by decide),Ad (Aa e150).2 (show 2≤2 by decide),lvs1,Aa e152,f153,Ae (Aa e152).2 (k:=2) (by decide),Ad (Aa e152).2 (show 2≤2 by decide),f154,f156,f157,f158,f159,Aa e160,f161,Ac e155,Ad (Aa e160).2 (show 2≤2 by decide),f163,f164,f165,f166,f167,f168,f169,f170];intros;rfl
     refine ST ?_;obtain rfl:=oi h;apply AW.ret;refine Left.of (av:=_) (by simp[Try.f88,resV,resC,comp];rfl) ?_;exact zF 1 [some 0] hz rfl (by decide) rfl (by simp[pickOb,Ab,Af,Ac e155,Ac e162]) (by simp[Ab,Af,Ac e155,Ac e162])
theorem Di:Enters Try.prog 88:=enters Try.func88 (by kernel_rfl) rfl
def Bq (n:Nat) (a0:Int):Option Int :=
lt (cvI .u64 a0) fun v1 =>
bn (Ct n v1) fun v2 =>
bn (shlI .u64 1 v2) fun v3 =>
some v3
theorem Dl {n:Nat} {a0:Int} {r:Int} (h:Bq n a0=some r):Sound Try.prog 66 [.l (iA a0)] [] (.l (.s (.int .u64 r))) []:=by
 unfold Bq at h;refine SO 7 Try.func66 fun cx hG (hz:cx.nb=0)=>?_;simp only[it];refine ST ?_;obtain⟨v1,e1,v2,e2,h⟩:=olb h;obtain⟨v3,e3,h⟩:=bnE h;apply AW.step
 ·simp[← e1,e3];intros;refine Aj EP (E1 e2) rfl ⟨.same rfl,trivial⟩ ?_;try simp[← e1,e3]
  intros;rfl
 obtain rfl:=oi h;apply AW.ret;exact LP hz
theorem Db:Enters Try.prog 66:=enters Try.func66 (by kernel_rfl) rfl
def BC (n:Nat) (a0:Int):Option (Int×Int) :=
bn (shlI .u64 a0 13) fun v1 =>
lt (xorI .u64 a0 v1) fun v2 =>
bn (shrI .u64 v2 7) fun v3 =>
lt (xorI .u64 v2 v3) fun v4 =>
bn (shlI .u64 v4 17) fun v5 =>
lt (xorI .u64 v4 v5) fun v6 =>
some (v6,v6)
theorem DA {n:Nat} {a0:Int} {r:Int×Int} (h:BC n a0=some r):Sound Try.prog 67 [.l (.p 0 0)] [⟨104,1,false,none,[.s (.int .u64 a0)]⟩] (.l (.s (.int .u64 r.1))) [some ⟨104,1,false,none,[.s (.int .u64 r.2)]⟩]:=by
 unfold BC at h;refine SO 33 Try.func67 fun cx hG (hz:cx.nb=1)=>?_;simp only[it];refine ST ?_;obtain⟨v1,e1,v2,e2,h⟩:=obl h;apply zI (V:=[_,_,_,_,_,_,_]) mixed [⟨[0],[],[(0,none)],false⟩,⟨[0],[0],[(3,some 0)],false⟩,⟨[0],[0,1],[(4,some 1)],false⟩,⟨[0],[],[(0,none)],false⟩,⟨[0],[3],[(6,some 3)],false⟩,⟨[0],[3,4],[(7,some 4)],false⟩,⟨[0],[3,4,5],[(8,some 5)],false⟩,⟨[],[0,1,2,3,4,5,6],[],false⟩,⟨[],[0,1,2,3,4,5,6,7],[],false⟩,⟨[],[0,1,2,3,4,5,6,7,8],[],false⟩] 7 (by kernel_rfl) (by kernel_rfl)
 ·refine⟨?_,?_,?_,?_,?_,?_,?_,trivial⟩;iterate 7 (· intro tm hr;simp[AllL,rdV] at hr;simp[hr,e1,← e2];intros;exact KA)
 ·rfl
 ·simp[tmD,putD,e1,← e2];rfl
 ·simp[e1,← e2];intros;rfl
 obtain⟨v3,e3,v4,e4,h⟩:=obl h;apply zI (V:=[_,_,_,_,_,_,_]) mixed [⟨[0],[],[(0,none)],false⟩,⟨[0],[0],[(12,some 0)],false⟩,⟨[0],[0,1],[(13,some 1)],false⟩,⟨[0],[],[(0,none)],false⟩,⟨[0],[3],[(15,some 3)],false⟩,⟨[0],[3,4],[(16,some 4)],false⟩,⟨[0],[3,4,5],[(17,some 5)],false⟩,⟨[],[0,1,2,3,4,5,6],[],false⟩,⟨[],[0,1,2,3,4,5,6,7],[],false⟩,⟨[],[0,1,2,3,4,5,6,7,8],[],false⟩] 7 (by kernel_rfl) (by kernel_rfl)
 ·refine⟨?_,?_,?_,?_,?_,?_,?_,trivial⟩;iterate 7 (· intro tm hr;simp[AllL,rdV] at hr;simp[hr,e3,← e4];intros;exact KA)
 ·rfl
 ·simp[tmD,putD,e3,← e4];rfl
 ·simp[e3,← e4];intros;rfl
 obtain⟨v5,e5,v6,e6,h⟩:=obl h;apply zI (V:=[_,_,_,_,_,_,_]) mixed [⟨[0],[],[(0,none)],false⟩,⟨[0],[0],[(21,some 0)],false⟩,⟨[0],[0,1],[(22,some 1)],false⟩,⟨[0],[],[(0,none)],false⟩,⟨[0],[3],[(24,some 3)],false⟩,⟨[0],[3,4],[(25,some 4)],false⟩,⟨[0],[3,4,5],[(26,some 5)],false⟩,⟨[],[0,1,2,3,4,5,6],[],false⟩,⟨[],[0,1,2,3,4,5,6,7],[],false⟩,⟨[],[0,1,2,3,4,5,6,7,8],[],false⟩] 7 (by kernel_rfl) (by kernel_rfl)
 ·refine⟨?_,?_,?_,?_,?_,?_,?_,trivial⟩;iterate 7 (· intro tm hr;simp[AllL,rdV] at hr;simp[hr,e5,← e6];intros;exact KA)
 ·rfl
 ·simp[tmD,putD,e5,← e6];rfl
 ·simp[e5,← e6];intros;rfl
 refine ST ?_;obtain rfl:=oi h;apply AW.ret;refine Left.of (av:=_) (by simp[Try.f67,resV,resC,comp];rfl) ?_;exact zF 1 [some 0] hz rfl (by decide) rfl (by simp[pickOb,Ab,Af]) (by simp[Ab,Af])
theorem Dm:Enters Try.prog 67:=enters Try.func67 (by kernel_rfl) rfl
def AZ (n:Nat) (a0:List Span) (a1:Int) (a2:Int):Option (List Span) :=
lt (subI .i64 a2 a1) fun v1 =>
lt (geI v1 8) fun v2 =>
ite' v2 (lt (cvI .u64 v1) fun v3 =>
bn (Bq n v1) fun v4 =>
bn (quoI .i64 v1 4) fun v5 =>
lt (mulI .i64 v5 2) fun v6 =>
lt (addI .i64 a1 v6) fun v7 =>
lt (subI .i64 v7 1) fun v8 =>
bn (iter n (fun (y9:Int×List Span×Int) =>
bn (quoI .i64 v1 4) fun v12 =>
lt (mulI .i64 v12 2) fun v13 =>
lt (addI .i64 a1 v13) fun v14 =>
lt (addI .i64 v14 1) fun v15 =>
lt (leI y9.1 v15) fun v16 =>
ite' v16 (bn (BC n y9.2.2) fun v17 =>
lt (subI .u64 v4 1) fun v18 =>
lt (andI .u64 v17.1 v18) fun v19 =>
lt (cvI .i64 v19) fun v20 =>
bn (lt (geI v20 v1) fun v22 =>
ite' v22 (lt (subI .i64 v20 v1) fun v23 =>
some (v23)) (some (v20))) fun (y21:Int) =>
lt (addI .i64 a1 y21) fun v24 =>
bn (nth y9.2.1 v24) fun v25 =>
bn (nth y9.2.1 y9.1) fun v27 =>
lt (y9.2.1.set y9.1.toNat v25) fun v30 =>
bn (nth v30 v24) fun v35 =>
lt (v30.set v24.toNat v27) fun v37 =>
lt (addI .i64 y9.1 1) fun v46 =>
some (.inl (v46,v37,v17.2))) (some (.inr y9.2.1))) (v8,a0,v3)) fun (y10:List Span) =>
some y10) (some a0)
theorem C2 {n:Nat} {a0:List Span} {a1:Int} {a2:Int} {r:List Span} (h:AZ n a0 a1 a2=some r):Sound Try.prog 83 [.l (.r 0 2 0 a0.length),.l (iA a1),.l (iA a2),.l (.s (.func (.func 72) #[] #[]))] [⟨59,2,false,some 0,lvs (Ah a0)⟩] (.t []) [some ⟨59,2,false,some 0,lvs (Ah r)⟩]:=by
 unfold AZ at h;refine SO 67 Try.func83 fun cx hG (hz:cx.nb=1)=>?_;simp only[it];obtain⟨v1,e1,h⟩:=ltE h;refine AW.step (by simp[← e1];intros;rfl) ?_;obtain⟨v2,e2,h⟩:=ltE h;refine AW.step (by simp[← e2];intros;rfl) ?_;cases v2 with
 |true=>
  replace h:=iT h;refine CT ?_;obtain⟨v3,e3,h⟩:=ltE h;refine AW.step (by simp[← e3];intros;rfl) ?_;obtain⟨v4,e4,h⟩:=bnE h;apply AW.step
  ·simp;intros;refine Aj Db (Dl e4) rfl ⟨.same rfl,trivial⟩ ?_;try simp
   intros;rfl
  obtain⟨v5,e5,v6,e6,v7,e7,h⟩:=obll h;obtain⟨v8,e8,h⟩:=ltE h;refine AW.step (by simp[e5,← e6,← e7,← e8];intros;rfl) ?_;apply AW.block;obtain⟨y10,g10,h⟩:=bnE h;refine zE g10 (mk:=fun gh ls q=>(⟨[(0,.l (.r 0 2 0 q.2.1.length)),(1,.l (iA a1)),(8,.l (iA v1)),(9,.l (.p 1 0)),(10,.l (.s (.int .u64 v4))),(11,.l (iA q.1))],[some ⟨59,2,false,some 0,lvs (Ah q.2.1)⟩,some ⟨104,1,false,none,[.s (.int .u64 q.2.2)]⟩],67,gh,ls⟩:St)) (N:=fun gh ls=>(xP 0 (cx:=cx) (fun q=>(⟨[],[some ⟨59,2,false,some 0,lvs (Ah q)⟩],67,gh,ls⟩:St)))) ?_ noX ?_ ?_
  ·refine zA 1 [some 0,some 1] hz (by decide) (by decide) ?_ ?_ ?_;all_goals first|(simp[Ab,Af,pickOb];done)|rfl
  ·clear h;intro y9 y11 h
   apply AW.seq;obtain⟨v12,e12,v13,e13,v14,e14,h⟩:=obll h;obtain⟨v15,e15,v16,e16,h⟩:=oll h;refine AW.step (by simp[e12,← e13,← e14,← e15,← e16];intros;rfl) ?_;cases v16 with
   |true=>
    replace h:=iT h;refine CT ?_;apply AW.skip;try simp only[nm]
    apply AW.seq;apply AW.block;obtain⟨v17,e17,v18,e18,v19,e19,h⟩:=obll h;obtain⟨v20,e20,h⟩:=ltE h;apply AW.step
    ·simp[← e18,← e19,← e20];intros;refine As [1] Dm (DA e17) (by decide) (by simp[pickOb,Ab,Af]) rfl rfl (by simp) ⟨.l (ptrV (by simp[Ab,Af])),trivial⟩ ?_;try simp[← e18,← e19,← e20]
     intros;rfl
    obtain⟨y21,g21,h⟩:=bnE h;refine zD (p:=fun gh ls=>(nP (cx:=cx) (fun q=>(⟨[(0,.l (.r 0 2 0 y9.2.1.length)),(1,.l (iA a1)),(8,.l (iA v1)),(9,.l (.p 1 0)),(10,.l (.s (.int .u64 v4))),(11,.l (iA y9.1)),(12,.l (iA q))],[some ⟨59,2,false,some 0,lvs (Ah y9.2.1)⟩,some ⟨104,1,false,none,[.s (.int .u64 v17.2)]⟩],67,gh,ls⟩:St))) y21) ?_ ?_
    ·replace h:=g21;clear g21
     obtain⟨v22,e22,h⟩:=ltE h;refine AW.step (by simp[← e22];intros;rfl) ?_;cases v22 with
     |true=>
      replace h:=iT h;refine CT ?_;obtain⟨v23,e23,h⟩:=ltE h;refine AW.last (by simp[← e23];intros;rfl) ?_;obtain rfl:=oi h;refine nP_i ?_;refine zA 1 [some 0,some 1] hz (by decide) (by decide) ?_ ?_ ?_;all_goals first|(simp[Ab,Af,pickOb];done)|rfl
     |false=>
      replace h:=iF h;refine CF ?_;apply AW.skip;try simp only[nm]
      obtain rfl:=oi h;refine nP_i ?_;refine zA 1 [some 0,some 1] hz (by decide) (by decide) ?_ ?_ ?_;all_goals first|(simp[Ab,Af,pickOb];done)|rfl
    ·rintro e s⟨rfl,hw⟩;refine⟨_,hw,?_⟩;try simp only[nm]
     obtain⟨v24,e24,v25,e25,h⟩:=olb h;have f26:=Ai e25;try simp[← e24,Aa e25] at f26
     obtain⟨v27,e27,h⟩:=bnE h;have f28:=Ai e27;try simp[← e24,Aa e25,f26,Ae (Aa e25).2 (k:=2) (by decide),Ad (Aa e25).2 (show 2≤2 by decide),lvs1,Aa e27] at f28
     have f29:=Ai e27;try simp[← e24,Aa e25,f26,Ae (Aa e25).2 (k:=2) (by decide),Ad (Aa e25).2 (show 2≤2 by decide),lvs1,Aa e27,f28,Ae (Aa e27).2 (k:=2) (by decide),Ad (Aa e27).2 (show 2≤2 by decide)] at f29
     obtain⟨v30,e30,h⟩:=ltE h;have f31:=AB (Aa e27).2 e30 (cs:=[iA v25.frm,iA v25.to]) (by simp) rfl;try simp at f31
     have f32:=f26;try simp only[Ac e30] at f32
     have f33:=f28;try simp only[Ac e30] at f33
     have f34:=f29;try simp only[Ac e30] at f34
     obtain⟨v35,e35,h⟩:=bnE h;have f36:=Ai e35;try simp[← e24,Aa e25,f26,Ae (Aa e25).2 (k:=2) (by decide),Ad (Aa e25).2 (show 2≤2 by decide),lvs1,Aa e27,f28,Ae (Aa e27).2 (k:=2) (by decide),Ad (Aa e27).2 (show 2≤2 by decide),f29,f31,f32,f33,f34,Aa e35] at f36
     obtain⟨v37,e37,h⟩:=ltE h;have f38:=AB (Aa e35).2 e37 (cs:=[iA v27.frm,iA v27.to]) (by simp) rfl;try simp at f38
     have f39:=f26;try simp only[Ac e37] at f39
     have f40:=f28;try simp only[Ac e37] at f40
     have f41:=f29;try simp only[Ac e37] at f41
     have f42:=f32;try simp only[Ac e37] at f42
     have f43:=f33;try simp only[Ac e37] at f43
     have f44:=f34;try simp only[Ac e37] at f44
     have f45:=f36;try simp only[Ac e37] at f45
     apply zL (V:=[_,_,_,_,_,_,_,_,_,_,_,_,_,_,_,_,_,_]) (M:=[[some ⟨59,2,false,some 0,lvs (Ah y9.2.1)⟩,some ⟨104,1,false,none,[.s (.int .u64 v17.2)]⟩],[some ⟨59,2,false,some 0,lvs (Ah v30)⟩,some ⟨104,1,false,none,[.s (.int .u64 v17.2)]⟩]]) mixed [⟨[0],[],[(0,none)],false⟩,⟨[0],[],[(11,none)],false⟩,⟨[0,1],[],[(0,none)],false⟩,⟨[0,1],[],[(1,none)],false⟩,⟨[0,1],[],[(12,none)],false⟩,⟨[0,1],[3,4],[(52,some 3),(53,some 4)],false⟩,⟨[0],[],[(0,none)],false⟩,⟨[0],[],[(1,none)],false⟩,⟨[0],[],[(12,none)],false⟩,⟨[0],[7,8],[(56,some 7),(57,some 8)],false⟩,⟨[0],[6,7,8,9],[(55,some 6),(58,some 9)],false⟩,⟨[0],[6,7,8,9,10],[(59,some 10)],false⟩,⟨[0],[],[(0,none)],false⟩,⟨[0],[],[(11,none)],false⟩,⟨[0],[12,13],[(61,some 12),(62,some 13)],false⟩,⟨[0],[12,13,14],[(63,some 14)],false⟩,⟨[0],[0,1,6,7,8,9,10,11,12,13,14,15],[(49,some 0),(50,some 1)],false⟩,⟨[0],[0,1,6,7,8,9,10,11,12,13,14,15,16],[(60,some 11),(65,some 16)],true⟩,⟨[],[0,1,2,3,4,5,6,7,8,9,10,11,12,13,14,15,16,17],[],false⟩,⟨[],[0,1,2,3,4,5,6,7,8,9,10,11,12,13,14,15,16,17,18],[],false⟩] 18 1 (by kernel_rfl) (by kernel_rfl)
     ·rfl
     ·refine⟨?_,?_,⟨?_,?_⟩,⟨?_,?_⟩,⟨?_,?_⟩,⟨?_,?_⟩,?_,?_,?_,?_,?_,?_,?_,?_,?_,?_,?_,?_,trivial⟩;iterate 22 (· intro tm hr;simp[AllL,rdV] at hr;simp[hr,← e24,Aa e25,f26,Ae (Aa e25).2 (k:=2) (by decide),Ad (Aa e25).2 (show 2≤2 by decide),lvs1,Aa e27,f28,Ae (Aa e27).2 (k:=2) (by decide),Ad (Aa e27).2 (show 2≤2 by decide),f29,f31,f32,f33,f34,Aa e35,f36,Ac e30,Ad (Aa e35).2 (show 2≤2 by decide),f38,f39,f40,f41,f42,f43,f44,f45];intros;exact KA)
     ·rfl
     ·simp[tmD,putD,← e24,Aa e25,f26,Ae (Aa e25).2 (k:=2) (by decide),Ad (Aa e25).2 (show 2≤2 by decide),lvs1,Aa e27,f28,Ae (Aa e27).2 (k:=2) (by decide),Ad (Aa e27).2 (show 2≤2 by decide),f29,f31,f32,f33,f34,Aa e35,f36,Ac e30,Ad (Aa e35).2 (show 2≤2 by decide),f38,f39,f40,f41,f42,f43,f44,f45];rfl
     ·simp[← e24,Aa e25,f26,Ae (Aa e25).2 (k:=2) (by decide),Ad (Aa e25).2 (show 2≤2 by decide),lvs1,Aa e27,f28,Ae (Aa e27).2 (k:=2) (by decide),Ad (Aa e27).2 (show 2≤2 by decide),f29,f31,f32,f33,f34,Aa e35,f36,Ac e30,Ad (Aa e35).2 (show 2≤2 by decide),f38,f39,f40,f41,f42,f43,f44,f45];intros;rfl
     try simp only[nm]
     obtain⟨v46,e46,h⟩:=ltE h;refine AW.last (by simp[← e46];intros;rfl) ?_;obtain rfl:=oi h;refine nP_i ?_;refine zA 1 [some 0,some 1] hz (by decide) (by decide) ?_ ?_ ?_;all_goals first|(simp[Ab,Af,pickOb,Ac e30,Ac e37];done)|rfl
   |false=>
    replace h:=iF h;refine CF ?_;apply AW.exit;try simp only[nm]
    obtain rfl:=oi h;refine xP_i ?_;refine zA 1 [some 0] hz (by decide) (by decide) ?_ ?_ ?_;all_goals first|(simp[Ab,Af,pickOb];done)|rfl
  ·rintro e s⟨rfl,hw⟩;refine⟨_,hw,?_⟩;try simp only[nm]
   obtain rfl:=oi h;refine Left.of (av:=_) (by simp[Try.f83,resV,resC,comp];rfl) ?_;exact zF 1 [some 0] hz rfl (by decide) rfl (by simp[pickOb,Ab,Af]) (by simp[Ab,Af])
 |false=>
  replace h:=iF h;refine CF ?_;apply AW.skip;try simp only[nm]
  obtain rfl:=oi h;refine Left.of (av:=_) (by simp[Try.f83,resV,resC,comp];rfl) ?_;exact zF 1 [some 0] hz rfl (by decide) rfl (by simp[pickOb,Ab,Af]) (by simp[Ab,Af])
theorem CR:Enters Try.prog 83:=enters Try.func83 (by kernel_rfl) rfl
def AA (n:Nat):Nat→List Span→Int→Int→Int→Option (List Span)
|0,_,_,_,_=>none
|m+1,a0,a1,a2,a3 =>
bn (iter n (fun (y1:Int×Int×Int×Bool×Bool×List Span) =>
lt (subI .i64 y1.2.1 y1.1) fun v4 =>
lt (leI v4 12) fun v5 =>
ite' v5 (bn (AY n y1.2.2.2.2.2 y1.1 y1.2.1) fun v6 =>
chk (lenB v6 y1.2.2.2.2.2) <|
some (.inr v6)) (lt (eqI y1.2.2.1 0) fun v8 =>
ite' v8 (bn (Bd n y1.2.2.2.2.2 y1.1 y1.2.1) fun v9 =>
chk (lenB v9 y1.2.2.2.2.2) <|
some (.inr v9)) (bn (lt (notB y1.2.2.2.1) fun v12 =>
ite' v12 (bn (AZ n y1.2.2.2.2.2 y1.1 y1.2.1) fun v13 =>
chk (lenB v13 y1.2.2.2.2.2) <|
lt (subI .i64 y1.2.2.1 1) fun v15 =>
some ((v15,v13))) (some ((y1.2.2.1,y1.2.2.2.2.2)))) fun (y11:Int×List Span) =>
bn (AL n y11.2 y1.1 y1.2.1) fun v16 =>
chk (lenB v16.2.2 y11.2) <|
bn (lt (eqI v16.2.1 2) fun v19 =>
ite' v19 (bn (A0 n v16.2.2 y1.1 y1.2.1) fun v20 =>
chk (lenB v20 v16.2.2) <|
lt (subI .i64 y1.2.1 1) fun v22 =>
lt (subI .i64 v16.1 y1.1) fun v23 =>
lt (subI .i64 v22 v23) fun v24 =>
some ((v24,1,v20))) (some ((v16.1,v16.2.1,v16.2.2)))) fun (y18:Int×Int×List Span) =>
bn (bn (lt (y1.2.2.2.1) fun v27 =>
ite' v27 (lt (y1.2.2.2.2.1) fun v28 =>
ite' v28 (lt (eqI y18.2.1 1) fun v29 =>
some ((true,true,v29))) (some ((true,false,false)))) (some ((false,y1.2.2.2.2.1,false)))) fun (y26:Bool×Bool×Bool) =>
lt (y26.2.2) fun v30 =>
ite' v30 (bn (AC n y18.2.2 y1.1 y1.2.1) fun v31 =>
chk (lenB v31.2 y18.2.2) <|
lt (v31.1) fun v33 =>
ite' v33 (some (.inr v31.2)) (some (.inl (y26.1,y26.2.1,v31.2)))) (some (.inl (y26.1,y26.2.1,y18.2.2)))) fun (y25:(Bool×Bool×List Span) ⊕ (List Span)) =>
sm y25 (fun y34=>bn (lt (gtI y1.1 0) fun v37 =>
ite' v37 (lt (subI .i64 y1.1 1) fun v38 =>
bn (nth y34.2.2 v38) fun v39 =>
bn (nth y34.2.2 y18.1) fun v41 =>
bn (AJ n v39 v41) fun v43 =>
lt (ltI v43 0) fun v44 =>
lt (notB v44) fun v45 =>
some (v45)) (some (false))) fun (y36:Bool) =>
lt (y36) fun v46 =>
ite' v46 (bn (AU n y34.2.2 y1.1 y1.2.1 y18.1) fun v47 =>
chk (lenB v47.2 y34.2.2) <|
some (.inl (v47.1,y1.2.1,y11.1,y34.1,y34.2.1,v47.2))) (bn (A8 n y34.2.2 y1.1 y1.2.1 y18.1) fun v49 =>
chk (lenB v49.2.2 y34.2.2) <|
lt (subI .i64 v49.1 y1.1) fun v51 =>
lt (subI .i64 y1.2.1 v49.1) fun v52 =>
bn (quoI .i64 v4 8) fun v53 =>
lt (ltI v51 v52) fun v54 =>
ite' v54 (lt (geI v51 v53) fun v55 =>
bn (AA n m v49.2.2 y1.1 v49.1 y11.1) fun v56 =>
chk (lenB v56 v49.2.2) <|
lt (addI .i64 v49.1 1) fun v58 =>
some (.inl (v58,y1.2.1,y11.1,v55,v49.2.1,v56))) (lt (geI v52 v53) fun v59 =>
lt (addI .i64 v49.1 1) fun v60 =>
bn (AA n m v49.2.2 v60 y1.2.1 y11.1) fun v61 =>
chk (lenB v61 v49.2.2) <|
some (.inl (y1.1,v49.1,y11.1,v59,v49.2.1,v61))))) (fun y35=>some (.inr y35))))) (a1,a2,a3,true,true,a0)) fun (y2:List Span) =>
some y2
def BH (n:Nat) (a0:List Span) (a1:Int) (a2:Int) (a3:Int):Option (List Span):=AA n n a0 a1 a2 a3
theorem BI:Enters Try.prog 79:=enters Try.func79 (by kernel_rfl) rfl
def DX20t10:List DI:=[⟨[0],[],[(1,none)],false⟩,⟨[0],[0],[(81,some 0)],false⟩,⟨[0],[0,1],[(82,some 1)],false⟩,⟨[0],[0,1,2],[(4,none),(83,some 2)],false⟩,⟨[0],[0,1,2],[(0,none),(83,some 2)],false⟩,⟨[0],[0,1,2],[(1,none),(83,some 2)],false⟩,⟨[0],[0,1,2,5],[(83,some 2),(86,some 5)],false⟩,⟨[0],[0,1,2,4,5,6],[(83,some 2),(85,some 4),(87,some 6)],false⟩,⟨[0],[0,1,2,4,5,6,7],[(83,some 2),(88,some 7)],false⟩,⟨[0],[0,1,2],[(0,none),(83,some 2)],false⟩,⟨[0],[0,1,2],[(13,none),(83,some 2)],false⟩,⟨[0],[0,1,2,9,10],[(83,some 2),(90,some 9),(91,some 10)],false⟩,⟨[0],[0,1,2,9,10,11],[(83,some 2),(92,some 11)],false⟩,⟨[],[0,1,2,3,4,5,6,7,8,9,10,11,12],[],false⟩,⟨[],[0,1,2,3,4,5,6,7,8,9,10,11,12,13],[],false⟩,⟨[],[0,1,2,3,4,5,6,7,8,9,10,11,12,13,14],[],false⟩,⟨[],[0,1,2,3,4,5,6,7,8,9,10,11,12,13,14,15],[],false⟩]
theorem DB {n:Nat} (m:Nat):∀ {a0:List Span} {a1:Int} {a2:Int} {a3:Int} {r:List Span},AA n m a0 a1 a2 a3=some r→Sound Try.prog 79 [.l (.r 0 2 0 a0.length),.l (iA a1),.l (iA a2),.l (iA a3),.l (.s (.func (.func 72) #[] #[]))] [⟨59,2,false,some 0,lvs (Ah a0)⟩] (.t []) [some ⟨59,2,false,some 0,lvs (Ah r)⟩]:=by
 induction m with
 |zero=>intro a0 a1 a2 a3 r h;rw[AA] at h;cases h
 |succ m ih =>
  intro a0 a1 a2 a3 r h;rw[AA] at h;refine SO 148 Try.func79 fun cx hG (hz:cx.nb=1)=>?_;simp only[it];refine ST ?_;refine ST ?_;apply AW.block;obtain⟨y2,g2,h⟩:=bnE h;refine zE g2 (mk:=fun gh ls q=>(⟨[(0,.l (.r 0 2 0 q.2.2.2.2.2.length)),(1,.l (iA q.1)),(2,.l (iA q.2.1)),(3,.l (iA q.2.2.1)),(4,.l (.s (.func (.func 72) #[] #[]))),(10,.l (bA q.2.2.2.1)),(11,.l (bA q.2.2.2.2.1))],[some ⟨59,2,false,some 0,lvs (Ah q.2.2.2.2.2)⟩],148,gh,ls⟩:St)) (N:=fun gh ls=>(rP (cx:=cx) (P:=Try.prog) Try.f79 (fun q=>.t []) (fun q=>[some ⟨59,2,false,some 0,lvs (Ah q)⟩]))) ?_ noR ?_ ?_
  ·refine zA 1 [some 0] hz (by decide) (by decide) ?_ ?_ ?_;all_goals first|(simp[Ab,Af,pickOb];done)|rfl
  ·clear h;intro y1 y3 h
   apply AW.block;obtain⟨v4,e4,h⟩:=ltE h;refine AW.step (by simp[← e4];intros;rfl) ?_;apply AW.seq;obtain⟨v5,e5,h⟩:=ltE h;refine AW.step (by simp[← e5];intros;rfl) ?_;cases v5 with
   |true=>
    replace h:=iT h;refine CT ?_;obtain⟨v6,e6,e7,h⟩:=obc h;apply AW.step
    ·simp;intros;refine As [0] CP (C0 e6) (by decide) (by simp[pickOb,Ab,Af]) rfl rfl (by simp) ⟨.l (.own' (by simp[Ab,Af]) (by simp)),.l (.s _),.l (.s _),.l (.s _),trivial⟩ ?_;try simp
     intros;rfl
    obtain rfl:=oi h;apply AW.ret;try simp only[nm]
    refine rP_i ?_;refine Left.of (av:=_) (by simp[Try.f79,resV,resC,comp];rfl) ?_;exact zF 1 [some 0] hz rfl (by decide) rfl (by simp[pickOb,Ab,Af,Am e7]) (by simp[Ab,Af,Am e7])
   |false=>
    replace h:=iF h;refine CF ?_;apply AW.skip;try simp only[nm]
    apply AW.seq;obtain⟨v8,e8,h⟩:=ltE h;refine AW.step (by simp[← e8];intros;rfl) ?_;cases v8 with
    |true=>
     replace h:=iT h;refine CT ?_;obtain⟨v9,e9,e10,h⟩:=obc h;apply AW.step
     ·simp;intros;refine As [0] Dp (Dz e9) (by decide) (by simp[pickOb,Ab,Af]) rfl rfl (by simp) ⟨.l (.own' (by simp[Ab,Af]) (by simp)),.l (.s _),.l (.s _),.l (.s _),trivial⟩ ?_;try simp
      intros;rfl
     obtain rfl:=oi h;apply AW.ret;try simp only[nm]
     refine rP_i ?_;refine Left.of (av:=_) (by simp[Try.f79,resV,resC,comp];rfl) ?_;exact zF 1 [some 0] hz rfl (by decide) rfl (by simp[pickOb,Ab,Af,Am e10]) (by simp[Ab,Af,Am e10])
    |false=>
     replace h:=iF h;refine CF ?_;apply AW.skip;try simp only[nm]
     obtain⟨y11,g11,h⟩:=bnE h;refine zD (p:=fun gh ls=>(nP (cx:=cx) (fun q=>(⟨[(0,.l (.r 0 2 0 q.2.length)),(1,.l (iA y1.1)),(2,.l (iA y1.2.1)),(3,.l (iA q.1)),(4,.l (.s (.func (.func 72) #[] #[]))),(10,.l (bA y1.2.2.2.1)),(11,.l (bA y1.2.2.2.2.1)),(12,.l (iA v4))],[some ⟨59,2,false,some 0,lvs (Ah q.2)⟩],148,gh,ls⟩:St))) y11) ?_ ?_
     ·replace h:=g11;clear g11
      obtain⟨v12,e12,h⟩:=ltE h;refine AW.step (by simp[← e12];intros;rfl) ?_;cases v12 with
      |true=>
       replace h:=iT h;refine CT ?_;obtain⟨v13,e13,e14,h⟩:=obc h;apply AW.step
       ·simp;intros;refine As [0] CR (C2 e13) (by decide) (by simp[pickOb,Ab,Af]) rfl rfl (by simp) ⟨.l (.own' (by simp[Ab,Af]) (by simp)),.l (.s _),.l (.s _),.l (.s _),trivial⟩ ?_;try simp
        intros;rfl
       obtain⟨v15,e15,h⟩:=ltE h;refine AW.last (by simp[← e15];intros;rfl) ?_;obtain rfl:=oi h;refine nP_i ?_;refine zA 1 [some 0] hz (by decide) (by decide) ?_ ?_ ?_;all_goals first|(simp[Ab,Af,pickOb,Am e14];done)|rfl
      |false=>
       replace h:=iF h;refine CF ?_;apply AW.skip;try simp only[nm]
       obtain rfl:=oi h;refine nP_i ?_;refine zA 1 [some 0] hz (by decide) (by decide) ?_ ?_ ?_;all_goals first|(simp[Ab,Af,pickOb];done)|rfl
     ·rintro e s⟨rfl,hw⟩;refine⟨_,hw,?_⟩;try simp only[nm]
      obtain⟨v16,e16,e17,h⟩:=obc h;apply AW.step
      ·simp;intros;refine As [0] C3 (Da e16) (by decide) (by simp[pickOb,Ab,Af]) rfl rfl (by simp) ⟨.l (.own' (by simp[Ab,Af]) (by simp)),.l (.s _),.l (.s _),.l (.s _),trivial⟩ ?_;try simp
       intros;rfl
      obtain⟨y18,g18,h⟩:=bnE h;refine zD (p:=fun gh ls=>(nP (cx:=cx) (fun q=>(⟨[(0,.l (.r 0 2 0 q.2.2.length)),(1,.l (iA y1.1)),(2,.l (iA y1.2.1)),(3,.l (iA y11.1)),(4,.l (.s (.func (.func 72) #[] #[]))),(10,.l (bA y1.2.2.2.1)),(11,.l (bA y1.2.2.2.2.1)),(12,.l (iA v4)),(13,.l (iA q.1)),(14,.l (iA q.2.1))],[some ⟨59,2,false,some 0,lvs (Ah q.2.2)⟩],148,gh,ls⟩:St))) y18) ?_ ?_
      ·replace h:=g18;clear g18
       obtain⟨v19,e19,h⟩:=ltE h;refine AW.step (by simp[← e19];intros;rfl) ?_;cases v19 with
       |true=>
        replace h:=iT h;refine CT ?_;obtain⟨v20,e20,e21,h⟩:=obc h;apply AW.step
        ·simp[Am e17];intros;refine As [0] C1 (C4 e20) (by decide) (by simp[pickOb,Ab,Af]) rfl rfl (by simp) ⟨.l (.own' (by simp[Ab,Af]) (by simp[Am e17])),.l (.s _),.l (.s _),.l (.s _),trivial⟩ ?_;try simp[Am e17]
         intros;rfl
        obtain⟨v22,e22,v23,e23,h⟩:=oll h;obtain⟨v24,e24,h⟩:=ltE h;refine AW.step (by simp[← e22,← e23,← e24];intros;rfl) ?_;refine SL ?_;obtain rfl:=oi h;refine nP_i ?_;refine zA 1 [some 0] hz (by decide) (by decide) ?_ ?_ ?_;all_goals first|(simp[Ab,Af,pickOb,Am e17,Am e21];done)|rfl
       |false=>
        replace h:=iF h;refine CF ?_;apply AW.skip;try simp only[nm]
        obtain rfl:=oi h;refine nP_i ?_;refine zA 1 [some 0] hz (by decide) (by decide) ?_ ?_ ?_;all_goals first|(simp[Ab,Af,pickOb,Am e17];done)|rfl
      ·rintro e s⟨rfl,hw⟩;refine⟨_,hw,?_⟩;try simp only[nm]
       obtain⟨y25,g25,h⟩:=bnE h;refine zD (p:=fun gh ls=>(sp (nP (cx:=cx) (fun q=>(⟨[(0,.l (.r 0 2 0 q.2.2.length)),(1,.l (iA y1.1)),(2,.l (iA y1.2.1)),(3,.l (iA y11.1)),(4,.l (.s (.func (.func 72) #[] #[]))),(10,.l (bA q.1)),(11,.l (bA q.2.1)),(12,.l (iA v4)),(13,.l (iA y18.1))],[some ⟨59,2,false,some 0,lvs (Ah q.2.2)⟩],148,gh,ls⟩:St))) (rP (cx:=cx) (P:=Try.prog) Try.f79 (fun q=>.t []) (fun q=>[some ⟨59,2,false,some 0,lvs (Ah q)⟩]))) y25) ?_ ?_
       ·replace h:=g25;clear g25
        obtain⟨y26,g26,h⟩:=bnE h;refine zD (p:=fun gh ls=>(nP (cx:=cx) (fun q=>(⟨[(0,.l (.r 0 2 0 y18.2.2.length)),(1,.l (iA y1.1)),(2,.l (iA y1.2.1)),(3,.l (iA y11.1)),(4,.l (.s (.func (.func 72) #[] #[]))),(10,.l (bA q.1)),(11,.l (bA q.2.1)),(12,.l (iA v4)),(13,.l (iA y18.1)),(75,.l (bA q.2.2))],[some ⟨59,2,false,some 0,lvs (Ah y18.2.2)⟩],148,gh,ls⟩:St))) y26) ?_ ?_
        ·replace h:=g26;clear g26
         obtain⟨v27,e27,h⟩:=ltE h;cases v27 with
         |true=>
          replace h:=iT h;obtain⟨v28,e28,h⟩:=ltE h;cases v28 with
          |true=>
           replace h:=iT h;obtain⟨v29,e29,h⟩:=ltE h;refine AW.last (by simp[← e27,← e28,← e29];intros;rfl) ?_;obtain rfl:=oi h;refine nP_i ?_;refine zA 1 [some 0] hz (by decide) (by decide) ?_ ?_ ?_;all_goals first|(simp[Ab,Af,pickOb];done)|rfl
          |false=>
           replace h:=iF h;refine AW.last (by simp[← e27,← e28];intros;rfl) ?_;obtain rfl:=oi h;refine nP_i ?_;refine zA 1 [some 0] hz (by decide) (by decide) ?_ ?_ ?_;all_goals first|(simp[Ab,Af,pickOb];done)|rfl
         |false=>
          replace h:=iF h;refine AW.last (by simp[← e27];intros;rfl) ?_;obtain rfl:=oi h;refine nP_i ?_;refine zA 1 [some 0] hz (by decide) (by decide) ?_ ?_ ?_;all_goals first|(simp[Ab,Af,pickOb];done)|rfl
        ·rintro e s⟨rfl,hw⟩;refine⟨_,hw,?_⟩;try simp only[nm]
         obtain⟨v30,e30,h⟩:=ltE h;rw[← e30];cases v30 with
         |true=>
          replace h:=iT h;refine CT ?_;obtain⟨v31,e31,e32,h⟩:=obc h;apply AW.step
          ·simp;intros;refine As [0] Cl (Cp e31) (by decide) (by simp[pickOb,Ab,Af]) rfl rfl (by simp) ⟨.l (.own' (by simp[Ab,Af]) (by simp)),.l (.s _),.l (.s _),.l (.s _),trivial⟩ ?_;try simp
           intros;rfl
          obtain⟨v33,e33,h⟩:=ltE h;rw[← e33];cases v33 with
          |true=>
           replace h:=iT h;refine CT ?_;obtain rfl:=oi h;apply AW.ret;try simp only[nm]
           refine rP_i ?_;refine Left.of (av:=_) (by simp[Try.f79,resV,resC,comp];rfl) ?_;exact zF 1 [some 0] hz rfl (by decide) rfl (by simp[pickOb,Ab,Af,Am e32]) (by simp[Ab,Af,Am e32])
          |false=>
           replace h:=iF h;refine CF ?_;apply AW.skip;try simp only[nm]
           obtain rfl:=oi h;try simp only[sp_l,sp_r]
           refine nP_i ?_;refine zA 1 [some 0] hz (by decide) (by decide) ?_ ?_ ?_;all_goals first|(simp[Ab,Af,pickOb,Am e32];done)|rfl
         |false=>
          replace h:=iF h;refine CF ?_;apply AW.skip;try simp only[nm]
          obtain rfl:=oi h;try simp only[sp_l,sp_r]
          refine nP_i ?_;refine zA 1 [some 0] hz (by decide) (by decide) ?_ ?_ ?_;all_goals first|(simp[Ab,Af,pickOb];done)|rfl
       ·rintro e s hp;rcases y25 with y34|y35
        ·replace h:=smL h;obtain⟨rfl,hw⟩:=hp;refine⟨_,hw,?_⟩;try simp only[nm]
         apply AW.seq;obtain⟨y36,g36,h⟩:=bnE h;refine zD (p:=fun gh ls=>(nP (cx:=cx) (fun q=>(⟨[(0,.l (.r 0 2 0 y34.2.2.length)),(1,.l (iA y1.1)),(2,.l (iA y1.2.1)),(3,.l (iA y11.1)),(4,.l (.s (.func (.func 72) #[] #[]))),(10,.l (bA y34.1)),(11,.l (bA y34.2.1)),(12,.l (iA v4)),(13,.l (iA y18.1)),(97,.l (bA q))],[some ⟨59,2,false,some 0,lvs (Ah y34.2.2)⟩],148,gh,ls⟩:St))) y36) ?_ ?_
         ·replace h:=g36;clear g36
          obtain⟨v37,e37,h⟩:=ltE h;cases v37 with
          |true=>
           replace h:=iT h;obtain⟨v38,e38,v39,e39,h⟩:=olb h;have f40:=Ai e39;try simp[← e37,← e38,Aa e39] at f40
           obtain⟨v41,e41,h⟩:=bnE h;have f42:=Ai e41;try simp[← e37,← e38,Aa e39,f40,Ae (Aa e39).2 (k:=2) (by decide),Ad (Aa e39).2 (show 2≤2 by decide),lvs1,Aa e41] at f42
           obtain⟨v43,e43,v44,e44,v45,e45,h⟩:=obll h;apply zH (V:=[_,_,_,_,_,_,_,_,_,_,_,_,_]) mixed DX20t10 13 (by kernel_rfl) (by kernel_rfl)
           ·refine⟨?_,?_,?_,?_,?_,?_,?_,?_,?_,?_,?_,?_,?_,trivial⟩;iterate 13 (· intro tm hr;simp[AllL,rdV] at hr;simp[hr,← e37,← e38,Aa e39,f40,Ae (Aa e39).2 (k:=2) (by decide),Ad (Aa e39).2 (show 2≤2 by decide),lvs1,Aa e41,f42,Ae (Aa e41).2 (k:=2) (by decide),Ad (Aa e41).2 (show 2≤2 by decide),← e44,← e45];intros;exact KA)
           ·rfl
           ·simp[tmD,putD,← e37,← e38,Aa e39,f40,Ae (Aa e39).2 (k:=2) (by decide),Ad (Aa e39).2 (show 2≤2 by decide),lvs1,Aa e41,f42,Ae (Aa e41).2 (k:=2) (by decide),Ad (Aa e41).2 (show 2≤2 by decide),← e44,← e45];rfl
           ·simp[← e37,← e38,Aa e39,f40,Ae (Aa e39).2 (k:=2) (by decide),Ad (Aa e39).2 (show 2≤2 by decide),lvs1,Aa e41,f42,Ae (Aa e41).2 (k:=2) (by decide),Ad (Aa e41).2 (show 2≤2 by decide),← e44,← e45];intros;refine Aj A1 (A7 e43) rfl ⟨.same rfl,.same rfl,trivial⟩ ?_;try simp[← e37,← e38,Aa e39,f40,Ae (Aa e39).2 (k:=2) (by decide),Ad (Aa e39).2 (show 2≤2 by decide),lvs1,Aa e41,f42,Ae (Aa e41).2 (k:=2) (by decide),Ad (Aa e41).2 (show 2≤2 by decide),← e44,← e45]
            intros;rfl
           obtain rfl:=oi h;refine nP_i ?_;refine zA 1 [some 0] hz (by decide) (by decide) ?_ ?_ ?_;all_goals first|(simp[Ab,Af,pickOb];done)|rfl
          |false=>
           replace h:=iF h;apply zH (V:=[_,_,_,_,_,_,_,_,_,_,_,_,_]) mixed DX20t10 13 (by kernel_rfl) (by kernel_rfl)
           ·refine⟨?_,?_,?_,?_,?_,?_,?_,?_,?_,?_,?_,?_,?_,trivial⟩;iterate 13 (· intro tm hr;simp[AllL,rdV] at hr;simp[hr,← e37];intros;exact KA)
           ·rfl
           ·simp[tmD,putD,← e37];rfl
           ·simp[← e37];intros;rfl
           obtain rfl:=oi h;refine nP_i ?_;refine zA 1 [some 0] hz (by decide) (by decide) ?_ ?_ ?_;all_goals first|(simp[Ab,Af,pickOb];done)|rfl
         ·rintro e s⟨rfl,hw⟩;refine⟨_,hw,?_⟩;try simp only[nm]
          obtain⟨v46,e46,h⟩:=ltE h;rw[← e46];cases v46 with
          |true=>
           replace h:=iT h;refine CT ?_;obtain⟨v47,e47,e48,h⟩:=obc h;apply AW.step
           ·simp;intros;refine As [0] CL (CQ e47) (by decide) (by simp[pickOb,Ab,Af]) rfl rfl (by simp) ⟨.l (.own' (by simp[Ab,Af]) (by simp)),.l (.s _),.l (.s _),.l (.s _),.l (.s _),trivial⟩ ?_;try simp
            intros;rfl
           refine ST ?_;apply AW.exit;try simp only[nm]
           obtain rfl:=oi h;refine nP_i ?_;refine zA 1 [some 0] hz (by decide) (by decide) ?_ ?_ ?_;all_goals first|(simp[Ab,Af,pickOb,Am e48];done)|rfl
          |false=>
           replace h:=iF h;refine CF ?_;apply AW.skip;try simp only[nm]
           obtain⟨v49,e49,e50,h⟩:=obc h;apply AW.step
           ·simp;intros;refine As [0] Di (Dq e49) (by decide) (by simp[pickOb,Ab,Af]) rfl rfl (by simp) ⟨.l (.own' (by simp[Ab,Af]) (by simp)),.l (.s _),.l (.s _),.l (.s _),.l (.s _),trivial⟩ ?_;try simp
            intros;rfl
           refine ST ?_;obtain⟨v51,e51,v52,e52,h⟩:=oll h;refine AW.step (by simp[← e51,← e52];intros;rfl) ?_;obtain⟨v53,e53,h⟩:=bnE h;refine AW.step (by simp[e53];intros;rfl) ?_;obtain⟨v54,e54,h⟩:=ltE h;refine AW.step (by simp[← e54];intros;rfl) ?_;cases v54 with
           |true=>
            replace h:=iT h;refine CT ?_;obtain⟨v55,e55,h⟩:=ltE h;refine AW.step (by simp[← e55];intros;rfl) ?_;obtain⟨v56,e56,e57,h⟩:=obc h;apply AW.step
            ·simp[Am e50];intros;refine As [0] BI (ih e56) (by decide) (by simp[pickOb,Ab,Af]) rfl rfl (by simp) ⟨.l (.own' (by simp[Ab,Af]) (by simp[Am e50])),.l (.s _),.l (.s _),.l (.s _),.l (.s _),trivial⟩ ?_;try simp[Am e50]
             intros;rfl
            obtain⟨v58,e58,h⟩:=ltE h;refine AW.last (by simp[← e58];intros;rfl) ?_;obtain rfl:=oi h;refine nP_i ?_;refine zA 1 [some 0] hz (by decide) (by decide) ?_ ?_ ?_;all_goals first|(simp[Ab,Af,pickOb,Am e50,Am e57];done)|rfl
           |false=>
            replace h:=iF h;refine CF ?_;obtain⟨v59,e59,h⟩:=ltE h;refine AW.step (by simp[← e59];intros;rfl) ?_;obtain⟨v60,e60,v61,e61,h⟩:=olb h;obtain⟨e62,h⟩:=chkE h;apply AW.step
            ·simp[← e60,Am e50];intros;refine As [0] BI (ih e61) (by decide) (by simp[pickOb,Ab,Af]) rfl rfl (by simp) ⟨.l (.own' (by simp[Ab,Af]) (by simp[Am e50])),.l (.s _),.l (.s _),.l (.s _),.l (.s _),trivial⟩ ?_;try simp[← e60,Am e50]
             intros;rfl
            refine SL ?_;obtain rfl:=oi h;refine nP_i ?_;refine zA 1 [some 0] hz (by decide) (by decide) ?_ ?_ ?_;all_goals first|(simp[Ab,Af,pickOb,Am e50,Am e62];done)|rfl
        ·replace h:=smR h;obtain⟨rfl,hl⟩:=hp;refine⟨_,Weak.refl _,?_⟩;obtain rfl:=oi h;first|exact rP_i hl|(simp only[sp_l,sp_r];exact rP_i hl)|(simp only[sp_l,sp_r,Post.seq,Post.block,Nat.reduceEqDiff,reduceIte,Nat.zero_ne_one,Nat.one_ne_zero];exact rP_i hl)
  ·rintro e s hp;obtain⟨rfl,hl⟩:=hp;refine⟨_,Weak.refl _,?_⟩;obtain rfl:=oi h;exact hl
theorem DL {n:Nat} {a0:List Span} {a1:Int} {a2:Int} {a3:Int} {r:List Span} (h:BH n a0 a1 a2 a3=some r):Sound Try.prog 79 [.l (.r 0 2 0 a0.length),.l (iA a1),.l (iA a2),.l (iA a3),.l (.s (.func (.func 72) #[] #[]))] [⟨59,2,false,some 0,lvs (Ah a0)⟩] (.t []) [some ⟨59,2,false,some 0,lvs (Ah r)⟩]:=DB n h
def Br (n:Nat) (a0:List Span):Option (List Span) :=
lt (lenI a0) fun v1 =>
lt (cvI .u64 v1) fun v2 =>
bn (Ct n v2) fun v3 =>
bn (BH n a0 0 v1 v3) fun v4 =>
chk (lenB v4 a0) <|
some v4
theorem En {n:Nat} {a0:List Span} {r:List Span} (h:Br n a0=some r):Sound Try.prog 71 [.l (.r 0 2 0 a0.length),.l (.s (.func (.func 72) #[] #[]))] [⟨59,2,false,some 0,lvs (Ah a0)⟩] (.t []) [some ⟨59,2,false,some 0,lvs (Ah r)⟩]:=by
 unfold Br at h;refine SO 14 Try.func71 fun cx hG (hz:cx.nb=1)=>?_;simp only[it];obtain⟨v1,e1,h⟩:=ltE h;refine AW.step (by simp[Ao e1];intros;rfl) ?_;obtain⟨v2,e2,v3,e3,h⟩:=olb h;obtain⟨v4,e4,e5,h⟩:=obc h;apply AW.last
 ·simp[← e2];intros;refine Aj EP (E1 e3) rfl ⟨.same rfl,trivial⟩ ?_;try simp[← e2]
  intros;refine As [0] BI (DL e4) (by decide) (by simp[pickOb,Ab,Af]) rfl rfl (by simp) ⟨.l (.own' (by simp[Ab,Af]) (by simp)),.l (.s _),.l (.s _),.l (.s _),.l (.s _),trivial⟩ ?_;try simp[← e2]
  intros;rfl
 obtain rfl:=oi h;refine Left.of (av:=_) (by simp[Try.f71,resV,resC,comp];rfl) ?_;exact zF 1 [some 0] hz rfl (by decide) rfl (by simp[pickOb,Ab,Af,Am e5]) (by simp[Ab,Af,Am e5])
theorem Eg:Enters Try.prog 71:=enters Try.func71 (by kernel_rfl) rfl
def CS (n:Nat) (a0:List Span):Option (List Span) :=
lt (lenI a0) fun v1 =>
bn (iter n (fun (y2:Int×List Span) =>
lt (ltI y2.1 v1) fun v5 =>
ite' v5 (bn (bn (nth a0 y2.1) fun v7 =>
lt (maxI v7.frm 0) fun v8 =>
lt (minI v7.to 16383) fun v9 =>
lt (leI v8 v9) fun v10 =>
ite' v10 (chk (room (y2.2.length+1) 16) <|
lt (y2.2++[(⟨v8,v9⟩:Span)]) fun v12 =>
some (v12)) (some (y2.2))) fun (y6:List Span) =>
lt (addI .i64 y2.1 1) fun v13 =>
some (.inl (v13,y6))) (some (.inr y2.2))) (0,[])) fun (y3:List Span) =>
bn (Br n y3) fun v14 =>
chk (lenB v14 y3) <|
chk (room v14.length 1) <|
some v14
theorem HR {n:Nat} {a0:List Span} {r:List Span} (h:CS n a0=some r):Sound Try.prog 56 [.l (dA a0)] [] (.l (dA r)) []:=by
 unfold CS at h;refine SO 32 Try.func56 fun cx hG (hz:cx.nb=0)=>?_;simp only[it];refine ST ?_;refine ST ?_;apply AW.seq;obtain⟨v1,e1,h⟩:=ltE h;refine AW.step (by simp[Ao e1];intros;rfl) ?_;apply AW.block;obtain⟨y3,g3,h⟩:=bnE h;refine zE g3 (mk:=fun gh ls q=>(⟨[(3,.l (.r 0 2 0 q.2.length)),(6,.l (dA a0)),(7,.l (iA v1)),(8,.l (iA q.1))],[some ⟨59,2,true,none,lvs (Ah q.2)⟩],32,gh,ls⟩:St)) (N:=fun gh ls=>(xP 0 (cx:=cx) (fun q=>(⟨[(3,.l (.r 0 2 0 q.length))],[some ⟨59,2,true,none,lvs (Ah q)⟩],32,gh,ls⟩:St)))) ?_ noX ?_ ?_
 ·refine W.nilRow 3 59 2 0 (by simp) rfl rfl ?_;exact WM [0] hz
 ·clear h;intro y2 y4 h
  obtain⟨v5,e5,h⟩:=ltE h;refine AW.step (by simp[← e5];intros;rfl) ?_;apply AW.seq;cases v5 with
  |true=>
   replace h:=iT h;refine CT ?_;apply AW.skip;try simp only[nm]
   obtain⟨y6,g6,h⟩:=bnE h;refine zD (p:=fun gh ls=>(nP (cx:=cx) (fun q=>(⟨[(3,.l (.r 0 2 0 q.length)),(6,.l (dA a0)),(7,.l (iA v1)),(8,.l (iA y2.1))],[some ⟨59,2,true,none,lvs (Ah q)⟩],32,gh,ls⟩:St))) y6) ?_ ?_
   ·replace h:=g6;clear g6
    apply AW.block;obtain⟨v7,e7,h⟩:=bnE h;refine AW.step (by simp[Aa e7];intros;rfl) ?_;obtain⟨v8,e8,v9,e9,h⟩:=oll h;refine AW.step (by simp[← e8,← e9];intros;rfl) ?_;obtain⟨v10,e10,h⟩:=ltE h;refine AW.step (by simp[← e10];intros;rfl) ?_;cases v10 with
    |true=>
     replace h:=iT h;refine CT ?_;obtain⟨e11,h⟩:=chkE h;obtain⟨v12,e12,h⟩:=ltE h;apply AW.last
     ·simp[← At,← e12,Az e12];intros;refine Bo ?_;try simp[← At,← e12,Az e12]
      intros;refine Bv (acc:=Ah y2.2) (ys:=Ah [(⟨v8,v9⟩:Span)]) (cap:=none) (k:=1) Dg Df (by simp) (by simp[Ah,lvs]) (Bh _) (by simp) (by simp) (by first|(simp;done)|simpa using (Bm e11).1) ?_;try simp[← At,← e12,Az e12]
      intros;rfl
     obtain rfl:=oi h;refine nP_i ?_;refine zK [some 3] hz (by decide) ?_ ?_ rfl;all_goals first|(simp[Ab,Af,pickOb,BF];done)|rfl
    |false=>
     replace h:=iF h;refine CF ?_;apply AW.skip;try simp only[nm]
     obtain rfl:=oi h;exact nP_i (WM [0] hz)
   ·rintro e s⟨rfl,hw⟩;refine⟨_,hw,?_⟩;try simp only[nm]
    obtain⟨v13,e13,h⟩:=ltE h;refine AW.last (by simp[← e13];intros;rfl) ?_;obtain rfl:=oi h;exact nP_i (WM [0] hz)
  |false=>
   replace h:=iF h;refine CF ?_;apply AW.exit;try simp only[nm]
   obtain rfl:=oi h;refine xP_i ?_;exact WM [0] hz
 ·rintro e s⟨rfl,hw⟩;refine⟨_,hw,?_⟩;try simp only[nm]
  refine AW.pin 0 (ty:=59) (sz:=2) (cs:=lvs (Ah y3)) (by simp) hz (by omega) rfl ?_;obtain⟨v14,e14,e15,h⟩:=obc h;apply AW.step
  ·simp;intros;refine As [0] Eg (En e14) (by decide) (by simp[pickOb,Ab,Af]) rfl rfl (by simp) ⟨.l (.own' (by simp[Ab,Af]) (by simp)),.l (.s _),trivial⟩ ?_;try simp
   intros;rfl
  refine ST ?_;obtain⟨e16,h⟩:=chkE h;refine AW.unpin 0 (ty:=59) (sz:=2) (cs:=lvs (Ah v14)) (by simp) rfl ?_;refine AW.frzRow 0 (ty:=59) (cap:=none) (sz:=2) (es:=Ah v14) (by simp) (by omega) (Bh _) (by first|exact (Bm e16).2|simpa using (Bm e16).2|simp) (by simp[Tm.frz,AV.frz,LV.frz,Am e15];rfl) (by simp[Ob.frz,LV.frz,Am e15];rfl) rfl ?_;obtain rfl:=oi h;apply AW.ret;exact LP hz
theorem Hh:Enters Try.prog 56:=enters Try.func56 (by kernel_rfl) rfl
end Go.Proofs.Ytenemndpignaoaa
namespace Go.Proofs.Ytenemndpignaoaa
open Go Go.RowKit
def A3 (n:Nat) (a0:List Span):Option (List Span) :=
bn (CS n a0) fun v1 =>
lt (lenI v1) fun v2 =>
bn (iter n (fun (y3:Int×List Span) =>
lt (ltI y3.1 v2) fun v6 =>
ite' v6 (bn (bn (nth v1 y3.1) fun v8 =>
lt (lenI y3.2) fun v9 =>
bn (lt (gtI v9 0) fun v11 =>
ite' v11 (lt (subI .i64 v9 1) fun v12 =>
bn (nth y3.2 v12) fun v13 =>
lt (addI .i64 v13.to 1) fun v15 =>
lt (leI v8.frm v15) fun v16 =>
some (v16)) (some (false))) fun (y10:Bool) =>
lt (y10) fun v17 =>
ite' v17 (lt (subI .i64 v9 1) fun v18 =>
bn (nth y3.2 v18) fun v19 =>
lt (maxI v19.to v8.to) fun v21 =>
lt (y3.2.set v18.toNat (⟨v19.frm,v21⟩:Span)) fun v23 =>
some (v23)) (chk (room (y3.2.length+1) 16) <|
lt (y3.2++[v8]) fun v28 =>
some (v28))) fun (y7:List Span) =>
lt (addI .i64 y3.1 1) fun v29 =>
some (.inl (v29,y7))) (some (.inr y3.2))) (0,[])) fun (y4:List Span) =>
chk (room y4.length 1) <|
some y4
def DX2t1:List DI:=[⟨[0],[],[(6,none)],false⟩,⟨[0],[0],[(16,some 0)],false⟩,⟨[0],[0,1],[(17,some 1)],false⟩,⟨[0],[0,1,2],[(5,none),(18,some 2)],false⟩,⟨[0],[0,1,2,3],[(18,some 2),(19,some 3)],false⟩,⟨[0],[0,1,2],[(3,none),(18,some 2)],false⟩,⟨[0],[0,1,2],[(6,none),(18,some 2)],false⟩,⟨[0],[0,1,2,6],[(18,some 2),(22,some 6)],false⟩,⟨[0],[0,1,2,5,6,7],[(18,some 2),(21,some 5),(23,some 7)],false⟩,⟨[0],[0,1,2,5,6,7,8],[(18,some 2),(24,some 8)],false⟩,⟨[0],[0,1,2,5,6,7,8,9],[(18,some 2),(25,some 9)],false⟩,⟨[0],[0,1,2,5,6,7,8,9,10],[(18,some 2),(26,some 10)],false⟩,⟨[],[0,1,2,3,4,5,6,7,8,9,10,11],[],false⟩,⟨[],[0,1,2,3,4,5,6,7,8,9,10,11,12],[],false⟩]
theorem B2 {n:Nat} {a0:List Span} {r:List Span} (h:A3 n a0=some r):Sound Try.prog 33 [.l (dA a0)] [] (.l (dA r)) []:=by
 unfold A3 at h;refine SO 50 Try.func33 fun cx hG (hz:cx.nb=0)=>?_;simp only[it];refine ST ?_;refine ST ?_;apply AW.seq;obtain⟨v1,e1,v2,e2,h⟩:=obl h;apply AW.step
 ·simp[Ao e2];intros;refine Aj Hh (HR e1) rfl ⟨.same rfl,trivial⟩ ?_;try simp[Ao e2]
  intros;rfl
 apply AW.block;obtain⟨y4,g4,h⟩:=bnE h;refine zE g4 (mk:=fun gh ls q=>(⟨[(3,.l (.r 0 2 0 q.2.length)),(8,.l (dA v1)),(9,.l (iA v2)),(10,.l (iA q.1))],[some ⟨59,2,true,none,lvs (Ah q.2)⟩],50,gh,ls⟩:St)) (N:=fun gh ls=>(xP 0 (cx:=cx) (fun q=>(⟨[(3,.l (.r 0 2 0 q.length))],[some ⟨59,2,true,none,lvs (Ah q)⟩],50,gh,ls⟩:St)))) ?_ noX ?_ ?_
 ·refine W.nilRow 3 59 2 0 (by simp) rfl rfl ?_;exact WM [0] hz
 ·clear h;intro y3 y5 h
  obtain⟨v6,e6,h⟩:=ltE h;refine AW.step (by simp[← e6];intros;rfl) ?_;apply AW.seq;cases v6 with
  |true=>
   replace h:=iT h;refine CT ?_;apply AW.skip;try simp only[nm]
   obtain⟨y7,g7,h⟩:=bnE h;refine zD (p:=fun gh ls=>(nP (cx:=cx) (fun q=>(⟨[(3,.l (.r 0 2 0 q.length)),(8,.l (dA v1)),(9,.l (iA v2)),(10,.l (iA y3.1))],[some ⟨59,2,true,none,lvs (Ah q)⟩],50,gh,ls⟩:St))) y7) ?_ ?_
   ·replace h:=g7;clear g7
    apply AW.block;obtain⟨v8,e8,h⟩:=bnE h;refine AW.step (by simp[Aa e8];intros;rfl) ?_;apply AW.seq;obtain⟨v9,e9,h⟩:=ltE h;refine AW.step (by simp[Ao e9];intros;rfl) ?_;obtain⟨y10,g10,h⟩:=bnE h;refine zD (p:=fun gh ls=>(nP (cx:=cx) (fun q=>(⟨[(3,.l (.r 0 2 0 y3.2.length)),(5,.l (.p 1 0)),(6,.l (iA v9)),(8,.l (dA v1)),(9,.l (iA v2)),(10,.l (iA y3.1)),(29,.l (bA q))],[some ⟨59,2,true,none,lvs (Ah y3.2)⟩,some ⟨59,2,false,none,[iA v8.frm,iA v8.to]⟩],50,gh,ls⟩:St))) y10) ?_ ?_
    ·replace h:=g10;clear g10
     obtain⟨v11,e11,h⟩:=ltE h;cases v11 with
     |true=>
      replace h:=iT h;obtain⟨v12,e12,v13,e13,h⟩:=olb h;have f14:=Ai e13;try simp[← e11,← e12,Aa e13] at f14
      obtain⟨v15,e15,v16,e16,h⟩:=oll h;apply zH (V:=[_,_,_,_,_,_,_,_,_,_,_,_]) mixed DX2t1 12 (by kernel_rfl) (by kernel_rfl)
      ·refine⟨?_,?_,?_,?_,?_,?_,?_,?_,?_,?_,?_,?_,trivial⟩;iterate 12 (· intro tm hr;simp[AllL,rdV] at hr;simp[hr,← e11,← e12,Aa e13,f14,BG (Aa e13).2 (j:=1) (by decide),lvs1,← e15,← e16];intros;exact KA)
      ·rfl
      ·simp[tmD,putD,← e11,← e12,Aa e13,f14,BG (Aa e13).2 (j:=1) (by decide),lvs1,← e15,← e16];rfl
      ·simp[← e11,← e12,Aa e13,f14,BG (Aa e13).2 (j:=1) (by decide),lvs1,← e15,← e16];intros;rfl
      obtain rfl:=oi h;exact nP_i (WM [0,1] hz)
     |false=>
      replace h:=iF h;apply zH (V:=[_,_,_,_,_,_,_,_,_,_,_,_]) mixed DX2t1 12 (by kernel_rfl) (by kernel_rfl)
      ·refine⟨?_,?_,?_,?_,?_,?_,?_,?_,?_,?_,?_,?_,trivial⟩;iterate 12 (· intro tm hr;simp[AllL,rdV] at hr;simp[hr,← e11];intros;exact KA)
      ·rfl
      ·simp[tmD,putD,← e11];rfl
      ·simp[← e11];intros;rfl
      obtain rfl:=oi h;exact nP_i (WM [0,1] hz)
    ·rintro e s⟨rfl,hw⟩;refine⟨_,hw,?_⟩;try simp only[nm]
     obtain⟨v17,e17,h⟩:=ltE h;rw[← e17];cases v17 with
     |true=>
      replace h:=iT h;refine CT ?_;obtain⟨v18,e18,v19,e19,h⟩:=olb h;have f20:=Ai e19;try simp[← e18,Aa e19] at f20
      obtain⟨v21,e21,h⟩:=ltE h;have f22:=Ai e19;try simp[← e18,Aa e19,f20,BG (Aa e19).2 (j:=1) (by decide),lvs1,← e21] at f22
      obtain⟨v23,e23,h⟩:=ltE h;have f24:=FO (Aa e19).2 e23 (j:=1) (cs:=[iA v21]) (by simp) rfl;try simp at f24
      have f25:=f20;try simp only[Ac e23] at f25
      have f26:=f22;try simp only[Ac e23] at f26
      apply zI (V:=[_,_,_,_,_,_,_,_,_,_,_,_]) mixed [⟨[0],[],[(3,none)],false⟩,⟨[0],[],[(6,none)],false⟩,⟨[0],[1],[(31,some 1)],false⟩,⟨[0],[],[(3,none)],false⟩,⟨[0],[],[(6,none)],false⟩,⟨[0],[4],[(34,some 4)],false⟩,⟨[0],[3,4,5],[(33,some 3),(35,some 5)],false⟩,⟨[0],[3,4,5,6],[(36,some 6)],false⟩,⟨[0],[3,4,5,6,7],[(37,some 7)],false⟩,⟨[0],[],[(5,none)],false⟩,⟨[0],[9],[(39,some 9)],false⟩,⟨[0],[3,4,5,6,7,8,9,10],[(38,some 8),(40,some 10)],false⟩,⟨[],[0,1,2,3,4,5,6,7,8,9,10,11],[],false⟩,⟨[],[0,1,2,3,4,5,6,7,8,9,10,11,12],[],false⟩,⟨[],[0,1,2,3,4,5,6,7,8,9,10,11,12,13],[],false⟩] 12 (by kernel_rfl) (by kernel_rfl)
      ·refine⟨?_,?_,?_,?_,?_,?_,?_,?_,?_,?_,?_,?_,trivial⟩;iterate 12 (· intro tm hr;simp[AllL,rdV] at hr;simp[hr,← e18,Aa e19,f20,BG (Aa e19).2 (j:=1) (by decide),lvs1,← e21,f22,DX (Aa e19).2 (j:=1) (m:=1) (by decide),f24,f25,f26];intros;exact KA)
      ·rfl
      ·simp[tmD,putD,← e18,Aa e19,f20,BG (Aa e19).2 (j:=1) (by decide),lvs1,← e21,f22,DX (Aa e19).2 (j:=1) (m:=1) (by decide),f24,f25,f26];rfl
      ·simp[← e18,Aa e19,f20,BG (Aa e19).2 (j:=1) (by decide),lvs1,← e21,f22,DX (Aa e19).2 (j:=1) (m:=1) (by decide),f24,f25,f26];intros;rfl
      apply AW.exit;try simp only[nm]
      obtain rfl:=oi h;refine nP_i ?_;refine zK [some 0] hz (by decide) ?_ ?_ rfl;all_goals first|(simp[Ab,Af,pickOb,Ac e23];done)|rfl
     |false=>
      replace h:=iF h;refine CF ?_;apply AW.skip;try simp only[nm]
      obtain⟨e27,h⟩:=chkE h;obtain⟨v28,e28,h⟩:=ltE h;apply AW.last
      ·simp[← At,← e28,Az e28];intros;refine Bo ?_;try simp[← At,← e28,Az e28]
       intros;refine Bv (acc:=Ah y3.2) (ys:=Ah [v8]) (cap:=none) (k:=1) Dg Df (by simp) (by simp[Ah,lvs]) (Bh _) (by simp) (by simp) (by first|(simp;done)|simpa using (Bm e27).1) ?_;try simp[← At,← e28,Az e28]
       intros;rfl
      obtain rfl:=oi h;refine nP_i ?_;refine zK [some 3] hz (by decide) ?_ ?_ rfl;all_goals first|(simp[Ab,Af,pickOb,BF];done)|rfl
   ·rintro e s⟨rfl,hw⟩;refine⟨_,hw,?_⟩;try simp only[nm]
    obtain⟨v29,e29,h⟩:=ltE h;refine AW.last (by simp[← e29];intros;rfl) ?_;obtain rfl:=oi h;exact nP_i (WM [0] hz)
  |false=>
   replace h:=iF h;refine CF ?_;apply AW.exit;try simp only[nm]
   obtain rfl:=oi h;refine xP_i ?_;exact WM [0] hz
 ·rintro e s⟨rfl,hw⟩;refine⟨_,hw,?_⟩;try simp only[nm]
  refine ST ?_;obtain⟨e30,h⟩:=chkE h;refine FZ 0 59 2 (Bh y4) e30 ?_;obtain rfl:=oi h;apply AW.ret;exact LP hz
theorem BR:Enters Try.prog 33:=enters Try.func33 (by kernel_rfl) rfl
def Cc (n:Nat) (a0:List Span):Option Int :=
bn (A3 n a0) fun v1 =>
lt (lenI v1) fun v2 =>
bn (iter n (fun (y3:Int×Int) =>
lt (ltI y3.2 v2) fun v6 =>
ite' v6 (bn (nth v1 y3.2) fun v7 =>
lt (subI .i64 v7.to v7.frm) fun v8 =>
lt (addI .i64 v8 1) fun v9 =>
lt (addI .i64 y3.1 v9) fun v10 =>
lt (addI .i64 y3.2 1) fun v11 =>
some (.inl (v10,v11))) (some (.inr y3.1))) (0,0)) fun (y4:Int) =>
some y4
theorem Hi {n:Nat} {a0:List Span} {r:Int} (h:Cc n a0=some r):Sound Try.prog 24 [.l (dA a0)] [] (.l (iA r)) []:=by
 unfold Cc at h;refine SO 23 Try.func24 fun cx hG (hz:cx.nb=0)=>?_;simp only[it];refine ST ?_;refine ST ?_;apply AW.seq;obtain⟨v1,e1,v2,e2,h⟩:=obl h;apply AW.step
 ·simp[Ao e2];intros;refine Aj BR (B2 e1) rfl ⟨.same rfl,trivial⟩ ?_;try simp[Ao e2]
  intros;rfl
 apply AW.block;obtain⟨y4,g4,h⟩:=bnE h;refine zE g4 (mk:=fun gh ls q=>(⟨[(3,.l (iA q.1)),(7,.l (dA v1)),(8,.l (iA v2)),(9,.l (iA q.2))],[],23,gh,ls⟩:St)) (N:=fun gh ls=>(xP 0 (cx:=cx) (fun q=>(⟨[(3,.l (iA q))],[],23,gh,ls⟩:St)))) ?_ noX ?_ ?_
 ·exact WM [] hz
 ·clear h;intro y3 y5 h
  obtain⟨v6,e6,h⟩:=ltE h;refine AW.step (by simp[← e6];intros;rfl) ?_;apply AW.seq;cases v6 with
  |true=>
   replace h:=iT h;refine CT ?_;apply AW.skip;try simp only[nm]
   apply AW.seq;apply AW.block;obtain⟨v7,e7,h⟩:=bnE h;refine AW.step (by simp[Aa e7];intros;rfl) ?_;obtain⟨v8,e8,v9,e9,h⟩:=oll h;obtain⟨v10,e10,h⟩:=ltE h;refine AW.last (by simp[← e8,← e9,← e10];intros;rfl) ?_;try simp only[nm]
   obtain⟨v11,e11,h⟩:=ltE h;refine AW.last (by simp[← e11];intros;rfl) ?_;obtain rfl:=oi h;exact nP_i (WM [] hz)
  |false=>
   replace h:=iF h;refine CF ?_;apply AW.exit;try simp only[nm]
   obtain rfl:=oi h;refine xP_i ?_;exact WM [] hz
 ·rintro e s⟨rfl,hw⟩;refine⟨_,hw,?_⟩;try simp only[nm]
  refine ST ?_;obtain rfl:=oi h;apply AW.ret;exact LP hz
theorem GA:Enters Try.prog 24:=enters Try.func24 (by kernel_rfl) rfl
def CA (n:Nat) (a0:List Span) (a1:List Span):Option (List Span) :=
chk (catB [a0,a1]) <|
lt (List.flatten [a0,a1]) fun v2 =>
bn (A3 n v2) fun v3 =>
some v3
theorem Hj {n:Nat} {a0:List Span} {a1:List Span} {r:List Span} (h:CA n a0 a1=some r):Sound Try.prog 37 [.l (dA a0),.l (dA a1)] [] (.l (dA r)) []:=by
 unfold CA at h;refine SO 10 Try.func37 fun cx hG (hz:cx.nb=0)=>?_;simp only[it];refine ST ?_;obtain⟨e1,h⟩:=chkE h;obtain⟨v2,e2,v3,e3,h⟩:=olb h;apply AW.step
 ·simp[obAfter,outR,keptR,Ab,Af,← e2];intros;refine Bo ?_;try simp[obAfter,outR,keptR,Ab,Af,← e2]
  intros;refine FN [0] [1] ⟨_,rfl,rfl,rfl,rfl⟩ IR (KE [a0,a1] e1) (by decide) rfl rfl (by simp[pickOb]) rfl rfl rfl (by simp) (by simp) ⟨.l (.own (by simp[Ab,Af])),trivial⟩ ?_;try simp[obAfter,outR,keptR,Ab,Af,← e2]
  intros;refine Aj BR (B2 e3) rfl ⟨.same rfl,trivial⟩ ?_;try simp[obAfter,outR,keptR,Ab,Af,← e2]
  intros;rfl
 obtain rfl:=oi h;apply AW.ret;exact LP hz
theorem GB:Enters Try.prog 37:=enters Try.func37 (by kernel_rfl) rfl
def DM (n:Nat) (a0:List Claim) (a1:List Claim):Option (List Claim×List Claim) :=
some (a0,a1)
theorem Gi {n:Nat} {a0:List Claim} {a1:List Claim} {r:List Claim×List Claim} (h:DM n a0 a1=some r):Sound Try.prog 42 [.l (dB a0),.l (dB a1)] [] (.l (.f 61 [0,1])) [some ⟨22,1,false,none,[dB r.1]⟩,some ⟨22,1,false,none,[dB r.2]⟩]:=by
 unfold DM at h;refine SO 6 Try.func42 fun cx hG (hz:cx.nb=0)=>?_;simp only[it];refine ST ?_;refine ST ?_;obtain rfl:=oi h;apply AW.ret;refine Left.of (av:=_) (by simp[Try.f42,resV,resC,comp];rfl) ?_;exact zF 0 [some 0,some 1] hz rfl (by decide) rfl (by simp[pickOb,Ab,Af]) (by simp[Ab,Af])
theorem F0:Enters Try.prog 42:=enters Try.func42 (by kernel_rfl) rfl
def Cd (n:Nat) (a0:List Claim) (a1:Int):Option (Claim×List Claim) :=
bn (iter n (fun (y1:List Claim) =>
bn (lt (lenI y1) fun v5 =>
lt (gtI v5 0) fun v6 =>
ite' v6 (bn (nth y1 0) fun v7 =>
lt (ltI v7.to a1) fun v8 =>
some (v8)) (some (false))) fun (y4:Bool) =>
lt (y4) fun v9 =>
ite' v9 (bn (segl y1 1) fun v10 =>
some (.inl v10)) (some (.inr y1))) a0) fun (y2:List Claim) =>
bn (bn (lt (lenI y2) fun v14 =>
lt (gtI v14 0) fun v15 =>
ite' v15 (bn (nth y2 0) fun v16 =>
lt (leI v16.frm a1) fun v17 =>
some (v17)) (some (false))) fun (y13:Bool) =>
lt (y13) fun v18 =>
ite' v18 (bn (nth y2 0) fun v19 =>
some ((⟨a1,v19.to,v19.node,v19.epoch⟩:Claim))) (lt (lenI y2) fun v20 =>
lt (gtI v20 0) fun v21 =>
ite' v21 (bn (nth y2 0) fun v22 =>
lt (subI .i64 v22.frm 1) fun v23 =>
some ((⟨a1,v23,0,0⟩:Claim))) (some ((⟨a1,16383,0,0⟩:Claim))))) fun (y12:Claim) =>
some (y12,y2)
theorem Fb {n:Nat} {a0:List Claim} {a1:Int} {r:Claim×List Claim} (h:Cd n a0 a1=some r):Sound Try.prog 62 [.l (dB a0),.l (iA a1)] [] (.t [(true,[iA r.1.frm,iA r.1.to,iA r.1.node,iA r.1.epoch]),(false,[dB r.2])]) []:=by
 unfold Cd at h;refine SO 51 Try.func62 fun cx hG (hz:cx.nb=0)=>?_;simp only[it];refine ST ?_;apply AW.seq;apply AW.block;obtain⟨y2,g2,h⟩:=bnE h;refine zE g2 (mk:=fun gh ls q=>(⟨[(0,.l (dB q)),(1,.l (iA a1)),(4,.l (.p 0 0))],[some ⟨31,4,false,none,cA0⟩],51,gh,ls⟩:St)) (N:=fun gh ls=>(xP 0 (cx:=cx) (fun q=>(⟨[(0,.l (dB q)),(1,.l (iA a1)),(4,.l (.p 0 0))],[some ⟨31,4,false,none,cA0⟩],51,gh,ls⟩:St)))) ?_ noX ?_ ?_
 ·exact WM [0] hz
 ·clear h;intro y1 y3 h
  apply AW.seq;obtain⟨y4,g4,h⟩:=bnE h;refine zD (p:=fun gh ls=>(nP (cx:=cx) (fun q=>(⟨[(0,.l (dB y1)),(1,.l (iA a1)),(4,.l (.p 0 0)),(17,.l (bA q))],[some ⟨31,4,false,none,cA0⟩],51,gh,ls⟩:St))) y4) ?_ ?_
  ·replace h:=g4;clear g4
   obtain⟨v5,e5,v6,e6,h⟩:=oll h;cases v6 with
   |true=>
    replace h:=iT h;obtain⟨v7,e7,v8,e8,h⟩:=obl h;apply AW.last
    ·simp[Ao e5,← e6,(show y1[0]?=some v7 from (Aa e7).2),← e8];intros;rfl
    obtain rfl:=oi h;exact nP_i (WM [0] hz)
   |false=>
    replace h:=iF h;refine AW.last (by simp[Ao e5,← e6];intros;rfl) ?_;obtain rfl:=oi h;exact nP_i (WM [0] hz)
  ·rintro e s⟨rfl,hw⟩;refine⟨_,hw,?_⟩;try simp only[nm]
   obtain⟨v9,e9,h⟩:=ltE h;rw[← e9];cases v9 with
   |true=>
    replace h:=iT h;refine CT ?_;apply AW.skip;try simp only[nm]
    apply AW.block;obtain⟨v10,e10,h⟩:=bnE h;have f11:=He e10;try simp at f11
    refine AW.last (by simp[f11];intros;rfl) ?_;obtain rfl:=oi h;exact nP_i (WM [0] hz)
   |false=>
    replace h:=iF h;refine CF ?_;apply AW.exit;try simp only[nm]
    obtain rfl:=oi h;refine xP_i ?_;exact WM [0] hz
 ·rintro e s⟨rfl,hw⟩;refine⟨_,hw,?_⟩;try simp only[nm]
  refine ST ?_;obtain⟨y12,g12,h⟩:=bnE h;refine zD (p:=fun gh ls=>(nP (cx:=cx) (fun q=>(⟨[(0,.l (dB y2)),(4,.l (.p 0 0)),(6,.l (.p 1 0))],[some ⟨31,4,false,none,cA0⟩,some ⟨31,4,false,none,[iA q.frm,iA q.to,iA q.node,iA q.epoch]⟩],51,gh,ls⟩:St))) y12) ?_ ?_
  ·replace h:=g12;clear g12
   apply AW.block;obtain⟨y13,g13,h⟩:=bnE h;refine zD (p:=fun gh ls=>(nP (cx:=cx) (fun q=>(⟨[(0,.l (dB y2)),(1,.l (iA a1)),(4,.l (.p 0 0)),(6,.l (.p 1 0)),(22,.l (bA q))],[some ⟨31,4,false,none,cA0⟩,some ⟨31,4,false,none,[iA a1,iA 16383,iA 0,iA 0]⟩],51,gh,ls⟩:St))) y13) ?_ ?_
   ·replace h:=g13;clear g13
    obtain⟨v14,e14,v15,e15,h⟩:=oll h;cases v15 with
    |true=>
     replace h:=iT h;obtain⟨v16,e16,v17,e17,h⟩:=obl h;apply AW.last
     ·simp[Ao e14,← e15,(show y2[0]?=some v16 from (Aa e16).2),← e17];intros;rfl
     obtain rfl:=oi h;exact nP_i (WM [0,1] hz)
    |false=>
     replace h:=iF h;refine AW.last (by simp[Ao e14,← e15];intros;rfl) ?_;obtain rfl:=oi h;exact nP_i (WM [0,1] hz)
   ·rintro e s⟨rfl,hw⟩;refine⟨_,hw,?_⟩;try simp only[nm]
    obtain⟨v18,e18,h⟩:=ltE h;rw[← e18];cases v18 with
    |true=>
     replace h:=iT h;refine CT ?_;obtain⟨v19,e19,h⟩:=bnE h;apply AW.step
     ·simp[(show y2[0]?=some v19 from (Aa e19).2)];intros;rfl
     refine SL ?_;obtain rfl:=oi h;exact nP_i (WM [0,1] hz)
    |false=>
     replace h:=iF h;refine CF ?_;obtain⟨v20,e20,v21,e21,h⟩:=oll h;refine AW.step (by simp[Ao e20,← e21];intros;rfl) ?_;cases v21 with
     |true=>
      replace h:=iT h;refine CT ?_;obtain⟨v22,e22,v23,e23,h⟩:=obl h;apply AW.last
      ·simp[(show y2[0]?=some v22 from (Aa e22).2),← e23];intros;rfl
      obtain rfl:=oi h;exact nP_i (WM [0,1] hz)
     |false=>
      replace h:=iF h;refine CF ?_;apply AW.skip;try simp only[nm]
      obtain rfl:=oi h;exact nP_i (WM [0,1] hz)
  ·rintro e s⟨rfl,hw⟩;refine⟨_,hw,?_⟩;try simp only[nm]
   refine ST ?_;obtain rfl:=oi h;apply AW.ret;exact LP hz
theorem EW:Enters Try.prog 62:=enters Try.func62 (by kernel_rfl) rfl
def Cq (n:Nat) (a0:Claim) (a1:Claim):Option Bool :=
bn (lt (addI .i64 a0.to 1) fun v2 =>
lt (eqI v2 a1.frm) fun v3 =>
ite' v3 (lt (eqI a0.node a1.node) fun v4 =>
ite' v4 (lt (eqI a0.epoch a1.epoch) fun v5 =>
some (v5)) (some (false))) (some (false))) fun (y1:Bool) =>
some y1
theorem GC {n:Nat} {a0:Claim} {a1:Claim} {r:Bool} (h:Cq n a0 a1=some r):Sound Try.prog 63 [.g [iA a0.frm,iA a0.to,iA a0.node,iA a0.epoch],.g [iA a1.frm,iA a1.to,iA a1.node,iA a1.epoch]] [] (.l (bA r)) []:=by
 unfold Cq at h;refine SO 25 Try.func63 fun cx hG (hz:cx.nb=0)=>?_;simp only[it];refine ST ?_;obtain⟨y1,g1,h⟩:=bnE h;refine zD (p:=fun gh ls=>(nP (cx:=cx) (fun q=>(⟨[(4,.l (bA q))],[],25,gh,ls⟩:St))) y1) ?_ ?_
 ·replace h:=g1;clear g1
  obtain⟨v2,e2,v3,e3,h⟩:=oll h;cases v3 with
  |true=>
   replace h:=iT h;obtain⟨v4,e4,h⟩:=ltE h;cases v4 with
   |true=>
    replace h:=iT h;obtain⟨v5,e5,h⟩:=ltE h;refine AW.last (by simp[← e2,← e3,← e4,← e5];intros;rfl) ?_;obtain rfl:=oi h;exact nP_i (WM [] hz)
   |false=>
    replace h:=iF h;refine AW.last (by simp[← e2,← e3,← e4];intros;rfl) ?_;obtain rfl:=oi h;exact nP_i (WM [] hz)
  |false=>
   replace h:=iF h;refine AW.last (by simp[← e2,← e3];intros;rfl) ?_;obtain rfl:=oi h;exact nP_i (WM [] hz)
 ·rintro e s⟨rfl,hw⟩;refine⟨_,hw,?_⟩;try simp only[nm]
  obtain rfl:=oi h;apply AW.ret;exact LP hz
theorem Gj:Enters Try.prog 63:=enters Try.func63 (by kernel_rfl) rfl
def BS (n:Nat) (a0:List Claim) (a1:Claim):Option (List Claim) :=
bn (lt (lenI a0) fun v2 =>
lt (eqI a1.epoch 0) fun v3 =>
ite' v3 (some (a0)) (bn (lt (gtI v2 0) fun v5 =>
ite' v5 (lt (subI .i64 v2 1) fun v6 =>
bn (nth a0 v6) fun v7 =>
bn (Cq n v7 a1) fun v9 =>
some (v9)) (some (false))) fun (y4:Bool) =>
lt (y4) fun v10 =>
ite' v10 (lt (subI .i64 v2 1) fun v11 =>
bn (nth a0 v11) fun v12 =>
lt (a0.set v11.toNat (⟨v12.frm,a1.to,v12.node,v12.epoch⟩:Claim)) fun v14 =>
some (v14)) (chk (room (a0.length+1) 32) <|
lt (a0++[a1]) fun v18 =>
some (v18)))) fun (y1:List Claim) =>
some y1
def DX2t2:List DI:=[⟨[0],[],[(5,none)],false⟩,⟨[0],[0],[(17,some 0)],false⟩,⟨[0],[0,1],[(18,some 1)],false⟩,⟨[0],[0,1,2],[(0,none),(19,some 2)],false⟩,⟨[0],[0,1,2],[(5,none),(19,some 2)],false⟩,⟨[0],[0,1,2,4],[(19,some 2),(21,some 4)],false⟩,⟨[0],[0,1,2,3,4,5],[(19,some 2),(20,some 3),(22,some 5)],false⟩,⟨[0],[0,1,2,3,4,5,6],[(19,some 2),(23,some 6)],false⟩,⟨[0],[0,1,2],[(3,none),(19,some 2)],false⟩,⟨[],[0,1,2,3,4,5,6,7,8],[],false⟩,⟨[],[0,1,2,3,4,5,6,7,8,9],[],false⟩,⟨[],[0,1,2,3,4,5,6,7,8,9,10],[],false⟩]
theorem Gk {n:Nat} {a0:List Claim} {a1:Claim} {r:List Claim} (h:BS n a0 a1=some r):Sound Try.prog 43 [.l (.r 0 4 0 a0.length),.g [iA a1.frm,iA a1.to,iA a1.node,iA a1.epoch]] [⟨31,4,true,none,lvs (Au a0)⟩] (.l (.r 0 4 0 r.length)) [some ⟨31,4,true,none,lvs (Au r)⟩]:=by
 unfold BS at h;refine SO 36 Try.func43 fun cx hG (hz:cx.nb=1)=>?_;simp only[it];refine ST ?_;obtain⟨y1,g1,h⟩:=bnE h;refine zD (p:=fun gh ls=>(nP (cx:=cx) (fun q=>(⟨[(0,.l (.r 0 4 0 q.length))],[some ⟨31,4,true,none,lvs (Au q)⟩],36,gh,ls⟩:St))) y1) ?_ ?_
 ·replace h:=g1;clear g1
  obtain⟨v2,e2,h⟩:=ltE h;refine AW.step (by simp[Ao e2];intros;rfl) ?_;apply AW.block;obtain⟨v3,e3,h⟩:=ltE h;refine AW.step (by simp[← e3];intros;rfl) ?_;cases v3 with
  |true=>
   replace h:=iT h;refine CT ?_;apply AW.skip;try simp only[nm]
   obtain rfl:=oi h;refine nP_i ?_;refine zA 1 [some 0] hz (by decide) (by decide) ?_ ?_ ?_;all_goals first|(simp[Ab,Af,pickOb];done)|rfl
  |false=>
   replace h:=iF h;refine CF ?_;obtain⟨y4,g4,h⟩:=bnE h;refine zD (p:=fun gh ls=>(nP (cx:=cx) (fun q=>(⟨[(0,.l (.r 0 4 0 a0.length)),(3,.l (.p 1 0)),(5,.l (iA v2)),(16,.l (bA q))],[some ⟨31,4,true,none,lvs (Au a0)⟩,some ⟨31,4,false,none,[iA a1.frm,iA a1.to,iA a1.node,iA a1.epoch]⟩],36,gh,ls⟩:St))) y4) ?_ ?_
   ·replace h:=g4;clear g4
    obtain⟨v5,e5,h⟩:=ltE h;cases v5 with
    |true=>
     replace h:=iT h;obtain⟨v6,e6,v7,e7,h⟩:=olb h;have f8:=Ai e7;try simp[← e5,← e6,Aa e7] at f8
     obtain⟨v9,e9,h⟩:=bnE h;apply zH (V:=[_,_,_,_,_,_,_,_,_]) mixed DX2t2 9 (by kernel_rfl) (by kernel_rfl)
     ·refine⟨?_,?_,?_,?_,?_,?_,?_,?_,?_,trivial⟩;iterate 9 (· intro tm hr;simp[AllL,rdV] at hr;simp[hr,← e5,← e6,Aa e7,f8,CO (Aa e7).2 (k:=4) (by decide),Cy (Aa e7).2 (show 4≤4 by decide),lvs1];intros;exact KA)
     ·rfl
     ·simp[tmD,putD,← e5,← e6,Aa e7,f8,CO (Aa e7).2 (k:=4) (by decide),Cy (Aa e7).2 (show 4≤4 by decide),lvs1];rfl
     ·simp[← e5,← e6,Aa e7,f8,CO (Aa e7).2 (k:=4) (by decide),Cy (Aa e7).2 (show 4≤4 by decide),lvs1];intros;refine Aj Gj (GC e9) rfl ⟨.same rfl,.same rfl,trivial⟩ ?_;try simp[← e5,← e6,Aa e7,f8,CO (Aa e7).2 (k:=4) (by decide),Cy (Aa e7).2 (show 4≤4 by decide),lvs1]
      intros;rfl
     obtain rfl:=oi h;refine nP_i ?_;refine zA 1 [some 0,some 1] hz (by decide) (by decide) ?_ ?_ ?_;all_goals first|(simp[Ab,Af,pickOb];done)|rfl
    |false=>
     replace h:=iF h;apply zH (V:=[_,_,_,_,_,_,_,_,_]) mixed DX2t2 9 (by kernel_rfl) (by kernel_rfl)
     ·refine⟨?_,?_,?_,?_,?_,?_,?_,?_,?_,trivial⟩;iterate 9 (· intro tm hr;simp[AllL,rdV] at hr;simp[hr,← e5];intros;exact KA)
     ·rfl
     ·simp[tmD,putD,← e5];rfl
     ·simp[← e5];intros;rfl
     obtain rfl:=oi h;refine nP_i ?_;refine zA 1 [some 0,some 1] hz (by decide) (by decide) ?_ ?_ ?_;all_goals first|(simp[Ab,Af,pickOb];done)|rfl
   ·rintro e s⟨rfl,hw⟩;refine⟨_,hw,?_⟩;try simp only[nm]
    obtain⟨v10,e10,h⟩:=ltE h;rw[← e10];cases v10 with
    |true=>
     replace h:=iT h;refine CT ?_;obtain⟨v11,e11,v12,e12,h⟩:=olb h;have f13:=Ai e12;try simp[← e11,Aa e12] at f13
     obtain⟨v14,e14,h⟩:=ltE h;have f15:=HN (Aa e12).2 e14 (j:=1) (cs:=[iA a1.to]) (by simp) rfl;try simp at f15
     have f16:=f13;try simp only[Ac e14] at f16
     refine AW.last (by simp[← e11,Aa e12,f13,Hc (Aa e12).2 (j:=1) (m:=1) (by decide),f15,f16];intros;rfl) ?_;obtain rfl:=oi h;refine nP_i ?_;refine zA 1 [some 0] hz (by decide) (by decide) ?_ ?_ ?_;all_goals first|(simp[Ab,Af,pickOb,Ac e14];done)|rfl
    |false=>
     replace h:=iF h;refine CF ?_;obtain⟨e17,h⟩:=chkE h;obtain⟨v18,e18,h⟩:=ltE h;apply AW.last
     ·simp[St.grow,obsBut,← B5,← e18,Az e18];intros;refine Bo ?_;try simp[St.grow,obsBut,← B5,← e18,Az e18]
      intros;refine Jc (acc:=Au a0) (ys:=Au [a1]) (cap:=none) (k:=1) Gw Gv (by simp) (by simp[Au,lvs]) (Cs _) (by simp) (by simp) (by first|(simp;done)|simpa using (Bm e17).1) ?_;try simp[St.grow,obsBut,← B5,← e18,Az e18]
      intros;rfl
     obtain rfl:=oi h;refine nP_i ?_;refine zA 1 [some 0] hz (by decide) (by decide) ?_ ?_ ?_;all_goals first|(simp[Ab,Af,pickOb,DG];done)|rfl
 ·rintro e s⟨rfl,hw⟩;refine⟨_,hw,?_⟩;try simp only[nm]
  refine ST ?_;obtain rfl:=oi h;apply AW.ret;refine Left.of (av:=_) (by simp[Try.f43,resV,resC,comp];rfl) ?_;exact zF 1 [some 0] hz rfl (by decide) rfl (by simp[pickOb,Ab,Af]) (by simp[Ab,Af])
theorem F1:Enters Try.prog 43:=enters Try.func43 (by kernel_rfl) rfl
def BT (n:Nat) (a0:List Claim) (a1:List Span) (a2:Int) (a3:Int):Option (List Claim) :=
bn (A3 n a1) fun v1 =>
lt (lenI v1) fun v2 =>
bn (iter n (fun (y3:Int×List Claim) =>
lt (ltI y3.1 v2) fun v6 =>
ite' v6 (bn (nth v1 y3.1) fun v7 =>
chk (room (y3.2.length+1) 32) <|
lt (y3.2++[(⟨v7.frm,v7.to,a2,a3⟩:Claim)]) fun v9 =>
lt (addI .i64 y3.1 1) fun v10 =>
some (.inl (v10,v9))) (some (.inr y3.2))) (0,[])) fun (y4:List Claim) =>
bn (chk (room y4.length 1) <|
bn (DM n a0 y4) fun v13 =>
bn (iter n (fun (y14:Int×List Claim×List Claim×ClaimsPiece×List Claim) =>
lt (leI y14.1 16383) fun v17 =>
ite' v17 (bn (Cd n y14.2.1 y14.1) fun v18 =>
bn (Cd n y14.2.2.1 y14.1) fun v19 =>
lt (minI v18.1.to v19.1.to) fun v20 =>
bn (lt (gtI v19.1.epoch 0) fun v22 =>
ite' v22 (some ((⟨(⟨v19.1.frm,v20,v19.1.node,v19.1.epoch⟩:Claim),(⟨v19.1.frm,v20,v19.1.node,v19.1.epoch⟩:Claim)⟩:ClaimsPiece))) (some ((⟨(⟨v18.1.frm,v20,v18.1.node,v18.1.epoch⟩:Claim),(⟨v19.1.frm,v20,v19.1.node,v19.1.epoch⟩:Claim)⟩:ClaimsPiece)))) fun (y21:ClaimsPiece) =>
bn (BS n y14.2.2.2.2 y21.a) fun v23 =>
lt (addI .i64 v20 1) fun v24 =>
some (.inl (v24,v18.2,v19.2,(⟨(⟨v18.1.frm,v20,v18.1.node,v18.1.epoch⟩:Claim),(⟨v19.1.frm,v20,v19.1.node,v19.1.epoch⟩:Claim)⟩:ClaimsPiece),v23))) (some (.inr (y14.2.1,y14.2.2.1,y14.2.2.2.2)))) (0,v13.1,v13.2,(⟨(⟨0,0,0,0⟩:Claim),(⟨0,0,0,0⟩:Claim)⟩:ClaimsPiece),[])) fun (y15:List Claim×List Claim×List Claim) =>
some (y15.2.2)) fun (y11:List Claim) =>
chk (room y11.length 1) <|
some y11
theorem Hk {n:Nat} {a0:List Claim} {a1:List Span} {a2:Int} {a3:Int} {r:List Claim} (h:BT n a0 a1 a2 a3=some r):Sound Try.prog 28 [.l (dB a0),.l (dA a1),.l (iA a2),.l (iA a3)] [] (.l (dB r)) []:=by
 unfold BT at h;refine SO 48 Try.func28 fun cx hG (hz:cx.nb=0)=>?_;simp only[it];refine ST ?_;refine ST ?_;apply AW.seq;obtain⟨v1,e1,v2,e2,h⟩:=obl h;apply AW.step
 ·simp[Ao e2];intros;refine Aj BR (B2 e1) rfl ⟨.same rfl,trivial⟩ ?_;try simp[Ao e2]
  intros;rfl
 apply AW.block;obtain⟨y4,g4,h⟩:=bnE h;refine zE g4 (mk:=fun gh ls q=>(⟨[(0,.l (dB a0)),(2,.l (iA a2)),(3,.l (iA a3)),(9,.l (.r 0 4 0 q.2.length)),(10,.l (.p 1 0)),(15,.l (dA v1)),(16,.l (iA v2)),(17,.l (iA q.1))],[some ⟨31,4,true,none,lvs (Au q.2)⟩,some ⟨22,1,false,none,[.s (.slice none 0 0)]⟩],48,gh,ls⟩:St)) (N:=fun gh ls=>(xP 0 (cx:=cx) (fun q=>(⟨[(0,.l (dB a0)),(9,.l (.r 0 4 0 q.length)),(10,.l (.p 1 0))],[some ⟨31,4,true,none,lvs (Au q)⟩,some ⟨22,1,false,none,[.s (.slice none 0 0)]⟩],48,gh,ls⟩:St)))) ?_ noX ?_ ?_
 ·refine W.nilRow 9 31 4 1 (by simp) rfl rfl ?_;exact WM [1,0] hz
 ·clear h;intro y3 y5 h
  obtain⟨v6,e6,h⟩:=ltE h;refine AW.step (by simp[← e6];intros;rfl) ?_;apply AW.seq;cases v6 with
  |true=>
   replace h:=iT h;refine CT ?_;apply AW.skip;try simp only[nm]
   apply AW.seq;apply AW.block;obtain⟨v7,e7,h⟩:=bnE h;refine AW.step (by simp[Aa e7];intros;rfl) ?_;obtain⟨e8,h⟩:=chkE h;obtain⟨v9,e9,h⟩:=ltE h;apply AW.last
   ·simp[← B5,← e9,Az e9];intros;refine Bo ?_;try simp[← B5,← e9,Az e9]
    intros;refine Bv (acc:=Au y3.2) (ys:=Au [(⟨v7.frm,v7.to,a2,a3⟩:Claim)]) (cap:=none) (k:=1) Gw Gv (by simp) (by simp[Au,lvs]) (Cs _) (by simp) (by simp) (by first|(simp;done)|simpa using (Bm e8).1) ?_;try simp[← B5,← e9,Az e9]
    intros;rfl
   try simp only[nm]
   obtain⟨v10,e10,h⟩:=ltE h;refine AW.last (by simp[← e10];intros;rfl) ?_;obtain rfl:=oi h;refine nP_i ?_;refine zK [some 4,some 1] hz (by decide) ?_ ?_ rfl;all_goals first|(simp[Ab,Af,pickOb,DG];done)|rfl
  |false=>
   replace h:=iF h;refine CF ?_;apply AW.exit;try simp only[nm]
   obtain rfl:=oi h;refine xP_i ?_;exact WM [0,1] hz
 ·rintro e s⟨rfl,hw⟩;refine⟨_,hw,?_⟩;try simp only[nm]
  obtain⟨y11,g11,h⟩:=bnE h;refine zD (p:=fun gh ls=>(nP (cx:=cx) (fun q=>(⟨[(10,.l (.p 0 0))],[some ⟨22,1,false,none,[.r 1 4 0 q.length]⟩,some ⟨31,4,true,none,lvs (Au q)⟩],48,gh,ls⟩:St))) y11) ?_ ?_
  ·replace h:=g11;clear g11
   obtain⟨e12,h⟩:=chkE h;refine FZ 0 31 4 (Cs y4) e12 ?_;obtain⟨v13,e13,h⟩:=bnE h;apply AW.step
   ·simp;intros;refine DQ F0 (Gi e13) rfl (by simp) ⟨.same rfl,.same rfl,trivial⟩ ?_;try simp
    intros;rfl
   apply AW.block;refine AW.weak (Weak.keep [(10,.l (.p 1 0)),(34,.l (.f 61 [2,3]))] (by simp)) ?_;refine AW.rangeG rfl Try.func61 (by kernel_rfl) rfl (by decide) rfl rfl fun cxI1 yl1 hnI1 hY1=>?_;have hnJ1:cxI1.nb=0:=hnI1.trans hz;simp only[initTm,List.map_cons,List.map_nil];refine ST ?_;refine ST ?_;apply AW.block;obtain⟨y15,g15,h⟩:=bnE h;refine zE g15 (mk:=fun gh ls q=>(⟨[(0,.l (.s (.func (.yield yl1) #[] #[]))),(1,.l (.p 2 0)),(2,.l (.p 3 0)),(4,.l (.p 4 0)),(5,.l (iA q.1))],[none,some ⟨22,1,false,none,[.r 5 4 0 q.2.2.2.2.length]⟩,some ⟨22,1,false,none,[dB q.2.1]⟩,some ⟨22,1,false,none,[dB q.2.2.1]⟩,some ⟨79,8,false,none,[iA q.2.2.2.1.a.frm,iA q.2.2.2.1.a.to,iA q.2.2.2.1.a.node,iA q.2.2.2.1.a.epoch,iA q.2.2.2.1.b.frm,iA q.2.2.2.1.b.to,iA q.2.2.2.1.b.node,iA q.2.2.2.1.b.epoch]⟩,some ⟨31,4,true,none,lvs (Au q.2.2.2.2)⟩],44,gh,ls⟩:St)) (N:=fun gh ls=>(xP 0 (cx:=cxI1) (fun q=>(⟨[],[none,some ⟨22,1,false,none,[.r 4 4 0 q.2.2.length]⟩,some ⟨22,1,false,none,[dB q.1]⟩,some ⟨22,1,false,none,[dB q.2.1]⟩,some ⟨31,4,true,none,lvs (Au q.2.2)⟩],44,gh,ls⟩:St)))) ?_ noX ?_ ?_
   ·refine W.nilCell 1 0 31 4 5 rfl rfl rfl rfl rfl ?_;refine zA 0 [some 0,some 1,some 2,some 3,some 4,some 5] hnJ1 (by decide) (by decide) ?_ ?_ ?_;all_goals first|(simp[Ab,Af,pickOb];done)|rfl
   ·clear h;intro y14 y16 h
    apply AW.seq;obtain⟨v17,e17,h⟩:=ltE h;refine AW.step (by simp[← e17];intros;rfl) ?_;cases v17 with
    |true=>
     replace h:=iT h;refine CT ?_;apply AW.skip;try simp only[nm]
     apply AW.seq;apply AW.block;obtain⟨v18,e18,h⟩:=bnE h;apply AW.step
     ·simp;intros;refine Aj EW (Fb e18) rfl ⟨.same rfl,.same rfl,trivial⟩ ?_;try simp
      intros;rfl
     obtain⟨v19,e19,h⟩:=bnE h;apply AW.step
     ·simp;intros;refine Aj EW (Fb e19) rfl ⟨.same rfl,.same rfl,trivial⟩ ?_;try simp
      intros;rfl
     obtain⟨v20,e20,h⟩:=ltE h;refine AW.step (by simp[← e20];intros;rfl) ?_;refine ST ?_;refine AW.stepYK ?_;apply xopsY.yield hY1 0 2 rfl rfl rfl (by decide)
     ·simp;intros;rfl
     ·rfl
     ·first|trivial|simp
     ·rfl
     ·rfl
     ·simp[puts];rfl
     intro cxR1 hnR1;have hnS1:cxR1.nb=0:=hnR1.trans hnJ1;refine SL ?_;refine⟨rfl,?_⟩;apply AW.block;obtain⟨y21,g21,h⟩:=bnE h;refine zD (p:=fun gh ls=>(nP (cx:=cxR1) (fun q=>(⟨[(10,.l (.p 1 0)),(13,.l (.p 6 0))],[none,some ⟨22,1,false,none,[.r 5 4 0 y14.2.2.2.2.length]⟩,some ⟨22,1,false,none,[dB v18.2]⟩,some ⟨22,1,false,none,[dB v19.2]⟩,some ⟨79,8,false,none,[iA v18.1.frm,iA v20,iA v18.1.node,iA v18.1.epoch,iA v19.1.frm,iA v20,iA v19.1.node,iA v19.1.epoch]⟩,some ⟨31,4,true,none,lvs (Au y14.2.2.2.2)⟩,some ⟨79,8,false,none,[iA q.a.frm,iA q.a.to,iA q.a.node,iA q.a.epoch,iA q.b.frm,iA q.b.to,iA q.b.node,iA q.b.epoch]⟩],48,gh,ls⟩:St))) y21) ?_ ?_
     ·replace h:=g21;clear g21
      obtain⟨v22,e22,h⟩:=ltE h;refine AW.step (by simp[← e22];intros;rfl) ?_;cases v22 with
      |true=>
       replace h:=iT h;refine CT ?_;refine SL ?_;obtain rfl:=oi h;refine nP_i ?_;refine zA 0 [some 0,some 1,some 2,some 3,some 4,some 5,some 6] hnS1 (by decide) (by decide) ?_ ?_ ?_;all_goals first|(simp[Ab,Af,pickOb];done)|rfl
      |false=>
       replace h:=iF h;refine CF ?_;apply AW.skip;try simp only[nm]
       obtain rfl:=oi h;refine nP_i ?_;refine zA 0 [some 0,some 1,some 2,some 3,some 4,some 5,some 6] hnS1 (by decide) (by decide) ?_ ?_ ?_;all_goals first|(simp[Ab,Af,pickOb];done)|rfl
     ·rintro e s⟨rfl,hw⟩;refine⟨_,hw,?_⟩;try simp only[nm]
      obtain⟨v23,e23,h⟩:=bnE h;apply AW.last
      ·simp[obAfter,outR,keptR,Ab,Af];intros;refine As [5] F1 (Gk e23) (by decide) (by simp[pickOb,Ab,Af]) rfl rfl (by simp) ⟨.l (.own' (by simp[Ab,Af]) (by simp)),.g ⟨.s _,.s _,.s _,.s _,trivial⟩,trivial⟩ ?_;try simp[obAfter,outR,keptR,Ab,Af]
       intros;rfl
      refine⟨_,_,rfl,?_⟩;refine Dw _ _ _ rfl ?_;simp[puts];try intros
      unfold KK;refine CF ?_;apply AW.skip;try simp only[nm]
      obtain⟨v24,e24,h⟩:=ltE h;refine AW.last (by simp[← e24];intros;rfl) ?_;obtain rfl:=oi h;refine nP_i ?_;refine zA 0 [some 0,some 1,some 2,some 3,some 4,some 5] hnJ1 (by decide) (by decide) ?_ ?_ ?_;all_goals first|(simp[Ab,Af,pickOb];done)|rfl
    |false=>
     replace h:=iF h;refine CF ?_;apply AW.exit;try simp only[nm]
     obtain rfl:=oi h;refine xP_i ?_;refine zA 0 [some 0,some 1,some 2,some 3,some 5] hnJ1 (by decide) (by decide) ?_ ?_ ?_;all_goals first|(simp[Ab,Af,pickOb];done)|rfl
   ·rintro e s⟨rfl,hw⟩;refine⟨_,hw,?_⟩;try simp only[nm]
    refine⟨_,_,rfl,?_⟩;try simp only[]
    try simp only[nm]
    obtain rfl:=oi h;exact nP_i (WM [1,4] hz)
  ·rintro e s⟨rfl,hw⟩;refine⟨_,hw,?_⟩;try simp only[nm]
   refine ST ?_;obtain⟨e25,h⟩:=chkE h;refine FZ 1 31 4 (Cs y11) e25 ?_;obtain rfl:=oi h;apply AW.ret;exact LP hz
theorem GD:Enters Try.prog 28:=enters Try.func28 (by kernel_rfl) rfl
def B6 (n:Nat) (a0:List Claim) (a1:Int):Option (List Span) :=
lt (lenI a0) fun v1 =>
bn (iter n (fun (y2:Int×List Span) =>
lt (ltI y2.1 v1) fun v5 =>
ite' v5 (bn (bn (nth a0 y2.1) fun v7 =>
lt (eqI v7.node a1) fun v8 =>
ite' v8 (chk (room (y2.2.length+1) 16) <|
lt (y2.2++[(⟨v7.frm,v7.to⟩:Span)]) fun v10 =>
some (v10)) (some (y2.2))) fun (y6:List Span) =>
lt (addI .i64 y2.1 1) fun v11 =>
some (.inl (v11,y6))) (some (.inr y2.2))) (0,[])) fun (y3:List Span) =>
chk (room y3.length 1) <|
bn (A3 n y3) fun v13 =>
some v13
theorem GE {n:Nat} {a0:List Claim} {a1:Int} {r:List Span} (h:B6 n a0 a1=some r):Sound Try.prog 23 [.l (dB a0),.l (iA a1)] [] (.l (dA r)) []:=by
 unfold B6 at h;refine SO 29 Try.func23 fun cx hG (hz:cx.nb=0)=>?_;simp only[it];refine ST ?_;refine ST ?_;apply AW.seq;obtain⟨v1,e1,h⟩:=ltE h;refine AW.step (by simp[Ao e1];intros;rfl) ?_;apply AW.block;obtain⟨y3,g3,h⟩:=bnE h;refine zE g3 (mk:=fun gh ls q=>(⟨[(1,.l (iA a1)),(5,.l (.r 0 2 0 q.2.length)),(8,.l (dB a0)),(9,.l (iA v1)),(10,.l (iA q.1))],[some ⟨59,2,true,none,lvs (Ah q.2)⟩],29,gh,ls⟩:St)) (N:=fun gh ls=>(xP 0 (cx:=cx) (fun q=>(⟨[(5,.l (.r 0 2 0 q.length))],[some ⟨59,2,true,none,lvs (Ah q)⟩],29,gh,ls⟩:St)))) ?_ noX ?_ ?_
 ·refine W.nilRow 5 59 2 0 (by simp) rfl rfl ?_;exact WM [0] hz
 ·clear h;intro y2 y4 h
  obtain⟨v5,e5,h⟩:=ltE h;refine AW.step (by simp[← e5];intros;rfl) ?_;apply AW.seq;cases v5 with
  |true=>
   replace h:=iT h;refine CT ?_;apply AW.skip;try simp only[nm]
   obtain⟨y6,g6,h⟩:=bnE h;refine zD (p:=fun gh ls=>(nP (cx:=cx) (fun q=>(⟨[(1,.l (iA a1)),(5,.l (.r 0 2 0 q.length)),(8,.l (dB a0)),(9,.l (iA v1)),(10,.l (iA y2.1))],[some ⟨59,2,true,none,lvs (Ah q)⟩],29,gh,ls⟩:St))) y6) ?_ ?_
   ·replace h:=g6;clear g6
    apply AW.block;obtain⟨v7,e7,h⟩:=bnE h;refine AW.step (by simp[Aa e7];intros;rfl) ?_;obtain⟨v8,e8,h⟩:=ltE h;refine AW.step (by simp[← e8];intros;rfl) ?_;cases v8 with
    |true=>
     replace h:=iT h;refine CT ?_;obtain⟨e9,h⟩:=chkE h;obtain⟨v10,e10,h⟩:=ltE h;apply AW.last
     ·simp[← At,← e10,Az e10];intros;refine Bo ?_;try simp[← At,← e10,Az e10]
      intros;refine Bv (acc:=Ah y2.2) (ys:=Ah [(⟨v7.frm,v7.to⟩:Span)]) (cap:=none) (k:=1) Dg Df (by simp) (by simp[Ah,lvs]) (Bh _) (by simp) (by simp) (by first|(simp;done)|simpa using (Bm e9).1) ?_;try simp[← At,← e10,Az e10]
      intros;rfl
     obtain rfl:=oi h;refine nP_i ?_;refine zK [some 3] hz (by decide) ?_ ?_ rfl;all_goals first|(simp[Ab,Af,pickOb,BF];done)|rfl
    |false=>
     replace h:=iF h;refine CF ?_;apply AW.skip;try simp only[nm]
     obtain rfl:=oi h;exact nP_i (WM [0] hz)
   ·rintro e s⟨rfl,hw⟩;refine⟨_,hw,?_⟩;try simp only[nm]
    obtain⟨v11,e11,h⟩:=ltE h;refine AW.last (by simp[← e11];intros;rfl) ?_;obtain rfl:=oi h;exact nP_i (WM [0] hz)
  |false=>
   replace h:=iF h;refine CF ?_;apply AW.exit;try simp only[nm]
   obtain rfl:=oi h;refine xP_i ?_;exact WM [0] hz
 ·rintro e s⟨rfl,hw⟩;refine⟨_,hw,?_⟩;try simp only[nm]
  obtain⟨e12,h⟩:=chkE h;refine FZ 0 59 2 (Bh y3) e12 ?_;obtain⟨v13,e13,h⟩:=bnE h;apply AW.step
  ·simp;intros;refine Aj BR (B2 e13) rfl ⟨.same rfl,trivial⟩ ?_;try simp
   intros;rfl
  obtain rfl:=oi h;apply AW.ret;exact LP hz
theorem Gl:Enters Try.prog 23:=enters Try.func23 (by kernel_rfl) rfl
end Go.Proofs.Ytenemndpignaoaa
