/- Part 5 of the proof. -/
import Derived.Test.YtenemndpignaoaaPc4
set_option linter.unusedVariables false
set_option linter.unusedSimpArgs false
set_option linter.constructorNameAsVariable false
set_option maxRecDepth 8000
set_option maxHeartbeats 8000000
namespace Go.Proofs.Ytenemndpignaoaa
open Go Go.RowKit
def EQ (n:Nat) (a0:List Claim) (a1:List ApiStep):Option (List Claim) :=
bn (iter n (fun (y1:Int×Int) =>
lt (lenI a0) fun v4 =>
lt (ltI y1.2 v4) fun v5 =>
ite' v5 (bn (nth a0 y1.2) fun v6 =>
lt (maxI y1.1 v6.epoch) fun v7 =>
lt (addI .i64 y1.2 1) fun v8 =>
some (.inl (v7,v8))) (some (.inr y1.1))) (0,0)) fun (y2:Int) =>
bn (iter n (fun (y9:List Claim×Int) =>
lt (lenI a1) fun v12 =>
lt (ltI y9.2 v12) fun v13 =>
ite' v13 (bn (nth a1 y9.2) fun v14 =>
lt (addI .i64 y2 1) fun v15 =>
bn (Cf n y9.1 [(⟨v14.slot,v14.slot⟩:Span)] v14.to v15) fun v16 =>
lt (addI .i64 y9.2 1) fun v17 =>
some (.inl (v16,v17))) (some (.inr y9.1))) (a0,0)) fun (y10:List Claim) =>
some y10
def Cn (n:Nat) :Option Bool :=
chk (room 1 1) <|
bn (bn (BS n [(⟨0,3,0,1⟩:Claim)] [0]) fun v3 =>
lt (lenI v3) fun v4 =>
lt (eqI v4 0) fun v5 =>
ite' v5 (bn (BS n [(⟨0,3,0,1⟩:Claim)] [0,1]) fun v6 =>
lt (lenI v6) fun v7 =>
lt (eqI v7 2) fun v8 =>
some (v8)) (some (false))) fun (y2:Bool) =>
some y2
theorem E4 {n:Nat}  {r:Bool} (h:Cn n =some r):Sound Try.prog 8 [] [] (.l (bA r)) []:=by
 unfold Cn at h;refine SO 16 Try.func8 fun cx hG (hz:cx.nb=0)=>?_;simp only[it];refine ST ?_;apply AW.step
 ·simp;intros;refine Bo ?_;try simp
  intros;rfl
 obtain⟨e1,h⟩:=chkE h;refine AW.frzRow 0 (ty:=31) (cap:=none) (sz:=4) (es:=As [(⟨0,3,0,1⟩:Claim)]) (by simp[CW]) (by omega) (Ce _) (by first|exact (Bn e1).2|simpa using (Bn e1).2|simp) (by simp[Tm.frz,AV.frz,LV.frz];rfl) (by simp[Ob.frz,LV.frz];rfl) rfl ?_;obtain⟨y2,g2,h⟩:=bnE h;refine zD (p:=fun gh ls=>(nP (cx:=cx) (fun q=>(⟨[(0,.l (bA q))],[],16,gh,ls⟩:St))) y2) ?_ ?_
 ·replace h:=g2;clear g2
  obtain⟨v3,e3,v4,e4,v5,e5,h⟩:=obll h;cases v5 with
  |true=>
   replace h:=iT h;obtain⟨v6,e6,v7,e7,v8,e8,h⟩:=obll h;apply AW.last
   ·simp[Al e4,← e5,Al e7,← e8];intros;refine D1 (es:=encI [0]) (by simp[encI,lvs,All2]) (CD _) (by omega) (by simp) ?_;try simp[Al e4,← e5,Al e7,← e8]
    intros;refine Aj Db (Du e3) rfl ⟨.same rfl,.same rfl,trivial⟩ ?_;try simp[Al e4,← e5,Al e7,← e8]
    intros;refine D1 (es:=encI [0,1]) (by simp[encI,lvs,All2]) (CD _) (by omega) (by simp) ?_;try simp[Al e4,← e5,Al e7,← e8]
    intros;refine Aj Db (Du e6) rfl ⟨.same rfl,.same rfl,trivial⟩ ?_;try simp[Al e4,← e5,Al e7,← e8]
    intros;rfl
   obtain rfl:=oi h;exact nP_i (WM [] hz)
  |false=>
   replace h:=iF h;apply AW.last
   ·simp[Al e4,← e5];intros;refine D1 (es:=encI [0]) (by simp[encI,lvs,All2]) (CD _) (by omega) (by simp) ?_;try simp[Al e4,← e5]
    intros;refine Aj Db (Du e3) rfl ⟨.same rfl,.same rfl,trivial⟩ ?_;try simp[Al e4,← e5]
    intros;rfl
   obtain rfl:=oi h;exact nP_i (WM [] hz)
 ·rintro e s⟨rfl,hw⟩;refine⟨_,hw,?_⟩;try simp only[nm]
  obtain rfl:=oi h;apply AW.ret;exact LP hz
theorem ES:Enters Try.prog 8:=enters Try.func8 (by kernel_rfl) rfl
def Eb (n:Nat) (a0:List Int):Option (List Span) :=
bn (iter n (fun (y1:Int×List Span) =>
lt (addI .i64 y1.1 1) fun v4 =>
lt (lenI a0) fun v5 =>
lt (ltI v4 v5) fun v6 =>
ite' v6 (bn (nth a0 y1.1) fun v7 =>
lt (cvI .i64 v7) fun v8 =>
bn (remI .i64 v8 16384) fun v9 =>
bn (nth a0 v4) fun v10 =>
lt (cvI .i64 v10) fun v11 =>
bn (remI .i64 v11 300) fun v12 =>
lt (addI .i64 v9 v12) fun v13 =>
lt (minI 16383 v13) fun v14 =>
chk (room (y1.2.length+1) 16) <|
lt (y1.2++[(⟨v9,v14⟩:Span)]) fun v16 =>
lt (addI .i64 y1.1 2) fun v17 =>
some (.inl (v17,v16))) (some (.inr y1.2))) (0,[])) fun (y2:List Span) =>
chk (room y2.length 1) <|
some y2
theorem JH {n:Nat} {a0:List Int} {r:List Span} (h:Eb n a0=some r):Sound Try.prog 29 [.l (.d false 1 (BV a0))] [] (.l (dA r)) []:=by
 unfold Eb at h;refine SO 35 Try.func29 fun cx hG (hz:cx.nb=0)=>?_;simp only[it];refine ST ?_;refine ST ?_;apply AW.seq;refine ST ?_;apply AW.block;obtain⟨y2,g2,h⟩:=bnE h;refine zE g2 (mk:=fun gh ls q=>(⟨[(0,.l (.d false 1 (BV a0))),(3,.l (.r 0 2 0 q.2.length)),(4,.l (iA q.1))],[some ⟨59,2,true,none,lvs (Ah q.2)⟩],35,gh,ls⟩:St)) (N:=fun gh ls=>(xP 0 (cx:=cx) (fun q=>(⟨[(3,.l (.r 0 2 0 q.length))],[some ⟨59,2,true,none,lvs (Ah q)⟩],35,gh,ls⟩:St)))) ?_ noX ?_ ?_
 ·refine W.nilRow 3 59 2 0 (by simp) rfl rfl ?_;exact WM [0] hz
 ·clear h;intro y1 y3 h
  apply AW.seq;obtain⟨v4,e4,v5,e5,h⟩:=oll h;obtain⟨v6,e6,h⟩:=ltE h;refine AW.step (by simp[← e4,Al e5,← e6];intros;rfl) ?_;cases v6 with
  |true=>
   replace h:=iT h;refine CT ?_;apply AW.skip;try simp only[nm]
   apply AW.seq;apply AW.block;obtain⟨v7,e7,v8,e8,h⟩:=obl h;obtain⟨v9,e9,h⟩:=bnE h;refine AW.step (by simp[Aa e7,← e8,e9];intros;rfl) ?_;obtain⟨v10,e10,v11,e11,h⟩:=obl h;obtain⟨v12,e12,v13,e13,v14,e14,h⟩:=obll h;obtain⟨e15,v16,e16,h⟩:=ocl h;apply AW.last
   ·simp[← e4,Aa e10,← e11,e12,← e13,← e14,← At,← e16,Ay e16];intros;refine Bo ?_;try simp[← e4,Aa e10,← e11,e12,← e13,← e14,← At,← e16,Ay e16]
    intros;refine Bt (acc:=Ah y1.2) (ys:=Ah [(⟨v9,v14⟩:Span)]) (cap:=none) (k:=1) C5 C4 (by simp) (by simp[Ah,lvs]) (A7 _) (by simp) (by simp) (by first|(simp;done)|simpa using (Bn e15).1) ?_;try simp[← e4,Aa e10,← e11,e12,← e13,← e14,← At,← e16,Ay e16]
    intros;rfl
   try simp only[nm]
   obtain⟨v17,e17,h⟩:=ltE h;refine AW.last (by simp[← e17];intros;rfl) ?_;obtain rfl:=oi h;refine nP_i ?_;refine zK [some 2] hz (by decide) ?_ ?_ rfl;all_goals first|(simp[Ab,Ae,pickOb,BA];done)|rfl
  |false=>
   replace h:=iF h;refine CF ?_;apply AW.exit;try simp only[nm]
   obtain rfl:=oi h;refine xP_i ?_;exact WM [0] hz
 ·rintro e s⟨rfl,hw⟩;refine⟨_,hw,?_⟩;try simp only[nm]
  refine ST ?_;obtain⟨e18,h⟩:=chkE h;refine FZ 0 59 2 (A7 y2) e18 ?_;obtain rfl:=oi h;apply AW.ret;exact LP hz
theorem Jb:Enters Try.prog 29:=enters Try.func29 (by kernel_rfl) rfl
def DP (n:Nat) (a0:List Int):Option (List Claim) :=
bn (iter n (fun (y1:List Claim×Int) =>
bn (lt (addI .i64 y1.2 3) fun v5 =>
lt (lenI a0) fun v6 =>
lt (ltI v5 v6) fun v7 =>
ite' v7 (lt (ltI y1.2 80) fun v8 =>
some (v8)) (some (false))) fun (y4:Bool) =>
lt (y4) fun v9 =>
ite' v9 (lt (addI .i64 y1.2 2) fun v10 =>
bn (seglh a0 y1.2 v10) fun v11 =>
bn (Eb n v11) fun v13 =>
bn (nth a0 v10) fun v14 =>
lt (cvI .i64 v14) fun v15 =>
bn (remI .i64 v15 4) fun v16 =>
lt (addI .i64 y1.2 3) fun v17 =>
bn (nth a0 v17) fun v18 =>
lt (cvI .i64 v18) fun v19 =>
bn (remI .i64 v19 6) fun v20 =>
lt (addI .i64 1 v20) fun v21 =>
bn (Cf n y1.1 v13 v16 v21) fun v22 =>
lt (addI .i64 y1.2 4) fun v23 =>
some (.inl (v22,v23))) (some (.inr y1.1))) ([],0)) fun (y2:List Claim) =>
some y2
theorem Jc {n:Nat} {a0:List Int} {r:List Claim} (h:DP n a0=some r):Sound Try.prog 15 [.l (.d false 1 (BV a0))] [] (.l (dB r)) []:=by
 unfold DP at h;refine SO 40 Try.func15 fun cx hG (hz:cx.nb=0)=>?_;simp only[it];refine ST ?_;refine ST ?_;apply AW.seq;refine ST ?_;apply AW.block;obtain⟨y2,g2,h⟩:=bnE h;refine zE g2 (mk:=fun gh ls q=>(⟨[(0,.l (.d false 1 (BV a0))),(3,.l (dB q.1)),(4,.l (iA q.2))],[],40,gh,ls⟩:St)) (N:=fun gh ls=>(xP 0 (cx:=cx) (fun q=>(⟨[(3,.l (dB q))],[],40,gh,ls⟩:St)))) ?_ noX ?_ ?_
 ·refine W.nilD 3 4 (by simp) ?_;exact WM [] hz
 ·clear h;intro y1 y3 h
  apply AW.seq;obtain⟨y4,g4,h⟩:=bnE h;refine zD (p:=fun gh ls=>(nP (cx:=cx) (fun q=>(⟨[(0,.l (.d false 1 (BV a0))),(3,.l (dB y1.1)),(4,.l (iA y1.2)),(13,.l (bA q))],[],40,gh,ls⟩:St))) y4) ?_ ?_
  ·replace h:=g4;clear g4
   obtain⟨v5,e5,v6,e6,h⟩:=oll h;obtain⟨v7,e7,h⟩:=ltE h;cases v7 with
   |true=>
    replace h:=iT h;obtain⟨v8,e8,h⟩:=ltE h;refine AW.last (by simp[← e5,Al e6,← e7,← e8];intros;rfl) ?_;obtain rfl:=oi h;exact nP_i (WM [] hz)
   |false=>
    replace h:=iF h;refine AW.last (by simp[← e5,Al e6,← e7];intros;rfl) ?_;obtain rfl:=oi h;exact nP_i (WM [] hz)
  ·rintro e s⟨rfl,hw⟩;refine⟨_,hw,?_⟩;try simp only[nm]
   obtain⟨v9,e9,h⟩:=ltE h;rw[← e9];cases v9 with
   |true=>
    replace h:=iT h;refine CT ?_;apply AW.skip;try simp only[nm]
    apply AW.seq;apply AW.block;obtain⟨v10,e10,v11,e11,h⟩:=olb h;have f12:=Hw e11;try simp[← e10] at f12
    obtain⟨v13,e13,h⟩:=bnE h;obtain⟨v14,e14,v15,e15,h⟩:=obl h;obtain⟨v16,e16,v17,e17,h⟩:=obl h;obtain⟨v18,e18,v19,e19,h⟩:=obl h;obtain⟨v20,e20,v21,e21,h⟩:=obl h;obtain⟨v22,e22,h⟩:=bnE h;apply zG (V:=[_,_,_,_,_,_,_,_,_,_,_,_,_,_,_,_,_,_,_,_,_,_]) mixed [⟨[0],[],[(3,none)],false⟩,⟨[0],[],[(0,none)],false⟩,⟨[0],[],[(4,none)],false⟩,⟨[0],[],[(4,none)],false⟩,⟨[0],[3],[(19,some 3)],false⟩,⟨[0],[1,2,3,4],[(17,some 1),(18,some 2),(20,some 4)],false⟩,⟨[0],[1,2,3,4,5],[(21,some 5)],false⟩,⟨[0],[],[(0,none)],false⟩,⟨[0],[],[(4,none)],false⟩,⟨[0],[8],[(24,some 8)],false⟩,⟨[0],[7,8,9],[(23,some 7),(25,some 9)],false⟩,⟨[0],[7,8,9,10],[(26,some 10)],false⟩,⟨[0],[7,8,9,10,11],[(27,some 11)],false⟩,⟨[0],[7,8,9,10,11,12],[(28,some 12)],false⟩,⟨[0],[],[(0,none)],false⟩,⟨[0],[],[(4,none)],false⟩,⟨[0],[15],[(31,some 15)],false⟩,⟨[0],[14,15,16],[(30,some 14),(32,some 16)],false⟩,⟨[0],[14,15,16,17],[(33,some 17)],false⟩,⟨[0],[14,15,16,17,18],[(34,some 18)],false⟩,⟨[0],[14,15,16,17,18,19],[(35,some 19)],false⟩,⟨[0],[14,15,16,17,18,19,20],[(36,some 20)],false⟩,⟨[],[0,1,2,3,4,5,6,7,8,9,10,11,12,13,14,15,16,17,18,19,20,21],[],false⟩,⟨[],[0,1,2,3,4,5,6,7,8,9,10,11,12,13,14,15,16,17,18,19,20,21,22],[],false⟩] 22 (by kernel_rfl) (by kernel_rfl)
    ·refine⟨?_,?_,?_,?_,?_,?_,?_,?_,?_,?_,?_,?_,?_,?_,?_,?_,?_,?_,?_,?_,?_,?_,trivial⟩;iterate 6 (· intro tm hr;simp[AllL,rdV] at hr;simp[hr,← e10,f12,Aa e14,← e15,e16,← e17,Aa e18,← e19,e20,← e21];intros;exact KA)
     ·intro tm hr;simp[AllL,rdV] at hr;simp[hr,← e10,f12,Aa e14,← e15,e16,← e17,Aa e18,← e19,e20,← e21];intros;refine Aj Jb (JH e13) rfl ⟨.same rfl,trivial⟩ ?_;try simp[← e10,f12,Aa e14,← e15,e16,← e17,Aa e18,← e19,e20,← e21]
      intros;exact KA
     iterate 15 (· intro tm hr;simp[AllL,rdV] at hr;simp[hr,← e10,f12,Aa e14,← e15,e16,← e17,Aa e18,← e19,e20,← e21];intros;exact KA)
    ·rfl
    ·simp[tmD,putD,← e10,f12,Aa e14,← e15,e16,← e17,Aa e18,← e19,e20,← e21];rfl
    ·simp[← e10,f12,Aa e14,← e15,e16,← e17,Aa e18,← e19,e20,← e21];intros;refine Aj Iw (Ja e22) rfl ⟨.same rfl,.same rfl,.same rfl,.same rfl,trivial⟩ ?_;try simp[← e10,f12,Aa e14,← e15,e16,← e17,Aa e18,← e19,e20,← e21]
     intros;rfl
    try simp only[nm]
    obtain⟨v23,e23,h⟩:=ltE h;refine AW.last (by simp[← e23];intros;rfl) ?_;obtain rfl:=oi h;exact nP_i (WM [] hz)
   |false=>
    replace h:=iF h;refine CF ?_;apply AW.exit;try simp only[nm]
    obtain rfl:=oi h;refine xP_i ?_;exact WM [] hz
 ·rintro e s⟨rfl,hw⟩;refine⟨_,hw,?_⟩;try simp only[nm]
  refine ST ?_;obtain rfl:=oi h;apply AW.ret;exact LP hz
theorem Ix:Enters Try.prog 15:=enters Try.func15 (by kernel_rfl) rfl
def Cw (n:Nat) (a0:List Span) (a1:List Span):Option Bool :=
lt (lenI a0) fun v1 =>
lt (lenI a1) fun v2 =>
lt (neI v1 v2) fun v3 =>
ite' v3 (some false) (bn (iter n (fun (y4:Int) =>
lt (lenI a0) fun v7 =>
lt (ltI y4 v7) fun v8 =>
ite' v8 (bn (nth a0 y4) fun v9 =>
bn (nth a1 y4) fun v10 =>
lt (notB (andB (eqI v9.frm v10.frm) (andB (eqI v9.to v10.to) true))) fun v11 =>
ite' v11 (some (.inr (.inr false))) (lt (addI .i64 y4 1) fun v12 =>
some (.inl v12))) (some (.inr (.inl ())))) 0) fun (y5:Unit ⊕ Bool) =>
sm y5 (fun y13=>some true) (fun y14=>some y14))
theorem GX {n:Nat} {a0:List Span} {a1:List Span} {r:Bool} (h:Cw n a0 a1=some r):Sound Try.prog 19 [.l (dA a0),.l (dA a1)] [] (.l (bA r)) []:=by
 unfold Cw at h;refine SO 26 Try.func19 fun cx hG (hz:cx.nb=0)=>?_;simp only[it];refine ST ?_;apply AW.seq;obtain⟨v1,e1,v2,e2,h⟩:=oll h;obtain⟨v3,e3,h⟩:=ltE h;refine AW.step (by simp[Al e1,Al e2,← e3];intros;rfl) ?_;cases v3 with
 |true=>
  replace h:=iT h;refine CT ?_;refine ST ?_;obtain rfl:=oi h;apply AW.ret;exact LP hz
 |false=>
  replace h:=iF h;refine CF ?_;apply AW.skip;try simp only[nm]
  apply AW.seq;refine ST ?_;apply AW.block;obtain⟨y5,g5,h⟩:=bnE h;refine zE g5 (mk:=fun gh ls q=>(⟨[(0,.l (dA a0)),(1,.l (dA a1)),(5,.l (iA q))],[],26,gh,ls⟩:St)) (N:=fun gh ls=>(sp (xP 0 (cx:=cx) (fun _=>(⟨[],[],26,gh,ls⟩:St))) (rP (cx:=cx) (P:=Try.prog) Try.f19 (fun q=>.l (bA q)) (fun q=>[])))) ?_ (noS noX noR) ?_ ?_
  ·exact WM [] hz
  ·clear h;intro y4 y6 h
   apply AW.seq;obtain⟨v7,e7,v8,e8,h⟩:=oll h;refine AW.step (by simp[Al e7,← e8];intros;rfl) ?_;cases v8 with
   |true=>
    replace h:=iT h;refine CT ?_;apply AW.skip;try simp only[nm]
    apply AW.seq;apply AW.block;obtain⟨v9,e9,h⟩:=bnE h;obtain⟨v10,e10,v11,e11,h⟩:=obl h;apply zI (V:=[_,_,_,_,_,_,_,_]) mixed [⟨[0],[],[(0,none)],false⟩,⟨[0],[],[(5,none)],false⟩,⟨[0],[0,1],[(17,some 0),(18,some 1)],false⟩,⟨[0],[0,1,2],[(19,some 2)],false⟩,⟨[0],[],[(1,none)],false⟩,⟨[0],[],[(5,none)],false⟩,⟨[0],[4,5],[(21,some 4),(22,some 5)],false⟩,⟨[0],[4,5,6],[(23,some 6)],false⟩,⟨[],[0,1,2,3,4,5,6,7],[],false⟩] 8 (by kernel_rfl) (by kernel_rfl)
    ·refine⟨?_,?_,?_,?_,?_,?_,?_,?_,trivial⟩;iterate 8 (· intro tm hr;simp[AllL,rdV] at hr;simp[hr,Aa e9,Aa e10,← e11];intros;exact KA)
    ·rfl
    ·simp[tmD,putD,Aa e9,Aa e10,← e11];rfl
    ·simp[Aa e9,Aa e10,← e11];intros;rfl
    cases v11 with
    |true=>
     replace h:=iT h;refine CT ?_;refine ST ?_;obtain rfl:=oi h;apply AW.ret;try simp only[nm]
     refine rP_i ?_;exact LP hz
    |false=>
     replace h:=iF h;refine CF ?_;apply AW.skip;try simp only[nm]
     obtain⟨v12,e12,h⟩:=ltE h;refine AW.last (by simp[← e12];intros;rfl) ?_;obtain rfl:=oi h;exact nP_i (WM [] hz)
   |false=>
    replace h:=iF h;refine CF ?_;apply AW.exit;try simp only[nm]
    obtain rfl:=oi h;try simp only[sp_l,sp_r]
    refine xP_i ?_;exact WM [] hz
  ·rintro e s hp;rcases y5 with y13|y14
   ·replace h:=smL h;obtain⟨rfl,hw⟩:=hp;refine⟨_,hw,?_⟩;try simp only[nm]
    refine ST ?_;obtain rfl:=oi h;apply AW.ret;exact LP hz
   ·replace h:=smR h;obtain⟨rfl,hl⟩:=hp;refine⟨_,Weak.refl _,?_⟩;obtain rfl:=oi h;exact hl
theorem GG:Enters Try.prog 19:=enters Try.func19 (by kernel_rfl) rfl
def Cy (n:Nat) (a0:List Int) (a1:Int):Option Bool :=
lt (lenI a0) fun v1 =>
lt (gtI v1 60) fun v2 =>
ite' v2 (bn (Cn n) fun v3 =>
some v3) (bn (DP n a0) fun v4 =>
lt (cvI .i64 a1) fun v5 =>
bn (remI .i64 v5 4) fun v6 =>
lt (addI .i64 1 v6) fun v7 =>
bn (segh [0,1,2,3] v7) fun v8 =>
bn (BS n v4 v8) fun v10 =>
lt (lenI v10) fun v11 =>
lt (gtI v11 64) fun v12 =>
ite' v12 (some false) (bn (iter n (fun (y13:List Claim×Int) =>
lt (lenI v10) fun v16 =>
lt (ltI y13.2 v16) fun v17 =>
ite' v17 (bn (nth v10 y13.2) fun v18 =>
bn (Bv n y13.1 v18.frm) fun v19 =>
bn (BQ n v19) fun v20 =>
bn (Bv n y13.1 v18.to) fun v21 =>
bn (BQ n v21) fun v22 =>
bn (CN n y13.1 v18.slot) fun v23 =>
bn (lt (eqI v18.frm v18.to) fun v25 =>
ite' v25 (some (true)) (lt (neI v23.1 v18.frm) fun v26 =>
ite' v26 (some (true)) (lt (addI .i64 v22 1) fun v27 =>
lt (leI v20 v27) fun v28 =>
ite' v28 (some (true)) (lt (ltI v18.to 0) fun v29 =>
ite' v29 (some (true)) (lt (lenI v8) fun v30 =>
lt (geI v18.to v30) fun v31 =>
ite' v31 (some (true)) (lt (geI v18.frm v30) fun v32 =>
some (v32))))))) fun (y24:Bool) =>
lt (y24) fun v33 =>
ite' v33 (some (.inr (.inr false))) (bn (nth v10 y13.2) fun v34 =>
bn (B0 n y13.1 [v34]) fun v35 =>
lt (addI .i64 y13.2 1) fun v36 =>
some (.inl (v35,v36)))) (some (.inr (.inl y13.1)))) (v4,0)) fun (y14:(List Claim) ⊕ Bool) =>
sm y14 (fun y37=>bn (iter n (fun (y39:Int×Int×Int) =>
lt (lenI v8) fun v42 =>
lt (ltI y39.2.2 v42) fun v43 =>
ite' v43 (bn (Bv n y37 y39.2.2) fun v44 =>
bn (BQ n v44) fun v45 =>
lt (maxI y39.1 v45) fun v46 =>
lt (minI y39.2.1 v45) fun v47 =>
lt (addI .i64 y39.2.2 1) fun v48 =>
some (.inl (v46,v47,v48))) (some (.inr (y39.1,y39.2.1)))) (0,16384,0)) fun (y40:Int×Int) =>
lt (lenI v8) fun v49 =>
bn (iter n (fun (y50:Int) =>
lt (ltI y50 4) fun v53 =>
ite' v53 (bn (Bv n y37 y50) fun v54 =>
bn (Bv n v4 y50) fun v55 =>
bn (Cw n v54 v55) fun v56 =>
lt (notB v56) fun v57 =>
ite' v57 (some (.inr (.inr false))) (lt (addI .i64 y50 1) fun v58 =>
some (.inl v58))) (some (.inr (.inl ())))) v49) fun (y51:Unit ⊕ Bool) =>
sm y51 (fun y59=>bn (lt (lenI v10) fun v62 =>
lt (eqI v62 64) fun v63 =>
ite' v63 (bn (Cn n) fun v64 =>
some (v64)) (lt (addI .i64 y40.2 1) fun v65 =>
lt (leI y40.1 v65) fun v66 =>
ite' v66 (bn (Cn n) fun v67 =>
some (v67)) (some (false)))) fun (y61:Bool) =>
some y61) (fun y60=>some y60)) (fun y38=>some y38)))
def DX5t1:List DI:=[⟨[0],[],[(7,none)],false⟩,⟨[0],[],[(9,none)],false⟩,⟨[0],[0,1],[(70,some 0),(71,some 1)],false⟩,⟨[0],[0,1,2],[(72,some 2)],false⟩,⟨[0],[0,1,2,3],[(73,some 3)],false⟩,⟨[0],[],[(7,none)],false⟩,⟨[0],[],[(9,none)],false⟩,⟨[0],[5,6],[(75,some 5),(76,some 6)],false⟩,⟨[0],[5,6,7],[(77,some 7)],false⟩,⟨[0],[5,6,7,8],[(78,some 8)],false⟩,⟨[0],[0,1,2,3,4,5,6,7,8,9],[(74,some 4),(79,some 9)],false⟩,⟨[0],[0,1,2,3,4,5,6,7,8,9,10],[(80,some 10)],false⟩,⟨[0],[0,1,2,3,4,5,6,7,8,9,10,11],[(12,none),(81,some 11)],false⟩,⟨[0],[0,1,2,3,4,5,6,7,8,9,10,11],[(7,none),(81,some 11)],false⟩,⟨[0],[0,1,2,3,4,5,6,7,8,9,10,11],[(9,none),(81,some 11)],false⟩,⟨[0],[0,1,2,3,4,5,6,7,8,9,10,11,13,14],[(81,some 11),(83,some 13),(84,some 14)],false⟩,⟨[0],[0,1,2,3,4,5,6,7,8,9,10,11,13,14,15],[(81,some 11),(85,some 15)],false⟩,⟨[0],[0,1,2,3,4,5,6,7,8,9,10,11,13,14,15,16],[(81,some 11),(86,some 16)],false⟩,⟨[0],[0,1,2,3,4,5,6,7,8,9,10,11,12,13,14,15,16,17],[(81,some 11),(82,some 12),(87,some 17)],false⟩,⟨[0],[0,1,2,3,4,5,6,7,8,9,10,11,12,13,14,15,16,17,18],[(81,some 11),(88,some 18)],false⟩,⟨[0],[0,1,2,3,4,5,6,7,8,9,10,11,12,13,14,15,16,17,18,19],[(89,some 19)],false⟩,⟨[0],[0,1,2,3,4,5,6,7,8,9,10,11,12,13,14,15,16,17,18,19,20],[(10,none),(90,some 20)],false⟩,⟨[0],[0,1,2,3,4,5,6,7,8,9,10,11,12,13,14,15,16,17,18,19,20],[(11,none),(90,some 20)],false⟩,⟨[0],[0,1,2,3,4,5,6,7,8,9,10,11,12,13,14,15,16,17,18,19,20,22],[(90,some 20),(92,some 22)],false⟩,⟨[0],[0,1,2,3,4,5,6,7,8,9,10,11,12,13,14,15,16,17,18,19,20,21,22,23],[(90,some 20),(91,some 21),(93,some 23)],false⟩,⟨[0],[0,1,2,3,4,5,6,7,8,9,10,11,12,13,14,15,16,17,18,19,20,21,22,23,24],[(90,some 20),(94,some 24)],false⟩,⟨[0],[0,1,2,3,4,5,6,7,8,9,10,11,12,13,14,15,16,17,18,19,20,21,22,23,24,25],[(95,some 25)],false⟩,⟨[0],[0,1,2,3,4,5,6,7,8,9,10,11,12,13,14,15,16,17,18,19,20,21,22,23,24,25,26],[(7,none),(96,some 26)],false⟩,⟨[0],[0,1,2,3,4,5,6,7,8,9,10,11,12,13,14,15,16,17,18,19,20,21,22,23,24,25,26],[(9,none),(96,some 26)],false⟩,⟨[0],[0,1,2,3,4,5,6,7,8,9,10,11,12,13,14,15,16,17,18,19,20,21,22,23,24,25,26,27,28],[(96,some 26),(97,some 27),(98,some 28)],false⟩,⟨[0],[0,1,2,3,4,5,6,7,8,9,10,11,12,13,14,15,16,17,18,19,20,21,22,23,24,25,26,27,28,29],[(96,some 26),(99,some 29)],false⟩,⟨[0],[0,1,2,3,4,5,6,7,8,9,10,11,12,13,14,15,16,17,18,19,20,21,22,23,24,25,26,27,28,29,30],[(96,some 26),(100,some 30)],false⟩,⟨[0],[0,1,2,3,4,5,6,7,8,9,10,11,12,13,14,15,16,17,18,19,20,21,22,23,24,25,26,27,28,29,30,31],[(96,some 26),(101,some 31)],false⟩,⟨[0],[0,1,2,3,4,5,6,7,8,9,10,11,12,13,14,15,16,17,18,19,20,21,22,23,24,25,26,27,28,29,30,31,32],[(96,some 26),(102,some 32)],false⟩,⟨[0],[0,1,2,3,4,5,6,7,8,9,10,11,12,13,14,15,16,17,18,19,20,21,22,23,24,25,26,27,28,29,30,31,32,33],[(103,some 33)],false⟩,⟨[0],[0,1,2,3,4,5,6,7,8,9,10,11,12,13,14,15,16,17,18,19,20,21,22,23,24,25,26,27,28,29,30,31,32,33,34],[(7,none),(104,some 34)],false⟩,⟨[0],[0,1,2,3,4,5,6,7,8,9,10,11,12,13,14,15,16,17,18,19,20,21,22,23,24,25,26,27,28,29,30,31,32,33,34],[(9,none),(104,some 34)],false⟩,⟨[0],[0,1,2,3,4,5,6,7,8,9,10,11,12,13,14,15,16,17,18,19,20,21,22,23,24,25,26,27,28,29,30,31,32,33,34,35,36],[(104,some 34),(105,some 35),(106,some 36)],false⟩,⟨[0],[0,1,2,3,4,5,6,7,8,9,10,11,12,13,14,15,16,17,18,19,20,21,22,23,24,25,26,27,28,29,30,31,32,33,34,35,36,37],[(104,some 34),(107,some 37)],false⟩,⟨[0],[0,1,2,3,4,5,6,7,8,9,10,11,12,13,14,15,16,17,18,19,20,21,22,23,24,25,26,27,28,29,30,31,32,33,34,35,36,37,38],[(104,some 34),(108,some 38)],false⟩,⟨[0],[0,1,2,3,4,5,6,7,8,9,10,11,12,13,14,15,16,17,18,19,20,21,22,23,24,25,26,27,28,29,30,31,32,33,34],[(6,none),(104,some 34)],false⟩,⟨[0],[0,1,2,3,4,5,6,7,8,9,10,11,12,13,14,15,16,17,18,19,20,21,22,23,24,25,26,27,28,29,30,31,32,33,34,40],[(104,some 34),(110,some 40)],false⟩,⟨[0],[0,1,2,3,4,5,6,7,8,9,10,11,12,13,14,15,16,17,18,19,20,21,22,23,24,25,26,27,28,29,30,31,32,33,34,35,36,37,38,39,40,41],[(104,some 34),(109,some 39),(111,some 41)],false⟩,⟨[0],[0,1,2,3,4,5,6,7,8,9,10,11,12,13,14,15,16,17,18,19,20,21,22,23,24,25,26,27,28,29,30,31,32,33,34,35,36,37,38,39,40,41,42],[(104,some 34),(112,some 42)],false⟩,⟨[0],[0,1,2,3,4,5,6,7,8,9,10,11,12,13,14,15,16,17,18,19,20,21,22,23,24,25,26,27,28,29,30,31,32,33,34,35,36,37,38,39,40,41,42,43],[(113,some 43)],false⟩,⟨[0],[0,1,2,3,4,5,6,7,8,9,10,11,12,13,14,15,16,17,18,19,20,21,22,23,24,25,26,27,28,29,30,31,32,33,34,35,36,37,38,39,40,41,42,43,44],[(7,none),(114,some 44)],false⟩,⟨[0],[0,1,2,3,4,5,6,7,8,9,10,11,12,13,14,15,16,17,18,19,20,21,22,23,24,25,26,27,28,29,30,31,32,33,34,35,36,37,38,39,40,41,42,43,44],[(9,none),(114,some 44)],false⟩,⟨[0],[0,1,2,3,4,5,6,7,8,9,10,11,12,13,14,15,16,17,18,19,20,21,22,23,24,25,26,27,28,29,30,31,32,33,34,35,36,37,38,39,40,41,42,43,44,45,46],[(114,some 44),(115,some 45),(116,some 46)],false⟩,⟨[0],[0,1,2,3,4,5,6,7,8,9,10,11,12,13,14,15,16,17,18,19,20,21,22,23,24,25,26,27,28,29,30,31,32,33,34,35,36,37,38,39,40,41,42,43,44,45,46,47],[(114,some 44),(117,some 47)],false⟩,⟨[0],[0,1,2,3,4,5,6,7,8,9,10,11,12,13,14,15,16,17,18,19,20,21,22,23,24,25,26,27,28,29,30,31,32,33,34,35,36,37,38,39,40,41,42,43,44,45,46,47,48],[(114,some 44),(118,some 48)],false⟩,⟨[0],[0,1,2,3,4,5,6,7,8,9,10,11,12,13,14,15,16,17,18,19,20,21,22,23,24,25,26,27,28,29,30,31,32,33,34,35,36,37,38,39,40,41,42,43,44],[(6,none),(114,some 44)],false⟩,⟨[0],[0,1,2,3,4,5,6,7,8,9,10,11,12,13,14,15,16,17,18,19,20,21,22,23,24,25,26,27,28,29,30,31,32,33,34,35,36,37,38,39,40,41,42,43,44,50],[(114,some 44),(120,some 50)],false⟩,⟨[],[0,1,2,3,4,5,6,7,8,9,10,11,12,13,14,15,16,17,18,19,20,21,22,23,24,25,26,27,28,29,30,31,32,33,34,35,36,37,38,39,40,41,42,43,44,45,46,47,48,49,50,51],[],false⟩,⟨[],[0,1,2,3,4,5,6,7,8,9,10,11,12,13,14,15,16,17,18,19,20,21,22,23,24,25,26,27,28,29,30,31,32,33,34,35,36,37,38,39,40,41,42,43,44,45,46,47,48,49,50,51,52],[],false⟩]
theorem F0 {n:Nat} {a0:List Int} {a1:Int} {r:Bool} (h:Cy n a0 a1=some r):Sound Try.prog 5 [.l (.d false 1 (BV a0)),.l (.s (.int .u8 a1))] [] (.l (bA r)) []:=by
 unfold Cy at h;refine SO 173 Try.func5 fun cx hG (hz:cx.nb=0)=>?_;simp only[it];refine ST ?_;apply AW.seq;obtain⟨v1,e1,v2,e2,h⟩:=oll h;refine AW.step (by simp[Al e1,← e2];intros;rfl) ?_;cases v2 with
 |true=>
  replace h:=iT h;refine CT ?_;obtain⟨v3,e3,h⟩:=bnE h;apply AW.step
  ·simp;intros;refine Aj ES (E4 e3) rfl trivial ?_;try simp
   intros;rfl
  obtain rfl:=oi h;apply AW.ret;exact LP hz
 |false=>
  replace h:=iF h;refine CF ?_;apply AW.skip;try simp only[nm]
  obtain⟨v4,e4,h⟩:=bnE h;apply AW.step
  ·simp;intros;refine Aj Ix (Jc e4) rfl ⟨.same rfl,trivial⟩ ?_;try simp
   intros;rfl
  obtain⟨v5,e5,v6,e6,h⟩:=olb h;obtain⟨v7,e7,v8,e8,h⟩:=olb h;have f9:=Hh e8;try simp[← e5,e6,← e7] at f9
  apply AW.step
  ·simp[← e5,e6,← e7,f9];intros;refine D1 (es:=encI [0,1,2,3]) (by simp[encI,lvs,All2]) (CD _) (by omega) (by simp) ?_;try simp[← e5,e6,← e7,f9]
   intros;rfl
  obtain⟨v10,e10,h⟩:=bnE h;apply AW.step
  ·simp;intros;refine Aj Db (Du e10) rfl ⟨.same rfl,.same rfl,trivial⟩ ?_;try simp
   intros;rfl
  apply AW.seq;obtain⟨v11,e11,v12,e12,h⟩:=oll h;refine AW.step (by simp[Al e11,← e12];intros;rfl) ?_;cases v12 with
  |true=>
   replace h:=iT h;refine CT ?_;refine ST ?_;obtain rfl:=oi h;apply AW.ret;exact LP hz
  |false=>
   replace h:=iF h;refine CF ?_;apply AW.skip;try simp only[nm]
   refine ST ?_;apply AW.seq;refine ST ?_;apply AW.block;obtain⟨y14,g14,h⟩:=bnE h;refine zE g14 (mk:=fun gh ls q=>(⟨[(5,.l (dB v4)),(6,.l (dC v8)),(7,.l (.d false 3 (Az v10))),(8,.l (dB q.1)),(9,.l (iA q.2))],[],173,gh,ls⟩:St)) (N:=fun gh ls=>(sp (xP 0 (cx:=cx) (fun q=>(⟨[(5,.l (dB v4)),(6,.l (dC v8)),(7,.l (.d false 3 (Az v10))),(8,.l (dB q))],[],173,gh,ls⟩:St))) (rP (cx:=cx) (P:=Try.prog) Try.f5 (fun q=>.l (bA q)) (fun q=>[])))) ?_ (noS noX noR) ?_ ?_
   ·exact WM [] hz
   ·clear h;intro y13 y15 h
    apply AW.seq;obtain⟨v16,e16,v17,e17,h⟩:=oll h;refine AW.step (by simp[Al e16,← e17];intros;rfl) ?_;cases v17 with
    |true=>
     replace h:=iT h;refine CT ?_;apply AW.skip;try simp only[nm]
     apply AW.seq;apply AW.block;obtain⟨v18,e18,h⟩:=bnE h;obtain⟨v19,e19,h⟩:=bnE h;obtain⟨v20,e20,h⟩:=bnE h;obtain⟨v21,e21,h⟩:=bnE h;obtain⟨v22,e22,h⟩:=bnE h;apply zI (V:=[_,_,_,_,_,_,_,_,_,_,_,_,_,_]) mixed [⟨[0],[],[(8,none)],false⟩,⟨[0],[],[(7,none)],false⟩,⟨[0],[],[(9,none)],false⟩,⟨[0],[1,2],[(45,some 1),(46,some 2)],false⟩,⟨[0],[1,2,3],[(47,some 3)],false⟩,⟨[0],[1,2,3,4],[(48,some 4)],false⟩,⟨[0],[0,1,2,3,4,5],[(44,some 0),(49,some 5)],false⟩,⟨[0],[0,1,2,3,4,5,6],[(50,some 6)],false⟩,⟨[0],[],[(8,none)],false⟩,⟨[0],[],[(7,none)],false⟩,⟨[0],[],[(9,none)],false⟩,⟨[0],[9,10],[(53,some 9),(54,some 10)],false⟩,⟨[0],[9,10,11],[(55,some 11)],false⟩,⟨[0],[9,10,11,12],[(56,some 12)],false⟩,⟨[],[0,1,2,3,4,5,6,7,8,9,10,11,12,13],[],false⟩,⟨[],[0,1,2,3,4,5,6,7,8,9,10,11,12,13,14],[],false⟩,⟨[],[0,1,2,3,4,5,6,7,8,9,10,11,12,13,14,15],[],false⟩,⟨[],[0,1,2,3,4,5,6,7,8,9,10,11,12,13,14,15,16],[],false⟩] 14 (by kernel_rfl) (by kernel_rfl)
     ·refine⟨?_,?_,?_,?_,?_,?_,?_,?_,?_,?_,?_,?_,?_,?_,trivial⟩;iterate 6 (· intro tm hr;simp[AllL,rdV] at hr;simp[hr,Aa e18];intros;exact KA)
      ·intro tm hr;simp[AllL,rdV] at hr;simp[hr,Aa e18];intros;refine Aj Dk (DH e19) rfl ⟨.same rfl,.same rfl,trivial⟩ ?_;try simp[Aa e18]
       intros;exact KA
      ·intro tm hr;simp[AllL,rdV] at hr;simp[hr,Aa e18];intros;refine Aj E2 (Fg e20) rfl ⟨.same rfl,trivial⟩ ?_;try simp[Aa e18]
       intros;exact KA
      iterate 6 (· intro tm hr;simp[AllL,rdV] at hr;simp[hr,Aa e18];intros;exact KA)
     ·rfl
     ·simp[tmD,putD,Aa e18];rfl
     ·simp[Aa e18];intros;refine Aj Dk (DH e21) rfl ⟨.same rfl,.same rfl,trivial⟩ ?_;try simp[Aa e18]
      intros;refine Aj E2 (Fg e22) rfl ⟨.same rfl,trivial⟩ ?_;try simp[Aa e18]
      intros;rfl
     obtain⟨v23,e23,h⟩:=bnE h;apply AW.step
     ·simp[Aa e18];intros;refine Aj Hk (H7 e23) rfl ⟨.same rfl,.same rfl,trivial⟩ ?_;try simp[Aa e18]
      intros;rfl
     apply AW.seq;obtain⟨y24,g24,h⟩:=bnE h;refine zD (p:=fun gh ls=>(nP (cx:=cx) (fun q=>(⟨[(5,.l (dB v4)),(6,.l (dC v8)),(7,.l (.d false 3 (Az v10))),(8,.l (dB y13.1)),(9,.l (iA y13.2)),(123,.l (bA q))],[],173,gh,ls⟩:St))) y24) ?_ ?_
     ·replace h:=g24;clear g24
      obtain⟨v25,e25,h⟩:=ltE h;cases v25 with
      |true=>
       replace h:=iT h;apply zG (V:=[_,_,_,_,_,_,_,_,_,_,_,_,_,_,_,_,_,_,_,_,_,_,_,_,_,_,_,_,_,_,_,_,_,_,_,_,_,_,_,_,_,_,_,_,_,_,_,_,_,_,_,_]) mixed DX5t1 52 (by kernel_rfl) (by kernel_rfl)
       ·refine⟨?_,?_,?_,?_,?_,?_,?_,?_,?_,?_,?_,?_,?_,?_,?_,?_,?_,?_,?_,?_,?_,?_,?_,?_,?_,?_,?_,?_,?_,?_,?_,?_,?_,?_,?_,?_,?_,?_,?_,?_,?_,?_,?_,?_,?_,?_,?_,?_,?_,?_,?_,?_,trivial⟩;iterate 52 (· intro tm hr;simp[AllL,rdV] at hr;simp[hr,Aa e18,← e25];intros;exact KA)
       ·rfl
       ·simp[tmD,putD,Aa e18,← e25];rfl
       ·simp[Aa e18,← e25];intros;rfl
       obtain rfl:=oi h;exact nP_i (WM [] hz)
      |false=>
       replace h:=iF h;obtain⟨v26,e26,h⟩:=ltE h;cases v26 with
       |true=>
        replace h:=iT h;apply zG (V:=[_,_,_,_,_,_,_,_,_,_,_,_,_,_,_,_,_,_,_,_,_,_,_,_,_,_,_,_,_,_,_,_,_,_,_,_,_,_,_,_,_,_,_,_,_,_,_,_,_,_,_,_]) mixed DX5t1 52 (by kernel_rfl) (by kernel_rfl)
        ·refine⟨?_,?_,?_,?_,?_,?_,?_,?_,?_,?_,?_,?_,?_,?_,?_,?_,?_,?_,?_,?_,?_,?_,?_,?_,?_,?_,?_,?_,?_,?_,?_,?_,?_,?_,?_,?_,?_,?_,?_,?_,?_,?_,?_,?_,?_,?_,?_,?_,?_,?_,?_,?_,trivial⟩;iterate 52 (· intro tm hr;simp[AllL,rdV] at hr;simp[hr,Aa e18,← e25,← e26];intros;exact KA)
        ·rfl
        ·simp[tmD,putD,Aa e18,← e25,← e26];rfl
        ·simp[Aa e18,← e25,← e26];intros;rfl
        obtain rfl:=oi h;exact nP_i (WM [] hz)
       |false=>
        replace h:=iF h;obtain⟨v27,e27,v28,e28,h⟩:=oll h;cases v28 with
        |true=>
         replace h:=iT h;apply zG (V:=[_,_,_,_,_,_,_,_,_,_,_,_,_,_,_,_,_,_,_,_,_,_,_,_,_,_,_,_,_,_,_,_,_,_,_,_,_,_,_,_,_,_,_,_,_,_,_,_,_,_,_,_]) mixed DX5t1 52 (by kernel_rfl) (by kernel_rfl)
         ·refine⟨?_,?_,?_,?_,?_,?_,?_,?_,?_,?_,?_,?_,?_,?_,?_,?_,?_,?_,?_,?_,?_,?_,?_,?_,?_,?_,?_,?_,?_,?_,?_,?_,?_,?_,?_,?_,?_,?_,?_,?_,?_,?_,?_,?_,?_,?_,?_,?_,?_,?_,?_,?_,trivial⟩;iterate 52 (· intro tm hr;simp[AllL,rdV] at hr;simp[hr,Aa e18,← e25,← e26,← e27,← e28];intros;exact KA)
         ·rfl
         ·simp[tmD,putD,Aa e18,← e25,← e26,← e27,← e28];rfl
         ·simp[Aa e18,← e25,← e26,← e27,← e28];intros;rfl
         obtain rfl:=oi h;exact nP_i (WM [] hz)
        |false=>
         replace h:=iF h;obtain⟨v29,e29,h⟩:=ltE h;cases v29 with
         |true=>
          replace h:=iT h;apply zG (V:=[_,_,_,_,_,_,_,_,_,_,_,_,_,_,_,_,_,_,_,_,_,_,_,_,_,_,_,_,_,_,_,_,_,_,_,_,_,_,_,_,_,_,_,_,_,_,_,_,_,_,_,_]) mixed DX5t1 52 (by kernel_rfl) (by kernel_rfl)
          ·refine⟨?_,?_,?_,?_,?_,?_,?_,?_,?_,?_,?_,?_,?_,?_,?_,?_,?_,?_,?_,?_,?_,?_,?_,?_,?_,?_,?_,?_,?_,?_,?_,?_,?_,?_,?_,?_,?_,?_,?_,?_,?_,?_,?_,?_,?_,?_,?_,?_,?_,?_,?_,?_,trivial⟩;iterate 52 (· intro tm hr;simp[AllL,rdV] at hr;simp[hr,Aa e18,← e25,← e26,← e27,← e28,← e29];intros;exact KA)
          ·rfl
          ·simp[tmD,putD,Aa e18,← e25,← e26,← e27,← e28,← e29];rfl
          ·simp[Aa e18,← e25,← e26,← e27,← e28,← e29];intros;rfl
          obtain rfl:=oi h;exact nP_i (WM [] hz)
         |false=>
          replace h:=iF h;obtain⟨v30,e30,v31,e31,h⟩:=oll h;cases v31 with
          |true=>
           replace h:=iT h;apply zG (V:=[_,_,_,_,_,_,_,_,_,_,_,_,_,_,_,_,_,_,_,_,_,_,_,_,_,_,_,_,_,_,_,_,_,_,_,_,_,_,_,_,_,_,_,_,_,_,_,_,_,_,_,_]) mixed DX5t1 52 (by kernel_rfl) (by kernel_rfl)
           ·refine⟨?_,?_,?_,?_,?_,?_,?_,?_,?_,?_,?_,?_,?_,?_,?_,?_,?_,?_,?_,?_,?_,?_,?_,?_,?_,?_,?_,?_,?_,?_,?_,?_,?_,?_,?_,?_,?_,?_,?_,?_,?_,?_,?_,?_,?_,?_,?_,?_,?_,?_,?_,?_,trivial⟩;iterate 52 (· intro tm hr;simp[AllL,rdV] at hr;simp[hr,Aa e18,← e25,← e26,← e27,← e28,← e29,Al e30,← e31];intros;exact KA)
           ·rfl
           ·simp[tmD,putD,Aa e18,← e25,← e26,← e27,← e28,← e29,Al e30,← e31];rfl
           ·simp[Aa e18,← e25,← e26,← e27,← e28,← e29,Al e30,← e31];intros;rfl
           obtain rfl:=oi h;exact nP_i (WM [] hz)
          |false=>
           replace h:=iF h;obtain⟨v32,e32,h⟩:=ltE h;apply zG (V:=[_,_,_,_,_,_,_,_,_,_,_,_,_,_,_,_,_,_,_,_,_,_,_,_,_,_,_,_,_,_,_,_,_,_,_,_,_,_,_,_,_,_,_,_,_,_,_,_,_,_,_,_]) mixed DX5t1 52 (by kernel_rfl) (by kernel_rfl)
           ·refine⟨?_,?_,?_,?_,?_,?_,?_,?_,?_,?_,?_,?_,?_,?_,?_,?_,?_,?_,?_,?_,?_,?_,?_,?_,?_,?_,?_,?_,?_,?_,?_,?_,?_,?_,?_,?_,?_,?_,?_,?_,?_,?_,?_,?_,?_,?_,?_,?_,?_,?_,?_,?_,trivial⟩;iterate 52 (· intro tm hr;simp[AllL,rdV] at hr;simp[hr,Aa e18,← e25,← e26,← e27,← e28,← e29,Al e30,← e31,← e32];intros;exact KA)
           ·rfl
           ·simp[tmD,putD,Aa e18,← e25,← e26,← e27,← e28,← e29,Al e30,← e31,← e32];rfl
           ·simp[Aa e18,← e25,← e26,← e27,← e28,← e29,Al e30,← e31,← e32];intros;rfl
           obtain rfl:=oi h;exact nP_i (WM [] hz)
     ·rintro e s⟨rfl,hw⟩;refine⟨_,hw,?_⟩;try simp only[nm]
      obtain⟨v33,e33,h⟩:=ltE h;rw[← e33];cases v33 with
      |true=>
       replace h:=iT h;refine CT ?_;refine ST ?_;obtain rfl:=oi h;apply AW.ret;try simp only[nm]
       refine rP_i ?_;exact LP hz
      |false=>
       replace h:=iF h;refine CF ?_;apply AW.skip;try simp only[nm]
       obtain⟨v34,e34,h⟩:=bnE h;obtain⟨v35,e35,h⟩:=bnE h;apply AW.last
       ·simp[Aa e34];intros;refine D1 (es:=Az [v34]) (by simp[Az,lvs,All2]) (Ew _) (by omega) (by simp) ?_;try simp[Aa e34]
        intros;refine Aj Gn (GF e35) rfl ⟨.same rfl,.same rfl,trivial⟩ ?_;try simp[Aa e34]
        intros;rfl
       try simp only[nm]
       obtain⟨v36,e36,h⟩:=ltE h;refine AW.last (by simp[← e36];intros;rfl) ?_;obtain rfl:=oi h;exact nP_i (WM [] hz)
    |false=>
     replace h:=iF h;refine CF ?_;apply AW.exit;try simp only[nm]
     obtain rfl:=oi h;try simp only[sp_l,sp_r]
     refine xP_i ?_;exact WM [] hz
   ·rintro e s hp;rcases y14 with y37|y38
    ·replace h:=smL h;obtain⟨rfl,hw⟩:=hp;refine⟨_,hw,?_⟩;try simp only[nm]
     refine ST ?_;apply AW.seq;refine ST ?_;apply AW.block;obtain⟨y40,g40,h⟩:=bnE h;refine zE g40 (mk:=fun gh ls q=>(⟨[(5,.l (dB v4)),(6,.l (dC v8)),(7,.l (.d false 3 (Az v10))),(8,.l (dB y37)),(14,.l (iA q.1)),(15,.l (iA q.2.1)),(16,.l (iA q.2.2))],[],173,gh,ls⟩:St)) (N:=fun gh ls=>(xP 2 (cx:=cx) (fun q=>(⟨[(5,.l (dB v4)),(6,.l (dC v8)),(7,.l (.d false 3 (Az v10))),(8,.l (dB y37)),(14,.l (iA q.1)),(15,.l (iA q.2))],[],173,gh,ls⟩:St)))) ?_ noX ?_ ?_
     ·exact WM [] hz
     ·clear h;intro y39 y41 h
      apply AW.seq;obtain⟨v42,e42,v43,e43,h⟩:=oll h;refine AW.step (by simp[Al e42,← e43];intros;rfl) ?_;cases v43 with
      |true=>
       replace h:=iT h;refine CT ?_;apply AW.skip;try simp only[nm]
       apply AW.seq;apply AW.block;obtain⟨v44,e44,h⟩:=bnE h;obtain⟨v45,e45,h⟩:=bnE h;apply AW.step
       ·simp;intros;refine Aj Dk (DH e44) rfl ⟨.same rfl,.same rfl,trivial⟩ ?_;try simp
        intros;refine Aj E2 (Fg e45) rfl ⟨.same rfl,trivial⟩ ?_;try simp
        intros;rfl
       obtain⟨v46,e46,h⟩:=ltE h;refine AW.step (by simp[← e46];intros;rfl) ?_;obtain⟨v47,e47,h⟩:=ltE h;refine AW.last (by simp[← e47];intros;rfl) ?_;try simp only[nm]
       obtain⟨v48,e48,h⟩:=ltE h;refine AW.last (by simp[← e48];intros;rfl) ?_;obtain rfl:=oi h;exact nP_i (WM [] hz)
      |false=>
       replace h:=iF h;refine CF ?_;apply AW.exit;try simp only[nm]
       obtain rfl:=oi h;refine xP_i ?_;exact WM [] hz
     ·rintro e s⟨rfl,hw⟩;refine⟨_,hw,?_⟩;try simp only[nm]
      apply AW.seq;obtain⟨v49,e49,h⟩:=ltE h;refine AW.step (by simp[Al e49];intros;rfl) ?_;apply AW.block;obtain⟨y51,g51,h⟩:=bnE h;refine zE g51 (mk:=fun gh ls q=>(⟨[(5,.l (dB v4)),(7,.l (.d false 3 (Az v10))),(8,.l (dB y37)),(14,.l (iA y40.1)),(15,.l (iA y40.2)),(18,.l (iA q))],[],173,gh,ls⟩:St)) (N:=fun gh ls=>(sp (xP 4 (cx:=cx) (fun _=>(⟨[(7,.l (.d false 3 (Az v10))),(14,.l (iA y40.1)),(15,.l (iA y40.2))],[],173,gh,ls⟩:St))) (rP (cx:=cx) (P:=Try.prog) Try.f5 (fun q=>.l (bA q)) (fun q=>[])))) ?_ (noS noX noR) ?_ ?_
      ·exact WM [] hz
      ·clear h;intro y50 y52 h
       apply AW.seq;obtain⟨v53,e53,h⟩:=ltE h;refine AW.step (by simp[← e53];intros;rfl) ?_;cases v53 with
       |true=>
        replace h:=iT h;refine CT ?_;apply AW.skip;try simp only[nm]
        apply AW.seq;apply AW.block;obtain⟨v54,e54,h⟩:=bnE h;obtain⟨v55,e55,h⟩:=bnE h;obtain⟨v56,e56,v57,e57,h⟩:=obl h;apply AW.step
        ·simp[← e57];intros;refine Aj Dk (DH e54) rfl ⟨.same rfl,.same rfl,trivial⟩ ?_;try simp[← e57]
         intros;refine Aj Dk (DH e55) rfl ⟨.same rfl,.same rfl,trivial⟩ ?_;try simp[← e57]
         intros;refine Aj GG (GX e56) rfl ⟨.same rfl,.same rfl,trivial⟩ ?_;try simp[← e57]
         intros;rfl
        cases v57 with
        |true=>
         replace h:=iT h;refine CT ?_;refine ST ?_;obtain rfl:=oi h;apply AW.ret;try simp only[nm]
         refine rP_i ?_;exact LP hz
        |false=>
         replace h:=iF h;refine CF ?_;apply AW.skip;try simp only[nm]
         obtain⟨v58,e58,h⟩:=ltE h;refine AW.last (by simp[← e58];intros;rfl) ?_;obtain rfl:=oi h;exact nP_i (WM [] hz)
       |false=>
        replace h:=iF h;refine CF ?_;apply AW.exit;try simp only[nm]
        obtain rfl:=oi h;try simp only[sp_l,sp_r]
        refine xP_i ?_;exact WM [] hz
      ·rintro e s hp;rcases y51 with y59|y60
       ·replace h:=smL h;obtain⟨rfl,hw⟩:=hp;refine⟨_,hw,?_⟩;try simp only[nm]
        obtain⟨y61,g61,h⟩:=bnE h;refine zD (p:=fun gh ls=>(nP (cx:=cx) (fun q=>(⟨[(4,.l (bA q))],[],173,gh,ls⟩:St))) y61) ?_ ?_
        ·replace h:=g61;clear g61
         obtain⟨v62,e62,v63,e63,h⟩:=oll h;cases v63 with
         |true=>
          replace h:=iT h;obtain⟨v64,e64,h⟩:=bnE h;apply AW.last
          ·simp[Al e62,← e63];intros;refine Aj ES (E4 e64) rfl trivial ?_;try simp[Al e62,← e63]
           intros;rfl
          obtain rfl:=oi h;exact nP_i (WM [] hz)
         |false=>
          replace h:=iF h;obtain⟨v65,e65,v66,e66,h⟩:=oll h;cases v66 with
          |true=>
           replace h:=iT h;obtain⟨v67,e67,h⟩:=bnE h;apply AW.last
           ·simp[Al e62,← e63,← e65,← e66];intros;refine Aj ES (E4 e67) rfl trivial ?_;try simp[Al e62,← e63,← e65,← e66]
            intros;rfl
           obtain rfl:=oi h;exact nP_i (WM [] hz)
          |false=>
           replace h:=iF h;refine AW.last (by simp[Al e62,← e63,← e65,← e66];intros;rfl) ?_;obtain rfl:=oi h;exact nP_i (WM [] hz)
        ·rintro e s⟨rfl,hw⟩;refine⟨_,hw,?_⟩;try simp only[nm]
         obtain rfl:=oi h;apply AW.ret;exact LP hz
       ·replace h:=smR h;obtain⟨rfl,hl⟩:=hp;refine⟨_,Weak.refl _,?_⟩;obtain rfl:=oi h;exact hl
    ·replace h:=smR h;obtain⟨rfl,hl⟩:=hp;refine⟨_,Weak.refl _,?_⟩;obtain rfl:=oi h;exact hl
end Go.Proofs.Ytenemndpignaoaa
namespace Go.Proofs.Ytenemndpignaoaa
end Go.Proofs.Ytenemndpignaoaa
namespace Go.Proofs.Ytenemndpignaoaa
open Go Go.RowKit
def big:Nat:=281474976710656
section
variable {α β γ:Type}
theorem IQ {f:α→Option (α ⊕ β)} (Q:β→Prop) (I:Nat→α→Prop) (N:Nat)
  (h:∀ k a,k≤N→I k a→(∃ a',k<N∧f a=some (.inl a')∧I (k+1) a')∨∃ b,f a=some (.inr b)∧Q b) :
  ∀ (d k:Nat) (a:α),k+d=N→I k a→∀ n,d<n→∃ b,iter n f a=some b∧Q b
 |d,k,a,hd,hI,0,hn=>by omega
 |d,k,a,hd,hI,n+1,hn=>by
  rcases h k a (by omega) hI with ⟨a',hk,h1,h2⟩|⟨b,h1,h2⟩
  ·rw[Ka h1];match d with
   |0=>omega
   |d+1=>exact IQ Q I N h d (k+1) a' (by omega) h2 n (by omega)
  ·exact⟨b,Kb h1,h2⟩
theorem Ke {f:α→Option (α ⊕ β)} {a:α} (Q:β→Prop) (I:Nat→α→Prop) (N:Nat) (hN:N<big)
  (h0:I 0 a) (h:∀ k a,k≤N→I k a→(∃ a',k<N∧f a=some (.inl a')∧I (k+1) a')∨∃ b,f a=some (.inr b)∧Q b):∃ b,iter big f a=some b∧Q b :=
 IQ Q I N h N 0 a (by omega) h0 big hN
theorem EY {b:Bool} {k:Option β} (h:b=true):chk b k=k:=by subst h;rfl
def Rn (m:Option α) (Q:α→Prop):Prop:=∃ v,m=some v∧Q v
theorem Rn.some {v:α} {Q:α→Prop} (h:Q v):Rn (some v) Q:=⟨v,rfl,h⟩
theorem Rn.mono {m:Option α} {Q R:α→Prop} (h:Rn m Q) (hk:∀ v,Q v→R v):Rn m R:=⟨h.choose,h.choose_spec.1,hk _ h.choose_spec.2⟩
theorem Rn.lt {a:α} {k:α→Option β} {Q:β→Prop} (h:Rn (k a) Q):Rn (lt a k) Q:=h
theorem Rn.bn {m:Option α} {k:α→Option β} {P:α→Prop} {Q:β→Prop} (h:Rn m P) (hk:∀ v,P v→Rn (k v) Q):Rn (bn m k) Q:=by
 obtain⟨v,rfl,hv⟩:=h;exact hk v hv
theorem zC {m:Option α} {k:α→Option β} {v:α} {Q:β→Prop} (h:m=Option.some v) (hk:Rn (k v) Q):Rn (Go.Proofs.Ytenemndpignaoaa.bn m k) Q:=by
 subst h;exact hk
theorem Rn.chk {b:Bool} {k:Option β} {Q:β→Prop} (h:b=true) (hk:Rn k Q):Rn (chk b k) Q:=by
 subst h;exact hk
theorem Rn.room {m c:Nat} {k:Option β} {Q:β→Prop} (h:m*c≤140737488355328) (h2:m≤140737488355328) (hk:Rn k Q):Rn (Go.Proofs.Ytenemndpignaoaa.chk (Go.Proofs.Ytenemndpignaoaa.room m c) k) Q:=Rn.chk (by simp[Go.Proofs.Ytenemndpignaoaa.room,h,h2]) hk
theorem zB {b:Bool} {x y:Option β} {Q:β→Prop} (h:b=true→Rn x Q) (h2:b=false→Rn y Q):Rn (ite' b x y) Q:=by
 cases b
 ·exact h2 rfl
 ·exact h rfl
theorem Rn.sm {s:α ⊕ β} {f:α→Option γ} {g:β→Option γ} {Q:γ→Prop} (h:∀ a,s=.inl a→Rn (f a) Q) (h2:∀ b,s=.inr b→Rn (g b) Q):Rn (sm s f g) Q:=by
 cases s with
 |inl a=>exact h a rfl
 |inr b=>exact h2 b rfl
theorem zF {f:α→Option (α ⊕ β)} {a:α} (Q:β→Prop) (I:Nat→α→Prop) (N:Nat) (hN:N<big) (h0:I 0 a)
  (h:∀ k a,k≤N→I k a→Rn (f a) fun x=>match x with|.inl a'=>k<N∧I (k+1) a'|.inr b=>Q b):Rn (iter big f a) Q:=by
 refine Ke Q I N hN h0 fun k a hk hI=>?_;obtain⟨x,h1,h2⟩:=h k a hk hI;cases x with
 |inl a'=>exact .inl ⟨a',h2.1,h1,h2.2⟩
 |inr b=>exact .inr ⟨b,h1,h2⟩
theorem By (l:List α):lenI l=(l.length:Int):=rfl
theorem AF {l:List α} {i:Nat} (h:i<l.length):nth l (i:Int)=some l[i]:=by rw[EJ,List.getElem?_eq_getElem h]
theorem Ic {l:List α} {i:Nat} (h:i≤l.length):segl l (i:Int)=some (l.drop i):=by simp[segl,h]
theorem Id {l:List α} {i:Nat} (h:i≤l.length):segh l (i:Int)=some (l.take i):=by simp[segh,h]
theorem JI {l:List α} {i j:Nat} (h:i≤j) (h2:j≤l.length):seglh l (i:Int) (j:Int)=some ((l.drop i).take (j - i)):=by
 have h3:(i:Int)≤j:=by omega
 have h4:(j:Int)≤l.length:=by omega
 simp[seglh,seg,h3,h4]
end
theorem wrap64 {a:Int} (h:-9223372036854775808≤a) (h2:a≤9223372036854775807):IntKind.i64.wrap a=a:=by
 simp[IntKind.wrap,IntKind.bits,IntKind.signed];omega
theorem Ao {a b:Int} (h:-9223372036854775808≤a+b) (h2:a+b≤9223372036854775807):addI .i64 a b=a+b:=wrap64 h h2
theorem Aq {a b:Int} (h:-9223372036854775808≤a - b) (h2:a - b≤9223372036854775807):subI .i64 a b=a - b:=wrap64 h h2
theorem ET {a:Int} (h:-9223372036854775808≤a) (h2:a≤9223372036854775807):cvI .i64 a=a:=wrap64 h h2
end Go.Proofs.Ytenemndpignaoaa
namespace Go.Proofs.Ytenemndpignaoaa
open Go Go.RowKit
section
variable {β:Type}
def fnP:List (Int×Int×β)→Int→Option β
 |[],_=>none
 |p::l,s=>if p.1≤s∧s≤p.2.1 then some p.2.2 else fnP l s
def canP:List (Int×Int×β)→Prop
 |[]=>True
 |[p]=>p.1≤p.2.1
 |p::q::l=>p.1≤p.2.1∧p.2.1<q.1∧¬ (p.2.1+1=q.1∧p.2.2=q.2.2)∧canP (q::l)
theorem canP.head {p:Int×Int×β} {l:List (Int×Int×β)} (h:canP (p::l)):p.1≤p.2.1:=by
 cases l with
 |nil=>exact h
 |cons q l=>exact h.1
theorem canP.tail {p:Int×Int×β} {l:List (Int×Int×β)} (h:canP (p::l)):canP l:=by
 cases l with
 |nil=>trivial
 |cons q l=>exact h.2.2.2
theorem canP.lt {p:Int×Int×β}:∀ {l:List (Int×Int×β)},canP (p::l)→∀ q∈l,p.2.1<q.1
 |[],_,q,hq=>by simp at hq
 |r::l,h,q,hq=>by
  rcases List.mem_cons.1 hq with rfl|hq
  ·exact h.2.1
  ·have h1:=canP.lt h.2.2.2 q hq;have h2:=canP.head h.2.2.2;have h3:=h.2.1;omega
theorem Do {l:List (Int×Int×β)} {s:Int} (h:∀ p∈l,¬ (p.1≤s∧s≤p.2.1)):fnP l s=none:=by
 induction l with
 |nil=>rfl
 |cons p l ih =>
  simp only[fnP];rw[if_neg (h p (by simp)),ih fun q hq=>h q (by simp[hq])]
theorem CP {p:Int×Int×β} {l:List (Int×Int×β)} (h:canP (p::l)) {s:Int} (hs:s≤p.2.1):fnP l s=none :=
 Do fun q hq hc=>by have:=h.lt q hq;omega
theorem BC {p:Int×Int×β} {l:List (Int×Int×β)} {s:Int} (h1:p.1≤s) (h2:s≤p.2.1):fnP (p::l) s=some p.2.2:=by
 simp only[fnP];rw[if_pos ⟨h1,h2⟩]
theorem BO {p:Int×Int×β} {l:List (Int×Int×β)} {s:Int} (h:¬ (p.1≤s∧s≤p.2.1)):fnP (p::l) s=fnP l s:=by
 simp only[fnP];rw[if_neg h]
theorem Fi:∀ {l m:List (Int×Int×β)},canP l→canP m→(∀ s,fnP l s=fnP m s)→l=m
 |[],[],_,_,_=>rfl
 |[],q::m,_,hm,h=>by
  have:=h q.1;rw[BC (Int.le_refl _) hm.head] at this;simp[fnP] at this
 |p::l,[],hl,_,h=>by
  have:=h p.1;rw[BC (Int.le_refl _) hl.head] at this;simp[fnP] at this
 |p::l,q::m,hl,hm,h=>by
  have hp:=hl.head;have hq:=hm.head;have e1:p.1=q.1:=by
   rcases Int.lt_trichotomy p.1 q.1 with hlt|he|hgt
   ·exfalso
    have:=h p.1;rw[BC (Int.le_refl _) hp,BO (by omega),CP hm (by omega)] at this;simp at this
   ·exact he
   ·exfalso
    have:=h q.1;rw[BC (p:=q) (Int.le_refl _) hq,BO (by omega),CP hl (by omega)] at this;simp at this
  have e2:p.2.2=q.2.2:=by
   have:=h p.1;rw[BC (Int.le_refl _) hp,BC (by omega) (by omega)] at this;exact Option.some.inj this
  have key:∀ {p q:Int×Int×β} {l m:List (Int×Int×β)},canP (p::l)→canP (q::m)→(∀ s,fnP (p::l) s=fnP (q::m) s)→p.1=q.1→p.2.2=q.2.2→¬ p.2.1<q.2.1:=by
   intro p q l m hl hm h e1 e2 hlt;have hp:=hl.head;have:=h (p.2.1+1);rw[BO (by omega),BC (p:=q) (by omega) (by omega)] at this;cases l with
   |nil=>simp[fnP] at this
   |cons r l =>
    have hr:=hl.2.1;have hr2:=canP.head hl.2.2.2;rcases Decidable.em (p.2.1+1=r.1) with e|e
    ·rw[BC (by omega) (by omega)] at this;have:=Option.some.inj this;exact hl.2.2.1 ⟨e,by rw[e2,this]⟩
    ·rw[BO (by omega),CP hl.2.2.2 (by omega)] at this;simp at this
  have e3:p.2.1=q.2.1:=by
   have a:=key hl hm h e1 e2;have b:=key hm hl (fun s=>(h s).symm) e1.symm e2.symm;omega
  have e4:p=q:=Prod.ext e1 (Prod.ext e3 e2);subst e4;rw[Fi hl.tail hm.tail fun s=>?_];rcases Decidable.em (s≤p.2.1) with hs|hs
  ·rw[CP hl hs,CP hm hs]
  ·have:=h s;rwa [BO (by omega),BO (by omega)] at this
theorem Fj (l m:List (Int×Int×β)) (s:Int):fnP (l++m) s=match fnP l s with|some v=>some v|none=>fnP m s:=by
 induction l with
 |nil=>rfl
 |cons p l ih =>
  simp only[List.cons_append,fnP];split
  ·rfl
  ·exact ih
theorem Et:∀ {l:List (Int×Int×β)} {p:Int×Int×β},canP l→p.1≤p.2.1→(∀ q,l.getLast?=some q→q.2.1<p.1∧¬ (q.2.1+1=p.1∧q.2.2=p.2.2))→canP (l++[p])
 |[],p,_,hp,_=>hp
 |[q],p,hq,hp,h=>by
  obtain⟨h1,h2⟩:=h q rfl;exact⟨hq,h1,h2,hp⟩
 |q::r::l,p,hl,hp,h=>by
  refine⟨hl.1,hl.2.1,hl.2.2.1,?_⟩;exact Et (l:=r::l) hl.2.2.2 hp fun x hx=>h x (by rw[List.getLast?_cons_cons];exact hx)
theorem FN:∀ {l:List (Int×Int×β)} {p:Int×Int×β},canP (l++[p])→canP l∧p.1≤p.2.1∧(∀ q,l.getLast?=some q→q.2.1<p.1∧¬ (q.2.1+1=p.1∧q.2.2=p.2.2))
 |[],p,h=>⟨trivial,h,fun q hq=>by simp at hq⟩
 |[q],p,h=>by
  refine⟨h.1,h.2.2.2,fun x hx=>?_⟩;simp at hx;subst hx;exact⟨h.2.1,h.2.2.1⟩
 |q::r::l,p,h=>by
  have h':canP ((r::l)++[p]):=h.2.2.2;obtain⟨a,b,c⟩:=FN h';exact⟨⟨h.1,h.2.1,h.2.2.1,a⟩,b,fun x hx=>c x (by rw[List.getLast?_cons_cons] at hx;exact hx)⟩
structure BdP (at_:Int) (out:List (Int×Int×β)) (f:Int→Option β):Prop where
 can:canP out
 pos:∀ p∈out,p.2.1<at_
 fn:∀ s,s<at_→fnP out s=f s
def putP [DecidableEq β] (l:List (Int×Int×β)) (p:Int×Int×β):List (Int×Int×β) :=
 match l.getLast? with
 |some q=>if q.2.1+1=p.1∧q.2.2=p.2.2 then l.dropLast++[(q.1,p.2.1,q.2.2)] else l++[p]
 |none=>[p]
theorem BdP.skip {a b:Int} {out:List (Int×Int×β)} {f:Int→Option β} (h:BdP a out f) (hab:a≤b) (hf:∀ s,a≤s→s<b→f s=none):BdP b out f:=by
 refine⟨h.can,fun p hp=>by have:=h.pos p hp;omega,fun s hs=>?_⟩;rcases Decidable.em (s<a) with h1|h1
 ·exact h.fn s h1
 ·rw[hf s (by omega) hs];exact Do fun p hp hc=>by have:=h.pos p hp;omega
theorem BdP.put [DecidableEq β] {a b:Int} {v:β} {out:List (Int×Int×β)} {f:Int→Option β} (h:BdP a out f) (hab:a≤b) (hf:∀ s,a≤s→s≤b→f s=some v):BdP (b+1) (putP out (a,b,v)) f:=by
 have hcan:=h.can;unfold putP;split
 ·rename_i q hq
  obtain⟨l,hl⟩:=List.getLast?_eq_some_iff.1 hq;subst hl;have hqp:=h.pos q (by simp);obtain⟨c1,c2,c3⟩:=FN hcan;split
  ·rename_i hc
   obtain⟨g1,g2⟩:=hc;rw[List.dropLast_concat];refine⟨Et c1 (by simp only at g1 ⊢;omega) (fun x hx=>?_),?_,?_⟩
   ·exact c3 x hx
   ·intro p hp;rcases List.mem_append.1 hp with hp|hp
    ·have:=h.pos p (by simp[hp]);omega
    ·simp at hp;subst hp;simp only;omega
   ·intro s hs;rw[Fj];rcases Decidable.em (s<a) with h1|h1
    ·have:=h.fn s h1;rw[← this,Fj];cases fnP l s with
     |some w=>rfl
     |none =>
      simp only[fnP];simp only at g1;rcases Decidable.em (q.1≤s∧s≤q.2.1) with h2|h2
      ·rw[if_pos h2,if_pos ⟨h2.1,by omega⟩]
      ·rw[if_neg h2,if_neg (by omega)]
    ·rw[hf s (by omega) (by omega)];have:fnP l s=none:=Do fun p hp hc=>by have:=h.pos p (by simp[hp]);omega
     rw[this];simp only[fnP];simp only at g1 g2;rw[if_pos ⟨by omega,by omega⟩,g2]
  ·rename_i hc
   refine⟨Et hcan hab fun x hx=>?_,?_,?_⟩
   ·rw[hq] at hx;have:=Option.some.inj hx;subst this;exact⟨hqp,hc⟩
   ·intro p hp;rcases List.mem_append.1 hp with hp|hp
    ·have:=h.pos p hp;omega
    ·simp at hp;subst hp;simp only;omega
   ·intro s hs;rw[Fj];rcases Decidable.em (s<a) with h1|h1
    ·rw[h.fn s h1];cases f s with
     |some w=>rfl
     |none =>
      simp only[fnP];rw[if_neg (by omega)]
    ·rw[hf s (by omega) (by omega)];have:fnP (l++[q]) s=none:=Do fun p hp hc=>by have:=h.pos p hp;omega
     rw[this];simp only[fnP];rw[if_pos ⟨by omega,by omega⟩]
 ·rename_i hn
  have:out=[]:=List.getLast?_eq_none_iff.1 hn;subst this;refine⟨hab,?_,?_⟩
  ·intro p hp;simp at hp;subst hp;simp only;omega
  ·intro s hs;simp only[fnP];rcases Decidable.em (s<a) with h1|h1
   ·have:=h.fn s h1;rw[if_neg (by omega),← this];rfl
   ·rw[if_pos ⟨by omega,by omega⟩,hf s (by omega) (by omega)]
theorem BdP.nil {a:Int} {f:Int→Option β} (hf:∀ s,s<a→f s=none):BdP a [] f:=⟨trivial,fun p hp=>by simp at hp,fun s hs=>by rw[hf s hs];rfl⟩
theorem BdP.ext {a b:Int} {l m:List (Int×Int×β)} {f:Int→Option β} (hl:BdP a l f) (hm:BdP b m f) (hf:∀ s,a≤s∨b≤s→f s=none):l=m:=by
 refine Fi hl.can hm.can fun s=>?_;have h1:fnP l s=f s:=by
  rcases Decidable.em (s<a) with h|h
  ·exact hl.fn s h
  ·rw[hf s (.inl (by omega))];exact Do fun p hp hc=>by have:=hl.pos p hp;omega
 have h2:fnP m s=f s:=by
  rcases Decidable.em (s<b) with h|h
  ·exact hm.fn s h
  ·rw[hf s (.inr (by omega))];exact Do fun p hp hc=>by have:=hm.pos p hp;omega
 rw[h1,h2]
theorem Gp {s:Int}:∀ {l:List (Int×Int×β)},(∀ p∈l,s+1≠p.1∧s+1≠p.2.1+1)→fnP l (s+1)=fnP l s
 |[],_=>rfl
 |p::l,h=>by
  have h1:=h p (by simp);have ih:=Gp (l:=l) fun q hq=>h q (by simp[hq]);simp only[fnP];rcases Decidable.em (p.1≤s∧s≤p.2.1) with h2|h2
  ·rw[if_pos h2,if_pos (by omega)]
  ·rw[if_neg h2,ih];rcases Decidable.em (p.1≤s+1∧s+1≤p.2.1) with h3|h3
   ·omega
   ·rw[if_neg h3]
end
end Go.Proofs.Ytenemndpignaoaa
namespace Go.Proofs.Ytenemndpignaoaa
open Go Go.RowKit
theorem Rn.eqv {α:Type} {m:Option α} {v:α} (h:Rn m (·=v)):m=Option.some v:=by
 obtain⟨w,h1,rfl⟩:=h;exact h1
theorem lt_t {a b:Int} (h:a<b):ltI a b=true:=decide_eq_true h
theorem lt_f {a b:Int} (h:b≤a):ltI a b=false:=decide_eq_false (by omega)
theorem le_t {a b:Int} (h:a≤b):leI a b=true:=decide_eq_true h
theorem le_f {a b:Int} (h:b<a):leI a b=false:=decide_eq_false (by omega)
theorem gt_t {a b:Int} (h:b<a):gtI a b=true:=decide_eq_true h
theorem gt_f {a b:Int} (h:a≤b):gtI a b=false:=decide_eq_false (by omega)
theorem ge_t {a b:Int} (h:b≤a):geI a b=true:=decide_eq_true h
theorem ge_f {a b:Int} (h:a<b):geI a b=false:=decide_eq_false (by omega)
theorem eq_t {a b:Int} (h:a=b):eqI a b=true:=decide_eq_true h
theorem eq_f {a b:Int} (h:a≠b):eqI a b=false:=decide_eq_false h
def SM (m:List Int):Prop:=m.Pairwise (·<·)∧∀ x∈m,0≤x∧x≤16384
theorem SM.nil:SM []:=⟨List.Pairwise.nil,fun x hx=>by simp at hx⟩
theorem EK {m:List Int} {x:Int} (hm:SM m) (hl:m.length≤1000000):Rn (B2 big m x) fun m'=>SM m'∧(∀ y,y∈m'↔y∈m∨(y=x∧0≤x∧x≤16384))∧m'.length≤m.length+1:=by
 unfold B2;refine Rn.lt ?_;refine Rn.bn (P:=fun a=>∃ k:Nat,a=(k:Int)∧k≤m.length∧(∀ y∈m.take k,y<x)∧(∀ y∈m.drop k,x≤y)) (zF _ (fun j a=>∃ k:Nat,a=(k:Int)∧k+j=m.length∧∀ y∈m.drop k,x≤y) m.length (by unfold big;omega) ⟨m.length,rfl,rfl,by simp⟩ fun j a hj hI=>?_) fun a ha=>?_
 ·obtain⟨k,rfl,hk,hd⟩:=hI;cases k with
  |zero=>exact zC (v:=false) rfl (Rn.lt (zB (fun h=>absurd h (by decide)) fun _=>Rn.some ⟨0,rfl,by omega,by simp,by simpa using hd⟩))
  |succ k =>
   have hkl:k<m.length:=by omega
   have e1:subI .i64 ((k+1:Nat):Int) 1=(k:Int):=by rw[Aq (by omega) (by omega)];omega
   refine zC (v:=geI m[k] x) ?_ (Rn.lt (zB (fun h=>?_) fun h=>?_))
   ·rw[gt_t (show (0:Int)<((k+1:Nat):Int) by omega)];simp only[AA,AT];rw[e1,AF hkl];rfl
   ·refine Rn.lt (Rn.some ⟨by omega,k,e1,by omega,fun y hy=>?_⟩);rw[List.drop_eq_getElem_cons hkl] at hy;rcases List.mem_cons.1 hy with rfl|hy
    ·exact of_decide_eq_true h
    ·exact hd y hy
   ·refine Rn.some ⟨k+1,rfl,by omega,fun y hy=>?_,hd⟩;have h1:m[k]<x:=by
     have:=of_decide_eq_false (p:=x≤m[k]) h;omega
    obtain⟨i,hi,rfl⟩:=List.mem_take_iff_getElem.1 hy;rcases Decidable.em (i=k) with rfl|hne
    ·exact h1
    ·have:=List.pairwise_iff_getElem.1 hm.1 i k (by omega) hkl (by omega);omega
 obtain⟨k,rfl,hk,ht,hd⟩:=ha;have hsame:∀ (h:x<0∨16384<x∨x∈m),SM m∧(∀ y,y∈m↔y∈m∨(y=x∧0≤x∧x≤16384))∧m.length≤m.length+1:=by
  intro h;refine⟨hm,fun y=>⟨.inl,fun h2=>?_⟩,by omega⟩;rcases h2 with h2|⟨rfl,h2,h3⟩
  ·exact h2
  ·rcases h with h|h|h
   ·omega
   ·omega
   ·exact h
 refine Rn.bn (P:=fun b=>(b=true→x<0∨16384<x∨x∈m)∧(b=false→(0≤x∧x≤16384)∧x ∉ m)) ?_ fun b hb=>Rn.lt (zB (fun h=>Rn.some (hsame (hb.1 h))) fun h=>?_)
 ·refine Rn.lt (zB (fun h=>Rn.some ⟨fun _=>.inl (of_decide_eq_true h),by simp⟩) fun h=>Rn.lt (zB (fun h2=>Rn.some ⟨fun _=>.inr (.inl (of_decide_eq_true h2)),by simp⟩) fun h2=>Rn.lt (Rn.lt ?_)));have x1:0≤x:=by
   have:=of_decide_eq_false (p:=x<0) h;omega
  have x2:x≤16384:=by
   have:=of_decide_eq_false (p:=16384<x) h2;omega
  rcases Decidable.em (k<m.length) with hkl|hkl
  ·rw[By,lt_t (by omega)];refine zB (fun _=>zC (AF hkl) (Rn.lt (Rn.some ⟨fun h3=>.inr (.inr ?_),fun h3=>⟨⟨x1,x2⟩,fun hmem=>?_⟩⟩))) (fun h=>by simp at h)
   ·have:m[k]=x:=of_decide_eq_true h3;rw[← this];exact List.getElem_mem hkl
   ·have hne:m[k]≠x:=of_decide_eq_false h3;rw[← List.take_append_drop k m] at hmem;rcases List.mem_append.1 hmem with h4|h4
    ·have:=ht x h4;omega
    ·rw[List.drop_eq_getElem_cons hkl] at h4;rcases List.mem_cons.1 h4 with h5|h5
     ·exact hne h5.symm
     ·have h6:=hd m[k] (by rw[List.drop_eq_getElem_cons hkl];exact List.mem_cons_self);have h7:(m.drop k).Pairwise (·<·):=hm.1.sublist (List.drop_sublist _ _);rw[List.drop_eq_getElem_cons hkl] at h7;have h8:=List.rel_of_pairwise_cons h7 h5;have h9:x≤m[k]:=h6;have h10:m[k]<x:=h8;omega
  ·rw[By,lt_f (by omega)];refine zB (fun h=>by simp at h) fun _=>Rn.some ⟨by simp,fun _=>⟨⟨x1,x2⟩,fun hmem=>?_⟩⟩;rw[List.take_of_length_le (by omega)] at ht;have:=ht x hmem;omega
 ·obtain⟨⟨x1,x2⟩,hn⟩:=hb.2 h;rw[Id hk];refine zC rfl ?_;have lt1:(m.take k).length≤1000000:=by rw[List.length_take];omega
  refine Rn.chk (by simp[room];omega) (Rn.chk (by simp[room];omega) (Rn.lt ?_));rw[Ic hk];refine zC rfl (Rn.chk (by simp[room];omega) (Rn.lt (Rn.chk (by simp[room];omega) (Rn.some ⟨⟨?_,?_⟩,?_,?_⟩))))
  ·rw[List.append_assoc,List.pairwise_append];refine⟨hm.1.sublist (List.take_sublist _ _),?_,?_⟩
   ·rw[List.singleton_append,List.pairwise_cons];refine⟨fun y hy=>?_,hm.1.sublist (List.drop_sublist _ _)⟩;have h1:=hd y hy;have h2:y≠x:=fun e=>hn (e ▸ List.mem_of_mem_drop hy);omega
   ·intro a ha b hb;have h1:=ht a ha;rcases List.mem_append.1 hb with hb|hb
    ·simp at hb;omega
    ·have:=hd b hb;omega
  ·intro y hy;rcases List.mem_append.1 hy with hy|hy
   ·rcases List.mem_append.1 hy with hy|hy
    ·exact hm.2 y (List.mem_of_mem_take hy)
    ·simp at hy;omega
   ·exact hm.2 y (List.mem_of_mem_drop hy)
  ·intro y;rw[List.append_assoc,List.mem_append,List.mem_append,List.mem_singleton];constructor
   ·rintro (hy|hy|hy)
    ·exact .inl (List.mem_of_mem_take hy)
    ·exact .inr ⟨hy,x1,x2⟩
    ·exact .inl (List.mem_of_mem_drop hy)
   ·rintro (hy|⟨hy,_⟩)
    ·rw[← List.take_append_drop k m] at hy;rcases List.mem_append.1 hy with hy|hy
     ·exact .inl hy
     ·exact .inr (.inr hy)
    ·exact .inr (.inl hy)
  ·simp;omega
def cP (c:Claim):Int×Int×(Int×Int):=(c.frm,c.to,(c.node,c.epoch))
def fC (l:List Claim) (s:Int):Option (Int×Int):=fnP (l.map cP) s
def inB (x:Int):Prop:=-1000000≤x∧x≤1000000
theorem Kf {m:List Int} {l:List Claim} (hm:SM m) (hl:m.length+2*l.length≤1000000) (hb:∀ c∈l,inB c.frm∧inB c.to) :
  Rn (Dj big m l) fun m'=>SM m'∧(∀ y,y∈m'↔y∈m∨((∃ c∈l,y=c.frm∨y=c.to+1)∧0≤y∧y≤16384))∧m'.length≤m.length+2*l.length:=by
 unfold Dj;refine Rn.bn (P:=fun m'=>SM m'∧(∀ y,y∈m'↔y∈m∨((∃ c∈l,y=c.frm∨y=c.to+1)∧0≤y∧y≤16384))∧m'.length≤m.length+2*l.length) (zF _ (fun j a=>∃ m',a=(m',(j:Int))∧SM m'∧(∀ y,y∈m'↔y∈m∨((∃ c∈l.take j,y=c.frm∨y=c.to+1)∧0≤y∧y≤16384))∧m'.length≤m.length+2*j) l.length (by unfold big;omega) ⟨m,rfl,hm,by simp,by omega⟩ fun j a hj hI=>?_) fun m' h=>Rn.some h;obtain⟨m1,rfl,s1,s2,s3⟩:=hI;refine Rn.lt (Rn.lt (zB (fun hd=>?_) fun hd=>?_))
 ·have hjl:j<l.length:=by
   have:=of_decide_eq_true (p:=((j:Int)<(l.length:Int))) hd;omega
  refine zC (AF hjl) ?_;obtain⟨b1,b2⟩:=hb _ (List.getElem_mem hjl);unfold inB at b1 b2;refine Rn.bn (EK s1 (by simp only;omega)) fun m2 h2=>?_;obtain⟨t1,t2,t3⟩:=h2;refine Rn.lt ?_;rw[Ao (by omega) (by omega)];refine Rn.bn (EK t1 (by simp only at t3;omega)) fun m3 h3=>?_;obtain⟨u1,u2,u3⟩:=h3;refine Rn.lt (Rn.some ⟨hjl,m3,?_,u1,fun y=>?_,?_⟩)
  ·simp only[];rw[Ao (by omega) (by omega)];rfl
  ·rw[u2,t2,s2,← List.take_append_getElem hjl];simp only[List.mem_append,List.mem_singleton];constructor
   ·rintro ((( h|⟨⟨c,hc,h⟩,h'⟩)|⟨rfl,h,h'⟩)|⟨rfl,h,h'⟩)
    ·exact .inl h
    ·exact .inr ⟨⟨c,.inl hc,h⟩,h'⟩
    ·exact .inr ⟨⟨_,.inr rfl,.inl rfl⟩,h,h'⟩
    ·exact .inr ⟨⟨_,.inr rfl,.inr rfl⟩,h,h'⟩
   ·rintro (h|⟨⟨c,hc|rfl,h⟩,h'⟩)
    ·exact .inl (.inl (.inl h))
    ·exact .inl (.inl (.inr ⟨⟨c,hc,h⟩,h'⟩))
    ·rcases h with rfl|rfl
     ·exact .inl (.inr ⟨rfl,h'⟩)
     ·exact .inr ⟨rfl,h'⟩
  ·simp only at t3 u3;omega
 ·have hjl:j=l.length:=by
   have:=of_decide_eq_false (p:=((j:Int)<(l.length:Int))) hd;omega
  subst hjl;rw[List.take_length] at s2;exact Rn.some ⟨s1,s2,s3⟩
theorem KB (l:List Claim) (s:Int) (hl:l.length≤1000000):CN big l s=some ((fC l s).getD (-1,0)):=by
 refine Rn.eqv ?_;unfold CN;refine Rn.bn (P:=fun y=>y=match fC l s with|some v=>.inr v|none=>.inl ()) (zF _ (fun j a=>a=(j:Int)∧fC l s=fC (l.drop j) s) l.length (by unfold big;omega) ⟨rfl,by simp⟩ fun j a hj hI=>?_) fun y hy=>?_
 ·obtain⟨rfl,hI⟩:=hI;refine Rn.lt (Rn.lt (zB (fun hd=>?_) fun hd=>?_))
  ·have hjl:j<l.length:=by
    have:=of_decide_eq_true (p:=((j:Int)<(l.length:Int))) hd;omega
   have hnth:=AF hjl;rw[List.drop_eq_getElem_cons hjl] at hI;generalize l[j]=c at hI hnth;rcases Decidable.em (c.frm≤s∧s≤c.to) with hc|hc
   ·refine zC (v:=true) ?_ (Rn.lt (zB (fun _=>zC hnth (Rn.some ?_)) (fun h=>by simp at h)))
    ·rw[hnth];simp only[Ar,AA];rw[le_t hc.1,AT,le_t hc.2]
    ·rw[hI,show fC (c::List.drop (j+1) l) s=some (c.node,c.epoch) from BC (p:=cP c) hc.1 hc.2]
   ·refine zC (v:=false) ?_ (Rn.lt (zB (fun h=>by simp at h) fun _=>Rn.lt (Rn.some ⟨hjl,?_,?_⟩)))
    ·rw[hnth];simp only[Ar,AA];rcases Decidable.em (c.frm≤s) with h1|h1
     ·rw[le_t h1,AT,le_f (by omega)]
     ·rw[le_f (by omega),A6]
    ·rw[Ao (by omega) (by omega)];rfl
    ·rw[hI];exact BO (p:=cP c) hc
  ·have hjl:j=l.length:=by
    have:=of_decide_eq_false (p:=((j:Int)<(l.length:Int))) hd;omega
   subst hjl;rw[List.drop_length] at hI;refine Rn.some ?_;rw[hI];rfl
 ·subst hy;cases fC l s with
  |some v=>exact Rn.some rfl
  |none=>exact Rn.some rfl
theorem K6 {l:List Claim} {c:Claim} (hl:l.length≤1000000) (hb:∀ x∈l,inB x.to) (hc:inB c.frm):Rn (Ch big l c) fun m=>m.map cP=putP (l.map cP) (cP c)∧m.length≤l.length+1:=by
 unfold Ch;refine Rn.lt (Rn.lt ?_);rw[By,Aq (by omega) (by omega)];unfold inB at hc;rcases Decidable.em (l=[]) with rfl|hne
 ·refine zC (v:=false) rfl (Rn.lt (zB (fun h=>by simp at h) fun _=>Rn.chk rfl (Rn.lt (Rn.some ⟨rfl,by simp⟩))))
 ·obtain⟨k,x,rfl⟩:∃ k x,l=k++[x]:=⟨l.dropLast,l.getLast hne,(List.dropLast_concat_getLast hne).symm⟩;have hx:=hb x (by simp);unfold inB at hx;have e1:(((k++[x]).length:Nat):Int) - 1=((k.length:Nat):Int):=by simp
  have hk:k.length<(k++[x]).length:=by simp
  have hn:nth (k++[x]) ((k.length:Nat):Int)=some x:=by rw[AF hk];simp
  rw[e1];have hm:putP ((k++[x]).map cP) (cP c)=if x.to+1=c.frm∧(x.node,x.epoch)=(c.node,c.epoch) then k.map cP++[(x.frm,c.to,(x.node,x.epoch))] else (k++[x]).map cP++[cP c]:=by
   unfold putP;rw[List.map_append,show [x].map cP=[cP x] from rfl,List.getLast?_concat];simp only[List.dropLast_concat];rfl
  rw[hm];rcases Decidable.em (x.to+1=c.frm∧(x.node,x.epoch)=(c.node,c.epoch)) with hq|hq
  ·rw[if_pos hq];obtain⟨q1,q2⟩:=hq;have q3:x.node=c.node:=congrArg Prod.fst q2;have q4:x.epoch=c.epoch:=congrArg Prod.snd q2;refine zC (v:=true) ?_ (Rn.lt (zB (fun _=>zC hn (Rn.lt (Rn.some ⟨?_,?_⟩))) (fun h=>by simp at h)))
   ·rw[ge_t (by omega)];simp only[AA,AT];rw[hn];simp only[Ar];rw[Aq (by omega) (by omega),eq_t (by omega),AT,eq_t q3,AT,eq_t q4]
   ·rw[Int.toNat_natCast,List.set_append_right _ _ (by omega),Nat.sub_self];simp[cP]
   ·simp
  ·rw[if_neg hq];refine zC (v:=false) ?_ (Rn.lt (zB (fun h=>by simp at h) fun _=>Rn.chk (by simp[room];simp at hl;omega) (Rn.lt (Rn.some ⟨by simp,by simp⟩))));rw[ge_t (by omega)];simp only[AA,AT];rw[hn];simp only[Ar];rw[Aq (by omega) (by omega)];rcases Decidable.em (x.to=c.frm - 1) with h1|h1
   ·rw[eq_t h1,AT];rcases Decidable.em (x.node=c.node) with h2|h2
    ·rw[eq_t h2,AT];have h3:x.epoch≠c.epoch:=fun e=>hq ⟨by omega,by rw[h2,e]⟩;rw[eq_f h3]
    ·rw[eq_f h2,A6]
   ·rw[eq_f h1,A6]
end Go.Proofs.Ytenemndpignaoaa
namespace Go.Proofs.Ytenemndpignaoaa
open Go Go.RowKit
section
variable {β:Type}
def FinP (out:List (Int×Int×β)) (f:Int→Option β):Prop:=canP out∧∀ s,fnP out s=f s
theorem FinP.ext {l m:List (Int×Int×β)} {f g:Int→Option β} (hl:FinP l f) (hm:FinP m g) (h:∀ s,f s=g s):l=m:=Fi hl.1 hm.1 fun s=>by rw[hl.2,hm.2,h]
def Stp (m:List Int) (f:Int→Option β):Prop:=(∀ s,s+1 ∉ m→f (s+1)=f s)∧∀ s,s<0∨16384≤s→f s=none
theorem Stp.const {m:List Int} {f:Int→Option β} (h:Stp m f) {a s:Int} (h1:a≤s) (h2:∀ x∈m,¬ (a<x∧x≤s)):f s=f a:=by
 obtain⟨n,hn⟩:=Int.eq_ofNat_of_zero_le (show 0≤s - a by omega);have key:∀ k:Nat,k≤n→f (a+k)=f a:=by
  intro k;induction k with
  |zero=>intro _;simp
  |succ k ih =>
   intro hk;have e:a+((k+1:Nat):Int)=(a+k)+1:=by omega
   rw[e,h.1 (a+k) (fun hmem=>h2 _ hmem (by omega)),ih (by omega)]
 have:=key n (Nat.le_refl _);rwa [← hn,show a+(s - a)=s by omega] at this
theorem Stp.first {m:List Int} {f:Int→Option β} (h:Stp m f) (hm:SM m) (hl:0<m.length):BdP m[0] [] f:=by
 refine BdP.nil fun s hs=>?_;rcases Decidable.em (s<0) with h0|h0
 ·exact h.2 s (.inl h0)
 ·rw[h.const (a:=-1) (by omega) fun x hx hc=>?_]
  ·exact h.2 _ (.inl (by omega))
  ·obtain⟨i,hi,rfl⟩:=List.mem_iff_getElem.1 hx;rcases Nat.eq_zero_or_pos i with rfl|hp
   ·omega
   ·have:=List.pairwise_iff_getElem.1 hm.1 0 i hl hi hp;omega
theorem Stp.next [DecidableEq β] {m:List Int} {f:Int→Option β} (h:Stp m f) (hm:SM m) {j:Nat} (hj:j+1<m.length) {out:List (Int×Int×β)} (hb:BdP m[j] out f) :
  (f m[j]=none→BdP m[j+1] out f)∧∀ v,f m[j]=some v→BdP m[j+1] (putP out (m[j],m[j+1] - 1,v)) f:=by
 have hlt:=List.pairwise_iff_getElem.1 hm.1 j (j+1) (by omega) hj (by omega);have hc:∀ s,m[j]≤s→s<m[j+1]→f s=f m[j]:=by
  intro s h1 h2;refine h.const h1 fun x hx hc=>?_;obtain⟨i,hi,rfl⟩:=List.mem_iff_getElem.1 hx;rcases Nat.lt_trichotomy i j with h3|rfl|h3
  ·have:=List.pairwise_iff_getElem.1 hm.1 i j hi (by omega) h3;omega
  ·omega
  ·rcases Nat.eq_or_lt_of_le h3 with h4|h4
   ·subst h4;have h5:m[j.succ]=m[j+1]:=rfl;omega
   ·have:=List.pairwise_iff_getElem.1 hm.1 (j+1) i hj hi h4;omega
 refine⟨fun hn=>hb.skip (by omega) fun s h1 h2=>by rw[hc s h1 h2,hn],fun v hv=>?_⟩;have:=hb.put (b:=m[j+1] - 1) (v:=v) (by omega) fun s h1 h2=>by rw[hc s h1 (by omega),hv]
 rwa [show m[j+1] - 1+1=m[j+1] by omega] at this
theorem Stp.last {m:List Int} {f:Int→Option β} (h:Stp m f) (hm:SM m) {j:Nat} (hj:j<m.length) (hl:m.length≤j+1) {out:List (Int×Int×β)} (hb:BdP m[j] out f):FinP out f:=by
 refine⟨hb.can,fun s=>?_⟩;rcases Decidable.em (s<m[j]) with h1|h1
 ·exact hb.fn s h1
 ·have e:f s=none:=by
   rcases Decidable.em (16384≤s) with h2|h2
   ·exact h.2 s (.inr h2)
   ·have:=h.const (a:=s) (s:=16384) (by omega) fun x hx hc=>by
     obtain⟨i,hi,rfl⟩:=List.mem_iff_getElem.1 hx;rcases Nat.eq_or_lt_of_le (show i≤j by omega) with h3|h3
     ·subst h3;omega
     ·have:=List.pairwise_iff_getElem.1 hm.1 i j hi hj h3;omega
    rw[← this];exact h.2 _ (.inr (Int.le_refl _))
  rw[e];exact Do fun p hp hc=>by have:=hb.pos p hp;omega
theorem Stp.none {f:Int→Option β} (h:Stp [] f):FinP ([]:List (Int×Int×β)) f:=by
 refine⟨trivial,fun s=>?_⟩;rcases Decidable.em (s<0) with h0|h0
 ·rw[h.2 s (.inl h0)];rfl
 ·rw[h.const (a:=-1) (by omega) (fun x hx=>by simp at hx),h.2 _ (.inl (by omega))];rfl
end
def sP (x:Span):Int×Int×Unit:=(x.frm,x.to,())
def inS (l:List Span) (s:Int):Prop:=(0≤s∧s<16384)∧∃ x∈l,x.frm≤s∧s≤x.to
instance (l:List Span) (s:Int):Decidable (inS l s):=by unfold inS;infer_instance
def fS (p:Int→Prop) [DecidablePred p] (s:Int):Option Unit:=if p s then some () else none
theorem Ie (l:List Span) (s:Int) (hl:l.length≤1000000):Di big l s=some (decide (inS l s)):=by
 refine Rn.eqv ?_;unfold Di;refine Rn.bn (P:=fun y=>y=if inS l s then .inr true else .inl ()) (zF _ (fun j a=>a=(j:Int)∧(inS l s↔inS (l.drop j) s)) l.length (by unfold big;omega) ⟨rfl,by simp⟩ fun j a hj hI=>?_) fun y hy=>?_
 ·obtain⟨rfl,hI⟩:=hI;refine Rn.lt (Rn.lt (zB (fun hd=>?_) fun hd=>?_))
  ·have hjl:j<l.length:=by
    have:=of_decide_eq_true (p:=((j:Int)<(l.length:Int))) hd;omega
   have hnth:=AF hjl;rw[List.drop_eq_getElem_cons hjl] at hI;generalize l[j]=c at hI hnth;rcases Decidable.em ((0≤s∧s<16384)∧c.frm≤s∧s≤c.to) with hc|hc
   ·obtain⟨⟨h1,h2⟩,h3,h4⟩:=hc;refine zC (v:=true) ?_ (Rn.lt (zB (fun _=>Rn.some ?_) (fun h=>by simp at h)))
    ·rw[ge_t h1];simp only[AA,AT];rw[lt_t h2,AT,hnth];simp only[Ar];rw[le_t h3,AT,le_t h4]
    ·rw[if_pos (hI.2 ⟨⟨h1,h2⟩,c,by simp,h3,h4⟩)]
   ·refine zC (v:=false) ?_ (Rn.lt (zB (fun h=>by simp at h) fun _=>Rn.lt (Rn.some ⟨hjl,?_,?_⟩)))
    ·rcases Decidable.em (0≤s) with h1|h1
     ·rw[ge_t h1];simp only[AA,AT];rcases Decidable.em (s<16384) with h2|h2
      ·rw[lt_t h2,AT,hnth];simp only[Ar];rcases Decidable.em (c.frm≤s) with h3|h3
       ·rw[le_t h3,AT,le_f (by omega)]
       ·rw[le_f (by omega),A6]
      ·rw[lt_f (by omega),A6]
     ·rw[ge_f (by omega)];simp only[AA,A6]
    ·rw[Ao (by omega) (by omega)];rfl
    ·rw[hI];unfold inS;constructor
     ·rintro⟨h1,x,hx,h2⟩;rcases List.mem_cons.1 hx with rfl|hx
      ·exact absurd ⟨h1,h2⟩ hc
      ·exact⟨h1,x,hx,h2⟩
     ·rintro⟨h1,x,hx,h2⟩;exact⟨h1,x,by simp[hx],h2⟩
  ·have hjl:j=l.length:=by
    have:=of_decide_eq_false (p:=((j:Int)<(l.length:Int))) hd;omega
   subst hjl;rw[List.drop_length] at hI;refine Rn.some ?_;rw[if_neg (by rw[hI];unfold inS;simp)]
 ·subst hy;split
  ·rename_i h
   exact Rn.some (by simp[h])
  ·rename_i h
   exact Rn.some (by simp[h])
theorem Stp.inS {m:List Int} {l:List Span} (h0:(0:Int)∈m) (h1:(16384:Int)∈m) (h:∀ x∈l,x.frm≤x.to→(0≤x.frm∧x.frm≤16384→x.frm∈m)∧(x.to<16384→0≤x.to+1→x.to+1∈m)):∀ s,s+1 ∉ m→(Go.Proofs.Ytenemndpignaoaa.inS l (s+1)↔Go.Proofs.Ytenemndpignaoaa.inS l s):=by
 intro s hs;have n0:s+1≠0:=fun e=>hs (e ▸ h0);have n1:s+1≠16384:=fun e=>hs (e ▸ h1);unfold Go.Proofs.Ytenemndpignaoaa.inS;constructor
 ·rintro⟨a,x,hx,b,c⟩;refine⟨by omega,x,hx,?_,by omega⟩;rcases Decidable.em (x.frm≤s) with h2|h2
  ·exact h2
  ·exfalso
   have e:x.frm=s+1:=by omega
   have:=(h x hx (by omega)).1 (by omega);rw[e] at this;exact hs this
 ·rintro⟨a,x,hx,b,c⟩;refine⟨by omega,x,hx,by omega,?_⟩;rcases Decidable.em (s+1≤x.to) with h2|h2
  ·exact h2
  ·exfalso
   have e:x.to=s:=by omega
   have:=(h x hx (by omega)).2 (by omega) (by omega);rw[e] at this;exact hs this
end Go.Proofs.Ytenemndpignaoaa
namespace Go.Proofs.Ytenemndpignaoaa
open Go Go.RowKit
theorem JJ {a b:List Span} (hl:a.length+b.length≤100000):Rn (DG big a b) fun m=>SM m∧(0:Int)∈m∧(16384:Int)∈m ∧
  (∀ x∈a++b,x.frm≤x.to→(0≤x.frm∧x.frm≤16384→x.frm∈m)∧(x.to<16384→0≤x.to+1→x.to+1∈m))∧m.length≤2+2*(a.length+b.length):=by
 unfold DG;refine Rn.chk rfl (Rn.bn (P:=fun m=>SM m∧(0:Int)∈m∧(16384:Int)∈m ∧
  (∀ x∈a++b,x.frm≤x.to→(0≤x.frm∧x.frm≤16384→x.frm∈m)∧(x.to<16384→0≤x.to+1→x.to+1∈m))∧m.length≤2+2*(a.length+b.length))
  (zF _ (fun j y=>∃ m,y=(m,(j:Int))∧SM m∧(0:Int)∈m∧(16384:Int)∈m ∧
  (∀ x∈(a++b).take j,x.frm≤x.to→(0≤x.frm∧x.frm≤16384→x.frm∈m)∧(x.to<16384→0≤x.to+1→x.to+1∈m))∧m.length≤2+2*j) (a.length+b.length) (by unfold big;omega)
  ⟨[0,16384],rfl,⟨by simp,by simp⟩,by simp,by simp,by simp,by simp⟩ fun j y hj hI=>?_) fun m h=>Rn.some h)
 obtain⟨m,rfl,s1,s2,s3,s4,s5⟩:=hI;refine Rn.lt (Rn.lt (Rn.lt ?_));rw[By,By,Ao (by omega) (by omega)];refine Rn.lt (zB (fun hd=>?_) fun hd=>?_)
 ·have hjl:j<(a++b).length:=by
   have:=of_decide_eq_true (p:=((j:Int)<(a.length:Int)+(b.length:Int))) hd;simp;omega
  have hjl':j<a.length+b.length:=by simpa using hjl
  refine Rn.bn (P:=fun m2=>SM m2∧(∀ y∈m,y∈m2)∧((a++b)[j].frm≤(a++b)[j].to→(0≤(a++b)[j].frm∧(a++b)[j].frm≤16384→(a++b)[j].frm∈m2)∧((a++b)[j].to<16384→0≤(a++b)[j].to+1→(a++b)[j].to+1∈m2))∧m2.length≤m.length+2) ?_ fun m2 h2=>?_
  ·refine zC (v:=(a++b)[j]) ?_ ?_
   ·simp only[AA];rcases Decidable.em (j<a.length) with h1|h1
    ·rw[lt_t (by omega),AT,AF h1];simp only[Ar];rw[List.getElem_append_left h1]
    ·rw[lt_f (by omega),A6,Aq (by omega) (by omega),show (j:Int) - (a.length:Int)=((j - a.length:Nat):Int) by omega,AF (show j - a.length<b.length by omega)];simp only[Ar];rw[List.getElem_append_right (by omega)]
   ·generalize (a++b)[j]=x;rcases Decidable.em (x.frm≤x.to) with hx|hx
    ·refine Rn.bn (P:=fun m'=>SM m'∧(∀ y,y∈m'↔y∈m∨(y=x.frm∧0≤x.frm∧x.frm≤16384))∧m'.length≤m.length+1) ?_ fun m1 h1=>?_
     ·simp only[AA];rw[le_t hx,AT];refine Rn.bn (EK s1 (by omega)) fun v hv=>Rn.some hv
     ·obtain⟨t1,t2,t3⟩:=h1;rcases Decidable.em (x.to<16384) with hz|hz
      ·refine zC (v:=true) ?_ (Rn.lt (zB (fun _=>Rn.lt ?_) fun h=>by simp at h))
       ·simp only[AA];rw[le_t hx,AT,lt_t hz]
       ·refine Rn.bn (P:=fun m'=>SM m'∧(∀ y,y∈m'↔y∈m1∨(y=addI .i64 x.to 1∧0≤addI .i64 x.to 1∧addI .i64 x.to 1≤16384))∧m'.length≤m1.length+1) (EK t1 (by omega)) fun m3 h3=>Rn.some ?_;obtain⟨u1,u2,u3⟩:=h3;refine⟨u1,fun y hy=>(u2 y).2 (.inl ((t2 y).2 (.inl hy))),fun _=>⟨fun hr=>(u2 _).2 (.inl ((t2 _).2 (.inr ⟨rfl,hr⟩))),fun _ h0=>?_⟩,by omega⟩;have e:addI .i64 x.to 1=x.to+1:=Ao (by omega) (by omega);rw[e] at u2;exact (u2 _).2 (.inr ⟨rfl,h0,by omega⟩)
      ·refine zC (v:=false) ?_ (Rn.lt (zB (fun h=>by simp at h) fun _=>Rn.some ?_))
       ·simp only[AA];rw[le_t hx,AT,lt_f (by omega)]
       ·exact⟨t1,fun y hy=>(t2 y).2 (.inl hy),fun _=>⟨fun hr=>(t2 _).2 (.inr ⟨rfl,hr⟩),fun h=>absurd h hz⟩,by omega⟩
    ·refine zC (v:=m) ?_ (zC (v:=false) ?_ (Rn.lt (zB (fun h=>by simp at h) fun _=>Rn.some ⟨s1,fun y hy=>hy,fun h=>absurd h hx,by omega⟩)))
     ·simp only[AA];rw[le_f (by omega),A6]
     ·simp only[AA];rw[le_f (by omega),A6]
  ·obtain⟨t1,t2,t3,t4⟩:=h2;refine Rn.lt (Rn.some ⟨hjl',m2,?_,t1,t2 _ s2,t2 _ s3,?_,?_⟩)
   ·rw[Ao (by first|omega|(simp only;omega)) (by first|omega|(simp only;omega))];rfl
   ·intro x hx hle;rw[← List.take_append_getElem hjl] at hx;rcases List.mem_append.1 hx with hx|hx
    ·obtain⟨p,q⟩:=s4 x hx hle;exact⟨fun h=>t2 _ (p h),fun h h'=>t2 _ (q h h')⟩
    ·simp at hx;subst hx;exact t3 hle
   ·omega
 ·have hjl:j=a.length+b.length:=by
   have:=of_decide_eq_false (p:=((j:Int)<(a.length:Int)+(b.length:Int))) hd;omega
  subst hjl;rw[List.take_of_length_le (by simp)] at s4;exact Rn.some ⟨s1,s2,s3,s4,s5⟩
theorem FT {p:Int→Prop} [DecidablePred p] {s:Int} (h:¬ p s):fS p s=none:=if_neg h
theorem GY {p:Int→Prop} [DecidablePred p] {s:Int} (h:p s):fS p s=some ():=if_pos h
theorem JK {l:List Span} {k:List Span} {x:Span} {a b:Int} (hl:l=k++[x]):putP (l.map sP) (a,b,())=if x.to+1=a then (k++[(⟨x.frm,b⟩:Span)]).map sP else (l++[(⟨a,b⟩:Span)]).map sP:=by
 subst hl;unfold putP;rw[List.map_append,show [x].map sP=[sP x] from rfl,List.getLast?_concat];simp only[List.dropLast_concat,and_true,sP];split <;> simp[sP]
theorem IR {l:List Span} (hl:l.length≤10000):Rn (B3 big l) fun r=>FinP (r.map sP) (fS (inS l))∧r.length≤2+2*l.length:=by
 unfold B3 EX;refine Rn.bn (P:=fun r=>FinP (r.map sP) (fS (inS l))∧r.length≤2+2*l.length) (Rn.bn (JJ (b:=[]) (by simp;omega)) fun m hm=>?_) fun r h=>Rn.some h;obtain⟨s1,s2,s3,s4,s5⟩:=hm;simp only[List.append_nil,List.length_nil,Nat.add_zero] at s4 s5;have hst:Stp m (fS (inS l)):=by
  refine⟨fun s hs=>?_,fun s hs=>FT fun h=>?_⟩
  ·have:=Stp.inS s2 s3 s4 s hs;unfold fS;simp only[this]
  ·obtain⟨h1,_⟩:=h;omega
 have hpos:0<m.length:=List.length_pos_of_mem s2;refine Rn.bn (P:=fun r=>FinP (r.map sP) (fS (inS l))∧r.length≤2+2*l.length) (zF _ (fun j y=>∃ out:List Span,y=((j:Int),out)∧out.length≤j∧(∀ x∈out,inB x.to)∧∃ h:j<m.length,BdP m[j] (out.map sP) (fS (inS l))) m.length (by unfold big;omega) ⟨[],rfl,by simp,by simp,hpos,hst.first s1 hpos⟩ fun j y hj hI=>?_) fun r h=>Rn.chk (by simp[room];omega) (Rn.some h);obtain⟨out,rfl,t1,t2,hjm,t3⟩:=hI;refine Rn.lt (Rn.lt (Rn.lt ?_));rw[Ao (by omega) (by omega),By];refine zB (fun hd=>?_) fun hd=>?_
 ·have hj1:j+1<m.length:=by
   have:=of_decide_eq_true (p:=((j:Int)+1<(m.length:Int))) hd;omega
  have hn0:nth m (j:Int)=some m[j]:=AF hjm;have hn1:nth m ((j:Int)+1)=some m[j+1]:=AF (i:=j+1) hj1;have hm0:=s1.2 _ (List.getElem_mem hjm);have hm1:=s1.2 _ (List.getElem_mem hj1);obtain⟨g1,g2⟩:=hst.next s1 hj1 t3;refine Rn.bn (P:=fun o=>o.length≤j+1∧(∀ x∈o,inB x.to)∧BdP m[j+1] (o.map sP) (fS (inS l))) ?_ fun o ho=>Rn.lt (Rn.some ⟨by omega,o,?_,ho.1,ho.2.1,hj1,ho.2.2⟩)
  ·refine zC hn0 (zC (Ie l _ (by omega)) (zC (Ie [] _ (by simp)) ?_));rw[show decide (inS [] m[j])=false from decide_eq_false (by unfold inS;simp)];rcases Decidable.em (inS l m[j]) with hin|hin
   ·rw[decide_eq_true hin];refine zC (v:=(true,true)) rfl (zC (v:=true) rfl (Rn.lt (zB (fun h=>by simp[notB] at h) fun _=>?_)));have g3:=g2 () (GY hin);rcases Decidable.em (out=[]) with he|he
    ·subst he;refine zC (v:=false) rfl (Rn.lt (zB (fun h=>by simp at h) fun _=>zC hn0 (Rn.lt ?_)));refine zC hn1 (Rn.lt (Rn.chk rfl (Rn.lt (Rn.some ⟨by simp,?_,?_⟩))))
     ·intro x hx;simp at hx;subst hx;simp only[inB];rw[Aq (by omega) (by omega)];omega
     ·rw[Aq (by omega) (by omega)];exact g3
    ·obtain⟨k,x,rfl⟩:∃ k x,out=k++[x]:=⟨out.dropLast,out.getLast he,(List.dropLast_concat_getLast he).symm⟩;have hxt:=t2 x (by simp);unfold inB at hxt;have el:subI .i64 (lenI (k++[x])) 1=((k.length:Nat):Int):=by
      rw[By,Aq (by omega) (by omega)];simp
     have hk:k.length<(k++[x]).length:=by simp
     have hn:nth (k++[x]) ((k.length:Nat):Int)=some x:=by rw[AF hk];simp
     rw[JK rfl] at g3;refine zC (v:=eqI x.to (m[j] - 1)) ?_ (Rn.lt (zB (fun h=>?_) fun h=>?_))
     ·simp only[AA];rw[gt_t (by rw[By];simp),AT,el,hn];simp only[Ar];rw[hn0];simp only[Ar];rw[Aq (by omega) (by omega)]
     ·have hx:x.to=m[j] - 1:=of_decide_eq_true h;rw[if_pos (by omega)] at g3;refine Rn.lt (Rn.lt (Rn.lt ?_));rw[el];refine zC hn1 (Rn.lt (zC hn (Rn.lt (Rn.some ?_))));rw[Aq (by omega) (by omega),Int.toNat_natCast,List.set_append_right _ _ (by omega),Nat.sub_self];refine⟨by simp at t1 ⊢;omega,?_,g3⟩;intro z hz;rcases List.mem_append.1 hz with hz|hz
      ·exact t2 z (by simp[hz])
      ·simp at hz;subst hz;simp only[inB];omega
     ·have hx:x.to≠m[j] - 1:=of_decide_eq_false h;rw[if_neg (by omega)] at g3;refine zC hn0 (Rn.lt ?_);refine zC hn1 (Rn.lt (Rn.chk (by simp[room];simp at t1;omega) (Rn.lt (Rn.some ?_))));rw[Aq (by omega) (by omega)];refine⟨by simp at t1 ⊢;omega,?_,g3⟩;intro z hz;rcases List.mem_append.1 hz with hz|hz
      ·exact t2 z hz
      ·simp at hz;subst hz;simp only[inB];omega
   ·rw[decide_eq_false hin];refine zC (v:=(false,false)) rfl (zC (v:=false) rfl (Rn.lt (zB (fun _=>Rn.some ⟨Nat.le_succ_of_le t1,t2,g1 (FT hin)⟩) fun h=>by simp[notB] at h)))
  ·rfl
 ·have hj1:m.length≤j+1:=by
   have:=of_decide_eq_false (p:=((j:Int)+1<(m.length:Int))) hd;omega
  exact Rn.some ⟨hst.last s1 hjm hj1 t3,show out.length≤2+2*l.length by omega⟩
end Go.Proofs.Ytenemndpignaoaa
namespace Go.Proofs.Ytenemndpignaoaa
open Go Go.RowKit
section
variable {β:Type}
theorem CU:∀ {l:List (Int×Int×β)} {p:Int×Int×β},canP l→p∈l→(p.1≤p.2.1∧∀ s,p.1≤s→s≤p.2.1→fnP l s=some p.2.2)
 |[],p,_,hp=>by simp at hp
 |q::l,p,h,hp=>by
  rcases List.mem_cons.1 hp with rfl|hp
  ·exact⟨h.head,fun s h1 h2=>BC h1 h2⟩
  ·obtain⟨h1,h2⟩:=CU h.tail hp;have h3:=h.lt p hp;exact⟨h1,fun s g1 g2=>by rw[BO (by omega),h2 s g1 g2]⟩
theorem Gq:∀ {l:List (Int×Int×β)} {a b:Int},canP l→(∀ p∈l,a≤p.1∧p.2.1≤b)→a≤b+1→(l.length:Int)≤b+1 - a
 |[],a,b,_,_,h=>by simp;omega
 |p::l,a,b,hc,hp,h=>by
  have h1:=hp p (by simp);have h2:=hc.head;have:=Gq (a:=p.2.1+1) (b:=b) hc.tail (fun q hq=>⟨by have:=hc.lt q hq;omega,(hp q (by simp[hq])).2⟩) (by omega);simp;omega
end
def RngC (l:List Claim):Prop:=∀ c∈l,0≤c.frm∧c.frm≤c.to∧c.to≤16383∧0≤c.node∧1≤c.epoch
def GoodC (l:List Claim):Prop:=canP (l.map cP)∧RngC l
def Tells (f:Int→Option (Int×Int)):Prop:=∀ s v,f s=some v→(0≤s∧s≤16383)∧0≤v.1∧1≤v.2
theorem LH:∀ {a b:Claim},cP a=cP b→a=b:=by
 intro a b h;obtain⟨a1,a2,a3,a4⟩:=a;obtain⟨b1,b2,b3,b4⟩:=b;simp[cP] at h;obtain⟨h1,h2,h3,h4⟩:=h;subst h1 h2 h3 h4;rfl
theorem GZ {α γ:Type} {f:α→γ} (hf:∀ {a b},f a=f b→a=b):∀ {l m:List α},l.map f=m.map f→l=m
 |[],[],_=>rfl
 |[],b::m,h=>by simp at h
 |a::l,[],h=>by simp at h
 |a::l,b::m,h=>by
  rw[List.map_cons,List.map_cons,List.cons.injEq] at h;have e1:a=b:=hf h.1;have e2:l=m:=GZ (f:=f) hf h.2;rw[e1,e2]
theorem FinP.good {l:List Claim} {f:Int→Option (Int×Int)} (h:FinP (l.map cP) f) (ht:Tells f):GoodC l:=by
 refine⟨h.1,fun c hc=>?_⟩;obtain⟨h1,h2⟩:=CU h.1 (List.mem_map_of_mem hc);have a:=ht c.frm _ ((h.2 _).symm.trans (h2 c.frm (Int.le_refl _) h1));have b:=ht c.to _ ((h.2 _).symm.trans (h2 c.to h1 (Int.le_refl _)));have h1':c.frm≤c.to:=h1;have e1:(cP c).2.2.1=c.node:=rfl;have e2:(cP c).2.2.2=c.epoch:=rfl;rw[e1,e2] at a;exact⟨a.1.1,h1',b.1.2,a.2.1,a.2.2⟩
theorem GoodC.tells {l:List Claim} (h:GoodC l):Tells (fC l):=by
 intro s v hv;have key:∀ l:List Claim,RngC l→fC l s=some v→(0≤s∧s≤16383)∧0≤v.1∧1≤v.2:=by
  intro l;induction l with
  |nil=>intro _ h;simp[fC,fnP] at h
  |cons c l ih =>
   intro hr hf;have hc:=hr c (by simp);rcases Decidable.em (c.frm≤s∧s≤c.to) with h1|h1
   ·have:fC (c::l) s=some (c.node,c.epoch):=BC (p:=cP c) h1.1 h1.2;rw[this] at hf;have:=Option.some.inj hf;subst this;exact⟨by omega,hc.2.2.2.1,hc.2.2.2.2⟩
   ·have:fC (c::l) s=fC l s:=BO (p:=cP c) h1;rw[this] at hf;exact ih (fun x hx=>hr x (by simp[hx])) hf
 exact key l h.2 hv
theorem GoodC.len {l:List Claim} (h:GoodC l):l.length≤16384:=by
 have:=Gq (a:=0) (b:=16383) h.1 (fun p hp=>by
  obtain⟨c,hc,rfl⟩:=List.mem_map.1 hp;have:=h.2 c hc;exact⟨this.1,this.2.2.1⟩) (by omega)
 simp at this;omega
theorem GoodC.fin {l:List Claim} (h:GoodC l):FinP (l.map cP) (fC l):=⟨h.1,fun _=>rfl⟩
theorem GoodC.step {l:List Claim} (h:GoodC l) {m:List Int} (hm:∀ c∈l,c.frm∈m∧c.to+1∈m):∀ s,s+1 ∉ m→fC l (s+1)=fC l s:=by
 intro s hs;refine Gp fun p hp=>?_;obtain⟨c,hc,rfl⟩:=List.mem_map.1 hp;obtain⟨h1,h2⟩:=hm c hc;exact⟨fun e=>hs (by rw[e];exact h1),fun e=>hs (by rw[e];exact h2)⟩
def giveF (f:Int→Option (Int×Int)) (p:Int→Prop) [DecidablePred p] (v:Int×Int) (s:Int):Option (Int×Int):=if p s then some v else f s
theorem KC {l:List Span} {s:Int}:fnP (l.map sP) s=fS (fun s=>∃ x∈l,x.frm≤s∧s≤x.to) s:=by
 induction l with
 |nil=>rw[FT (by simp)];rfl
 |cons x l ih =>
  rcases Decidable.em (x.frm≤s∧s≤x.to) with h|h
  ·rw[GY ⟨x,by simp,h⟩];exact BC (p:=sP x) h.1 h.2
  ·have:fnP ((x::l).map sP) s=fnP (l.map sP) s:=BO (p:=sP x) h;rw[this,ih];unfold fS;have:(∃ y∈x::l,y.frm≤s∧s≤y.to)↔(∃ y∈l,y.frm≤s∧s≤y.to):=by
    constructor
    ·rintro⟨y,hy,h2⟩;rcases List.mem_cons.1 hy with rfl|hy
     ·exact absurd h2 h
     ·exact⟨y,hy,h2⟩
    ·rintro⟨y,hy,h2⟩;exact⟨y,by simp[hy],h2⟩
   simp only[this]
def SaysS (l:List Span) (p:Int→Prop) [DecidablePred p]:Prop:=FinP (l.map sP) (fS p)
theorem SaysS.iff {l:List Span} {p:Int→Prop} [DecidablePred p] (h:SaysS l p) (s:Int):(∃ x∈l,x.frm≤s∧s≤x.to)↔p s:=by
 have:=h.2 s;rw[KC] at this;unfold fS at this;constructor
 ·intro h1;rw[if_pos h1] at this;rcases Decidable.em (p s) with h2|h2
  ·exact h2
  ·rw[if_neg h2] at this;simp at this
 ·intro h1;rw[if_pos h1] at this;rcases Decidable.em (∃ x∈l,x.frm≤s∧s≤x.to) with h2|h2
  ·exact h2
  ·rw[if_neg h2] at this;simp at this
theorem SaysS.rng {l:List Span} {p:Int→Prop} [DecidablePred p] (h:SaysS l p) (hp:∀ s,p s→0≤s∧s≤16383):∀ x∈l,0≤x.frm∧x.frm≤x.to∧x.to≤16383:=by
 intro x hx;obtain⟨h1,-⟩:=CU h.1 (List.mem_map_of_mem hx);have h1':x.frm≤x.to:=h1;have a:=hp x.frm ((h.iff _).1 ⟨x,hx,Int.le_refl _,h1'⟩);have b:=hp x.to ((h.iff _).1 ⟨x,hx,h1',Int.le_refl _⟩);omega
theorem SaysS.len {l:List Span} {p:Int→Prop} [DecidablePred p] (h:SaysS l p) (hp:∀ s,p s→0≤s∧s≤16383):l.length≤16384:=by
 have:=Gq (a:=0) (b:=16383) h.1 (fun q hq=>by
  obtain⟨c,hc,rfl⟩:=List.mem_map.1 hq;have:=h.rng hp c hc;exact⟨this.1,this.2.2⟩) (by omega)
 simp at this;omega
theorem Cr {l:List Span}:∀ s,inS l s→0≤s∧s≤16383:=fun s h=>by have:=h.1;omega
theorem SaysS.inS {l:List Span} {p:Int→Prop} [DecidablePred p] (h:SaysS l p) (hp:∀ s,p s→0≤s∧s≤16383) (s:Int):Go.Proofs.Ytenemndpignaoaa.inS l s↔p s:=by
 unfold Go.Proofs.Ytenemndpignaoaa.inS;rw[h.iff];constructor
 ·exact fun h=>h.2
 ·intro h1;have:=hp s h1;exact⟨by omega,h1⟩
theorem SaysS.step {l:List Span} {p:Int→Prop} [DecidablePred p] (h:SaysS l p) {m:List Int} (hm:∀ x∈l,x.frm∈m∧x.to+1∈m):∀ s,s+1 ∉ m→(p (s+1)↔p s):=by
 intro s hs;have:fnP (l.map sP) (s+1)=fnP (l.map sP) s:=Gp fun q hq=>by
  obtain⟨c,hc,rfl⟩:=List.mem_map.1 hq;obtain⟨h1,h2⟩:=hm c hc;exact⟨fun e=>hs (by rw[e];exact h1),fun e=>hs (by rw[e];exact h2)⟩
 rw[h.2,h.2] at this;unfold fS at this;constructor
 ·intro h1;rw[if_pos h1] at this;rcases Decidable.em (p s) with h2|h2
  ·exact h2
  ·rw[if_neg h2] at this;simp at this
 ·intro h1;rw[if_pos h1] at this;rcases Decidable.em (p (s+1)) with h2|h2
  ·exact h2
  ·rw[if_neg h2] at this;simp at this
theorem JL {a:List Claim} {l:List Span} {nd ep:Int} (ha:GoodC a) (hl:l.length≤1000) (h1:0≤nd) (h2:1≤ep) :
  Rn (Cf big a l nd ep) fun r=>FinP (r.map cP) (giveF (fC a) (inS l) (nd,ep)):=by
 unfold Cf;have hal:=ha.len;refine Rn.bn (IR (by omega)) fun v hv=>?_;obtain⟨v1,v2⟩:=hv;have hv1:SaysS v (inS l):=v1;have hvr:=hv1.rng Cr;refine Rn.bn (Kf SM.nil (by simp;omega) fun c hc=>by have:=ha.2 c hc;unfold inB;omega) fun m0 hm0=>?_;obtain⟨s1,s2,s3⟩:=hm0;refine Rn.bn (P:=fun m=>SM m∧(∀ y,y∈m↔y∈m0∨((∃ c∈v,y=c.frm∨y=c.to+1)∧0≤y∧y≤16384))∧m.length≤m0.length+2*v.length) (zF _ (fun j y=>∃ m,y=(m,(j:Int))∧SM m∧(∀ y,y∈m↔y∈m0∨((∃ c∈v.take j,y=c.frm∨y=c.to+1)∧0≤y∧y≤16384))∧m.length≤m0.length+2*j) v.length (by unfold big;omega) ⟨m0,rfl,s1,by simp,by omega⟩ fun j y hj hI=>?_) fun m hm=>?_
 ·obtain⟨m1,rfl,t1,t2,t3⟩:=hI;simp only[List.length_nil,Nat.zero_add] at s3;refine Rn.lt (Rn.lt (zB (fun hd=>?_) fun hd=>?_))
  ·have hjl:j<v.length:=by
    have:=of_decide_eq_true (p:=((j:Int)<(v.length:Int))) hd;omega
   refine zC (AF hjl) ?_;have hb:=hvr _ (List.getElem_mem hjl);refine Rn.bn (EK (m:=m1) t1 (by omega)) fun m2 h2=>?_;obtain⟨u1,u2,u3⟩:=h2;refine Rn.lt ?_;rw[Ao (by omega) (by omega)];refine Rn.bn (EK u1 (by omega)) fun m3 h3=>?_;obtain⟨w1,w2,w3⟩:=h3;refine Rn.lt (Rn.some ⟨hjl,m3,?_,w1,fun y=>?_,by omega⟩)
   ·simp only[];rw[Ao (by omega) (by omega)];rfl
   ·rw[w2,u2,t2,← List.take_append_getElem hjl];simp only[List.mem_append,List.mem_singleton];constructor
    ·rintro ((( h|⟨⟨c,hc,h⟩,h'⟩)|⟨rfl,h,h'⟩)|⟨rfl,h,h'⟩)
     ·exact .inl h
     ·exact .inr ⟨⟨c,.inl hc,h⟩,h'⟩
     ·exact .inr ⟨⟨_,.inr rfl,.inl rfl⟩,h,h'⟩
     ·exact .inr ⟨⟨_,.inr rfl,.inr rfl⟩,h,h'⟩
    ·rintro (h|⟨⟨c,hc|rfl,h⟩,h'⟩)
     ·exact .inl (.inl (.inl h))
     ·exact .inl (.inl (.inr ⟨⟨c,hc,h⟩,h'⟩))
     ·rcases h with rfl|rfl
      ·exact .inl (.inr ⟨rfl,h'⟩)
      ·exact .inr ⟨rfl,h'⟩
  ·have hjl:j=v.length:=by
    have:=of_decide_eq_false (p:=((j:Int)<(v.length:Int))) hd;omega
   subst hjl;rw[List.take_length] at t2;exact Rn.some ⟨t1,t2,t3⟩
 obtain⟨t1,t2,t3⟩:=hm;simp only[List.length_nil,Nat.zero_add] at s3;have hma:∀ c∈a,c.frm∈m∧c.to+1∈m:=by
  intro c hc;have hr:=ha.2 c hc;exact⟨(t2 _).2 (.inl ((s2 _).2 (.inr ⟨⟨c,hc,.inl rfl⟩,by omega⟩))),(t2 _).2 (.inl ((s2 _).2 (.inr ⟨⟨c,hc,.inr rfl⟩,by omega⟩)))⟩
 have hmv:∀ x∈v,x.frm∈m∧x.to+1∈m:=by
  intro x hx;have hr:=hvr x hx;exact⟨(t2 _).2 (.inr ⟨⟨x,hx,.inl rfl⟩,by omega⟩),(t2 _).2 (.inr ⟨⟨x,hx,.inr rfl⟩,by omega⟩)⟩
 have hst:Stp m (giveF (fC a) (inS l) (nd,ep)):=by
  refine⟨fun s hs=>?_,fun s hs=>?_⟩
  ·unfold giveF;rw[ha.step hma s hs];simp only[hv1.step hmv s hs]
  ·unfold giveF;rw[if_neg fun h=>by have:=Cr s h;omega];cases hf:fC a s with
   |none=>rfl
   |some w=>exact absurd (ha.tells s w hf).1 (by omega)
 rcases Nat.eq_zero_or_pos m.length with hm0|hpos
 ·have hm0':m=[]:=List.length_eq_zero_iff.1 hm0;subst hm0';refine Rn.bn (P:=fun r=>r=[]) (zF _ (fun j y=>y=((0:Int),([]:List Claim))∧j=0) 0 (by unfold big;omega) ⟨rfl,rfl⟩ fun j y hj hI=>?_) fun r h=>?_
  ·obtain⟨rfl,rfl⟩:=hI;exact Rn.lt (Rn.lt (Rn.lt (zB (fun h=>absurd h (by decide)) fun _=>Rn.some rfl)))
  ·subst h;exact Rn.chk rfl (Rn.some hst.none)
 refine Rn.bn (P:=fun r=>FinP (r.map cP) (giveF (fC a) (inS l) (nd,ep))∧r.length≤m.length) (zF _ (fun j y=>∃ out:List Claim,y=((j:Int),out)∧out.length≤j∧(∀ x∈out,inB x.to)∧∃ h:j<m.length,BdP m[j] (out.map cP) (giveF (fC a) (inS l) (nd,ep))) m.length (by unfold big;omega) ⟨[],rfl,by simp,by simp,hpos,hst.first t1 hpos⟩ fun j y hj hI=>?_) fun r h=>Rn.chk (by have:=h.2;simp[room];omega) (Rn.some h.1);obtain⟨out,rfl,o1,o2,hjm,o3⟩:=hI;refine Rn.lt (Rn.lt (Rn.lt ?_));rw[Ao (by omega) (by omega),By];refine zB (fun hd=>?_) fun hd=>?_
 ·have hj1:j+1<m.length:=by
   have:=of_decide_eq_true (p:=((j:Int)+1<(m.length:Int))) hd;omega
  have hn0:nth m (j:Int)=some m[j]:=AF hjm;have hn1:nth m ((j:Int)+1)=some m[j+1]:=AF (i:=j+1) hj1;have hm0:=t1.2 _ (List.getElem_mem hjm);have hm1:=t1.2 _ (List.getElem_mem hj1);obtain⟨g1,g2⟩:=hst.next t1 hj1 o3;refine Rn.bn (P:=fun o=>o.length≤j+1∧(∀ x∈o,inB x.to)∧BdP m[j+1] (o.map cP) (giveF (fC a) (inS l) (nd,ep))) ?_ fun o ho=>Rn.lt (Rn.some ⟨by omega,o,?_,ho.1,ho.2.1,hj1,ho.2.2⟩)
  ·refine zC hn0 (zC (KB a _ (by omega)) ?_);have hH:=Ie v m[j] (by have:=hv1.len Cr;omega);rw[show decide (inS v m[j])=decide (inS l m[j]) from decide_eq_decide.2 (hv1.inS Cr _)] at hH;have step:∀ w:Int×Int,giveF (fC a) (inS l) (nd,ep) m[j]=some w→0≤w.1→Rn (lt (geI w.1 0) fun v24 =>
     ite' v24 (bn (nth m (j:Int)) fun v25 =>
     lt ((j:Int)+1) fun v26 =>
     bn (nth m v26) fun v27 =>
     lt (subI .i64 v27 1) fun v28 =>
     bn (Ch big out (⟨v25,v28,w.1,w.2⟩:Claim)) fun v29 =>
     some (v29)) (some out)) fun o=>o.length≤j+1∧(∀ x∈o,inB x.to)∧BdP m[j+1] (o.map cP) (giveF (fC a) (inS l) (nd,ep)):=by
    intro w hw hw0;have g3:=g2 w hw;refine Rn.lt ?_;rw[ge_t hw0];refine zB (fun _=>zC hn0 (Rn.lt (zC hn1 (Rn.lt ?_)))) fun h=>by simp at h
    rw[Aq (by omega) (by omega)];refine Rn.bn (K6 (by omega) o2 (by unfold inB;show _∧_;simp only;omega)) fun o ho=>Rn.some ?_;obtain⟨p1,p2⟩:=ho;have p3:BdP m[j+1] (o.map cP) (giveF (fC a) (inS l) (nd,ep)):=by rw[p1];exact g3
    refine⟨by omega,fun x hx=>?_,p3⟩;have a1:=p3.pos _ (List.mem_map_of_mem hx);obtain⟨a2,a3⟩:=CU p3.can (List.mem_map_of_mem hx);have a4:x.to<m[j+1]:=a1;have a5:x.frm≤x.to:=a2;have a6:=p3.fn x.frm (by omega);rw[a3 x.frm (Int.le_refl _) a5] at a6;have a7:0≤x.frm:=by
     rcases Decidable.em (x.frm<0) with h|h
     ·rw[hst.2 x.frm (.inl h)] at a6;simp at a6
     ·omega
    unfold inB;omega
   rcases Decidable.em (inS l m[j]) with hin|hin
   ·have hg:giveF (fC a) (inS l) (nd,ep) m[j]=some (nd,ep):=if_pos hin;refine zC (v:=(nd,ep)) ?_ (step _ hg h1);rw[hH,decide_eq_true hin];rfl
   ·have hg:giveF (fC a) (inS l) (nd,ep) m[j]=fC a m[j]:=if_neg hin;refine zC (v:=(fC a m[j]).getD (-1,0)) ?_ ?_
    ·rw[hH,decide_eq_false hin];rfl
    ·cases hf:fC a m[j] with
     |none =>
      refine Rn.lt (zB (fun h=>absurd h (by decide)) fun _=>Rn.some ⟨Nat.le_succ_of_le o1,o2,g1 (by rw[hg,hf])⟩)
     |some w=>exact step w (by rw[hg,hf]) (ha.tells _ _ hf).2.1
  ·rfl
 ·have hj1:m.length≤j+1:=by
   have:=of_decide_eq_false (p:=((j:Int)+1<(m.length:Int))) hd;omega
  exact Rn.some ⟨hst.last t1 hjm hj1 o3,show out.length≤m.length by omega⟩
end Go.Proofs.Ytenemndpignaoaa
namespace Go.Proofs.Ytenemndpignaoaa
open Go Go.RowKit
theorem BdP.fin {β:Type} {a:Int} {out:List (Int×Int×β)} {f:Int→Option β} (h:BdP a out f) (hf:∀ s,a≤s→f s=none):FinP out f:=by
 refine⟨h.can,fun s=>?_⟩;rcases Decidable.em (s<a) with h1|h1
 ·exact h.fn s h1
 ·rw[hf s (by omega)];exact Do fun p hp hc=>by have:=h.pos p hp;omega
theorem BdP.rng {a:Int} {out:List Claim} {f:Int→Option (Int×Int)} (h:BdP a (out.map cP) f) (hf:∀ s,s<0→f s=none):∀ x∈out,0≤x.frm∧x.frm≤x.to∧x.to<a:=by
 intro x hx;have a1:x.to<a:=h.pos _ (List.mem_map_of_mem hx);obtain⟨a2,a3⟩:=CU h.can (List.mem_map_of_mem hx);have a5:x.frm≤x.to:=a2;have a6:=h.fn x.frm (by omega);rw[a3 x.frm (Int.le_refl _) a5] at a6;refine⟨?_,a5,a1⟩;rcases Decidable.em (x.frm<0) with h1|h1
 ·rw[hf x.frm h1] at a6;simp at a6
 ·omega
def valC (c:Claim):Option (Int×Int):=if c.epoch=0 then none else some (c.node,c.epoch)
theorem GoodC.tail {c:Claim} {l:List Claim} (h:GoodC (c::l)):GoodC l:=⟨canP.tail (p:=cP c) h.1,fun x hx=>h.2 x (by simp[hx])⟩
structure NextC (l:List Claim) (at_:Int) (c:Claim) (r:List Claim):Prop where
 frm:c.frm=at_
 le:at_≤c.to
 last:c.to≤16383
 val:∀ s,at_≤s→s≤c.to→fC l s=valC c
 good:GoodC r
 rest:∀ s,at_≤s→fC r s=fC l s
 num:0≤c.node∧0≤c.epoch∧(c.epoch=0→c.node=0)
theorem IS {l:List Claim} {at_:Int} (hl:GoodC l) (h0:0≤at_∧at_≤16383):Rn (Cj big l at_) fun r=>NextC l at_ r.1 r.2:=by
 unfold Cj;have hlen:=hl.len;refine Rn.bn (P:=fun r=>GoodC r∧(∀ s,at_≤s→fC r s=fC l s)∧∀ c t,r=c::t→at_≤c.to) (zF _ (fun j r=>r=l.drop j∧GoodC r∧∀ s,at_≤s→fC r s=fC l s) l.length (by unfold big;omega) ⟨by simp,hl,fun s _=>rfl⟩ fun j r hj hI=>?_) fun r hr=>?_
 ·obtain⟨hd,hg,hf⟩:=hI;cases r with
  |nil=>exact zC (v:=false) rfl (Rn.lt (zB (fun h=>by simp at h) fun _=>Rn.some ⟨hg,hf,fun c t h=>by simp at h⟩))
  |cons c t =>
   have hjl:j<l.length:=by
    rcases Nat.lt_or_ge j l.length with h|h
    ·exact h
    ·rw[List.drop_eq_nil_of_le h] at hd;simp at hd
   have ht:t=l.drop (j+1):=by
    rw[List.drop_eq_getElem_cons hjl] at hd;exact (List.cons.inj hd).2
   refine zC (v:=ltI c.to at_) ?_ (Rn.lt (zB (fun h=>?_) fun h=>?_))
   ·simp only[AA];rw[gt_t (by rw[By];simp),AT];rfl
   ·have h1:c.to<at_:=of_decide_eq_true h
    refine zC (v:=t) ?_ (Rn.some ⟨hjl,ht,hg.tail,fun s hs=>?_⟩)
    ·have:=Ic (l:=c::t) (i:=1) (by simp);exact this
    ·rw[← hf s hs];exact (BO (p:=cP c) fun hc=>by have h2:s≤c.to:=hc.2;omega).symm
   ·have h1:=of_decide_eq_false (p:=c.to<at_) h;refine Rn.some ⟨hg,hf,fun c' t' he=>?_⟩;rw[← (List.cons.inj he).1];omega
 ·obtain⟨hg,hf,hh⟩:=hr;cases r with
  |nil =>
   refine zC (v:=⟨at_,16383,0,0⟩) rfl (Rn.some ⟨rfl,h0.2,Int.le_refl _,fun s h1 h2=>?_,hg,hf,by simp⟩);rw[← hf s h1];rfl
  |cons c t =>
   have hc:=hg.2 c (by simp);have ht:=hh c t rfl;have hn:nth (c::t) 0=some c:=rfl;rcases Decidable.em (c.frm≤at_) with h1|h1
   ·refine zC (v:=⟨at_,c.to,c.node,c.epoch⟩) ?_ (Rn.some ⟨rfl,ht,hc.2.2.1,fun s g1 g2=>?_,hg,hf,?_⟩)
    ·refine Rn.eqv (zC (v:=true) ?_ (Rn.lt (zB (fun _=>zC hn (Rn.some rfl)) fun h=>by simp at h)));simp only[AA];rw[gt_t (by rw[By];simp),AT,hn];simp only[Ar];rw[le_t h1]
    ·rw[← hf s g1];have g2':s≤c.to:=g2;have:fC (c::t) s=some (c.node,c.epoch):=BC (p:=cP c) (show c.frm≤s by omega) g2';rw[this];unfold valC;rw[if_neg (show ¬ c.epoch=0 by omega)]
    ·exact⟨hc.2.2.2.1,by have:=hc.2.2.2.2;show (0:Int)≤c.epoch;omega,fun h=>by have:=hc.2.2.2.2;have h':c.epoch=0:=h;omega⟩
   ·refine zC (v:=⟨at_,c.frm - 1,0,0⟩) ?_ (Rn.some ⟨rfl,by show at_≤c.frm - 1;omega,by show c.frm - 1≤16383;omega,fun s g1 g2=>?_,hg,hf,by simp⟩)
    ·refine Rn.eqv (zC (v:=false) ?_ (Rn.lt (zB (fun h=>by simp at h) fun _=>Rn.lt (Rn.lt (zB (fun _=>zC hn (Rn.lt (Rn.some ?_))) fun h=>?_)))))
     ·simp only[AA];rw[gt_t (by rw[By];simp),AT,hn];simp only[Ar];rw[le_f (by omega)]
     ·rw[Aq (by omega) (by omega)]
     ·have:gtI (lenI (c::t)) 0=true:=gt_t (by rw[By];simp);rw[this] at h;simp at h
    ·rw[← hf s g1];have g2':s≤c.frm - 1:=g2;have e1:fC (c::t) s=fC t s:=BO (p:=cP c) fun hc2=>by have h2:c.frm≤s:=hc2.1;omega
     rw[e1];exact CP (p:=cP c) hg.1 (show s≤c.to by omega)
theorem LI {l:List Claim} {c:Claim} (hl:l.length≤1000000) (hb:∀ x∈l,inB x.to) (hc:inB c.frm):Rn (BX big l c) fun m=>m.map cP=(if c.epoch=0 then l.map cP else putP (l.map cP) (cP c))∧m.length≤l.length+1:=by
 unfold BX;refine Rn.bn (P:=fun m=>m.map cP=(if c.epoch=0 then l.map cP else putP (l.map cP) (cP c))∧m.length≤l.length+1) (Rn.lt (Rn.lt (zB (fun h=>?_) fun h=>?_))) fun m hm=>Rn.some hm
 ·have he:c.epoch=0:=of_decide_eq_true h;exact Rn.some ⟨by rw[if_pos he],by omega⟩
 ·have he:c.epoch≠0:=of_decide_eq_false h;rw[if_neg he];rcases Decidable.em (l=[]) with rfl|hne
  ·refine zC (v:=false) rfl (Rn.lt (zB (fun h=>by simp at h) fun _=>Rn.chk rfl (Rn.lt (Rn.some ⟨rfl,by simp⟩))))
  ·obtain⟨k,x,rfl⟩:∃ k x,l=k++[x]:=⟨l.dropLast,l.getLast hne,(List.dropLast_concat_getLast hne).symm⟩;have hx:=hb x (by simp);unfold inB at hx hc;have e1:subI .i64 (lenI (k++[x])) 1=((k.length:Nat):Int):=by
    rw[By,Aq (by omega) (by omega)];simp
   have hk:k.length<(k++[x]).length:=by simp
   have hn:nth (k++[x]) ((k.length:Nat):Int)=some x:=by rw[AF hk];simp
   have hm:putP ((k++[x]).map cP) (cP c)=if x.to+1=c.frm∧(x.node,x.epoch)=(c.node,c.epoch) then k.map cP++[(x.frm,c.to,(x.node,x.epoch))] else (k++[x]).map cP++[cP c]:=by
    unfold putP;rw[List.map_append,show [x].map cP=[cP x] from rfl,List.getLast?_concat];simp only[List.dropLast_concat];rfl
   rw[hm];have ht:Cv big x c=some (decide (x.to+1=c.frm∧(x.node,x.epoch)=(c.node,c.epoch))):=by
    unfold Cv;simp only[AA];rw[Ao (by omega) (by omega)];rcases Decidable.em (x.to+1=c.frm) with h1|h1
    ·rw[eq_t h1,AT];rcases Decidable.em (x.node=c.node) with h2|h2
     ·rw[eq_t h2,AT];simp[eqI,h1,h2,Ar]
     ·rw[eq_f h2,A6];simp[h2,Ar]
    ·rw[eq_f h1,A6];simp[h1,Ar]
   refine zC (v:=decide (x.to+1=c.frm∧(x.node,x.epoch)=(c.node,c.epoch))) ?_ (Rn.lt (zB (fun h=>?_) fun h=>?_))
   ·simp only[AA];rw[gt_t (by rw[By];simp),AT,e1,hn];simp only[Ar];rw[ht];rfl
   ·have hq:=of_decide_eq_true h;rw[if_pos hq];refine Rn.lt ?_;rw[e1];refine zC hn (Rn.lt (Rn.some ⟨?_,by simp⟩));rw[Int.toNat_natCast,List.set_append_right _ _ (by omega),Nat.sub_self];simp[cP]
   ·have hq:=of_decide_eq_false h;rw[if_neg hq];exact Rn.chk (by simp[room];simp at hl;omega) (Rn.lt (Rn.some ⟨by simp,by simp⟩))
def epo:Option (Int×Int)→Int
 |some v=>v.2
 |none=>0
def nod:Option (Int×Int)→Int
 |some v=>v.1
 |none=>0
def joinV (x y:Option (Int×Int)):Option (Int×Int):=if epo y<epo x∨(epo x=epo y∧nod y<nod x) then x else y
def joinF (f g:Int→Option (Int×Int)) (s:Int):Option (Int×Int):=joinV (f s) (g s)
theorem Tells.none {f:Int→Option (Int×Int)} (h:Tells f) {s:Int} (hs:s<0∨16384≤s):f s=Option.none:=by
 cases hf:f s with
 |none=>rfl
 |some v=>exact absurd (h s v hf).1 (by omega)
theorem Kg {out:List Claim} {f:Int→Option (Int×Int)} {a b:Int} {c:Claim} (h:BdP a (out.map cP) f) (ht:Tells f) (ho:out.length≤1000000) (ha:0≤a∧a≤16384) (h1:c.frm=a) (h2:c.to=b) (h3:a≤b)
  (hv:∀ s,a≤s→s≤b→f s=valC c):Rn (BX big out c) fun m=>BdP (b+1) (m.map cP) f∧m.length≤out.length+1:=by
 have hr:=h.rng fun s hs=>ht.none (.inl hs);refine (LI ho (fun x hx=>by have:=hr x hx;unfold inB;omega) (by unfold inB;omega)).mono fun m hm=>⟨?_,hm.2⟩;rw[hm.1];split
 ·rename_i he
  exact h.skip (by omega) fun s g1 g2=>by rw[hv s g1 (by omega),valC,if_pos he]
 ·rename_i he
  have:=h.put (b:=b) (v:=(c.node,c.epoch)) h3 fun s g1 g2=>by rw[hv s g1 g2,valC,if_neg he]
  rwa [show cP c=(a,b,(c.node,c.epoch)) by rw[← h1,← h2];rfl]
end Go.Proofs.Ytenemndpignaoaa
namespace Go.Proofs.Ytenemndpignaoaa
open Go Go.RowKit
theorem vrem {k:IntKind} {a b:Int} (h:0≤a) (hb:0<b):remI k a b=some (a % b):=by
 have:¬ b=0:=by omega
 simp only[remI,ne_eq,this,not_false_eq_true,if_true,Int.tmod_eq_emod_of_nonneg h]
def rngH (l:List Int):Prop:=∀ x∈l,0≤x∧x≤65535
theorem JM {ns:List Int} (hn:rngH ns) (hl:ns.length≤1000):Rn (Eb big ns) fun r=>2*r.length≤ns.length:=by
 unfold Eb;refine Rn.bn (P:=fun r=>2*r.length≤ns.length) (zF _ (fun j a=>∃ r:List Span,a=(((2*j:Nat):Int),r)∧r.length=j∧2*j≤ns.length) ns.length (by unfold big;omega) ⟨[],rfl,rfl,by omega⟩ fun j a hj hI=>?_) fun r hr=>Rn.chk (by simp[room];omega) (Rn.some hr);obtain⟨r,rfl,r1,r2⟩:=hI;refine Rn.lt (Rn.lt (Rn.lt ?_));have e1:addI .i64 ((2*j:Nat):Int) 1=((2*j+1:Nat):Int):=by rw[Ao (by omega) (by omega)];omega
 have e2:addI .i64 ((2*j:Nat):Int) 2=((2*(j+1):Nat):Int):=by rw[Ao (by omega) (by omega)];omega
 simp only;rw[e1];refine zB (fun hd=>?_) fun hd=>Rn.some (by show 2*r.length≤ns.length;omega);have hjl:2*j+1<ns.length:=by
  have:=of_decide_eq_true (p:=(((2*j+1:Nat):Int)<(ns.length:Int))) hd;omega
 have h0:=hn _ (List.getElem_mem (show 2*j<ns.length by omega));have h1:=hn _ (List.getElem_mem hjl);refine zC (AF (show 2*j<ns.length by omega)) (Rn.lt ?_);rw[ET (by omega) (by omega)];refine zC (vrem h0.1 (by omega)) (zC (AF hjl) (Rn.lt ?_));rw[ET (by omega) (by omega)];refine zC (vrem h1.1 (by omega)) (Rn.lt (Rn.lt (Rn.chk (by simp[room];omega) (Rn.lt (Rn.lt (Rn.some ⟨by omega,_,Prod.ext e2 rfl,?_,by omega⟩))))));rw[List.length_append,r1];rfl
theorem E5 {f:Int→Option (Int×Int)} {p:Int→Prop} [DecidablePred p] {v:Int×Int} (hf:Tells f) (hp:∀ s,p s→0≤s∧s≤16383) (h1:0≤v.1) (h2:1≤v.2):Tells (giveF f p v):=by
 intro s w h;unfold giveF at h;split at h
 ·rename_i hps
  have:=Option.some.inj h;subst this;exact⟨hp s hps,h1,h2⟩
 ·exact hf s w h
def okV (x:Option (Int×Int)):Prop:=∀ v,x=some v→0≤v.1∧1≤v.2
theorem Tells.okV {f:Int→Option (Int×Int)} (h:Tells f) (s:Int):Go.Proofs.Ytenemndpignaoaa.okV (f s):=fun v hv=>(h s v hv).2
def leV (x z:Option (Int×Int)):Prop:=epo x<epo z∨(epo x=epo z∧nod x≤nod z)
theorem leV.refl (x:Option (Int×Int)):leV x x:=.inr ⟨rfl,Int.le_refl _⟩
theorem leV.trans {x y z:Option (Int×Int)} (h1:leV x y) (h2:leV y z):leV x z:=by
 unfold leV at *;omega
theorem GoodC.ext {a b:List Claim} (ha:GoodC a) (hb:GoodC b) (h:∀ s,fC a s=fC b s):a=b:=GZ (f:=cP) LH (Fi ha.1 hb.1 h)
end Go.Proofs.Ytenemndpignaoaa
namespace Go.Proofs.Ytenemndpignaoaa
open Go Go.RowKit
def keyS (x:Span):Int:=x.frm
def ksS (d:List Span) (i:Nat):Int:=keyS (d.getD i (⟨0,0⟩:Span))
theorem nthD {α:Type} {d:List α} {i:Nat} (h:i<d.length) (z:α):nth d (i:Int)=some (d.getD i z):=by
 rw[AF h,List.getD_eq_getElem?_getD,List.getElem?_eq_getElem h];rfl
theorem scanUp {c:Int→Option Bool} {p:Nat→Bool} {i0 hi:Nat} (hhi:hi≤1000000) (h:∀ i:Nat,i0≤i→i<hi→c (i:Int)=some (p i)) (hE:c (hi:Int)=some false) (h0:i0≤hi) :
  Rn (iter big (fun (y:Int)=>bn (c y) fun (b:Bool)=>lt b fun v=>ite' v (lt (addI .i64 y 1) fun z=>some (.inl z)) (some (.inr y))) (i0:Int)) fun r=>∃ k:Nat,r=(k:Int)∧i0≤k∧k≤hi∧(∀ i,i0≤i→i<k→p i=true)∧(k<hi→p k=false):=by
 refine zF _ (fun t y=>∃ k:Nat,y=(k:Int)∧k=i0+t∧k≤hi∧∀ i,i0≤i→i<k→p i=true) (hi - i0) (by unfold big;omega) ⟨i0,rfl,rfl,h0,fun i h1 h2=>by omega⟩ fun t y ht hI=>?_;obtain⟨k,rfl,e,hk,hp⟩:=hI;rcases Nat.lt_or_ge k hi with hlt|hge
 ·refine zC (h k (by omega) hlt) (Rn.lt (zB (fun hc=>Rn.lt (Rn.some ⟨by omega,k+1,?_,by omega,by omega,fun i h1 h2=>?_⟩)) fun hc=>Rn.some ⟨k,rfl,by omega,hk,hp,fun _=>hc⟩))
  ·rw[Ao (by omega) (by omega)];rfl
  ·rcases Nat.lt_or_ge i k with h3|h3
   ·exact hp i h1 h3
   ·rwa [show i=k by omega]
 ·have e2:k=hi:=by omega
  subst e2;exact zC hE (Rn.lt (zB (fun hc=>by simp at hc) fun _=>Rn.some ⟨k,rfl,by omega,hk,hp,fun h=>by omega⟩))
theorem scanDown {c:Int→Option Bool} {p:Nat→Bool} {j0 lo:Nat} (hj:j0≤1000000) (h:∀ i:Nat,lo+1≤i→i≤j0→c (i:Int)=some (p i)) (hE:c (lo:Int)=some false) (h0:lo≤j0) :
  Rn (iter big (fun (y:Int)=>bn (c y) fun (b:Bool)=>lt b fun v=>ite' v (lt (subI .i64 y 1) fun z=>some (.inl z)) (some (.inr y))) (j0:Int)) fun r=>∃ k:Nat,r=(k:Int)∧lo≤k∧k≤j0∧(∀ i,k<i→i≤j0→p i=true)∧(lo<k→p k=false):=by
 refine zF _ (fun t y=>∃ k:Nat,y=(k:Int)∧k+t=j0∧lo≤k∧∀ i,k<i→i≤j0→p i=true) (j0 - lo) (by unfold big;omega) ⟨j0,rfl,rfl,h0,fun i h1 h2=>by omega⟩ fun t y ht hI=>?_;obtain⟨k,rfl,e,hk,hp⟩:=hI;rcases Nat.lt_or_ge lo k with hlt|hge
 ·refine zC (h k (by omega) (by omega)) (Rn.lt (zB (fun hc=>Rn.lt (Rn.some ⟨by omega,k - 1,?_,by omega,by omega,fun i h1 h2=>?_⟩)) fun hc=>Rn.some ⟨k,rfl,by omega,by omega,hp,fun _=>hc⟩))
  ·rw[Aq (by omega) (by omega)];omega
  ·rcases Nat.lt_or_ge k i with h3|h3
   ·exact hp i h3 h2
   ·rwa [show i=k by omega]
 ·have e2:k=lo:=by omega
  subst e2;exact zC hE (Rn.lt (zB (fun hc=>by simp at hc) fun _=>Rn.some ⟨k,rfl,by omega,by omega,hp,fun h=>by omega⟩))
def cvS (x y:Span):Int:=if x.frm<y.frm then -1 else if y.frm<x.frm then 1 else 0
theorem noNaN (a:Int):BB big a=some false:=by simp[BB,neI,AA]
theorem cmpES (x y:Span):AK big x y=some (cvS x y):=by
 have hc:B6 big x.frm y.frm=some (cvS x y):=by
  unfold B6 cvS;rw[noNaN,noNaN];simp only[Ar,A6,AA];rcases Int.lt_trichotomy x.frm y.frm with h|h|h
  ·rw[lt_t h,AT,if_pos h]
  ·rw[lt_f (by omega),A6,gt_f (by omega),A6,if_neg (by omega),if_neg (by omega)]
  ·rw[lt_f (by omega),A6,gt_t h,AT,if_neg (by omega),if_pos h]
 unfold AK;rw[hc];rfl
theorem cvLtS (x y:Span):ltI (cvS x y) 0=decide (keyS x<keyS y):=by
 unfold cvS keyS;rcases Int.lt_trichotomy x.frm y.frm with h|h|h
 ·rw[if_pos h,decide_eq_true h];rfl
 ·rw[if_neg (by omega),if_neg (by omega),decide_eq_false (by omega)];rfl
 ·rw[if_neg (by omega),if_pos h,decide_eq_false (by omega)];rfl
theorem CK (p:Prop) [Decidable p]:notB (decide p)=decide (¬ p):=by
 by_cases h:p <;> simp[notB,h]
structure RP {α:Type} (a b:Nat) (l r:List α):Prop where
 perm:r.Perm l
 off:∀ p,(p<a∨b≤p)→r[p]?=l[p]?
section
variable {α:Type} {a b:Nat} {l r s:List α}
theorem RP.refl (a b:Nat) (l:List α):RP a b l l:=⟨List.Perm.refl _,fun _ _=>rfl⟩
theorem RP.trans (h1:RP a b l r) (h2:RP a b r s):RP a b l s:=⟨h2.perm.trans h1.perm,fun p hp=>(h2.off p hp).trans (h1.off p hp)⟩
theorem RP.mono {a' b':Nat} (h:RP a b l r) (h1:a'≤a) (h2:b≤b'):RP a' b' l r:=⟨h.perm,fun p hp=>h.off p (by omega)⟩
theorem RP.len (h:RP a b l r):r.length=l.length:=h.perm.length_eq
theorem RP.seg (h:RP a b l r) (hab:a≤b) (hb:b≤l.length) {i:Nat} (h1:a≤i) (h2:i<b):∃ j,a≤j∧j<b∧r[i]?=l[j]?:=by
 have hlen:=h.len;have e1:r.take a=l.take a:=List.ext_getElem? fun i=>by
  rw[List.getElem?_take,List.getElem?_take];split
  ·exact h.off i (.inl (by assumption))
  ·rfl
 have e2:r.drop b=l.drop b:=List.ext_getElem? fun i=>by
  rw[List.getElem?_drop,List.getElem?_drop];exact h.off _ (.inr (by omega))
 have split3:∀ m:List α,m=m.take a++((m.drop a).take (b - a)++m.drop b):=fun m=>by
  have:m.drop b=(m.drop a).drop (b - a):=by rw[List.drop_drop];congr 1;omega
  rw[this,List.take_append_drop,List.take_append_drop]
 have hp:=h.perm;rw[split3 r,split3 l,e1,e2] at hp;have hp2:=(List.perm_append_right_iff _).1 ((List.perm_append_left_iff _).1 hp);have hi:i<r.length:=by omega
 have hm:r[i]∈(r.drop a).take (b - a):=by
  refine List.mem_take_iff_getElem.2 ⟨i - a,by simp;omega,?_⟩;rw[List.getElem_drop];congr 1
  omega
 obtain⟨k,hk,he⟩:=List.mem_take_iff_getElem.1 (hp2.mem_iff.1 hm);rw[List.getElem_drop] at he;simp at hk;refine⟨a+k,by omega,by omega,?_⟩;rw[List.getElem?_eq_getElem hi,← he,List.getElem?_eq_getElem]
end
def swS (d:List Span) (i j:Nat):List Span:=(d.set i (d.getD j (⟨0,0⟩:Span))).set j (d.getD i (⟨0,0⟩:Span))
theorem K7 (d:List Span) (i j:Nat):(swS d i j).length=d.length:=by simp[swS]
theorem BT {d e:List Span} {i j:Nat} (h:d[i]?=e[j]?):ksS d i=ksS e j:=by
 unfold ksS;rw[List.getD_eq_getElem?_getD,List.getD_eq_getElem?_getD,h]
theorem Eu {d:List Span} {i j:Nat} (hi:i<d.length) (hj:j<d.length) (p:Nat):ksS (swS d i j) p=if p=j then ksS d i else if p=i then ksS d j else ksS d p:=by
 unfold ksS swS;rw[List.getD_eq_getElem?_getD,List.getElem?_set];by_cases e:j=p
 ·subst e;rw[if_pos rfl,if_pos (by simpa using hj),if_pos rfl];rfl
 ·rw[if_neg e,if_neg fun h=>e h.symm,List.getElem?_set];by_cases e2:i=p
  ·subst e2;rw[if_pos rfl,if_pos hi,if_pos rfl];rfl
  ·rw[if_neg e2,if_neg fun h=>e2 h.symm,← List.getD_eq_getElem?_getD]
theorem RP.swS {d:List Span} {a b i j:Nat} (hi:i<d.length) (hj:j<d.length) (h1:a≤i∧i<b) (h2:a≤j∧j<b):RP a b d (Go.Proofs.Ytenemndpignaoaa.swS d i j):=by
 have e1:d.getD i (⟨0,0⟩:Span)=d[i]:=by rw[List.getD_eq_getElem?_getD,List.getElem?_eq_getElem hi];rfl
 have e2:d.getD j (⟨0,0⟩:Span)=d[j]:=by rw[List.getD_eq_getElem?_getD,List.getElem?_eq_getElem hj];rfl
 unfold Go.Proofs.Ytenemndpignaoaa.swS;rw[e1,e2];refine⟨List.set_set_perm hi hj,fun p hp=>?_⟩;rw[List.getElem?_set_ne (by omega),List.getElem?_set_ne (by omega)]
theorem swapS {d:List Span} {i j:Nat} {x y:Int} (hx:x=(i:Int)) (hy:y=(j:Int)) (hi:i<d.length) (hj:j<d.length) {β:Type} {k:List Span→Option β} {Q:β→Prop} (h:Rn (k (swS d i j)) Q) :
  Rn (bn (nth d y) fun u=>bn (nth d x) fun v=>lt (d.set x.toNat u) fun w=>bn (nth w y) fun _=>lt (w.set y.toNat v) k) Q:=by
 subst hx hy;refine zC (nthD hj (⟨0,0⟩:Span)) (zC (nthD hi (⟨0,0⟩:Span)) (Rn.lt ?_));rw[Int.toNat_natCast,Int.toNat_natCast];exact zC (nthD (by simpa using hj) (⟨0,0⟩:Span)) (Rn.lt h)
def SortedS (d:List Span) (a b:Nat):Prop:=∀ p q,a≤p→p<q→q<b→ksS d p≤ksS d q
structure InsS (l d:List Span) (a i j:Nat):Prop where
 rp:RP a (i+1) l d
 aj:a≤j
 ji:j≤i
 srt:∀ p q,a≤p→p<q→q≤i→p≠j→q≠j→ksS d p≤ksS d q
 low:∀ q,j<q→q≤i→ksS d j≤ksS d q
theorem InsS.step {l d:List Span} {a i j:Nat} (h:InsS l d a i (j+1)) (hi:i<l.length) (haj:a≤j) (hlt:ksS d (j+1)<ksS d j):InsS l (swS d (j+1) j) a i j:=by
 have hji:=h.ji;have hl:=h.rp.len;have hk:=Eu (d:=d) (i:=j+1) (j:=j) (by omega) (by omega);refine⟨h.rp.trans (RP.swS (by omega) (by omega) (by omega) (by omega)),haj,by omega,fun p q g1 g2 g3 g4 g5=>?_,fun q g1 g2=>?_⟩
 ·rw[hk,hk,if_neg g4,if_neg g5];rcases Decidable.em (p=j+1) with e|e
  ·subst e;rw[if_pos rfl,if_neg (by omega)];exact h.srt j q haj (by omega) g3 (by omega) (by omega)
  ·rw[if_neg e];rcases Decidable.em (q=j+1) with e'|e'
   ·subst e';rw[if_pos rfl];exact h.srt p j g1 (by omega) (by omega) (by omega) (by omega)
   ·rw[if_neg e'];exact h.srt p q g1 g2 g3 e e'
 ·rw[hk,hk,if_pos rfl,if_neg (by omega)];rcases Decidable.em (q=j+1) with e|e
  ·rw[if_pos e];omega
  ·rw[if_neg e];exact h.low q (by omega) g2
theorem InsS.done {l d:List Span} {a i j:Nat} (h:InsS l d a i j) (hc:a<j→ksS d (j - 1)≤ksS d j):RP a (i+1) l d∧SortedS d a (i+1):=by
 refine⟨h.rp,fun p q h1 h2 h3=>?_⟩;rcases Decidable.em (p=j) with e|e
 ·subst e;exact h.low q h2 (by omega)
 ·rcases Decidable.em (q=j) with e'|e'
  ·subst e';have g3:=hc (by omega);rcases Decidable.em (p=q - 1) with e2|e2
   ·subst e2;exact g3
   ·have:=h.srt p (q - 1) h1 (by omega) (by have:=h.ji;omega) e (by omega);omega
  ·exact h.srt p q h1 h2 (by omega) e e'
theorem K8 {l:List Span} {a b:Nat} (hab:a≤b) (hb:b≤l.length) (hl:l.length≤1000000):Rn (AZ big l (a:Int) (b:Int)) fun r=>RP a b l r∧SortedS r a b:=by
 unfold AZ;refine Rn.lt ?_;have e0:addI .i64 (a:Int) 1=((a+1:Nat):Int):=by rw[Ao (by omega) (by omega)];omega
 rw[e0];refine Rn.bn (P:=fun r=>RP a b l r∧SortedS r a b) (zF _ (fun k y=>∃ d:List Span,y=(((a+1+k:Nat):Int),d)∧RP a b l d∧SortedS d a (a+1+k)) (b - a - 1) (by unfold big;omega) ⟨l,rfl,RP.refl _ _ _,fun p q h1 h2 h3=>by omega⟩ fun k y hk hI=>?_) fun r hr=>Rn.some hr;obtain⟨d,rfl,hp,hs⟩:=hI;have hdl:=hp.len;refine Rn.lt (zB (fun hd=>?_) fun hd=>?_)
 ·have hi:a+1+k<b:=by
   have:=of_decide_eq_true (p:=(((a+1+k:Nat):Int)<(b:Int))) hd;omega
  refine Rn.bn (P:=fun r=>RP a (a+1+k+1) d r∧SortedS r a (a+1+k+1)) ?_ fun r hr=>Rn.lt (Rn.some ⟨by omega,r,?_,hp.trans (hr.1.mono (Nat.le_refl _) (by omega)),fun p q h1 h2 h3=>hr.2 p q h1 h2 (by omega)⟩)
  ·have h0:InsS d d a (a+1+k) (a+1+k):=⟨RP.refl _ _ _,by omega,Nat.le_refl _,fun p q h1 h2 h3 h4 h5=>hs p q h1 h2 (by omega),fun q h1 h2=>by omega⟩;refine zF _ (fun t y=>∃ (j:Nat) (d':List Span),y=((j:Int),d')∧j+t=a+1+k∧InsS d d' a (a+1+k) j) (k+1) (by unfold big;omega) ⟨a+1+k,d,rfl,rfl,h0⟩ fun t y ht hI=>?_;obtain⟨j,d',rfl,hj,h⟩:=hI;have hdl':=h.rp.len;rcases Decidable.em (a<j) with haj|haj
   ·obtain⟨j,rfl⟩:∃ i,j=i+1:=⟨j - 1,by omega⟩;have hji:=h.ji;have h2:j+1<d'.length:=by omega
    have h1:j<d'.length:=by omega
    have es:subI .i64 ((j+1:Nat):Int) 1=(j:Int):=by rw[Aq (by omega) (by omega)];omega
    refine zC (v:=decide (ksS d' (j+1)<ksS d' j)) ?_ (Rn.lt (zB (fun hc=>?_) fun hc=>Rn.some (h.done fun _=>?_)))
    ·simp only[AA];rw[gt_t (show (a:Int)<((j+1:Nat):Int) by omega),AT,nthD h2 (⟨0,0⟩:Span)];simp only[Ar];rw[es,nthD h1 (⟨0,0⟩:Span)];simp only[Ar,cmpES,cvLtS];rfl
    ·have hlt:=of_decide_eq_true hc;refine Rn.lt ?_;simp only;rw[es];exact swapS (x:=((j+1:Nat):Int)) rfl rfl h2 h1 (Rn.some ⟨by omega,j,_,rfl,by omega,h.step (by omega) (by omega) hlt⟩)
    ·have:=of_decide_eq_false hc;show ksS d' j≤ksS d' (j+1);omega
   ·refine zC (v:=false) ?_ (Rn.lt (zB (fun hc=>by simp at hc) fun _=>Rn.some (h.done fun hc=>absurd hc haj)));simp only[AA];rw[gt_f (by omega),A6]
  ·rw[Ao (by first|omega|(simp only;omega)) (by first|omega|(simp only;omega))];rfl
 ·have hi:b≤a+1+k:=by
   have:=of_decide_eq_false (p:=(((a+1+k:Nat):Int)<(b:Int))) hd;omega
  exact Rn.some ⟨hp,fun p q h1 h2 h3=>hs p q h1 h2 (by omega)⟩
theorem vquo {a b:Int} (h:0≤a) (h2:a<9223372036854775808) (hb:0<b):quoI .i64 a b=some (a / b):=by
 have hne:¬ b=0:=by omega
 have h3:a / b≤a:=Int.ediv_le_self b h;have h4:0≤a / b:=Int.ediv_nonneg h (by omega);simp only[quoI,ne_eq,hne,not_false_eq_true,if_true,Int.tdiv_eq_ediv_of_nonneg h];rw[wrap64 (by omega) (by omega)]
theorem Ck {a b:Int} (h:-9223372036854775808≤a*b) (h2:a*b≤9223372036854775807):mulI .i64 a b=a*b:=wrap64 h h2
def sortMost:Nat:=49
theorem Fk {l:List Span} {i j:Nat} (hi:i<l.length) (hj:j<l.length) (s:Int):Rn (AI big l (i:Int) (j:Int) s) fun r=>((r.1=(i:Int)∧r.2.1=(j:Int))∨(r.1=(j:Int)∧r.2.1=(i:Int)))∧r.2.2.1=l:=by
 unfold AI;refine zC (nthD hj (⟨0,0⟩:Span)) (zC (nthD hi (⟨0,0⟩:Span)) ?_);simp only[cmpES,cvLtS,Ar,AA];exact zB (fun _=>Rn.some ⟨.inr ⟨rfl,rfl⟩,rfl⟩) fun _=>Rn.some ⟨.inl ⟨rfl,rfl⟩,rfl⟩
theorem Jd {l:List Span} {i j k:Nat} (hi:i<l.length) (hj:j<l.length) (hk:k<l.length) (s:Int):Rn (AJ big l (i:Int) (j:Int) (k:Int) s) fun r=>(∃ x:Nat,r.1=(x:Int)∧(x=i∨x=j∨x=k))∧r.2.1=l:=by
 unfold AJ;refine Rn.bn (Fk hi hj s) fun v hv=>?_;obtain⟨v1,v2,v3,v4⟩:=v;obtain⟨hv1,hv2⟩:=hv;simp only at hv1 hv2;subst v3;refine Rn.chk (by simp[lenB]) ?_;obtain⟨x,y,ex,ey,hxy⟩:∃ x y:Nat,v1=(x:Int)∧v2=(y:Int)∧((x=i∧y=j)∨(x=j∧y=i)):=by
  rcases hv1 with ⟨a,b⟩|⟨a,b⟩
  ·exact⟨i,j,a,b,.inl ⟨rfl,rfl⟩⟩
  ·exact⟨j,i,a,b,.inr ⟨rfl,rfl⟩⟩
 subst ex ey;have hx:x<l.length:=by omega
 have hy:y<l.length:=by omega
 refine Rn.bn (Fk hy hk v4) fun w hw=>?_;obtain⟨w1,w2,w3,w4⟩:=w;obtain⟨hw1,hw2⟩:=hw;simp only at hw1 hw2;subst w3;refine Rn.chk (by simp[lenB]) ?_;obtain⟨z,t,ez,et,hzt⟩:∃ z t:Nat,w1=(z:Int)∧w2=(t:Int)∧((z=y∧t=k)∨(z=k∧t=y)):=by
  rcases hw1 with ⟨a,b⟩|⟨a,b⟩
  ·exact⟨y,k,a,b,.inl ⟨rfl,rfl⟩⟩
  ·exact⟨k,y,a,b,.inr ⟨rfl,rfl⟩⟩
 subst ez et;have hz:z<l.length:=by omega
 refine Rn.bn (Fk hx hz w4) fun u hu=>?_;obtain⟨u1,u2,u3,u4⟩:=u;obtain⟨hu1,hu2⟩:=hu;simp only at hu1 hu2;subst u3;refine Rn.chk (by simp[lenB]) (Rn.some ⟨?_,rfl⟩);simp only;rcases hu1 with ⟨a,b⟩|⟨a,b⟩
 ·exact⟨z,b,by omega⟩
 ·exact⟨x,b,by omega⟩
theorem Je {l:List Span} {a b:Nat} (hab:a+12<b) (hb:b≤l.length) (hl:l.length≤sortMost):Rn (AM big l (a:Int) (b:Int)) fun r=>(∃ k:Nat,r.1=(k:Int)∧a≤k∧k<b)∧r.2.2=l:=by
 unfold sortMost at hl;unfold AM;refine Rn.lt ?_;rw[Aq (by omega) (by omega)];refine zC (vquo (by omega) (by omega) (by omega)) (Rn.lt ?_);obtain⟨q,hq⟩:∃ q:Nat,((b:Int) - (a:Int)) / 4=(q:Int):=⟨((b:Int) - (a:Int)).toNat / 4,by omega⟩;rw[hq];refine Rn.lt (Rn.lt (Rn.lt (Rn.lt (Rn.lt ?_))));rw[Ck (by omega) (by omega),Ck (show -9223372036854775808≤(q:Int)*2 by omega) (by omega),Ck (show -9223372036854775808≤(q:Int)*3 by omega) (by omega),Ao (by omega) (by omega),Ao (show -9223372036854775808≤(a:Int)+(q:Int)*2 by omega) (by omega),Ao (show -9223372036854775808≤(a:Int)+(q:Int)*3 by omega) (by omega)];refine Rn.bn (P:=fun y=>(∃ k:Nat,y.1=(k:Int)∧a≤k∧k<b)∧y.2.1=l) ?_ fun y hy=>?_
 ·refine Rn.lt (zB (fun _=>?_) fun h=>?_)
  ·refine zC (v:=((a:Int)+(q:Int)*1,(a:Int)+(q:Int)*2,(a:Int)+(q:Int)*3,l,0)) ?_ ?_
   ·simp only[AA];rw[ge_f (by omega),A6]
   ·simp only;rw[show (a:Int)+(q:Int)*1=((a+q:Nat):Int) by omega,show (a:Int)+(q:Int)*2=((a+q*2:Nat):Int) by omega,show (a:Int)+(q:Int)*3=((a+q*3:Nat):Int) by omega];refine Rn.bn (Jd (by omega) (by omega) (by omega) 0) fun v hv=>Rn.chk (by rw[hv.2];simp[lenB]) (Rn.some ⟨?_,hv.2⟩);obtain⟨x,e,hx⟩:=hv.1;exact⟨x,e,by omega⟩
  ·have:=of_decide_eq_false (p:=(8:Int)≤(b:Int) - (a:Int)) h;omega
 ·obtain⟨⟨k,e,hk⟩,hy2⟩:=hy;obtain⟨y1,y2,y3⟩:=y;simp only at e hy2;subst y2;exact Rn.lt (zB (fun _=>Rn.some ⟨⟨k,e,hk⟩,rfl⟩) fun _=>Rn.lt (zB (fun _=>Rn.some ⟨⟨k,e,hk⟩,rfl⟩) fun _=>Rn.some ⟨⟨k,e,hk⟩,rfl⟩))
theorem Iy {l:List Span} {a b:Nat} (hab:a<b) (hb:b≤l.length) (hl:l.length≤sortMost):Rn (A1 big l (a:Int) (b:Int)) fun r=>RP a b l r:=by
 unfold sortMost at hl;unfold A1;refine Rn.lt ?_;rw[Aq (by omega) (by omega),show (b:Int) - 1=((b - 1:Nat):Int) by omega];refine Rn.bn (P:=fun r=>RP a b l r) (zF _ (fun t y=>∃ (i j:Nat) (d:List Span),y=((i:Int),(j:Int),d)∧i=a+t∧j<b∧i≤j+1∧RP a b l d) (b - a) (by unfold big;omega) ⟨a,b - 1,l,rfl,rfl,by omega,by omega,RP.refl _ _ _⟩ fun t y ht hI=>?_) fun r hr=>Rn.some hr;obtain⟨i,j,d,rfl,h1,h2,h3,h4⟩:=hI;have hd:=h4.len;refine Rn.lt (zB (fun hc=>?_) fun hc=>Rn.some h4);have hij:i<j:=by
  have:=of_decide_eq_true (p:=((i:Int)<(j:Int))) hc;omega
 refine swapS rfl rfl (show i<d.length by omega) (show j<d.length by omega) (Rn.lt (Rn.lt (Rn.some ⟨by omega,i+1,j - 1,swS d i j,?_,by omega,by omega,by omega,h4.trans (RP.swS (by omega) (by omega) (by omega) (by omega))⟩)));show (addI .i64 (i:Int) 1,subI .i64 (j:Int) 1,swS d i j)=_;rw[Ao (by omega) (by omega),Aq (by omega) (by omega),show ((j - 1:Nat):Int)=(j:Int) - 1 by omega];rfl
theorem Iz {l:List Span} {a b:Nat} (hab:a<b) (hb:b≤l.length) (hl:l.length≤sortMost):Rn (AD big l (a:Int) (b:Int)) fun r=>r.2=l∧(r.1=true→SortedS l a b):=by
 unfold sortMost at hl;unfold AD;refine Rn.lt ?_;rw[Ao (by omega) (by omega),show (a:Int)+1=((a+1:Nat):Int) by omega];refine Rn.bn (P:=fun y=>y=.inr (false,l)∨(y=.inr (true,l)∧SortedS l a b)) (zF _ (fun t y=>t=0∧y=(((a+1:Nat):Int),0,l)) 0 (by unfold big;omega) ⟨rfl,rfl⟩ fun t y ht hI=>?_) fun y hy=>?_
 ·obtain⟨rfl,rfl⟩:=hI;refine Rn.lt (zB (fun _=>?_) fun h=>absurd (show ltI 0 5=false from h) (by decide));refine Rn.bn (P:=fun y=>y=.inr (false,l)∨(y=.inr (true,l)∧SortedS l a b)) ?_ fun y hy=>?_
  ·refine Rn.bn (scanUp (p:=fun i=>decide (¬ ksS l i<ksS l (i - 1))) (i0:=a+1) (hi:=b) (by omega) (fun i h1 h2=>?_) ?_ (by omega)) fun r hr=>?_
   ·simp only[AA];rw[lt_t (by omega),AT,nthD (show i<l.length by omega) (⟨0,0⟩:Span)];simp only[Ar];rw[Aq (by omega) (by omega),show (i:Int) - 1=((i - 1:Nat):Int) by omega,nthD (show i - 1<l.length by omega) (⟨0,0⟩:Span)];simp only[Ar,cmpES,cvLtS,CK];rfl
   ·simp only[AA];rw[lt_f (by omega),A6]
   ·obtain⟨k,rfl,k1,k2,k3,k4⟩:=hr;refine Rn.lt (zB (fun h=>Rn.some (.inr ⟨rfl,?_⟩)) fun h=>Rn.lt (Rn.lt ?_))
    ·have hk:k=b:=by
      have:=of_decide_eq_true (p:=((k:Int)=(b:Int))) h;omega
     subst hk;have hadj:∀ i,a+1≤i→i<k→ksS l (i - 1)≤ksS l i:=fun i g1 g2=>by
      have:=of_decide_eq_true (k3 i g1 g2);omega
     intro p q h1 h2 h3;obtain⟨n,rfl⟩:∃ n,q=p+1+n:=⟨q - (p+1),by omega⟩;clear h2
     induction n with
     |zero=>exact hadj (p+1) (by omega) h3
     |succ n ih =>
      have g1:=ih (by omega);have g2:=hadj (p+1+n+1) (by omega) h3;rw[show p+1+n+1 - 1=p+1+n by omega] at g2;exact Int.le_trans g1 g2
    ·rw[Aq (by omega) (by omega),lt_t (by omega)];exact zB (fun _=>Rn.some (.inl rfl)) fun h=>by simp at h
  ·rcases hy with rfl|⟨rfl,hs⟩
   ·rw[B4];exact Rn.some (.inl rfl)
   ·rw[B4];exact Rn.some (.inr ⟨rfl,hs⟩)
 ·rcases hy with rfl|⟨rfl,hs⟩
  ·rw[B4];exact Rn.some ⟨rfl,fun h=>by simp at h⟩
  ·rw[B4];exact Rn.some ⟨rfl,fun _=>hs⟩
structure PES (l d:List Span) (a b:Nat) (K:Int) (i j:Nat):Prop where
 rp:RP a b l d
 pv:ksS d a=K
 lo:∀ p,a<p→p<i→ksS d p≤K
 hi:∀ p,j<p→p<b→K<ksS d p
 ai:a+1≤i
 ij:i≤j+1
 jb:j<b
theorem Jf {l:List Span} {a b k:Nat} (hk1:a≤k) (hk2:k<b) (hb:b≤l.length) (hl:l.length≤sortMost):Rn (AX big l (a:Int) (b:Int) (k:Int)) fun r=>∃ m:Nat,r.1=(m:Int)∧a<m∧m≤b∧RP a b l r.2∧(∀ p,a≤p→p<m→ksS r.2 p≤ksS l k)∧(∀ p,m≤p→p<b→ksS l k<ksS r.2 p):=by
 unfold sortMost at hl;unfold AX;refine swapS rfl rfl (show a<l.length by omega) (show k<l.length by omega) (Rn.lt (Rn.lt ?_));have hs:=RP.swS (d:=l) (a:=a) (b:=b) (i:=a) (j:=k) (by omega) (by omega) (by omega) (by omega);have hpv:ksS (swS l a k) a=ksS l k:=by
  rw[Eu (by omega) (by omega)];split
  ·rename_i h
   rw[← h]
  ·rw[if_pos rfl]
 generalize swS l a k=d0 at hs hpv;rw[Ao (by omega) (by omega),Aq (by omega) (by omega),show (a:Int)+1=((a+1:Nat):Int) by omega,show (b:Int) - 1=((b - 1:Nat):Int) by omega];refine Rn.bn (P:=fun y=>∃ m:Nat,y.1=(m:Int)∧a<m∧m≤b∧RP a b l y.2∧(∀ p,a≤p→p<m→ksS y.2 p≤ksS l k)∧(∀ p,m≤p→p<b→ksS l k<ksS y.2 p)) (zF _ (fun t y=>∃ (i j:Nat) (d:List Span),y=((i:Int),(j:Int),d)∧a+1+t≤i∧PES l d a b (ksS l k) i j) (b - a) (by unfold big;omega) ⟨a+1,b - 1,d0,rfl,by omega,⟨hs,hpv,fun p h1 h2=>by omega,fun p h1 h2=>by omega,by omega,by omega,by omega⟩⟩ fun t y ht hI=>?_) fun y hy=>Rn.some hy;obtain⟨i,j,d,rfl,h1,h⟩:=hI;have hd:=h.rp.len;have hai:=h.ai;have hij:=h.ij;have hjb:=h.jb;generalize ksS l k=K at h;refine Rn.bn (scanUp (p:=fun p=>decide (¬ K<ksS d p)) (i0:=i) (hi:=j+1) (by omega) (fun p g1 g2=>?_) ?_ (by omega)) fun r hr=>?_
 ·simp only[AA];rw[le_t (by omega),AT,nthD (show a<d.length by omega) (⟨0,0⟩:Span)];simp only[Ar];rw[nthD (show p<d.length by omega) (⟨0,0⟩:Span)];simp only[Ar,cmpES,cvLtS,CK];rw[← h.pv];rfl
 ·simp only[AA];rw[le_f (by omega),A6]
 obtain⟨i',rfl,i1,i2,i3,i4⟩:=hr;refine Rn.bn (scanDown (p:=fun p=>decide (K<ksS d p)) (j0:=j) (lo:=i' - 1) (by omega) (fun p g1 g2=>?_) ?_ (by omega)) fun r hr=>?_
 ·simp only[AA];rw[le_t (by omega),AT,nthD (show a<d.length by omega) (⟨0,0⟩:Span)];simp only[Ar];rw[nthD (show p<d.length by omega) (⟨0,0⟩:Span)];simp only[Ar,cmpES,cvLtS];rw[← h.pv];rfl
 ·simp only[AA];rw[le_f (by omega),A6]
 obtain⟨j',rfl,j1,j2,j3,j4⟩:=hr;have hlo:∀ p,a<p→p<i'→ksS d p≤K:=fun p g1 g2=>by
  rcases Nat.lt_or_ge p i with g3|g3
  ·exact h.lo p g1 g3
  ·have:=of_decide_eq_true (i3 p g3 g2);omega
 have hhi:∀ p,j'<p→p<b→K<ksS d p:=fun p g1 g2=>by
  rcases Nat.lt_or_ge j p with g3|g3
  ·exact h.hi p g3 g2
  ·exact of_decide_eq_true (j3 p g1 g3)
 refine Rn.lt (zB (fun hc=>Rn.some ⟨i',rfl,by omega,by omega,h.rp,fun p g1 g2=>?_,fun p g1 g2=>hhi p ?_ g2⟩) fun hc=>?_)
 ·rcases Nat.eq_or_lt_of_le g1 with g3|g3
  ·subst g3;show ksS d a≤K;rw[h.pv];exact Int.le_refl _
  ·exact hlo p g3 g2
 ·have:=of_decide_eq_true (p:=((j':Int)<(i':Int))) hc;omega
 ·have hle:i'≤j':=by
   have:=of_decide_eq_false (p:=((j':Int)<(i':Int))) hc;omega
  have e1:=of_decide_eq_false (i4 (by omega));have e2:=of_decide_eq_false (j4 (by omega));have hne:i'≠j':=fun e=>by subst e;omega
  refine swapS rfl rfl (show i'<d.length by omega) (show j'<d.length by omega) (Rn.lt (Rn.lt (Rn.some ⟨by omega,i'+1,j' - 1,swS d i' j',?_,by omega,?_⟩)))
  ·rw[Ao (by omega) (by omega),Aq (by omega) (by omega),show ((j' - 1:Nat):Int)=(j':Int) - 1 by omega];rfl
  ·have hk:=Eu (d:=d) (i:=i') (j:=j') (by omega) (by omega);refine⟨h.rp.trans (RP.swS (by omega) (by omega) (by omega) (by omega)),?_,fun p g1 g2=>?_,fun p g1 g2=>?_,by omega,by omega,by omega⟩
   ·rw[hk,if_neg (by omega),if_neg (by omega)];exact h.pv
   ·rw[hk,if_neg (by omega)];split
    ·omega
    ·exact hlo p g1 (by omega)
   ·rw[hk];split
    ·omega
    ·rw[if_neg (by omega)];exact hhi p (by omega) g2
structure PTS (l d:List Span) (a b:Nat) (K:Int) (i j:Nat):Prop where
 rp:RP a b l d
 pv:ksS d a=K
 lo:∀ p,a<p→p<i→ksS d p<K
 hi:∀ p,j<p→p<b→K≤ksS d p
 ai:a+1≤i
 ij:i≤j+1
 jb:j<b
structure PSS (d:List Span) (a b:Nat) (K:Int) (i' j':Nat):Prop where
 lo:∀ p,a<p→p<i'→ksS d p<K
 hi:∀ p,j'<p→p<b→K≤ksS d p
 ge:i'≤j'+1
 both:i'≤j'→K≤ksS d i'∧ksS d j'<K
theorem PTS.scan {l d:List Span} {a b i j i' j':Nat} {K:Int} (h:PTS l d a b K i j) (i1:i≤i') (i3:∀ p,i≤p→p<i'→decide (ksS d p<K)=true) (i4:i'<j+1→decide (ksS d i'<K)=false)
  (j1:i' - 1≤j') (j2:j'≤j) (j3:∀ p,j'<p→p≤j→decide (¬ ksS d p<K)=true) (j4:i' - 1<j'→decide (¬ ksS d j'<K)=false):PSS d a b K i' j':=by
 have hai:=h.ai;refine⟨fun p g1 g2=>?_,fun p g1 g2=>?_,by omega,fun hle=>⟨?_,?_⟩⟩
 ·rcases Nat.lt_or_ge p i with g3|g3
  ·exact h.lo p g1 g3
  ·exact of_decide_eq_true (i3 p g3 g2)
 ·rcases Nat.lt_or_ge j p with g3|g3
  ·exact h.hi p g3 g2
  ·have:=of_decide_eq_true (j3 p g1 g3);omega
 ·have:=of_decide_eq_false (i4 (by omega));omega
 ·have:=of_decide_eq_false (j4 (by omega));omega
theorem PSS.last {l d:List Span} {a b i' j':Nat} {K:Int} (hr:RP a b l d) (pv:ksS d a=K) (h:PSS d a b K i' j') (hb:b≤l.length) (h1:a≤j') (h2:j'<b) (h3:j'<i') :
  RP a b l (swS d j' a)∧ksS (swS d j' a) j'=K∧(∀ p,a≤p→p<j'→ksS (swS d j' a) p<K)∧∀ p,j'<p→p<b→K≤ksS (swS d j' a) p:=by
 have hd:=hr.len;have hge:=h.ge;have hk:=Eu (d:=d) (i:=j') (j:=a) (by omega) (by omega);refine⟨hr.trans (RP.swS (by omega) (by omega) (by omega) (by omega)),?_,fun p g1 g2=>?_,fun p g1 g2=>?_⟩
 ·rw[hk];split
  ·rename_i e
   rw[e];exact pv
  ·rw[if_pos rfl];exact pv
 ·rw[hk];split
  ·exact h.lo j' (by omega) (by omega)
  ·rw[if_neg (by omega)];exact h.lo p (by omega) (by omega)
 ·rw[hk,if_neg (by omega),if_neg (by omega)];exact h.hi p g1 g2
theorem PSS.more {l d:List Span} {a b i' j':Nat} {K:Int} (hr:RP a b l d) (pv:ksS d a=K) (h:PSS d a b K i' j') (hb:b≤l.length) (h1:a+1≤i') (h2:j'<b) (h3:i'≤j') :
  i'≠j'∧PTS l (swS d i' j') a b K (i'+1) (j' - 1):=by
 have hd:=hr.len;obtain⟨e1,e2⟩:=h.both h3;have hne:i'≠j':=fun e=>by subst e;omega
 have hk:=Eu (d:=d) (i:=i') (j:=j') (by omega) (by omega);refine⟨hne,hr.trans (RP.swS (by omega) (by omega) (by omega) (by omega)),?_,fun p g1 g2=>?_,fun p g1 g2=>?_,by omega,by omega,by omega⟩
 ·rw[hk,if_neg (by omega),if_neg (by omega)];exact pv
 ·rw[hk,if_neg (by omega)];split
  ·exact e2
  ·exact h.lo p g1 (by omega)
 ·rw[hk];split
  ·exact e1
  ·rw[if_neg (by omega)];exact h.hi p (by omega) g2
theorem Kh {l:List Span} {a b k:Nat} (hk1:a≤k) (hk2:k<b) (hb:b≤l.length) (hl:l.length≤sortMost):Rn (Ba big l (a:Int) (b:Int) (k:Int)) fun r=>∃ m:Nat,r.1=(m:Int)∧a≤m∧m<b∧RP a b l r.2.2∧ksS r.2.2 m=ksS l k∧(∀ p,a≤p→p<m→ksS r.2.2 p<ksS l k)∧(∀ p,m<p→p<b→ksS l k≤ksS r.2.2 p):=by
 unfold sortMost at hl;unfold Ba;refine swapS rfl rfl (show a<l.length by omega) (show k<l.length by omega) (Rn.lt (Rn.lt ?_));have hs:=RP.swS (d:=l) (a:=a) (b:=b) (i:=a) (j:=k) (by omega) (by omega) (by omega) (by omega);have hpv:ksS (swS l a k) a=ksS l k:=by
  rw[Eu (by omega) (by omega)];split
  ·rename_i h
   rw[← h]
  ·rw[if_pos rfl]
 generalize swS l a k=d at hs hpv;generalize ksS l k=K at hpv;rw[Ao (by omega) (by omega),Aq (by omega) (by omega),show (a:Int)+1=((a+1:Nat):Int) by omega,show (b:Int) - 1=((b - 1:Nat):Int) by omega];have h0:PTS l d a b K (a+1) (b - 1):=⟨hs,hpv,fun p h1 h2=>by omega,fun p h1 h2=>by omega,by omega,by omega,by omega⟩;have hd:=hs.len;refine Rn.bn (scanUp (p:=fun p=>decide (ksS d p<K)) (i0:=a+1) (hi:=b - 1+1) (by omega) (fun p g1 g2=>?_) ?_ (by omega)) fun r hr=>?_
 ·simp only[AA];rw[le_t (by omega),AT,nthD (show p<d.length by omega) (⟨0,0⟩:Span)];simp only[Ar];rw[nthD (show a<d.length by omega) (⟨0,0⟩:Span)];simp only[Ar,cmpES,cvLtS];rw[← hpv];rfl
 ·simp only[AA];rw[le_f (by omega),A6]
 obtain⟨i',rfl,i1,i2,i3,i4⟩:=hr;refine Rn.bn (scanDown (p:=fun p=>decide (¬ ksS d p<K)) (j0:=b - 1) (lo:=i' - 1) (by omega) (fun p g1 g2=>?_) ?_ (by omega)) fun r hr=>?_
 ·simp only[AA];rw[le_t (by omega),AT,nthD (show p<d.length by omega) (⟨0,0⟩:Span)];simp only[Ar];rw[nthD (show a<d.length by omega) (⟨0,0⟩:Span)];simp only[Ar,cmpES,cvLtS,CK];rw[← hpv];rfl
 ·simp only[AA];rw[le_f (by omega),A6]
 obtain⟨j',rfl,j1,j2,j3,j4⟩:=hr;have ps:=h0.scan i1 i3 i4 j1 j2 j3 j4;refine Rn.lt (zB (fun hc=>?_) fun hc=>?_)
 ·have hji:j'<i':=by
   have:=of_decide_eq_true (p:=((j':Int)<(i':Int))) hc;omega
  obtain⟨q1,q2,q3,q4⟩:=ps.last hs hpv hb (by omega) (by omega) hji;exact swapS rfl rfl (show j'<d.length by omega) (show a<d.length by omega) (Rn.some ⟨j',rfl,by omega,by omega,q1,q2,q3,q4⟩)
 have hij:i'≤j':=by
  have:=of_decide_eq_false (p:=((j':Int)<(i':Int))) hc;omega
 obtain⟨hne,h1⟩:=ps.more hs hpv hb (by omega) (by omega) hij;refine swapS rfl rfl (show i'<d.length by omega) (show j'<d.length by omega) (Rn.lt (Rn.lt ?_));rw[Ao (by omega) (by omega),Aq (by omega) (by omega),show (i':Int)+1=((i'+1:Nat):Int) by omega,show (j':Int) - 1=((j' - 1:Nat):Int) by omega];generalize swS d i' j'=d1 at h1;refine Rn.bn (P:=fun y=>∃ (m i:Nat) (d:List Span),y=((m:Int),d)∧RP a b l d∧ksS d a=K∧PSS d a b K i m∧a≤m∧m<b∧m<i) (zF _ (fun t y=>∃ (i j:Nat) (d:List Span),y=((i:Int),(j:Int),d)∧a+1+t≤i∧PTS l d a b K i j) (b - a) (by unfold big;omega) ⟨i'+1,j' - 1,d1,rfl,by omega,h1⟩ fun t y ht hI=>?_) fun y hy=>?_
 ·clear i3 i4 j3 j4 ps h0 hpv hs
  obtain⟨i,j,d,rfl,ht1,h⟩:=hI;have hd:=h.rp.len;have hai:=h.ai;have hij:=h.ij;have hjb:=h.jb;refine Rn.bn (scanUp (p:=fun p=>decide (ksS d p<K)) (i0:=i) (hi:=j+1) (by omega) (fun p g1 g2=>?_) ?_ (by omega)) fun r hr=>?_
  ·simp only[AA];rw[le_t (by omega),AT,nthD (show p<d.length by omega) (⟨0,0⟩:Span)];simp only[Ar];rw[nthD (show a<d.length by omega) (⟨0,0⟩:Span)];simp only[Ar,cmpES,cvLtS];rw[← h.pv];rfl
  ·simp only[AA];rw[le_f (by omega),A6]
  obtain⟨i',rfl,i1,i2,i3,i4⟩:=hr;refine Rn.bn (scanDown (p:=fun p=>decide (¬ ksS d p<K)) (j0:=j) (lo:=i' - 1) (by omega) (fun p g1 g2=>?_) ?_ (by omega)) fun r hr=>?_
  ·simp only[AA];rw[le_t (by omega),AT,nthD (show p<d.length by omega) (⟨0,0⟩:Span)];simp only[Ar];rw[nthD (show a<d.length by omega) (⟨0,0⟩:Span)];simp only[Ar,cmpES,cvLtS,CK];rw[← h.pv];rfl
  ·simp only[AA];rw[le_f (by omega),A6]
  obtain⟨j',rfl,j1,j2,j3,j4⟩:=hr;have ps:=h.scan i1 i3 i4 j1 j2 j3 j4;refine Rn.lt (zB (fun hc=>Rn.some ⟨j',i',d,rfl,h.rp,h.pv,ps,by omega,by omega,?_⟩) fun hc=>?_)
  ·have:=of_decide_eq_true (p:=((j':Int)<(i':Int))) hc;omega
  ·have hij:i'≤j':=by
    have:=of_decide_eq_false (p:=((j':Int)<(i':Int))) hc;omega
   obtain⟨hne,h1⟩:=ps.more h.rp h.pv hb (by omega) (by omega) hij;refine swapS rfl rfl (show i'<d.length by omega) (show j'<d.length by omega) (Rn.lt (Rn.lt (Rn.some ⟨by omega,i'+1,j' - 1,swS d i' j',?_,by omega,h1⟩)));rw[Ao (by omega) (by omega),Aq (by omega) (by omega),show ((j' - 1:Nat):Int)=(j':Int) - 1 by omega];rfl
 ·obtain⟨m,i,e,rfl,y1,y2,y3,y4,y5,y6⟩:=hy;have he:=y1.len;obtain⟨q1,q2,q3,q4⟩:=y3.last y1 y2 hb y4 y5 y6;exact swapS rfl rfl (show m<e.length by omega) (show a<e.length by omega) (Rn.some ⟨m,rfl,y4,y5,q1,q2,q3,q4⟩)
def HeapS (d:List Span) (f lo hi:Nat):Prop:=∀ i c,lo≤i→(c=2*i+1∨c=2*i+2)→c<hi→ksS d (f+c)≤ksS d (f+i)
theorem HeapS.max {d:List Span} {f hi:Nat} (h:HeapS d f 0 hi):∀ i,i<hi→ksS d (f+i)≤ksS d f:=by
 intro i;induction i using Nat.strongRecOn with
 |ind i ih =>
  intro hi';rcases Nat.eq_zero_or_pos i with rfl|hp
  ·exact Int.le_refl _
  ·have h1:=h ((i - 1) / 2) i (Nat.zero_le _) (by omega) hi';have h2:=ih ((i - 1) / 2) (by omega) (by omega);omega
structure SDS (l d:List Span) (f lo hi r:Nat):Prop where
 rp:RP f (f+hi) l d
 lr:lo≤r
 oth:∀ i c,lo≤i→i≠r→(c=2*i+1∨c=2*i+2)→c<hi→ksS d (f+c)≤ksS d (f+i)
 up:∀ p c,lo≤p→(r=2*p+1∨r=2*p+2)→(c=2*r+1∨c=2*r+2)→c<hi→ksS d (f+c)≤ksS d (f+p)
theorem SDS.stop {l d:List Span} {f lo hi r:Nat} (h:SDS l d f lo hi r) (hc:∀ c,(c=2*r+1∨c=2*r+2)→c<hi→ksS d (f+c)≤ksS d (f+r)):RP f (f+hi) l d∧HeapS d f lo hi:=by
 refine⟨h.rp,fun i c h1 h2 h3=>?_⟩;rcases Decidable.em (i=r) with e|e
 ·subst e;exact hc c h2 h3
 ·exact h.oth i c h1 e h2 h3
theorem SDS.step {l d:List Span} {f lo hi r c0:Nat} (h:SDS l d f lo hi r) (hb:f+hi≤l.length) (h1:c0=2*r+1∨c0=2*r+2) (h2:c0<hi) (h3:ksS d (f+r)<ksS d (f+c0))
  (h4:∀ c,(c=2*r+1∨c=2*r+2)→c<hi→ksS d (f+c)≤ksS d (f+c0)):SDS l (swS d (f+r) (f+c0)) f lo hi c0:=by
 have hd:=h.rp.len;have hlr:=h.lr;have hk:=Eu (d:=d) (i:=f+r) (j:=f+c0) (by omega) (by omega);refine⟨h.rp.trans (RP.swS (by omega) (by omega) (by omega) (by omega)),by omega,fun i c g1 g2 g3 g4=>?_,fun p c g1 g2 g3 g4=>?_⟩
 ·rw[hk,hk,if_neg (show ¬ f+i=f+c0 by omega)];rcases Decidable.em (i=r) with e|e
  ·subst e;rw[if_pos (show f+i=f+i from rfl)];rcases Decidable.em (c=c0) with e2|e2
   ·rw[if_pos (by omega)];omega
   ·rw[if_neg (by omega),if_neg (by omega)];exact h4 c g3 g4
  ·rw[if_neg (show ¬ f+i=f+r by omega),if_neg (show ¬ f+c=f+c0 by omega)];rcases Decidable.em (c=r) with e2|e2
   ·subst e2;rw[if_pos rfl];exact h.up i c0 g1 g3 h1 h2
   ·rw[if_neg (by omega)];exact h.oth i c g1 e g3 g4
 ·have hp:p=r:=by omega
  subst hp;rw[hk,hk,if_neg (by omega),if_neg (by omega),if_neg (by omega),if_pos rfl];exact h.oth c0 c (by omega) (by omega) g3 g4
theorem If {l:List Span} {f lo hi:Nat} (hb:f+hi≤l.length) (hl:l.length≤sortMost) (hh:HeapS l f (lo+1) hi) (hlo:lo≤100):Rn (AY big l (lo:Int) (hi:Int) (f:Int)) fun r=>RP f (f+hi) l r∧HeapS r f lo hi:=by
 unfold sortMost at hl;unfold AY;refine Rn.bn (P:=fun y=>∃ d,(y=.inl d∨y=.inr d)∧RP f (f+hi) l d∧HeapS d f lo hi) (zF _ (fun t y=>∃ (r:Nat) (d:List Span),y=((r:Int),d)∧t≤r∧(t≤hi)∧(r<hi∨r=lo)∧SDS l d f lo hi r) hi (by unfold big;omega) ⟨lo,l,rfl,Nat.zero_le _,Nat.zero_le _,.inr rfl,RP.refl _ _ _,Nat.le_refl _,fun i c h1 h2 h3 h4=>hh i c (by omega) h3 h4,fun p c h1 h2 h3 h4=>by omega⟩ fun t y ht hI=>?_) fun y hy=>?_
 ·obtain⟨r,d,rfl,t1,t2,hr,h⟩:=hI;have hd:=h.rp.len;refine Rn.lt (Rn.lt (Rn.lt ?_));have hr2:r≤200:=by omega
  have em:mulI .i64 2 (r:Int)=((2*r:Nat):Int):=by rw[Ck (by omega) (by omega)];omega
  have e1:addI .i64 ((2*r:Nat):Int) 1=((2*r+1:Nat):Int):=by rw[Ao (by omega) (by omega)];omega
  simp only;rw[em,e1];refine zB (fun hc=>Rn.some ⟨d,.inl rfl,h.stop fun c g1 g2=>?_⟩) fun hc=>?_
  ·have:=of_decide_eq_true (p:=((hi:Int)≤((2*r+1:Nat):Int))) hc;omega
  ·have hc1:2*r+1<hi:=by
    have:=of_decide_eq_false (p:=((hi:Int)≤((2*r+1:Nat):Int))) hc;omega
   refine Rn.bn (P:=fun y=>∃ c0:Nat,y=(c0:Int)∧(c0=2*r+1∨c0=2*r+2)∧c0<hi∧∀ c,(c=2*r+1∨c=2*r+2)→c<hi→ksS d (f+c)≤ksS d (f+c0)) ?_ fun y hy=>?_
   ·have e2:addI .i64 ((2*r+1:Nat):Int) 1=((2*r+2:Nat):Int):=by rw[Ao (by omega) (by omega)];omega
    rcases Nat.lt_or_ge (2*r+2) hi with g|g
    ·refine zC (v:=decide (ksS d (f+(2*r+1))<ksS d (f+(2*r+2)))) ?_ (Rn.lt (zB (fun hq=>?_) fun hq=>?_))
     ·simp only[AA];have e3:addI .i64 (f:Int) ((2*r+1:Nat):Int)=((f+(2*r+1):Nat):Int):=by rw[Ao (by omega) (by omega)];omega
      have e4:addI .i64 ((f+(2*r+1):Nat):Int) 1=((f+(2*r+2):Nat):Int):=by rw[Ao (by omega) (by omega)];omega
      rw[e2,lt_t (by omega),AT,e3,e4,nthD (show f+(2*r+1)<d.length by omega) (⟨0,0⟩:Span)];simp only[Ar];rw[nthD (show f+(2*r+2)<d.length by omega) (⟨0,0⟩:Span)];simp only[Ar,cmpES,cvLtS];rfl
     ·have hq':=of_decide_eq_true hq;rw[e2];refine Rn.lt (Rn.some ⟨2*r+2,rfl,.inr rfl,g,fun c g1 g2=>?_⟩);rcases g1 with rfl|rfl
      ·omega
      ·exact Int.le_refl _
     ·have hq':=of_decide_eq_false hq;refine Rn.some ⟨2*r+1,rfl,.inl rfl,hc1,fun c g1 g2=>?_⟩;rcases g1 with rfl|rfl
      ·exact Int.le_refl _
      ·omega
    ·refine zC (v:=false) ?_ (Rn.lt (zB (fun hq=>by simp at hq) fun _=>Rn.some ⟨2*r+1,rfl,.inl rfl,hc1,fun c g1 g2=>?_⟩))
     ·simp only[AA];rw[e2,lt_f (by omega),A6]
     ·rcases g1 with rfl|rfl
      ·exact Int.le_refl _
      ·omega
   ·obtain⟨c0,rfl,k1,k2,k3⟩:=hy;have e5:addI .i64 (f:Int) (r:Int)=((f+r:Nat):Int):=by rw[Ao (by omega) (by omega)];omega
    have e6:addI .i64 (f:Int) (c0:Int)=((f+c0:Nat):Int):=by rw[Ao (by omega) (by omega)];omega
    have hfr:f+r<d.length:=by omega
    have hfc:f+c0<d.length:=by omega
    refine Rn.lt ?_;rw[e5,e6];refine zC (nthD hfr (⟨0,0⟩:Span)) (Rn.lt (zC (nthD hfc (⟨0,0⟩:Span)) ?_));simp only[cmpES,cvLtS,Ar,CK,AA];refine zB (fun hq=>Rn.some ⟨d,.inr rfl,h.stop fun c g1 g2=>?_⟩) fun hq=>?_
    ·have hq':¬ ksS d (f+r)<ksS d (f+c0):=of_decide_eq_true hq;have:=k3 c g1 g2;omega
    ·have hq':¬ ¬ ksS d (f+r)<ksS d (f+c0):=of_decide_eq_false hq;rw[Int.toNat_natCast,Int.toNat_natCast];refine zC (nthD (by simpa using hfc) (⟨0,0⟩:Span)) (Rn.some ⟨by omega,c0,_,rfl,by omega,by omega,.inl k2,h.step hb k1 k2 (by omega) k3⟩)
 ·obtain⟨d,h1,h2⟩:=hy;rcases h1 with rfl|rfl
  ·rw[Eo];exact Rn.some h2
  ·rw[B4];exact Rn.some h2
theorem Ki {l:List Span} {a b:Nat} (hab:a<b) (hb:b≤l.length) (hl:l.length≤sortMost):Rn (Bf big l (a:Int) (b:Int)) fun r=>RP a b l r∧SortedS r a b:=by
 have hl':=hl;unfold sortMost at hl;unfold Bf;obtain⟨hi,rfl⟩:∃ hi,b=a+hi:=⟨b - a,by omega⟩;have e0:subI .i64 ((a+hi:Nat):Int) (a:Int)=(hi:Int):=by rw[Aq (by omega) (by omega)];omega
 have e1:subI .i64 (hi:Int) 1=(hi:Int) - 1:=Aq (by omega) (by omega);rw[e0];refine Rn.lt (Rn.lt ?_);rw[e1];refine zC (vquo (by omega) (by omega) (by omega)) ?_;refine Rn.bn (P:=fun d=>RP a (a+hi) l d∧HeapS d a 0 hi) (zF _ (fun t y=>∃ (k:Nat) (d:List Span),y=((k:Int) - 1,d)∧k+t=(hi - 1) / 2+1∧RP a (a+hi) l d∧HeapS d a k hi) hi (by unfold big;omega) ⟨(hi - 1) / 2+1,l,?_,by omega,RP.refl _ _ _,fun i c h1 h2 h3=>by omega⟩ fun t y ht hI=>?_) fun d hd=>?_
 ·refine Prod.ext ?_ rfl;simp only;omega
 ·obtain⟨k,d,rfl,hk,hr,hh⟩:=hI;have hd:=hr.len;refine Rn.lt (zB (fun hc=>?_) fun hc=>Rn.some ⟨hr,?_⟩)
  ·have hk1:1≤k:=by
    have:=of_decide_eq_true (p:=((0:Int)≤(k:Int) - 1)) hc;omega
   obtain⟨k,rfl⟩:∃ j,k=j+1:=⟨k - 1,by omega⟩;have e2:((k+1:Nat):Int) - 1=(k:Int):=by omega
   simp only;rw[e2];refine Rn.bn (If (by omega) (by omega) hh (by omega)) fun r hr2=>Rn.chk (by have:=hr2.1.len;simp[lenB,this]) (Rn.lt (Rn.some ⟨by omega,k,r,?_,by omega,hr.trans hr2.1,hr2.2⟩));rw[Aq (by omega) (by omega)]
  ·have:k=0:=by
    have:=of_decide_eq_false (p:=((0:Int)≤(k:Int) - 1)) hc;omega
   subst this;exact hh
 ·obtain⟨h1,h2⟩:=hd;refine Rn.lt ?_;refine Rn.bn (P:=fun d=>RP a (a+hi) l d∧SortedS d a (a+hi)) (zF _ (fun t y=>∃ (k:Nat) (d:List Span),y=((k:Int) - 1,d)∧k+t=hi∧RP a (a+hi) l d∧HeapS d a 0 k∧∀ p q,a≤p→p<q→a+k≤q→q<a+hi→ksS d p≤ksS d q) hi (by unfold big;omega) ⟨hi,d,rfl,by omega,h1,h2,fun p q g1 g2 g3 g4=>by omega⟩ fun t y ht hI=>?_) fun r hr=>Rn.some hr;obtain⟨k,d,rfl,hk,hr,hh,htop⟩:=hI;have hd:=hr.len;refine Rn.lt (zB (fun hc=>?_) fun hc=>Rn.some ⟨hr,fun p q g1 g2 g3=>?_⟩)
  ·have hk1:1≤k:=by
    have:=of_decide_eq_true (p:=((0:Int)≤(k:Int) - 1)) hc;omega
   obtain⟨k,rfl⟩:∃ j,k=j+1:=⟨k - 1,by omega⟩;have e2:((k+1:Nat):Int) - 1=(k:Int):=by omega
   have e3:addI .i64 (a:Int) (k:Int)=((a+k:Nat):Int):=by rw[Ao (by omega) (by omega)];omega
   simp only;rw[e2,e3];refine Rn.lt (swapS rfl rfl (show a<d.length by omega) (show a+k<d.length by omega) ?_);have hks:=Eu (d:=d) (i:=a) (j:=a+k) (by omega) (by omega);have hsw:=RP.swS (d:=d) (a:=a) (b:=a+hi) (i:=a) (j:=a+k) (by omega) (by omega) (by omega) (by omega);have hh1:HeapS (swS d a (a+k)) a (0+1) k:=fun i c g1 g2 g3=>by
    rw[hks,hks,if_neg (by omega),if_neg (by omega),if_neg (by omega),if_neg (by omega)];exact hh i c (Nat.zero_le _) g2 (by omega)
   have hl1:(swS d a (a+k)).length=d.length:=K7 _ _ _;have hmax:=hh.max;generalize swS d a (a+k)=d1 at hks hsw hh1 hl1;refine Rn.bn (If (lo:=0) (by omega) (by omega) hh1 (by omega)) fun r hr2=>Rn.chk (by have:=hr2.1.len;simp[lenB,this]) (Rn.lt (Rn.some ⟨by omega,k,r,?_,by omega,(hr.trans hsw).trans (hr2.1.mono (Nat.le_refl _) (by omega)),hr2.2,fun p q g1 g2 g3 g4=>?_⟩))
   ·rw[Aq (by omega) (by omega)]
   ·have hq:ksS r q=ksS d1 q:=BT (hr2.1.off q (.inr (by omega)))
    -- what stands at p is one of d's,not behind a+k,or p stays
    have hp:(∃ p',a≤p'∧p'<a+k∧ksS r p=ksS d1 p')∨(a+k≤p∧ksS r p=ksS d1 p):=by
     rcases Nat.lt_or_ge p (a+k) with h|h
     ·obtain⟨p',x1,x2,x3⟩:=hr2.1.seg (by omega) (by omega) g1 h;exact .inl ⟨p',x1,x2,BT x3⟩
     ·exact .inr ⟨h,BT (hr2.1.off p (.inr h))⟩
    rw[hq,hks,if_neg (show ¬ q=a by omega) |> fun e=>e];rcases Nat.eq_or_lt_of_le g3 with g5|g5
    ·subst g5;rw[if_pos rfl];rcases hp with ⟨p',x1,x2,x3⟩|⟨x1,x3⟩
     ·rw[x3,hks,if_neg (by omega)];split
      ·exact hmax k (by omega)
      ·obtain⟨j,rfl⟩:∃ j,p'=a+j:=⟨p' - a,by omega⟩;exact hmax j (by omega)
     ·omega
    ·rw[if_neg (by omega)];rcases hp with ⟨p',x1,x2,x3⟩|⟨x1,x3⟩
     ·rw[x3,hks,if_neg (by omega)];split
      ·exact htop (a+k) q (by omega) (by omega) (by omega) g4
      ·exact htop p' q x1 (by omega) (by omega) g4
     ·rw[x3,hks];split
      ·exact htop a q (by omega) (by omega) (by omega) g4
      ·rw[if_neg (by omega)];exact htop p q g1 g2 (by omega) g4
  ·have:k=0:=by
    have:=of_decide_eq_false (p:=((0:Int)≤(k:Int) - 1)) hc;omega
   subst this;exact htop p q g1 g2 (by omega) g3
theorem JN {n:Nat} (h1:8≤n) (h2:n≤49):∃ p:Nat,Br big (n:Int)=some (p:Int)∧1≤p∧p≤2*n:=by
 have hb:(List.range 50).all (fun n=>decide (n<8) || (match Br big (n:Int) with|some p=>decide (1≤p∧p≤2*(n:Int))|none=>false))=true:=by kernel_rfl
 rw[List.all_eq_true] at hb;have h:=hb n (by simp;omega);rw[decide_eq_false (by omega),Bool.false_or] at h;split at h
 ·rename_i p e
  have:=of_decide_eq_true h;exact⟨p.toNat,by rw[e];congr 1;omega,by omega,by omega⟩
 ·simp at h
theorem wrapU {a:Int} (h:0≤a) (h2:a<18446744073709551616):IntKind.u64.wrap a=a:=by
 have e:IntKind.u64.wrap a=a % 18446744073709551616:=rfl;rw[e];exact Int.emod_eq_of_lt h h2
theorem JO (x m:Int) (h:0≤m) (h2:m≤1000000):0≤andI .u64 x m∧andI .u64 x m≤m:=by
 have e:(BitVec.ofInt 64 x &&& BitVec.ofInt 64 m).toNat≤m.toNat:=by
  rw[BitVec.toNat_and,BitVec.toNat_ofInt m];refine Nat.le_trans Nat.and_le_right ?_;have:m % 2 ^ 64=m:=Int.emod_eq_of_lt h (by omega);simp only[Int.natCast_pow] at *;omega
 have e2:andI .u64 x m=((BitVec.ofInt 64 x &&& BitVec.ofInt 64 m).toNat:Int):=by
  have h3:(BitVec.ofInt 64 x &&& BitVec.ofInt 64 m).toNat<18446744073709551616:=(BitVec.ofInt 64 x &&& BitVec.ofInt 64 m).isLt;exact wrapU (a:=((BitVec.ofInt 64 x &&& BitVec.ofInt 64 m).toNat:Int)) (by omega) (by omega)
 rw[e2];omega
theorem Hl (r:Int):∃ x y,BG big r=some (x,y):=⟨_,_,rfl⟩
theorem JP {l:List Span} {a b:Nat} (hab:a+12<b) (hb:b≤l.length) (hl:l.length≤sortMost):Rn (A0 big l (a:Int) (b:Int)) fun r=>RP a b l r:=by
 unfold sortMost at hl;unfold A0;obtain⟨n,rfl⟩:∃ n,b=a+n:=⟨b - a,by omega⟩;have e0:subI .i64 ((a+n:Nat):Int) (a:Int)=(n:Int):=by rw[Aq (by omega) (by omega)];omega
 rw[e0];refine Rn.lt (Rn.lt (zB (fun _=>?_) fun h=>?_))
 ·obtain⟨p,ep,p1,p2⟩:=JN (n:=n) (by omega) (by omega);obtain⟨q,hq⟩:∃ q:Nat,(n:Int) / 4=(q:Int):=⟨n / 4,by omega⟩;have e1:mulI .i64 (q:Int) 2=((q*2:Nat):Int):=by rw[Ck (by omega) (by omega)];omega
  have e2:addI .i64 (a:Int) ((q*2:Nat):Int)=((a+q*2:Nat):Int):=by rw[Ao (by omega) (by omega)];omega
  have e3:subI .i64 ((a+q*2:Nat):Int) 1=((a+q*2 - 1:Nat):Int):=by rw[Aq (by omega) (by omega)];omega
  have e4:addI .i64 ((a+q*2:Nat):Int) 1=((a+q*2+1:Nat):Int):=by rw[Ao (by omega) (by omega)];omega
  have eq4:quoI .i64 (n:Int) 4=some (q:Int):=by rw[vquo (by omega) (by omega) (by omega),hq]
  refine Rn.lt (zC ep ?_);rw[eq4];refine zC rfl (Rn.lt (Rn.lt (Rn.lt ?_)));rw[e1,e2,e3];refine Rn.bn (P:=fun r=>RP a (a+n) l r) (zF _ (fun t y=>∃ (i:Nat) (d:List Span) (r:Int),y=((i:Int),d,r)∧i=a+q*2 - 1+t∧RP a (a+n) l d) 3 (by unfold big;omega) ⟨a+q*2 - 1,l,_,rfl,by omega,RP.refl _ _ _⟩ fun t y ht hI=>?_) fun r hr=>Rn.some hr;obtain⟨i,d,r,rfl,hi,hr⟩:=hI;have hd:=hr.len;refine zC rfl (Rn.lt ?_);rw[e1];refine Rn.lt ?_;rw[e2];refine Rn.lt ?_;rw[e4];refine Rn.lt (zB (fun hc=>?_) fun _=>Rn.some hr);have hi2:i≤a+q*2+1:=by
   have:=of_decide_eq_true (p:=((i:Int)≤((a+q*2+1:Nat):Int))) hc;omega
  obtain⟨x,y,exy⟩:=Hl r;refine zC exy (Rn.lt (Rn.lt (Rn.lt ?_)));have e5:subI .u64 (p:Int) 1=(p:Int) - 1:=wrapU (by omega) (by omega);rw[e5];obtain⟨g1,g2⟩:=JO x ((p:Int) - 1) (by omega) (by omega);simp only;generalize andI .u64 x ((p:Int) - 1)=w at g1 g2;rw[ET (by omega) (by omega)];refine Rn.bn (P:=fun o=>∃ k:Nat,o=(k:Int)∧k<n) (Rn.lt (zB (fun h=>Rn.lt (Rn.some ?_)) fun h=>Rn.some ?_)) fun o ho=>?_
  ·have:=of_decide_eq_true (p:=((n:Int)≤w)) h;rw[Aq (by omega) (by omega)];exact⟨(w - n).toNat,by omega,by omega⟩
  ·have:=of_decide_eq_false (p:=((n:Int)≤w)) h;exact⟨w.toNat,by omega,by omega⟩
  ·obtain⟨k,rfl,hk⟩:=ho;refine Rn.lt ?_;have e6:addI .i64 (a:Int) (k:Int)=((a+k:Nat):Int):=by rw[Ao (by omega) (by omega)];omega
   rw[e6];refine swapS rfl rfl (show i<d.length by omega) (show a+k<d.length by omega) (Rn.lt (Rn.some ⟨by omega,i+1,swS d i (a+k),y,?_,by omega,hr.trans (RP.swS (by omega) (by omega) (by omega) (by omega))⟩));rw[Ao (by omega) (by omega)];rfl
 ·have:=of_decide_eq_false (p:=((8:Int)≤(n:Int))) h;omega
def PreS (d:List Span) (a b:Nat):Prop:=0<a→∀ i,a≤i→i<b→ksS d (a - 1)≤ksS d i
def SepS (d:List Span) (a b a' b':Nat):Prop:=∀ p q,a≤p→p<q→q<b→(p<a'∨b'≤q)→ksS d p≤ksS d q
theorem PreS.keep {d r:List Span} {a b:Nat} (h:PreS d a b) (hr:RP a b d r) (hab:a≤b) (hb:b≤d.length):PreS r a b:=by
 intro h0 i h1 h2;obtain⟨j,x1,x2,x3⟩:=hr.seg hab hb h1 h2;rw[BT x3,BT (hr.off (a - 1) (.inl (by omega)))];exact h h0 j x1 x2
theorem SepS.keep {d r:List Span} {a b a' b':Nat} (h:SepS d a b a' b') (hr:RP a' b' d r) (h1:a≤a') (h2:a'≤b') (h3:b'≤b) (hb:b≤d.length):SepS r a b a' b':=by
 intro p q g1 g2 g3 g4;have key:∀ i,∃ j,ksS r i=ksS d j∧((i<a'∧j=i)∨(b'≤i∧j=i)∨(a'≤i∧i<b'∧a'≤j∧j<b')):=by
  intro i;rcases Nat.lt_or_ge i a' with x|x
  ·exact⟨i,BT (hr.off i (.inl x)),.inl ⟨x,rfl⟩⟩
  ·rcases Nat.lt_or_ge i b' with y|y
   ·obtain⟨j,x1,x2,x3⟩:=hr.seg h2 (by omega) x y;exact⟨j,BT x3,.inr (.inr ⟨x,y,x1,x2⟩)⟩
   ·exact⟨i,BT (hr.off i (.inr y)),.inr (.inl ⟨y,rfl⟩)⟩
 obtain⟨p',e1,f1⟩:=key p;obtain⟨q',e2,f2⟩:=key q;rw[e1,e2];exact h p' q' (by omega) (by omega) (by omega) (by omega)
theorem SepS.done {r:List Span} {a b a' b':Nat} (h:SepS r a b a' b') (hs:SortedS r a' b'):SortedS r a b:=by
 intro p q g1 g2 g3;rcases Decidable.em (p<a'∨b'≤q) with x|x
 ·exact h p q g1 g2 g3 x
 ·exact hs p q (by omega) g2 (by omega)
theorem K9:∀ (m:Nat) {l:List Span} {a b:Nat} {lim:Int},b - a<m→a≤b→b≤l.length→l.length≤sortMost→PreS l a b→0≤lim→lim≤1000→Rn (AB big m l (a:Int) (b:Int) lim) fun r=>RP a b l r∧SortedS r a b:=by
 intro m;induction m with
 |zero=>intro l a b lim h;omega
 |succ m ih =>
  intro l a b lim hm hab hb hl hpre hl0 hl1;have hl':=hl;unfold sortMost at hl;rw[AB];refine Rn.bn (P:=fun r=>RP a b l r∧SortedS r a b) (zF _ (fun t y=>∃ (a' b':Nat) (lim':Int) (bal part:Bool) (d:List Span),y=((a':Int),(b':Int),lim',bal,part,d)∧a≤a'∧a'≤b'∧b'≤b∧t+(b' - a')≤b - a∧RP a b l d∧SepS d a b a' b'∧PreS d a' b'∧0≤lim'∧lim'≤1000) (b - a) (by unfold big;omega)
   ⟨a,b,lim,true,true,l,rfl,Nat.le_refl _,hab,Nat.le_refl _,by omega,RP.refl _ _ _,fun p q h1 h2 h3 h4=>by omega,hpre,hl0,hl1⟩ fun t y ht hI=>?_) fun r hr=>Rn.some hr
  obtain⟨a',b',lim',bal,part,d,rfl,i1,i2,i3,i4,hr,hsep,hp,hm0,hm1⟩:=hI;have hd:=hr.len
  -- what is sorted within is sorted
  have hdone:∀ r,RP a' b' d r→SortedS r a' b'→RP a b l r∧SortedS r a b:=fun r h1 h2 =>
   ⟨hr.trans (h1.mono i1 i3),(hsep.keep h1 i1 i2 i3 (by omega)).done h2⟩
  refine Rn.lt (Rn.lt ?_);have e0:subI .i64 (b':Int) (a':Int)=((b' - a':Nat):Int):=by rw[Aq (by omega) (by omega)];omega
  simp only;rw[e0];refine zB (fun hc=>?_) fun hc=>?_
  ·refine Rn.bn (K8 i2 (by omega) (by omega)) fun r hr2=>Rn.chk (by have:=hr2.1.len;simp[lenB,this]) (Rn.some (hdone r hr2.1 hr2.2))
  have hlong:a'+12<b':=by
   have:=of_decide_eq_false (p:=(((b' - a':Nat):Int)≤12)) hc;omega
  refine Rn.lt (zB (fun hz=>?_) fun hz=>?_)
  ·refine Rn.bn (Ki (by omega) (by omega) (by omega)) fun r hr2=>Rn.chk (by have:=hr2.1.len;simp[lenB,this]) (Rn.some (hdone r hr2.1 hr2.2))
  have hlim:lim'≠0:=of_decide_eq_false (p:=lim'=0) hz;refine Rn.bn (P:=fun y=>(0≤y.1∧y.1≤1000)∧RP a' b' d y.2) ?_ fun y hy=>?_
  ·refine Rn.lt (zB (fun _=>?_) fun _=>Rn.some ⟨⟨hm0,hm1⟩,RP.refl _ _ _⟩);refine Rn.bn (JP hlong (by omega) (by omega)) fun r hr2=>Rn.chk (by have:=hr2.len;simp[lenB,this]) (Rn.lt (Rn.some ⟨?_,hr2⟩));rw[Aq (by omega) (by omega)];exact⟨by omega,by omega⟩
  obtain⟨lim2,d1⟩:=y;obtain⟨⟨hm2,hm3⟩,hr1⟩:=hy;simp only at hm2 hm3 hr1;have hd1:=hr1.len;refine Rn.bn (Je (l:=d1) hlong (by omega) (by omega)) fun v hv=>?_;obtain⟨v1,v2,v3⟩:=v;obtain⟨⟨k,hk,hk1,hk2⟩,hv3⟩:=hv;simp only at hk hv3;subst v3 v1;refine Rn.chk (by simp[lenB]) ?_;refine Rn.bn (P:=fun y=>(∃ k:Nat,y.1=(k:Int)∧a'≤k∧k<b')∧RP a' b' d y.2.2) ?_ fun y hy=>?_
  ·refine Rn.lt (zB (fun _=>?_) fun _=>Rn.some ⟨⟨k,rfl,hk1,hk2⟩,hr1⟩);refine Rn.bn (Iy (l:=d1) (by omega) (by omega) (by omega)) fun r hr2=>Rn.chk (by have:=hr2.len;simp[lenB,this]) (Rn.lt (Rn.lt (Rn.lt (Rn.some ⟨⟨b' - 1 - (k - a'),?_,by omega,by omega⟩,hr1.trans hr2⟩))));simp only;rw[Aq (a:=(b':Int)) (by omega) (by omega),Aq (a:=(k:Int)) (by omega) (by omega),Aq (by omega) (by omega)];omega
  obtain⟨y1,y2,d2⟩:=y;obtain⟨⟨k2,hk,hk1,hk2⟩,hr2⟩:=hy;simp only at hk hr2;subst y1;have hd2:=hr2.len;refine Rn.bn (P:=fun y=>(∃ c e r,y=.inl (c,e,r)∧RP a' b' d r)∨∃ r,y=.inr r∧RP a' b' d r∧SortedS r a' b') ?_ fun y hy=>?_
  ·refine Rn.bn (P:=fun _=>True) ?_ fun w _=>?_
   ·refine Rn.lt (zB (fun _=>Rn.lt (zB (fun _=>Rn.lt (Rn.some trivial)) fun _=>Rn.some trivial)) fun _=>Rn.some trivial)
   ·refine Rn.lt (zB (fun _=>?_) fun _=>Rn.some (.inl ⟨_,_,d2,rfl,hr2⟩));refine Rn.bn (Iz (l:=d2) (by omega) (by omega) (by omega)) fun r hr3=>?_;obtain⟨r1,r2⟩:=r;obtain⟨g1,g2⟩:=hr3;simp only at g1 g2;subst r2;refine Rn.chk (by simp[lenB]) (Rn.lt (zB (fun h=>Rn.some (.inr ⟨d2,rfl,hr2,g2 h⟩)) fun _=>Rn.some (.inl ⟨_,_,d2,rfl,hr2⟩)))
  rcases hy with ⟨c,e,d3,rfl,hr3⟩|⟨r,rfl,hr3,hs3⟩
  rotate_left
  ·rw[B4];exact Rn.some (hdone r hr3 hs3)
  rw[Eo];have hd3:=hr3.len;have hsep3:=hsep.keep hr3 i1 i2 i3 (by omega);have hp3:=hp.keep hr3 i2 (by omega);have hrl3:=hr.trans (hr3.mono i1 i3);refine Rn.bn (P:=fun c=>c=decide (0<a'∧¬ ksS d3 (a' - 1)<ksS d3 k2)) ?_ fun q hq=>?_
  ·refine Rn.lt (zB (fun h=>?_) fun h=>Rn.some ?_)
   ·have h0:0<a':=by
     have:=of_decide_eq_true (p:=((0:Int)<(a':Int))) h;omega
    have e1:subI .i64 (a':Int) 1=((a' - 1:Nat):Int):=by rw[Aq (by omega) (by omega)];omega
    refine Rn.lt ?_;rw[e1];refine zC (nthD (show a' - 1<d3.length by omega) (⟨0,0⟩:Span)) (zC (nthD (show k2<d3.length by omega) (⟨0,0⟩:Span)) ?_);simp only[cmpES,cvLtS,Ar,AA,CK];refine Rn.some ?_;simp only[h0,true_and];rfl
   ·have h0:¬ 0<a':=by
     have:=of_decide_eq_false (p:=((0:Int)<(a':Int))) h;omega
    simp[h0]
  subst hq;refine Rn.lt (zB (fun h=>?_) fun h=>?_)
  ·obtain⟨h0,hK⟩:=of_decide_eq_true h;refine Rn.bn (Jf (l:=d3) hk1 hk2 (by omega) (by omega)) fun r hr4=>?_;obtain⟨r1,r2⟩:=r;obtain⟨md,g0,g1,g2,g3,g4,g5⟩:=hr4;simp only at g0 g3 g4 g5;subst r1;refine Rn.chk (by have:=g3.len;simp[lenB,this]) (Rn.some ⟨by omega,md,b',lim2,c,e,r2,rfl,by omega,g2,i3,by omega,hrl3.trans (g3.mono i1 i3),?_,?_,hm2,hm3⟩)
   ·have hs4:=hsep3.keep g3 i1 i2 i3 (by omega);have hp4:=hp3.keep g3 i2 (by omega);have hK2:ksS d3 k2≤ksS r2 (a' - 1):=by
     rw[BT (g3.off (a' - 1) (.inl (by omega)))];omega
    intro p q x1 x2 x3 x4;rcases Decidable.em (p<a'∨b'≤q) with x5|x5
    ·exact hs4 p q x1 x2 x3 x5
    ·have z1:=g4 p (by omega) (by omega);rcases Nat.lt_or_ge q md with x6|x6
     ·have z2:=hp4 h0 q (by omega) (by omega);omega
     ·have z2:=g5 q x6 (by omega);omega
   ·intro _ i x1 x2;have z1:=g4 (md - 1) (by omega) (by omega);have z2:=g5 i x1 x2;omega
  ·refine Rn.bn (Kh (l:=d3) hk1 hk2 (by omega) (by omega)) fun r hr4=>?_;obtain⟨r1,r2,r4⟩:=r;obtain⟨md,g0,g1,g2,g3,g4,g5,g6⟩:=hr4;simp only at g0 g3 g4 g5 g6;subst r1;have hd4:=g3.len;have hs4:=hsep3.keep g3 i1 i2 i3 (by omega);have hp4:=hp3.keep g3 i2 (by omega);generalize ksS d3 k2=K at g4 g5 g6;have e3:addI .i64 (md:Int) 1=((md+1:Nat):Int):=by rw[Ao (by omega) (by omega)];omega
   refine Rn.chk (by simp[lenB,hd4]) (Rn.lt (Rn.lt (zC (vquo (by omega) (by omega) (by omega)) (Rn.lt (zB (fun _=>Rn.lt ?_) fun _=>Rn.lt (Rn.lt ?_))))))
   ·refine Rn.bn (ih (l:=r4) (a:=a') (b:=md) (by omega) g1 (by omega) (by omega) (fun h0 i x1 x2=>hp4 h0 i x1 (by omega)) hm2 hm3) fun r hr5=>?_;obtain⟨q1,q2⟩:=hr5;have hd5:=q1.len;refine Rn.chk (by simp[lenB,hd5]) (Rn.lt ?_);rw[e3];refine Rn.some ⟨by omega,md+1,b',lim2,_,_,r,rfl,by omega,by omega,i3,by omega,(hrl3.trans (g3.mono i1 i3)).trans (q1.mono i1 (by omega)),?_,?_,hm2,hm3⟩
    ·have hs5:=hs4.keep (q1.mono (Nat.le_refl _) (by omega)) i1 i2 i3 (by omega);intro p q x1 x2 x3 x4;rcases Decidable.em (p<a'∨b'≤q) with x5|x5
     ·exact hs5 p q x1 x2 x3 x5
     ·have hge:∀ i,md<i→i<b'→K≤ksS r i:=fun i y1 y2=>by
       rw[BT (q1.off i (.inr (by omega)))];exact g6 i y1 y2
      have hmd:ksS r md=K:=by rw[BT (q1.off md (.inr (Nat.le_refl _)))];exact g4
      rcases Nat.lt_or_ge p md with x6|x6
      ·obtain⟨j,y1,y2,y3⟩:=q1.seg g1 (by omega) (show a'≤p by omega) x6;have z1:=g5 j y1 y2;rw[← BT y3] at z1;rcases Nat.lt_trichotomy q md with x7|x7|x7
       ·exact q2 p q (by omega) x2 x7
       ·subst x7;omega
       ·have:=hge q x7 (by omega);omega
      ·have:p=md:=by omega
       subst this;have:=hge q x2 (by omega);omega
    ·intro _ i x1 x2;show ksS r md≤_;rw[BT (q1.off md (.inr (Nat.le_refl _))),BT (q1.off i (.inr (by omega))),g4];exact g6 i (by omega) x2
   ·rw[e3];refine Rn.bn (ih (l:=r4) (a:=md+1) (b:=b') (by omega) (by omega) (by omega) (by omega) (fun h0 i x1 x2=>by show ksS r4 md≤_;rw[g4];exact g6 i (by omega) x2) hm2 hm3) fun r hr5=>?_;obtain⟨q1,q2⟩:=hr5;have hd5:=q1.len;refine Rn.chk (by simp[lenB,hd5]) ?_;refine Rn.some ⟨by omega,a',md,lim2,_,_,r,rfl,i1,g1,by omega,by omega,(hrl3.trans (g3.mono i1 i3)).trans (q1.mono (by omega) i3),?_,?_,hm2,hm3⟩
    ·have hs5:=hs4.keep (q1.mono (by omega) (Nat.le_refl _)) i1 i2 i3 (by omega);intro p q x1 x2 x3 x4;rcases Decidable.em (p<a'∨b'≤q) with x5|x5
     ·exact hs5 p q x1 x2 x3 x5
     ·have hmd:ksS r md=K:=by rw[BT (q1.off md (.inl (by omega)))];exact g4
      have hge:∀ i,md<i→i<b'→K≤ksS r i:=fun i y1 y2=>by
       obtain⟨j,z1,z2,z3⟩:=q1.seg (by omega) (by omega) (show md+1≤i by omega) y2;rw[BT z3];exact g6 j (by omega) z2
      have hle:∀ i,a'≤i→i<md→ksS r i<K:=fun i y1 y2=>by
       rw[BT (q1.off i (.inl (by omega)))];exact g5 i y1 y2
      rcases Nat.lt_trichotomy p md with x6|x6|x6
      ·have z1:=hle p (by omega) x6;rcases Nat.eq_or_lt_of_le (show md≤q by omega) with x7|x7
       ·subst x7;omega
       ·have:=hge q x7 (by omega);omega
      ·subst x6;have:=hge q x2 (by omega);omega
      ·exact q2 p q (by omega) x2 (by omega)
    ·intro h0 i x1 x2;rw[BT (q1.off (a' - 1) (.inl (by omega))),BT (q1.off i (.inl (by omega)))];exact hp4 h0 i x1 (by omega)
theorem Fl {l:List Span} {i j:Nat} (hi:i<l.length) (hj:j<l.length) (h:ksS l i≤ksS l j) (s:Int):AI big l (i:Int) (j:Int) s=some ((i:Int),(j:Int),l,s):=by
 unfold AI;rw[nthD hj (⟨0,0⟩:Span)];simp only[Ar];rw[nthD hi (⟨0,0⟩:Span)];simp only[cmpES,cvLtS,Ar,AA];rw[show decide (keyS (l.getD j ⟨0,0⟩)<keyS (l.getD i ⟨0,0⟩))=false from decide_eq_false (by have h':keyS (l.getD i ⟨0,0⟩)≤keyS (l.getD j ⟨0,0⟩):=h;omega),A6]
theorem GH {l:List Span} {i j k:Nat} (hi:i<l.length) (hj:j<l.length) (hk:k<l.length) (h1:ksS l i≤ksS l j) (h2:ksS l j≤ksS l k) (s:Int):AJ big l (i:Int) (j:Int) (k:Int) s=some ((j:Int),l,s):=by
 unfold AJ;rw[Fl hi hj h1];simp only[Ar];rw[show lenB l l=true from decide_eq_true rfl,EY rfl,Fl hj hk h2];simp only[Ar];rw[show lenB l l=true from decide_eq_true rfl,EY rfl,Fl hi hj h1];simp only[Ar];rw[show lenB l l=true from decide_eq_true rfl,EY rfl]
theorem G0 {l:List Span} {i:Nat} (h0:1≤i) (hi:i+1<l.length) (hl:l.length≤1000) (h1:ksS l (i - 1)≤ksS l i) (h2:ksS l i≤ksS l (i+1)) (s:Int):Aw big l (i:Int) s=some ((i:Int),l,s):=by
 unfold Aw;rw[Aq (by omega) (by omega),Ao (by omega) (by omega),show (i:Int) - 1=((i - 1:Nat):Int) by omega,show (i:Int)+1=((i+1:Nat):Int) by omega];simp only[AA];rw[GH (by omega) (by omega) hi h1 h2];simp only[Ar];rw[show lenB l l=true from decide_eq_true rfl,EY rfl]
theorem Jg {l:List Span} (hlen:12<l.length) (hl:l.length≤1000) (hs:SortedS l 0 (l.length - 1)):∃ k:Nat,AM big l ((0:Nat):Int) (l.length:Int)=some ((k:Int),1,l):=by
 have key:∀ p q,p<q→q<l.length - 1→ksS l p≤ksS l q:=fun p q h1 h2=>hs p q (Nat.zero_le _) h1 h2;have lb:lenB l l=true:=decide_eq_true rfl;unfold AM;obtain⟨q,hq⟩:∃ q:Nat,((l.length:Int) - ((0:Nat):Int)) / 4=(q:Int):=⟨l.length / 4,by omega⟩;refine⟨q*2,?_⟩;simp only[AA];rw[Aq (by omega) (by omega),vquo (by omega) (by omega) (by omega),hq];simp only[Ar];rw[Ck (by omega) (by omega),Ck (show -9223372036854775808≤(q:Int)*2 by omega) (by omega),Ck (show -9223372036854775808≤(q:Int)*3 by omega) (by omega),Ao (by omega) (by omega),Ao (show -9223372036854775808≤((0:Nat):Int)+(q:Int)*2 by omega) (by omega),Ao (show -9223372036854775808≤((0:Nat):Int)+(q:Int)*3 by omega) (by omega)];rw[show ((0:Nat):Int)+(q:Int)*1=((q:Nat):Int) by omega,show ((0:Nat):Int)+(q:Int)*2=((q*2:Nat):Int) by omega,show ((0:Nat):Int)+(q:Int)*3=((q*3:Nat):Int) by omega,ge_t (by omega),AT];have hm:AJ big l ((q:Nat):Int) ((q*2:Nat):Int) ((q*3:Nat):Int) 0=some (((q*2:Nat):Int),l,0):=GH (by omega) (by omega) (by omega) (key _ _ (by omega) (by omega)) (key _ _ (by omega) (by omega)) 0;have hb:∀ (c:Bool),(c=true→50≤l.length)→(ite' c (bn (Aw big l ((q:Nat):Int) 0) fun v13 =>
   chk (lenB v13.2.1 l) <|
   bn (Aw big v13.2.1 ((q*2:Nat):Int) v13.2.2) fun v15 =>
   chk (lenB v15.2.1 v13.2.1) <|
   bn (Aw big v15.2.1 ((q*3:Nat):Int) v15.2.2) fun v17 =>
   chk (lenB v17.2.1 v15.2.1) <|
   some ((v13.1,v15.1,v17.1,v17.2.1,v17.2.2))) (some ((((q:Nat):Int),((q*2:Nat):Int),((q*3:Nat):Int),l,0))))=some (((q:Nat):Int),((q*2:Nat):Int),((q*3:Nat):Int),l,0):=by
  intro c hc;cases c with
  |false=>rfl
  |true =>
   have h50:=hc rfl;rw[AT,G0 (by omega) (by omega) hl (key _ _ (by omega) (by omega)) (key _ _ (by omega) (by omega))];simp only[Ar];rw[lb,EY rfl,G0 (by omega) (by omega) hl (key _ _ (by omega) (by omega)) (key _ _ (by omega) (by omega))];simp only[Ar];rw[lb,EY rfl,G0 (by omega) (by omega) hl (key _ _ (by omega) (by omega)) (key _ _ (by omega) (by omega))];simp only[Ar];rw[lb,EY rfl]
 rw[hb _ fun h=>by
  have:=of_decide_eq_true (p:=((50:Int)≤(l.length:Int) - ((0:Nat):Int))) h;omega]
 simp only[Ar];rw[hm];simp only[Ar];rw[lb,EY rfl];rfl
theorem Ig {l:List Span} (h50:50≤l.length) (hl:l.length≤1000) (hs:SortedS l 0 (l.length - 1)):Rn (AD big l ((0:Nat):Int) (l.length:Int)) fun r=>r.1=true∧RP 0 l.length l r.2∧SortedS r.2 0 l.length:=by
 unfold AD;refine Rn.lt ?_;rw[Ao (by omega) (by omega),show ((0:Nat):Int)+1=((0+1:Nat):Int) by omega];refine Rn.bn (P:=fun y=>∃ r,y=.inr (true,r)∧RP 0 l.length l r∧SortedS r 0 l.length) (zF _ (fun t y=>(t=0∧y=(((0+1:Nat):Int),0,l))∨(t=1∧∃ r,y=(((l.length - 1:Nat):Int),1,r)∧RP 0 l.length l r∧SortedS r 0 l.length)) 1 (by unfold big;omega) (.inl ⟨rfl,rfl⟩) fun t y ht hI=>?_) fun y hy=>?_
 ·have scan:∀ (d:List Span) (i0:Nat),1≤i0→i0≤l.length→d.length=l.length→Rn (iter big (fun (y7:Int)=>bn (lt (ltI y7 (l.length:Int)) fun v11=>ite' v11 (bn (nth d y7) fun v12=>lt (subI .i64 y7 1) fun v14=>bn (nth d v14) fun v15=>bn (AK big v12 v15) fun v17=>lt (ltI v17 0) fun v18=>lt (notB v18) fun v19=>some (v19)) (some (false))) fun (y10:Bool)=>lt (y10) fun v20=>ite' v20 (lt (addI .i64 y7 1) fun v21=>some (.inl v21)) (some (.inr y7))) (i0:Int)) fun r=>∃ k:Nat,r=(k:Int)∧i0≤k∧k≤l.length∧(∀ i,i0≤i→i<k→decide (¬ ksS d i<ksS d (i - 1))=true)∧(k<l.length→decide (¬ ksS d k<ksS d (k - 1))=false):=by
   intro d i0 g1 g2 g3;refine scanUp (p:=fun i=>decide (¬ ksS d i<ksS d (i - 1))) (by omega) (fun i h1 h2=>?_) ?_ g2
   ·simp only[AA];rw[lt_t (by omega),AT,nthD (show i<d.length by omega) (⟨0,0⟩:Span)];simp only[Ar];rw[Aq (by omega) (by omega),show (i:Int) - 1=((i - 1:Nat):Int) by omega,nthD (show i - 1<d.length by omega) (⟨0,0⟩:Span)];simp only[Ar,cmpES,cvLtS,CK];rfl
   ·simp only[AA];rw[lt_f (by omega),A6]
  rcases hI with ⟨rfl,rfl⟩|⟨rfl,r,rfl,hr,hsr⟩
  ·refine Rn.lt (zB (fun _=>?_) fun h=>absurd (show ltI 0 5=false from h) (by decide));refine Rn.bn (P:=fun y=>(y=.inr (true,l)∧SortedS l 0 l.length)∨∃ r,y=.inl (((l.length - 1:Nat):Int),r)∧RP 0 l.length l r∧SortedS r 0 l.length) ?_ fun y hy=>?_
   ·refine Rn.bn (scan l (0+1) (by omega) (by omega) rfl) fun k hk=>?_;obtain⟨k,rfl,k1,k2,k3,k4⟩:=hk;refine Rn.lt (zB (fun h=>Rn.some (.inl ⟨rfl,?_⟩)) fun h=>?_)
    ·have hk:k=l.length:=by
      have:=of_decide_eq_true (p:=((k:Int)=(l.length:Int))) h;omega
     intro p q h1 h2 h3;rcases Nat.lt_or_ge q (l.length - 1) with h4|h4
     ·exact hs p q h1 h2 h4
     ·have e:q=l.length - 1:=by omega
      subst e;have g:=of_decide_eq_true (k3 (l.length - 1) (by omega) (by omega));rcases Nat.lt_or_ge p (l.length - 1 - 1) with h5|h5
      ·have:=hs p (l.length - 1 - 1) h1 h5 (by omega);omega
      ·have e:p=l.length - 1 - 1:=by omega
       subst e;omega
    ·have hk:k=l.length - 1:=by
      have hne:k≠l.length:=fun e=>by
       subst e;exact absurd h (by rw[eq_t rfl];simp)
      rcases Nat.lt_or_ge k (l.length - 1) with h5|h5
      ·have h6:=of_decide_eq_false (k4 (by omega));have:=hs (k - 1) k (Nat.zero_le _) (by omega) h5;omega
      ·omega
     have hlt:ksS l k<ksS l (k - 1):=by
      have:=of_decide_eq_false (k4 (by omega));omega
     refine Rn.lt (Rn.lt ?_);rw[Aq (by omega) (by omega),lt_f (by omega)];refine zB (fun h=>by simp at h) fun _=>Rn.lt ?_;obtain⟨j0,ej⟩:∃ j0,k=j0+1:=⟨k - 1,by omega⟩;rw[Aq (by omega) (by omega),show (k:Int) - 1=(j0:Int) by omega];refine swapS (d:=l) (x:=(k:Int)) rfl rfl (by omega) (by omega) ?_;have h0:InsS l l 0 k k:=⟨RP.refl _ _ _,by omega,Nat.le_refl _,fun p q h1 h2 h3 h4 h5=>hs p q h1 h2 (by omega),fun q h1 h2=>by omega⟩;have hk':ksS l (j0+1)<ksS l j0:=by rw[ej] at hlt;exact hlt
     have h0':InsS l (swS l k j0) 0 k j0:=by
      rw[ej] at h0 ⊢;exact h0.step (by omega) (Nat.zero_le _) hk'
     refine Rn.bn (P:=fun r=>RP 0 (k+1) l r∧SortedS r 0 (k+1)) ?_ fun r hr=>?_
     ·refine Rn.lt ?_;rw[Aq (by omega) (by omega)];refine Rn.lt (zB (fun _=>?_) fun h=>absurd (show geI ((k:Int) - ((0:Nat):Int)) 2=false from h) (by rw[ge_t (by omega)];simp));refine Rn.bn (P:=fun r=>RP 0 (k+1) l r∧SortedS r 0 (k+1)) (zF _ (fun t y=>∃ (j:Nat) (d':List Span),y=((j:Int),d')∧j+t=j0∧InsS l d' 0 k j) j0 (by unfold big;omega) ⟨j0,_,rfl,rfl,h0'⟩ fun t y ht hI=>?_) fun r hr=>Rn.some hr;obtain⟨j,d',rfl,hj,h⟩:=hI;have hdl':=h.rp.len;rcases Decidable.em (0<j) with haj|haj
      ·obtain⟨j,rfl⟩:∃ i,j=i+1:=⟨j - 1,by omega⟩;have h2:j+1<d'.length:=by omega
       have h1:j<d'.length:=by omega
       have es:subI .i64 ((j+1:Nat):Int) 1=(j:Int):=by rw[Aq (by omega) (by omega)];omega
       refine Rn.lt ?_;simp only;rw[ge_t (by omega)];refine zB (fun _=>?_) fun h=>by simp at h
       refine zC (nthD h2 (⟨0,0⟩:Span)) (Rn.lt ?_);rw[es];refine zC (nthD h1 (⟨0,0⟩:Span)) (zC (cmpES _ _) (Rn.lt ?_));rw[cvLtS];rcases Decidable.em (ksS d' (j+1)<ksS d' j) with hc|hc
       ·rw[show decide (keyS (d'.getD (j+1) ⟨0,0⟩)<keyS (d'.getD j ⟨0,0⟩))=true from decide_eq_true hc];refine Rn.lt (zB (fun h=>by simp[notB] at h) fun _=>?_);have sw:∀ {β:Type} {K:List Span→Option β} {Q:β→Prop},Rn (K (swS d' (j+1) j)) Q→Rn (lt (d'.set ((j+1:Nat):Int).toNat (d'.getD j ⟨0,0⟩)) fun w=>bn (nth w (j:Int)) fun _=>lt (w.set (j:Int).toNat (d'.getD (j+1) ⟨0,0⟩)) K) Q:=fun h=>by
         rw[Int.toNat_natCast,Int.toNat_natCast];exact Rn.lt (zC (nthD (by simpa using h1) (⟨0,0⟩:Span)) (Rn.lt h))
        exact sw (Rn.some ⟨by omega,j,_,rfl,by omega,h.step (by omega) (Nat.zero_le _) hc⟩)
       ·rw[show decide (keyS (d'.getD (j+1) ⟨0,0⟩)<keyS (d'.getD j ⟨0,0⟩))=false from decide_eq_false hc];refine Rn.lt (zB (fun _=>Rn.some (h.done fun _=>?_)) fun h=>by simp[notB] at h);show ksS d' j≤ksS d' (j+1);omega
      ·have e:j=0:=by omega
       subst e;refine Rn.lt ?_;simp only;rw[ge_f (by omega)];exact zB (fun h=>by simp at h) fun _=>Rn.some (h.done fun h=>by omega)
     ·rw[show k+1=l.length by omega] at hr;refine Rn.lt ?_;rw[Aq (by omega) (by omega)];refine Rn.lt ?_;rw[ge_f (by omega)];exact zB (fun h=>by simp at h) fun _=>Rn.some (.inr ⟨r,by rw[hk],hr.1,hr.2⟩)
   ·rcases hy with ⟨rfl,h⟩|⟨r,rfl,h1,h2⟩
    ·rw[B4];exact Rn.some ⟨l,rfl,RP.refl _ _ _,h⟩
    ·rw[Eo];exact Rn.lt (Rn.some ⟨by omega,.inr ⟨rfl,r,rfl,h1,h2⟩⟩)
  ·have hrl:=hr.len;refine Rn.lt (zB (fun _=>?_) fun h=>absurd (show ltI 1 5=false from h) (by decide));refine Rn.bn (P:=fun y=>y=.inr (true,r)) ?_ fun y hy=>?_
   ·refine Rn.bn (scan r (l.length - 1) (by omega) (by omega) hrl) fun k hk=>?_;obtain⟨k,rfl,k1,k2,k3,k4⟩:=hk;have hk:k=l.length:=by
     rcases Nat.lt_or_ge k l.length with h|h
     ·have h5:=of_decide_eq_false (k4 h);have:=hsr (k - 1) k (Nat.zero_le _) (by omega) h;omega
     ·omega
    subst hk;rw[eq_t rfl];exact Rn.lt (zB (fun _=>Rn.some rfl) fun h=>by simp at h)
   ·subst hy;rw[B4];exact Rn.some ⟨r,rfl,hr,hsr⟩
 ·obtain⟨r,rfl,h1,h2⟩:=hy;rw[B4];exact Rn.some ⟨rfl,h1,h2⟩
theorem Kj {l:List Span} (h50:50≤l.length) (hl:l.length≤1000) (hs:SortedS l 0 (l.length - 1)) {lim:Int} (h0:1≤lim) (h1:lim≤1000):Rn (BJ big l ((0:Nat):Int) (l.length:Int) lim) fun r=>RP 0 l.length l r∧SortedS r 0 l.length:=by
 show Rn (AB big (281474976710655+1) l ((0:Nat):Int) (l.length:Int) lim) _;rw[AB];refine Rn.bn (P:=fun r=>RP 0 l.length l r∧SortedS r 0 l.length) (zF _ (fun t y=>t=0∧y=(((0:Nat):Int),(l.length:Int),lim,true,true,l)) 0 (by unfold big;omega) ⟨rfl,rfl⟩ fun t y ht hI=>?_) fun r hr=>Rn.some hr;obtain⟨rfl,rfl⟩:=hI;refine Rn.lt (Rn.lt ?_);simp only;rw[Aq (by omega) (by omega),le_f (by omega)];refine zB (fun hc=>by simp at hc) fun hc=>?_;obtain⟨k,hk⟩:=Jg (by omega) hl hs;refine Rn.lt ?_;rw[eq_f (by omega)];refine zB (fun h=>by simp at h) fun _=>zC (v:=(lim,l)) rfl (zC hk (Rn.chk (decide_eq_true rfl) (zC (v:=((k:Int),1,l)) rfl (Rn.bn (P:=fun y=>∃ r,y=.inr r∧RP 0 l.length l r∧SortedS r 0 l.length) ?_ fun y hy=>?_))))
 ·refine zC (v:=(true,true,true)) rfl (Rn.lt (zB (fun _=>Rn.bn (Ig h50 hl hs) fun r hr=>Rn.chk (decide_eq_true hr.2.1.len) (Rn.lt ?_)) fun h=>by simp at h));rw[hr.1];exact zB (fun _=>Rn.some ⟨_,rfl,hr.2⟩) fun h=>by simp at h
 ·obtain⟨r,rfl,hr⟩:=hy;rw[B4];exact Rn.some hr
--MORE
end Go.Proofs.Ytenemndpignaoaa
namespace Go.Proofs.Ytenemndpignaoaa
open Go Go.RowKit
def Rises (l:List Span):Prop:=l.Pairwise fun x y=>x.frm≤y.frm
theorem SortedS.rises {l:List Span} (h:SortedS l 0 l.length):Rises l:=by
 refine List.pairwise_iff_getElem.2 fun i j hi hj hij=>?_;have:=h i j (Nat.zero_le _) hij hj;unfold ksS keyS at this;rw[List.getD_eq_getElem?_getD,List.getD_eq_getElem?_getD,List.getElem?_eq_getElem hi,List.getElem?_eq_getElem hj] at this;exact this
theorem Rises.sorted {l:List Span} (h:Rises l):SortedS l 0 l.length:=by
 intro p q h1 h2 h3;have:=List.pairwise_iff_getElem.1 h p q (by omega) h3 h2;unfold ksS keyS;rw[List.getD_eq_getElem?_getD,List.getD_eq_getElem?_getD,List.getElem?_eq_getElem (show p<l.length by omega),List.getElem?_eq_getElem h3];exact this
theorem JQ {n:Nat} (h:n≤200):∃ v,CA big (cvI .u64 (n:Int))=some v∧0≤v∧v≤1000∧(1≤n→1≤v):=by
 have hb:(List.range 201).all (fun n=>match CA big (cvI .u64 (n:Int)) with|some v=>decide (0≤v∧v≤1000) && (decide (n=0) || decide (1≤v))|none=>false)=true:=by kernel_rfl
 rw[List.all_eq_true] at hb;have h:=hb n (List.mem_range.2 (by omega));split at h
 ·rename_i p e
  simp only[Bool.and_eq_true,Bool.or_eq_true,decide_eq_true_eq] at h;exact⟨p,e,h.1.1,h.1.2,fun h1=>by omega⟩
 ·simp at h
def SortableS (l:List Span):Prop:=l.length≤200∧(l.length≤sortMost∨Rises l.dropLast)
theorem Rises.drop {l:List Span} (h:Rises l):Rises l.dropLast:=List.Pairwise.sublist (List.dropLast_sublist l) h
theorem Rises.sortedL {l:List Span} (h:Rises l.dropLast):SortedS l 0 (l.length - 1):=by
 intro p q h1 h2 h3;have:=h.sorted p q h1 h2 (by simpa using h3);unfold ksS at this ⊢;rw[List.getD_eq_getElem?_getD,List.getD_eq_getElem?_getD,List.getElem?_dropLast,List.getElem?_dropLast,if_pos (by omega),if_pos (by omega),← List.getD_eq_getElem?_getD,← List.getD_eq_getElem?_getD] at this;exact this
theorem La {l:List Span} (hl:SortableS l):Rn (Bs big l) fun r=>r.Perm l∧Rises r:=by
 obtain⟨h200,hl⟩:=hl;unfold Bs;refine Rn.lt (Rn.lt ?_);obtain⟨v,ev,v0,v1,v2⟩:=JQ h200;refine zC ev (Rn.bn (P:=fun r=>RP 0 l.length l r∧SortedS r 0 l.length) ?_ fun r hr=>Rn.chk (by simp[lenB,hr.1.len]) (Rn.some ⟨hr.1.perm,?_⟩))
 ·rcases Decidable.em (l.length≤sortMost) with h|h
  ·exact K9 big (l:=l) (a:=0) (b:=l.length) (lim:=v) (by unfold big;omega) (Nat.zero_le _) (Nat.le_refl _) h (fun h=>by omega) v0 v1
  ·have hr:Rises l.dropLast:=hl.resolve_left h;have h1:50≤l.length:=by unfold sortMost at h;omega
   exact Kj h1 (by omega) hr.sortedL (v2 (by omega)) v1
 ·have h2:=hr.2;rw[← hr.1.len] at h2;exact h2.rises
theorem Lb {l:List Span} (hl:SortableS l):Rn (C1 big l) fun r=>Rises r∧(∀ x∈r,0≤x.frm∧x.frm≤x.to∧x.to≤16383)∧(∀ t,(∃ x∈r,x.frm≤t∧t≤x.to)↔inS l t)∧r.length≤l.length:=by
 have hl12:l.length≤1000000:=Nat.le_trans hl.1 (by omega);unfold C1;refine Rn.lt (Rn.bn (P:=fun r=>(∀ x∈r,0≤x.frm∧x.frm≤x.to∧x.to≤16383)∧(∀ t,(∃ x∈r,x.frm≤t∧t≤x.to)↔inS l t)∧r.length≤l.length∧(Rises l.dropLast→Rises r.dropLast)) (zF _ (fun j y=>∃ r:List Span,y=((j:Int),r)∧(∀ x∈r,0≤x.frm∧x.frm≤x.to∧x.to≤16383)∧(∀ t,(∃ x∈r,x.frm≤t∧t≤x.to)↔inS (l.take j) t)∧r.length≤j∧(Rises (l.take j)→Rises r)∧(Rises (l.take (j - 1))→Rises r.dropLast)∧∀ x∈r,∃ y∈l.take j,x.frm=max y.frm 0) l.length (by unfold big;omega) ⟨[],rfl,by simp,fun t=>by unfold inS;simp,by simp,fun _=>List.Pairwise.nil,fun _=>List.Pairwise.nil,by simp⟩ fun j y hj hI=>?_) fun r hr=>?_)
 ·obtain⟨r,rfl,r1,r2,r3,r4,r6,r5⟩:=hI;refine Rn.lt (zB (fun hd=>?_) fun hd=>?_)
  ·have hjl:j<l.length:=by
    have:=of_decide_eq_true (p:=((j:Int)<(l.length:Int))) hd;omega
   have hnth:=AF hjl;have htk:l.take (j+1)=l.take j++[l[j]]:=(List.take_append_getElem hjl).symm;have hbef:Rises (l.take (j+1))→Rises (l.take j)∧∀ y∈l.take j,y.frm≤l[j].frm:=by
    intro hri;rw[htk] at hri;obtain⟨g1,-,g2⟩:=List.pairwise_append.1 hri;exact⟨g1,fun y hy=>g2 y hy _ (by simp)⟩
   generalize l[j]=x at hnth htk hbef;have hin:∀ t,inS (l.take (j+1)) t↔inS (l.take j) t∨((0≤t∧t<16384)∧x.frm≤t∧t≤x.to):=by
    intro t;rw[htk];unfold inS;constructor
    ·rintro⟨h1,y,hy,h2⟩;rcases List.mem_append.1 hy with hy|hy
     ·exact .inl ⟨h1,y,hy,h2⟩
     ·simp at hy;subst hy;exact .inr ⟨h1,h2⟩
    ·rintro (⟨h1,y,hy,h2⟩|⟨h1,h2⟩)
     ·exact⟨h1,y,by simp[hy],h2⟩
     ·exact⟨h1,x,by simp,h2⟩
   refine Rn.bn (P:=fun r'=>(∀ x∈r',0≤x.frm∧x.frm≤x.to∧x.to≤16383)∧(∀ t,(∃ x∈r',x.frm≤t∧t≤x.to)↔inS (l.take (j+1)) t)∧r'.length≤j+1∧(Rises (l.take (j+1))→Rises r')∧(Rises (l.take (j+1 - 1))→Rises r'.dropLast)∧∀ x∈r',∃ y∈l.take (j+1),x.frm=max y.frm 0) ?_ fun r' hr'=>Rn.lt (Rn.some ⟨hjl,r',?_,hr'⟩)
   ·refine zC hnth (Rn.lt (Rn.lt (Rn.lt (zB (fun hc=>Rn.chk (by simp[room];omega) (Rn.lt (Rn.some ⟨?_,fun t=>?_,by simp;omega,fun hri=>?_,fun hri=>?_,fun y hy=>?_⟩))) fun hc=>Rn.some ⟨r1,fun t=>?_,Nat.le_succ_of_le r3,fun hri=>r4 (hbef hri).1,fun hri=>(r4 hri).drop,fun y hy=>?_⟩))))
    ·intro y hy;have hc':maxI x.frm 0≤minI x.to 16383:=of_decide_eq_true hc;rcases List.mem_append.1 hy with hy|hy
     ·exact r1 y hy
     ·simp at hy;subst hy;simp only[maxI,minI] at hc' ⊢;omega
    ·rw[hin t,← r2 t];constructor
     ·rintro⟨y,hy,h2⟩;rcases List.mem_append.1 hy with hy|hy
      ·exact .inl ⟨y,hy,h2⟩
      ·simp at hy;subst hy;simp only[maxI,minI] at h2;exact .inr ⟨by omega,by omega⟩
     ·rintro (⟨y,hy,h2⟩|⟨h1,h2⟩)
      ·exact⟨y,by simp[hy],h2⟩
      ·exact⟨⟨maxI x.frm 0,minI x.to 16383⟩,by simp,by simp only[maxI,minI];omega⟩
    ·refine List.pairwise_append.2 ⟨r4 (hbef hri).1,List.pairwise_singleton _ _,fun u hu w hw=>?_⟩;simp at hw;subst hw;obtain⟨y,hy,e⟩:=r5 u hu;have:=(hbef hri).2 y hy;simp only[maxI];omega
    ·rw[List.dropLast_concat];exact r4 hri
    ·rcases List.mem_append.1 hy with hy|hy
     ·obtain⟨z,hz,e⟩:=r5 y hy;exact⟨z,by rw[htk];simp[hz],e⟩
     ·simp at hy;subst hy;exact⟨x,by rw[htk];simp,rfl⟩
    ·have hc':¬ maxI x.frm 0≤minI x.to 16383:=of_decide_eq_false hc;rw[hin t,← r2 t];refine⟨.inl,?_⟩;rintro (h|⟨h1,h2⟩)
     ·exact h
     ·simp only[maxI,minI] at hc';omega
    ·obtain⟨z,hz,e⟩:=r5 y hy;exact⟨z,by rw[htk];simp[hz],e⟩
   ·rw[Ao (by first|omega|(simp only;omega)) (by first|omega|(simp only;omega))];rfl
  ·have hjl:j=l.length:=by
    have:=of_decide_eq_false (p:=((j:Int)<(l.length:Int))) hd;omega
   subst hjl;rw[List.take_length] at r2;exact Rn.some ⟨r1,r2,r3,fun h=>r6 (by rwa [← List.dropLast_eq_take])⟩
 ·obtain⟨r1,r2,r3,r4⟩:=hr;refine Rn.bn (La ⟨Nat.le_trans r3 hl.1,hl.2.imp (Nat.le_trans r3) r4⟩) fun v hv=>Rn.chk (by simp[lenB,hv.1.length_eq]) (Rn.chk (by have:=hv.1.length_eq;simp[room];omega) (Rn.some ⟨hv.2,fun x hx=>r1 x (hv.1.mem_iff.1 hx),fun t=>?_,by have:=hv.1.length_eq;omega⟩));rw[← r2 t];constructor
  ·rintro⟨x,hx,h⟩;exact⟨x,hv.1.mem_iff.1 hx,h⟩
  ·rintro⟨x,hx,h⟩;exact⟨x,hv.1.mem_iff.2 hx,h⟩
theorem SaysS.of {l:List Span} {p:Int→Prop} [DecidablePred p] (h:canP (l.map sP)) (hp:∀ t,(∃ x∈l,x.frm≤t∧t≤x.to)↔p t):SaysS l p:=by
 refine⟨h,fun s=>?_⟩;rw[KC];unfold fS;simp only[hp s]
theorem Dp {l:List Span} (hl:SortableS l):Rn (A5 big l) fun r=>SaysS r (inS l)∧r.length≤l.length:=by
 have hl12:l.length≤1000000:=Nat.le_trans hl.1 (by omega);unfold A5;refine Rn.bn (Lb hl) fun v hv=>Rn.lt ?_;obtain⟨v1,v2,v3,v4⟩:=hv;refine Rn.bn (P:=fun r=>SaysS r (inS l)∧r.length≤l.length) (zF _ (fun j y=>∃ out:List Span,y=((j:Int),out)∧canP (out.map sP)∧(∀ t,(∃ x∈out,x.frm≤t∧t≤x.to)↔∃ x∈v.take j,x.frm≤t∧t≤x.to)∧(∀ x∈out,x.to≤16383∧0≤x.to∧∀ y∈v.drop j,x.frm≤y.frm)∧out.length≤j) v.length (by unfold big;omega) ⟨[],rfl,trivial,by simp,by simp,by simp⟩ fun j y hj hI=>?_) fun r hr=>Rn.chk (by have:=hr.2;simp[room];omega) (Rn.some hr);obtain⟨out,rfl,o1,o2,o3,o4⟩:=hI;refine Rn.lt (zB (fun hd=>?_) fun hd=>?_)
 ·have hjl:j<v.length:=by
   have:=of_decide_eq_true (p:=((j:Int)<(v.length:Int))) hd;omega
  have hnth:=AF hjl;have htk:v.take (j+1)=v.take j++[v[j]]:=(List.take_append_getElem hjl).symm;have hdr:=List.drop_eq_getElem_cons hjl;have hs:=v2 _ (List.getElem_mem hjl);have hri:∀ y∈v.drop (j+1),v[j].frm≤y.frm:=by
   intro y hy;have h1:(v.drop j).Pairwise fun x y=>x.frm≤y.frm:=v1.sublist (List.drop_sublist _ _);rw[hdr] at h1;exact List.rel_of_pairwise_cons h1 hy
  have ho3:∀ x∈out,x.to≤16383∧0≤x.to∧x.frm≤v[j].frm∧∀ y∈v.drop (j+1),x.frm≤y.frm:=by
   intro x hx;obtain⟨a,a',b⟩:=o3 x hx;rw[hdr] at b;exact⟨a,a',b _ List.mem_cons_self,fun y hy=>b y (List.mem_cons_of_mem _ hy)⟩
  generalize v[j]=s at hnth htk hs hri ho3;have hin:∀ t,(∃ x∈v.take (j+1),x.frm≤t∧t≤x.to)↔(∃ x∈out,x.frm≤t∧t≤x.to)∨(s.frm≤t∧t≤s.to):=by
   intro t;rw[htk,o2 t];constructor
   ·rintro⟨y,hy,h2⟩;rcases List.mem_append.1 hy with hy|hy
    ·exact .inl ⟨y,hy,h2⟩
    ·simp at hy;subst hy;exact .inr h2
   ·rintro (⟨y,hy,h2⟩|h2)
    ·exact⟨y,by simp[hy],h2⟩
    ·exact⟨s,by simp,h2⟩
  refine Rn.bn (P:=fun o=>canP (o.map sP)∧(∀ t,(∃ x∈o,x.frm≤t∧t≤x.to)↔∃ x∈v.take (j+1),x.frm≤t∧t≤x.to)∧(∀ x∈o,x.to≤16383∧0≤x.to∧∀ y∈v.drop (j+1),x.frm≤y.frm)∧o.length≤j+1) ?_ fun o ho=>Rn.lt (Rn.some ⟨hjl,o,?_,ho⟩)
  ·refine zC hnth (Rn.lt ?_);have happ:(∀ q,(out.map sP).getLast?=some q→q.2.1<s.frm∧¬ (q.2.1+1=s.frm∧q.2.2=()))→canP ((out++[s]).map sP)∧(∀ t,(∃ x∈out++[s],x.frm≤t∧t≤x.to)↔∃ x∈v.take (j+1),x.frm≤t∧t≤x.to)∧(∀ x∈out++[s],x.to≤16383∧0≤x.to∧∀ y∈v.drop (j+1),x.frm≤y.frm)∧(out++[s]).length≤j+1:=by
    intro hc;refine⟨?_,fun t=>?_,fun x hx=>?_,by simp;omega⟩
    ·rw[List.map_append];exact Et (p:=sP s) o1 hs.2.1 hc
    ·rw[hin t];constructor
     ·rintro⟨y,hy,h2⟩;rcases List.mem_append.1 hy with hy|hy
      ·exact .inl ⟨y,hy,h2⟩
      ·simp at hy;subst hy;exact .inr h2
     ·rintro (⟨y,hy,h2⟩|h2)
      ·exact⟨y,by simp[hy],h2⟩
      ·exact⟨s,by simp,h2⟩
    ·rcases List.mem_append.1 hx with hx|hx
     ·have:=ho3 x hx;exact⟨this.1,this.2.1,this.2.2.2⟩
     ·simp at hx;subst hx;exact⟨hs.2.2,by omega,hri⟩
   rcases Decidable.em (out=[]) with he|he
   ·subst he;exact zC (v:=false) rfl (Rn.lt (zB (fun h=>by simp at h) fun _=>Rn.chk rfl (Rn.lt (Rn.some (happ (by simp))))))
   ·obtain⟨k,x,rfl⟩:∃ k x,out=k++[x]:=⟨out.dropLast,out.getLast he,(List.dropLast_concat_getLast he).symm⟩;have hx:=ho3 x (by simp);obtain⟨x1,x2,x3,x4⟩:=hx;have el:subI .i64 (lenI (k++[x])) 1=((k.length:Nat):Int):=by
     rw[By,Aq (by omega) (by omega)];simp
    have hk:k.length<(k++[x]).length:=by simp
    have hn:nth (k++[x]) ((k.length:Nat):Int)=some x:=by rw[AF hk];simp
    refine zC (v:=leI s.frm (x.to+1)) ?_ (Rn.lt (zB (fun h=>?_) fun h=>Rn.chk (by simp[room];simp at o4;omega) (Rn.lt (Rn.some (happ fun q hq=>?_)))))
    ·simp only[AA];rw[gt_t (by rw[By];simp),AT,el,hn];simp only[Ar];rw[Ao (by omega) (by omega)]
    ·have hle:s.frm≤x.to+1:=of_decide_eq_true h;rw[List.map_append] at o1;obtain⟨c1,c2,c3⟩:=FN (p:=sP x) o1;have c2':x.frm≤x.to:=c2;refine Rn.lt ?_;rw[el];refine zC hn (Rn.lt (Rn.lt (Rn.some ?_)));rw[Int.toNat_natCast,List.set_append_right _ _ (by omega),Nat.sub_self,show [x].set 0 (⟨x.frm,maxI x.to s.to⟩:Span)=[⟨x.frm,maxI x.to s.to⟩] from rfl];have hm:maxI x.to s.to=max x.to s.to:=rfl;rw[hm];refine⟨?_,fun t=>?_,fun y hy=>?_,by simp at o4 ⊢;omega⟩
     ·rw[List.map_append];exact Et (p:=sP ⟨x.frm,max x.to s.to⟩) c1 (show x.frm≤max x.to s.to by omega) c3
     ·rw[hin t];constructor
      ·rintro⟨y,hy,h2⟩;rcases List.mem_append.1 hy with hy|hy
       ·exact .inl ⟨y,by simp[hy],h2⟩
       ·simp at hy;subst hy;simp only at h2;rcases Decidable.em (t≤x.to) with h3|h3
        ·exact .inl ⟨x,by simp,h2.1,h3⟩
        ·exact .inr ⟨by omega,by omega⟩
      ·rintro (⟨y,hy,h2⟩|h2)
       ·rcases List.mem_append.1 hy with hy|hy
        ·exact⟨y,by simp[hy],h2⟩
        ·simp at hy;subst hy;exact⟨⟨y.frm,max y.to s.to⟩,by simp,h2.1,by simp only;omega⟩
       ·exact⟨⟨x.frm,max x.to s.to⟩,by simp,by simp only;omega,by simp only;omega⟩
     ·rcases List.mem_append.1 hy with hy|hy
      ·have:=ho3 y (by simp[hy]);exact⟨this.1,this.2.1,this.2.2.2⟩
      ·simp at hy;subst hy;exact⟨by simp only;omega,by simp only;omega,x4⟩
    ·have hle:¬ s.frm≤x.to+1:=of_decide_eq_false h;rw[List.map_append,show [x].map sP=[sP x] from rfl,List.getLast?_concat] at hq;have:=Option.some.inj hq;subst this;show x.to<s.frm∧¬ (x.to+1=s.frm∧()=());omega
  ·rw[Ao (by first|omega|(simp only;omega)) (by first|omega|(simp only;omega))];rfl
 ·have hjl:j=v.length:=by
   have:=of_decide_eq_false (p:=((j:Int)<(v.length:Int))) hd;omega
  subst hjl;rw[List.take_length] at o2;exact Rn.some ⟨SaysS.of o1 fun t=>by rw[o2 t,v3 t],show out.length≤l.length by omega⟩
theorem Kk {l:List Span} {v:Int×Int} (s:Int):fnP (l.map fun x=>(x.frm,x.to,v)) s=(fnP (l.map sP) s).map fun _=>v:=by
 induction l with
 |nil=>rfl
 |cons x l ih =>
  simp only[List.map_cons,fnP,sP];split
  ·rfl
  ·exact ih
theorem Hm {v:Int×Int}:∀ {l:List Span},canP (l.map sP)→canP (l.map fun x=>(x.frm,x.to,v))
 |[],_=>trivial
 |[x],h=>h
 |x::y::l,h=>⟨h.1,h.2.1,fun hc=>h.2.2.1 ⟨hc.1,rfl⟩,Hm (l:=y::l) h.2.2.2⟩
theorem JR {l:List Span} {nd ep:Int}:(l.map fun x=>(⟨x.frm,x.to,nd,ep⟩:Claim)).map cP=l.map fun x=>(x.frm,x.to,(nd,ep)):=by
 rw[List.map_map];rfl
theorem Jh {l:List Span} {p:Int→Prop} [DecidablePred p] (h:SaysS l p) (hp:∀ s,p s→0≤s∧s≤16383) {nd ep:Int} (h1:0≤nd) (h2:1≤ep) :
  GoodC (l.map fun x=>(⟨x.frm,x.to,nd,ep⟩:Claim))∧∀ s,fC (l.map fun x=>(⟨x.frm,x.to,nd,ep⟩:Claim)) s=if p s then some (nd,ep) else none:=by
 have hr:=h.rng hp;refine⟨⟨by rw[JR];exact Hm h.1,fun c hc=>?_⟩,fun s=>?_⟩
 ·obtain⟨x,hx,rfl⟩:=List.mem_map.1 hc;have:=hr x hx;exact⟨this.1,this.2.1,this.2.2,h1,h2⟩
 ·unfold fC;rw[JR,Kk,h.2 s];unfold fS;split <;> rfl
theorem Kl {a:List Claim} {l:List Span} {nd ep:Int} (ha:GoodC a) (hl:SortableS l) (h1:0≤nd) (h2:1≤ep) :
  Rn (BY big a l nd ep) fun r=>FinP (r.map cP) (giveF (fC a) (inS l) (nd,ep)):=by
 have hl12:l.length≤1000000:=Nat.le_trans hl.1 (by omega);have ht:Tells (giveF (fC a) (inS l) (nd,ep)):=E5 ha.tells Cr h1 h2;unfold BY;refine Rn.bn (Dp hl) fun v hv=>Rn.lt ?_;obtain⟨v1,v2⟩:=hv;refine Rn.bn (P:=fun g=>g=v.map fun x=>(⟨x.frm,x.to,nd,ep⟩:Claim)) (zF _ (fun j y=>y=((j:Int),(v.take j).map fun x=>(⟨x.frm,x.to,nd,ep⟩:Claim))) v.length (by unfold big;omega) rfl fun j y hj hI=>?_) fun g hg=>?_
 ·subst hI;refine Rn.lt (zB (fun hd=>?_) fun hd=>?_)
  ·have hjl:j<v.length:=by
    have:=of_decide_eq_true (p:=((j:Int)<(v.length:Int))) hd;omega
   refine zC (AF hjl) (Rn.chk (by simp[room];omega) (Rn.lt (Rn.lt (Rn.some ⟨hjl,?_⟩))));rw[Ao (by first|omega|(simp only;omega)) (by first|omega|(simp only;omega)),← List.take_append_getElem hjl,List.map_append];rfl
  ·have hjl:j=v.length:=by
    have:=of_decide_eq_false (p:=((j:Int)<(v.length:Int))) hd;omega
   subst hjl;exact Rn.some (by show _=_;rw[List.take_length])
 subst hg;obtain⟨hgg,hgf⟩:=Jh v1 Cr h1 h2;have hglen:(v.map fun x=>(⟨x.frm,x.to,nd,ep⟩:Claim)).length≤16384:=hgg.len;generalize (v.map fun x=>(⟨x.frm,x.to,nd,ep⟩:Claim))=b at hgg hgf hglen;have hFb:∀ s,giveF (fC a) (inS l) (nd,ep) s=match fC b s with|some w=>some w|none=>fC a s:=by
  intro s;rw[hgf s];unfold giveF;split <;> rfl
 refine Rn.bn (P:=fun r=>FinP (r.map cP) (giveF (fC a) (inS l) (nd,ep))∧r.length≤16384) (Rn.chk (by simp[room];omega) (zC (v:=(a,b)) rfl (Rn.bn (P:=fun y=>FinP (y.2.2.map cP) (giveF (fC a) (inS l) (nd,ep))∧y.2.2.length≤16384) (zF _ (fun j y=>∃ at_ a' b' p out,y=(at_,a',b',p,out)∧(j:Int)≤at_∧at_≤16384∧GoodC a'∧GoodC b'∧(∀ s,at_≤s→fC a' s=fC a s)∧(∀ s,at_≤s→fC b' s=fC b s)∧BdP at_ (out.map cP) (giveF (fC a) (inS l) (nd,ep))∧out.length≤j) 16384 (by unfold big;omega)
  ⟨0,a,b,_,[],rfl,Int.le_refl _,by omega,ha,hgg,fun s _=>rfl,fun s _=>rfl,BdP.nil fun s hs=>ht.none (.inl hs),by simp⟩ fun j y hj hI=>?_) fun y hy=>Rn.some hy))) fun r hr=>Rn.chk (by have:=hr.2;simp[room];omega) (Rn.some hr.1)
 obtain⟨at_,a',b',p,out,rfl,i1,i2,i3,i4,i5,i6,i7,i8⟩:=hI;refine Rn.lt (zB (fun hd=>?_) fun hd=>?_)
 ·have hat:at_≤16383:=of_decide_eq_true hd
  refine Rn.bn (IS i3 ⟨by omega,hat⟩) fun x hx=>Rn.bn (IS i4 ⟨by omega,hat⟩) fun z hz=>Rn.lt ?_;obtain⟨x1,x2⟩:=x;obtain⟨z1,z2⟩:=z;have hmin:minI x1.to z1.to=min x1.to z1.to:=rfl;have hto:at_≤minI x1.to z1.to∧minI x1.to z1.to≤16383∧minI x1.to z1.to≤x1.to∧minI x1.to z1.to≤z1.to:=by
   have q1:=hx.le;have q2:=hz.le;have q3:=hx.last;have q4:=hz.last;simp only at q1 q2 q3 q4;rw[hmin];omega
  simp only;generalize minI x1.to z1.to=to_ at hto;obtain⟨p1,p2,p3,p4⟩:=hto;have hz6:=hz.num;simp only at hz6;have hF:∀ s,at_≤s→s≤to_→giveF (fC a) (inS l) (nd,ep) s=match valC z1 with|some w=>some w|none=>valC x1:=by
   intro s g1 g2;rw[hFb s,← i5 s g1,← i6 s g1,hx.val s g1 (by simp only;omega),hz.val s g1 (by simp only;omega)]
  have hzf:=hz.frm;have hxf:=hx.frm;simp only at hzf hxf;refine Rn.bn (P:=fun c=>(valC c.a=match valC z1 with|some w=>some w|none=>valC x1)∧c.a.frm=at_∧c.a.to=to_) ?_ fun c hc=>?_
  ·refine Rn.lt (zB (fun h=>Rn.some ⟨?_,hzf,rfl⟩) fun h=>Rn.some ⟨?_,hxf,rfl⟩)
   ·have he:0<z1.epoch:=of_decide_eq_true h;unfold valC;simp only;rw[if_neg (by omega)]
   ·have he:¬ 0<z1.epoch:=of_decide_eq_false h;have he0:z1.epoch=0:=by omega
    have:valC z1=none:=if_pos he0;rw[this];rfl
  ·refine Rn.bn (Kg i7 ht (by omega) ⟨by omega,i2⟩ hc.2.1 hc.2.2 p1 fun s g1 g2=>by rw[hF s g1 g2,hc.1]) fun m hm=>Rn.lt (Rn.some ⟨by omega,to_+1,x2,z2,⟨⟨x1.frm,to_,x1.node,x1.epoch⟩,⟨z1.frm,to_,z1.node,z1.epoch⟩⟩,m,?_,by omega,by omega,hx.good,hz.good,fun s hs=>?_,fun s hs=>?_,hm.1,by omega⟩)
   ·rw[Ao (by omega) (by omega)]
   ·rw[hx.rest s (by omega),i5 s (by omega)]
   ·rw[hz.rest s (by omega),i6 s (by omega)]
 ·have hat:at_=16384:=by
   have:=of_decide_eq_false (p:=at_≤16383) hd;omega
  subst hat;exact Rn.some ⟨i7.fin fun s hs=>ht.none (.inr hs),show out.length≤16384 by omega⟩
theorem Ji {a:List Claim} {l:List Span} {nd ep:Int} (ha:GoodC a) (hl:SortableS l) (h1:0≤nd) (h2:1≤ep) :
  Rn (BY big a l nd ep) fun r=>GoodC r∧∀ s,fC r s=giveF (fC a) (inS l) (nd,ep) s :=
 (Kl ha hl h1 h2).mono fun r hr=>⟨hr.good (E5 ha.tells Cr h1 h2),fun s=>hr.2 s⟩
end Go.Proofs.Ytenemndpignaoaa
namespace Go.Proofs.Ytenemndpignaoaa
open Go Go.RowKit
end Go.Proofs.Ytenemndpignaoaa
namespace Go.Proofs.Ytenemndpignaoaa
open Go Go.RowKit
def minP (a b:List Span) (t:Int):Prop:=inS a t∧¬ inS b t
instance (a b:List Span) (t:Int):Decidable (minP a b t):=by unfold minP;infer_instance
theorem Hn {β:Type} {l:List (Int×Int×β)} (h:canP l) {s:Int} {w:β} (h1:fnP l s=some w) (h2:fnP l (s - 1)≠some w):∃ p∈l,p.1=s:=by
 induction l with
 |nil=>simp[fnP] at h1
 |cons p l ih =>
  rcases Decidable.em (p.1≤s∧s≤p.2.1) with hc|hc
  ·rw[BC hc.1 hc.2] at h1;rcases Decidable.em (p.1=s) with e|e
   ·exact⟨p,by simp,e⟩
   ·exact absurd (by rw[BC (by omega) (by omega)];exact h1) h2
  ·rw[BO hc] at h1;rcases Decidable.em (p.1≤s - 1∧s - 1≤p.2.1) with hd|hd
   ·-- s is just behind p: it begins a piece of the rest
    have h3:fnP l (s - 1)≠some w:=by
     rw[CP h hd.2];simp
    obtain⟨q,hq,e⟩:=ih h.tail h1 h3;exact⟨q,by simp[hq],e⟩
   ·rw[BO hd] at h2;obtain⟨q,hq,e⟩:=ih h.tail h1 h2;exact⟨q,by simp[hq],e⟩
theorem IA {β:Type} {l:List (Int×Int×β)} (h:canP l) {p:Int×Int×β} (hp:p∈l):fnP l p.1=some p.2.2∧fnP l (p.1 - 1)≠some p.2.2:=by
 refine⟨(CU h hp).2 _ (Int.le_refl _) (CU h hp).1,?_⟩;induction l with
 |nil=>simp at hp
 |cons q l ih =>
  rcases List.mem_cons.1 hp with rfl|hp'
  ·have:=h.head;rw[BO (by omega),CP h (by omega)];simp
  ·rcases Decidable.em (q.1≤p.1 - 1∧p.1 - 1≤q.2.1) with hc|hc
   ·rw[BC hc.1 hc.2];intro e;have e:=Option.some.inj e;cases l with
    |nil=>simp at hp'
    |cons r l =>
     have hqr:=h.2.1;rcases List.mem_cons.1 hp' with rfl|hp2
     ·exact h.2.2.1 ⟨by omega,e⟩
     ·have h3:=(canP.tail h).lt p hp2;have h4:=(canP.tail h).head;omega
   ·rw[BO hc];exact ih h.tail hp'
theorem EZ:∀ (l m:List Int),l.Pairwise (·≠·)→(∀ x∈l,x∈m)→l.length≤m.length
 |[],m,_,_=>Nat.zero_le _
 |x::l,m,hn,hs=>by
  rw[List.pairwise_cons] at hn;have hx:=hs x (by simp);have:=EZ l (m.erase x) hn.2 fun y hy=>(List.mem_erase_of_ne (fun e=>hn.1 y hy e.symm)).2 (hs y (by simp[hy]));rw[List.length_erase_of_mem hx] at this;have h0:0<m.length:=List.length_pos_of_mem hx;simp;omega
theorem F8 {β:Type}:∀ {l:List (Int×Int×β)},canP l→(l.map fun p=>p.1).Pairwise (·≠·)
 |[],_=>List.Pairwise.nil
 |p::l,h=>by
  rw[List.map_cons,List.pairwise_cons];refine⟨fun x hx=>?_,F8 h.tail⟩;obtain⟨q,hq,rfl⟩:=List.mem_map.1 hx;have h1:=h.lt q hq;have h2:=h.head;omega
theorem Km {a r:List Claim} {v:List Span} {p:Int→Prop} [DecidablePred p] {w:Int×Int} (ha:GoodC a) (hr:GoodC r) (hv:SaysS v p) (hf:∀ s,fC r s=giveF (fC a) p w s):r.length≤a.length+2*v.length:=by
 have h1:=EZ ((r.map cP).map fun q=>q.1) (a.map (·.frm)++(v.map (·.frm)++v.map fun x=>x.to+1)) (F8 hr.1) fun s hs=>?_
 ·simpa [Nat.two_mul] using h1
 ·obtain⟨q,hq,rfl⟩:=List.mem_map.1 hs;obtain⟨e1,e2⟩:=IA hr.1 hq;have e1:fC r q.1=some q.2.2:=e1;have e2:fC r (q.1 - 1)≠some q.2.2:=e2;rw[hf] at e1 e2;unfold giveF at e1 e2;generalize q.1=s at e1 e2;generalize q.2.2=u at e1 e2;rw[List.mem_append,List.mem_append,List.mem_map,List.mem_map,List.mem_map];by_cases h3:p s
  ·rw[if_pos h3] at e1;by_cases h4:p (s - 1)
   ·rw[if_pos h4] at e2;exact absurd e1 e2
   ·refine .inr (.inl ?_);have g1:fnP (v.map sP) s=some ():=by rw[hv.2];exact GY h3
    have g2:fnP (v.map sP) (s - 1)≠some ():=by rw[hv.2,FT h4];simp
    obtain⟨x,hx,e⟩:=Hn hv.1 g1 g2;obtain⟨y,hy,rfl⟩:=List.mem_map.1 hx;exact⟨y,hy,e⟩
  ·rw[if_neg h3] at e1;by_cases h4:p (s - 1)
   ·-- a span ends just ahead
    refine .inr (.inr ?_);obtain⟨x,hx,g1,g2⟩:=(hv.iff (s - 1)).2 h4;have g3:¬ (x.frm≤s∧s≤x.to):=fun h=>h3 ((hv.iff s).1 ⟨x,hx,h⟩);exact⟨x,hx,by omega⟩
   ·rw[if_neg h4] at e2;refine .inl ?_;obtain⟨x,hx,e⟩:=Hn ha.1 e1 e2;obtain⟨y,hy,rfl⟩:=List.mem_map.1 hx;exact⟨y,hy,e⟩
theorem F9 {a:List Claim} {l:List Span} {nd ep:Int} (ha:GoodC a) (hl:SortableS l) (h1:0≤nd) (h2:1≤ep) :
  Rn (Cf big a l nd ep) fun r=>GoodC r∧(∀ s,fC r s=giveF (fC a) (inS l) (nd,ep) s)∧r.length≤a.length+2*l.length:=by
 refine (JL ha (by have:=hl.1;omega) h1 h2).mono fun r hr=>?_;have hg:=hr.good (E5 ha.tells Cr h1 h2);obtain⟨v,-,h3,h4⟩:=Dp hl;have:=Km ha hg h3 fun s=>hr.2 s;exact⟨hg,fun s=>hr.2 s,by omega⟩
structure Made (a:List Claim) (n:Nat):Prop where
 good:GoodC a
 few:a.length≤n
 low:∀ s v,fC a s=some v→v.1≤3∧v.2≤6
theorem Kn {ns:List Int} (hn:rngH ns) (hl:ns.length≤60):Rn (DP big ns) fun r=>Made r 30:=by
 unfold DP;refine Rn.bn (P:=fun r=>Made r 30) (zF _ (fun j a=>∃ r:List Claim,a=(r,((4*j:Nat):Int))∧Made r (2*j)∧4*j≤ns.length) 100 (by unfold big;omega) ⟨[],rfl,⟨⟨trivial,fun c hc=>by simp at hc⟩,by simp,fun s v h=>by simp[fC,fnP] at h⟩,by omega⟩ fun j a hj hI=>?_) fun r hr=>Rn.some hr;obtain⟨r,rfl,r1,r2⟩:=hI;refine Rn.bn (P:=fun y=>y=true→4*j+3<ns.length) ?_ fun y hy=>Rn.lt (zB (fun hd=>?_) fun hd=>Rn.some ⟨r1.good,by have:=r1.few;show r.length≤30;omega,r1.low⟩)
 ·refine Rn.lt (Rn.lt (Rn.lt ?_));simp only;rw[Ao (by omega) (by omega)];refine zB (fun hd=>Rn.lt (Rn.some fun _=>?_)) fun hd=>Rn.some (by simp);have:=of_decide_eq_true (p:=(((4*j:Nat):Int)+3<(ns.length:Int))) hd;omega
 ·have hjl:=hy hd;refine Rn.lt ?_;have e1:addI .i64 ((4*j:Nat):Int) 2=((4*j+2:Nat):Int):=by rw[Ao (by omega) (by omega)];omega
  have e2:addI .i64 ((4*j:Nat):Int) 3=((4*j+3:Nat):Int):=by rw[Ao (by omega) (by omega)];omega
  have e3:addI .i64 ((4*j:Nat):Int) 4=((4*(j+1):Nat):Int):=by rw[Ao (by omega) (by omega)];omega
  simp only;rw[e1,e2,e3,JI (show 4*j≤4*j+2 by omega) (by omega)];refine zC rfl (Rn.bn (JM (fun x hx=>hn x (List.mem_of_mem_drop (List.mem_of_mem_take hx))) (by simp;omega)) fun s hs=>?_);have h2:=hn _ (List.getElem_mem (show 4*j+2<ns.length by omega));have h3:=hn _ (List.getElem_mem hjl);refine zC (AF (show 4*j+2<ns.length by omega)) (Rn.lt ?_);rw[ET (by omega) (by omega)];refine zC (vrem h2.1 (by omega)) (Rn.lt (zC (AF hjl) (Rn.lt ?_)));rw[ET (by omega) (by omega)];refine zC (vrem h3.1 (by omega)) (Rn.lt ?_);rw[Ao (by omega) (by omega)];simp at hs;refine Rn.bn (F9 r1.good ⟨by omega,.inl (by unfold sortMost;omega)⟩ (by omega) (by omega)) fun g hg=>Rn.lt (Rn.some ⟨by omega,g,rfl,⟨hg.1,by have:=hg.2.2;have:=r1.few;omega,fun s v h=>?_⟩,by omega⟩);rw[hg.2.1] at h;unfold giveF at h;split at h
  ·have:=Option.some.inj h;subst this;exact⟨by simp only;omega,by simp only;omega⟩
  ·exact r1.low s v h
def ownP (f:Int→Option (Int×Int)) (nd:Int) (s:Int):Prop:=(f s).map (·.1)=some nd
instance (f:Int→Option (Int×Int)) (nd s:Int):Decidable (ownP f nd s):=by unfold ownP;infer_instance
theorem GoodC.iff {l:List Claim} (h:GoodC l) (s:Int) (v:Int×Int):fC l s=some v↔∃ c∈l,(c.frm≤s∧s≤c.to)∧(c.node,c.epoch)=v:=by
 constructor
 ·intro hv;have key:∀ l:List Claim,fC l s=some v→∃ c∈l,(c.frm≤s∧s≤c.to)∧(c.node,c.epoch)=v:=by
   intro l;induction l with
   |nil=>intro h;simp[fC,fnP] at h
   |cons c l ih =>
    intro hf;rcases Decidable.em (c.frm≤s∧s≤c.to) with h1|h1
    ·have:fC (c::l) s=some (c.node,c.epoch):=BC (p:=cP c) h1.1 h1.2;rw[this] at hf;exact⟨c,by simp,h1,Option.some.inj hf⟩
    ·have:fC (c::l) s=fC l s:=BO (p:=cP c) h1;rw[this] at hf;obtain⟨x,hx,h2⟩:=ih hf;exact⟨x,by simp[hx],h2⟩
  exact key l hv
 ·rintro⟨c,hc,h1,rfl⟩;exact (CU h.1 (List.mem_map_of_mem hc)).2 s h1.1 h1.2
theorem GoodC.rises {l:List Claim} (h:GoodC l):l.Pairwise fun x y=>x.frm≤y.frm:=by
 have:∀ l:List Claim,canP (l.map cP)→l.Pairwise fun x y=>x.frm≤y.frm:=by
  intro l;induction l with
  |nil=>intro _;exact List.Pairwise.nil
  |cons c l ih =>
   intro hc;rw[List.pairwise_cons];refine⟨fun y hy=>?_,ih (canP.tail (p:=cP c) hc)⟩;have h1:c.to<y.frm:=canP.lt (p:=cP c) hc (cP y) (List.mem_map_of_mem hy);have h2:c.frm≤c.to:=canP.head (p:=cP c) hc;omega
 exact this l h.1
theorem normT:@A5=@A5:=rfl
theorem Ih {l:List Claim} {nd:Int} (hl:GoodC l) (h200:l.length≤200):Rn (Ca big l nd) fun r=>SaysS r (ownP (fC l) nd)∧r.length≤l.length:=by
 unfold Ca;refine Rn.lt (Rn.bn (P:=fun r=>Rises r∧r.length≤l.length∧∀ t,(∃ x∈r,x.frm≤t∧t≤x.to)↔∃ c∈l,(c.frm≤t∧t≤c.to)∧c.node=nd) (zF _ (fun j y=>∃ r:List Span,y=((j:Int),r)∧Rises r∧r.length≤j∧(∀ x∈r,∃ c∈l.take j,x.frm=c.frm)∧∀ t,(∃ x∈r,x.frm≤t∧t≤x.to)↔∃ c∈l.take j,(c.frm≤t∧t≤c.to)∧c.node=nd) l.length (by unfold big;omega) ⟨[],rfl,List.Pairwise.nil,by simp,by simp,by simp⟩ fun j y hj hI=>?_) fun r hr=>?_)
 ·obtain⟨r,rfl,r1,r2,r3,r4⟩:=hI;refine Rn.lt (zB (fun hd=>?_) fun hd=>?_)
  ·have hjl:j<l.length:=by
    have:=of_decide_eq_true (p:=((j:Int)<(l.length:Int))) hd;omega
   have hnth:=AF hjl;have htk:l.take (j+1)=l.take j++[l[j]]:=(List.take_append_getElem hjl).symm;have hbef:∀ y∈l.take j,y.frm≤l[j].frm:=by
    intro y hy;obtain⟨i,hi,rfl⟩:=List.mem_take_iff_getElem.1 hy;exact List.pairwise_iff_getElem.1 hl.rises i j (by omega) hjl (by omega)
   generalize l[j]=c at hnth htk hbef;refine Rn.bn (P:=fun r'=>Rises r'∧r'.length≤j+1∧(∀ x∈r',∃ c∈l.take (j+1),x.frm=c.frm)∧∀ t,(∃ x∈r',x.frm≤t∧t≤x.to)↔∃ c∈l.take (j+1),(c.frm≤t∧t≤c.to)∧c.node=nd) ?_ fun r' hr'=>Rn.lt (Rn.some ⟨hjl,r',?_,hr'⟩)
   ·refine zC hnth (Rn.lt (zB (fun hc=>Rn.chk (by simp[room];omega) (Rn.lt (Rn.some ⟨?_,by simp;omega,fun x hx=>?_,fun t=>?_⟩))) fun hc=>Rn.some ⟨r1,Nat.le_succ_of_le r2,fun x hx=>?_,fun t=>?_⟩))
    ·refine List.pairwise_append.2 ⟨r1,List.pairwise_singleton _ _,fun u hu w hw=>?_⟩;simp at hw;subst hw;obtain⟨y,hy,e⟩:=r3 u hu;have:=hbef y hy;simp only;omega
    ·rw[htk];rcases List.mem_append.1 hx with hx|hx
     ·obtain⟨y,hy,e⟩:=r3 x hx;exact⟨y,by simp[hy],e⟩
     ·simp at hx;subst hx;exact⟨c,by simp,rfl⟩
    ·have hn:c.node=nd:=of_decide_eq_true hc;rw[htk];constructor
     ·rintro⟨x,hx,h⟩;rcases List.mem_append.1 hx with hx|hx
      ·obtain⟨y,hy,h2⟩:=(r4 t).1 ⟨x,hx,h⟩;exact⟨y,by simp[hy],h2⟩
      ·simp at hx;subst hx;exact⟨c,by simp,h,hn⟩
     ·rintro⟨y,hy,h,h2⟩;rcases List.mem_append.1 hy with hy|hy
      ·obtain⟨x,hx,h3⟩:=(r4 t).2 ⟨y,hy,h,h2⟩;exact⟨x,by simp[hx],h3⟩
      ·simp at hy;subst hy;exact⟨⟨y.frm,y.to⟩,by simp,h⟩
    ·obtain⟨y,hy,e⟩:=r3 x hx;exact⟨y,by rw[htk];simp[hy],e⟩
    ·have hn:c.node≠nd:=of_decide_eq_false hc;rw[r4 t,htk];constructor
     ·rintro⟨y,hy,h⟩;exact⟨y,by simp[hy],h⟩
     ·rintro⟨y,hy,h,h2⟩;rcases List.mem_append.1 hy with hy|hy
      ·exact⟨y,hy,h,h2⟩
      ·simp at hy;subst hy;exact absurd h2 hn
   ·rw[Ao (by first|omega|(simp only;omega)) (by first|omega|(simp only;omega))];rfl
  ·have hjl:j=l.length:=by
    have:=of_decide_eq_false (p:=((j:Int)<(l.length:Int))) hd;omega
   subst hjl;rw[List.take_length] at r4;exact Rn.some ⟨r1,r2,r4⟩
 ·obtain⟨r1,r2,r3⟩:=hr;refine Rn.chk (by simp[room];omega) ?_;rw[normT];refine Rn.bn (Dp ⟨by omega,.inr r1.drop⟩) fun v hv=>Rn.some ⟨?_,by omega⟩;refine SaysS.of hv.1.1 fun t=>?_;rw[hv.1.iff];unfold inS ownP;rw[r3 t];constructor
  ·rintro⟨h1,c,hc,h2,h3⟩;rw[(hl.iff t _).2 ⟨c,hc,h2,rfl⟩,← h3];rfl
  ·intro h;cases hf:fC l t with
   |none=>rw[hf] at h;simp at h
   |some w =>
    rw[hf] at h;obtain⟨c,hc,h2,rfl⟩:=(hl.iff t w).1 hf;have:=(hl.tells t _ hf).1;exact⟨by omega,c,hc,h2,by simpa using h⟩
theorem SaysS.empty {l:List Span} {p:Int→Prop} [DecidablePred p] (h:SaysS l p) (hp:∀ t,¬ p t):l=[]:=by
 cases l with
 |nil=>rfl
 |cons x l=>exact absurd ((h.iff x.frm).1 ⟨x,by simp,Int.le_refl _,h.1.head⟩) (hp _)
end Go.Proofs.Ytenemndpignaoaa
namespace Go.Proofs.Ytenemndpignaoaa
open Go Go.RowKit
def keyI (x:Int):Int:=x
def ksI (d:List Int) (i:Nat):Int:=keyI (d.getD i (0:Int))
theorem cmpEI (x y:Int):AQ big x y=some (decide (keyI x<keyI y)):=by
 unfold AQ;rw[noNaN];simp only[Ar,A6,AA];rfl
def swI (d:List Int) (i j:Nat):List Int:=(d.set i (d.getD j (0:Int))).set j (d.getD i (0:Int))
theorem Lc (d:List Int) (i j:Nat):(swI d i j).length=d.length:=by simp[swI]
theorem BU {d e:List Int} {i j:Nat} (h:d[i]?=e[j]?):ksI d i=ksI e j:=by
 unfold ksI;rw[List.getD_eq_getElem?_getD,List.getD_eq_getElem?_getD,h]
theorem Ev {d:List Int} {i j:Nat} (hi:i<d.length) (hj:j<d.length) (p:Nat):ksI (swI d i j) p=if p=j then ksI d i else if p=i then ksI d j else ksI d p:=by
 unfold ksI swI;rw[List.getD_eq_getElem?_getD,List.getElem?_set];by_cases e:j=p
 ·subst e;rw[if_pos rfl,if_pos (by simpa using hj),if_pos rfl];rfl
 ·rw[if_neg e,if_neg fun h=>e h.symm,List.getElem?_set];by_cases e2:i=p
  ·subst e2;rw[if_pos rfl,if_pos hi,if_pos rfl];rfl
  ·rw[if_neg e2,if_neg fun h=>e2 h.symm,← List.getD_eq_getElem?_getD]
theorem RP.swI {d:List Int} {a b i j:Nat} (hi:i<d.length) (hj:j<d.length) (h1:a≤i∧i<b) (h2:a≤j∧j<b):RP a b d (Go.Proofs.Ytenemndpignaoaa.swI d i j):=by
 have e1:d.getD i (0:Int)=d[i]:=by rw[List.getD_eq_getElem?_getD,List.getElem?_eq_getElem hi];rfl
 have e2:d.getD j (0:Int)=d[j]:=by rw[List.getD_eq_getElem?_getD,List.getElem?_eq_getElem hj];rfl
 unfold Go.Proofs.Ytenemndpignaoaa.swI;rw[e1,e2];refine⟨List.set_set_perm hi hj,fun p hp=>?_⟩;rw[List.getElem?_set_ne (by omega),List.getElem?_set_ne (by omega)]
theorem swapI {d:List Int} {i j:Nat} {x y:Int} (hx:x=(i:Int)) (hy:y=(j:Int)) (hi:i<d.length) (hj:j<d.length) {β:Type} {k:List Int→Option β} {Q:β→Prop} (h:Rn (k (swI d i j)) Q) :
  Rn (bn (nth d y) fun u=>bn (nth d x) fun v=>lt (d.set x.toNat u) fun w=>bn (nth w y) fun _=>lt (w.set y.toNat v) k) Q:=by
 subst hx hy;refine zC (nthD hj (0:Int)) (zC (nthD hi (0:Int)) (Rn.lt ?_));rw[Int.toNat_natCast,Int.toNat_natCast];exact zC (nthD (by simpa using hj) (0:Int)) (Rn.lt h)
def SortedI (d:List Int) (a b:Nat):Prop:=∀ p q,a≤p→p<q→q<b→ksI d p≤ksI d q
structure InsI (l d:List Int) (a i j:Nat):Prop where
 rp:RP a (i+1) l d
 aj:a≤j
 ji:j≤i
 srt:∀ p q,a≤p→p<q→q≤i→p≠j→q≠j→ksI d p≤ksI d q
 low:∀ q,j<q→q≤i→ksI d j≤ksI d q
theorem InsI.step {l d:List Int} {a i j:Nat} (h:InsI l d a i (j+1)) (hi:i<l.length) (haj:a≤j) (hlt:ksI d (j+1)<ksI d j):InsI l (swI d (j+1) j) a i j:=by
 have hji:=h.ji;have hl:=h.rp.len;have hk:=Ev (d:=d) (i:=j+1) (j:=j) (by omega) (by omega);refine⟨h.rp.trans (RP.swI (by omega) (by omega) (by omega) (by omega)),haj,by omega,fun p q g1 g2 g3 g4 g5=>?_,fun q g1 g2=>?_⟩
 ·rw[hk,hk,if_neg g4,if_neg g5];rcases Decidable.em (p=j+1) with e|e
  ·subst e;rw[if_pos rfl,if_neg (by omega)];exact h.srt j q haj (by omega) g3 (by omega) (by omega)
  ·rw[if_neg e];rcases Decidable.em (q=j+1) with e'|e'
   ·subst e';rw[if_pos rfl];exact h.srt p j g1 (by omega) (by omega) (by omega) (by omega)
   ·rw[if_neg e'];exact h.srt p q g1 g2 g3 e e'
 ·rw[hk,hk,if_pos rfl,if_neg (by omega)];rcases Decidable.em (q=j+1) with e|e
  ·rw[if_pos e];omega
  ·rw[if_neg e];exact h.low q (by omega) g2
theorem InsI.done {l d:List Int} {a i j:Nat} (h:InsI l d a i j) (hc:a<j→ksI d (j - 1)≤ksI d j):RP a (i+1) l d∧SortedI d a (i+1):=by
 refine⟨h.rp,fun p q h1 h2 h3=>?_⟩;rcases Decidable.em (p=j) with e|e
 ·subst e;exact h.low q h2 (by omega)
 ·rcases Decidable.em (q=j) with e'|e'
  ·subst e';have g3:=hc (by omega);rcases Decidable.em (p=q - 1) with e2|e2
   ·subst e2;exact g3
   ·have:=h.srt p (q - 1) h1 (by omega) (by have:=h.ji;omega) e (by omega);omega
  ·exact h.srt p q h1 h2 (by omega) e e'
theorem Ld {l:List Int} {a b:Nat} (hab:a≤b) (hb:b≤l.length) (hl:l.length≤1000000):Rn (Bg big l (a:Int) (b:Int)) fun r=>RP a b l r∧SortedI r a b:=by
 unfold Bg;refine Rn.lt ?_;have e0:addI .i64 (a:Int) 1=((a+1:Nat):Int):=by rw[Ao (by omega) (by omega)];omega
 rw[e0];refine Rn.bn (P:=fun r=>RP a b l r∧SortedI r a b) (zF _ (fun k y=>∃ d:List Int,y=(((a+1+k:Nat):Int),d)∧RP a b l d∧SortedI d a (a+1+k)) (b - a - 1) (by unfold big;omega) ⟨l,rfl,RP.refl _ _ _,fun p q h1 h2 h3=>by omega⟩ fun k y hk hI=>?_) fun r hr=>Rn.some hr;obtain⟨d,rfl,hp,hs⟩:=hI;have hdl:=hp.len;refine Rn.lt (zB (fun hd=>?_) fun hd=>?_)
 ·have hi:a+1+k<b:=by
   have:=of_decide_eq_true (p:=(((a+1+k:Nat):Int)<(b:Int))) hd;omega
  refine Rn.bn (P:=fun r=>RP a (a+1+k+1) d r∧SortedI r a (a+1+k+1)) ?_ fun r hr=>Rn.lt (Rn.some ⟨by omega,r,?_,hp.trans (hr.1.mono (Nat.le_refl _) (by omega)),fun p q h1 h2 h3=>hr.2 p q h1 h2 (by omega)⟩)
  ·have h0:InsI d d a (a+1+k) (a+1+k):=⟨RP.refl _ _ _,by omega,Nat.le_refl _,fun p q h1 h2 h3 h4 h5=>hs p q h1 h2 (by omega),fun q h1 h2=>by omega⟩;refine zF _ (fun t y=>∃ (j:Nat) (d':List Int),y=((j:Int),d')∧j+t=a+1+k∧InsI d d' a (a+1+k) j) (k+1) (by unfold big;omega) ⟨a+1+k,d,rfl,rfl,h0⟩ fun t y ht hI=>?_;obtain⟨j,d',rfl,hj,h⟩:=hI;have hdl':=h.rp.len;rcases Decidable.em (a<j) with haj|haj
   ·obtain⟨j,rfl⟩:∃ i,j=i+1:=⟨j - 1,by omega⟩;have hji:=h.ji;have h2:j+1<d'.length:=by omega
    have h1:j<d'.length:=by omega
    have es:subI .i64 ((j+1:Nat):Int) 1=(j:Int):=by rw[Aq (by omega) (by omega)];omega
    refine zC (v:=decide (ksI d' (j+1)<ksI d' j)) ?_ (Rn.lt (zB (fun hc=>?_) fun hc=>Rn.some (h.done fun _=>?_)))
    ·simp only[AA];rw[gt_t (show (a:Int)<((j+1:Nat):Int) by omega),AT,nthD h2 (0:Int)];simp only[Ar];rw[es,nthD h1 (0:Int)];simp only[Ar,cmpEI];rfl
    ·have hlt:=of_decide_eq_true hc;refine Rn.lt ?_;simp only;rw[es];exact swapI (x:=((j+1:Nat):Int)) rfl rfl h2 h1 (Rn.some ⟨by omega,j,_,rfl,by omega,h.step (by omega) (by omega) hlt⟩)
    ·have:=of_decide_eq_false hc;show ksI d' j≤ksI d' (j+1);omega
   ·refine zC (v:=false) ?_ (Rn.lt (zB (fun hc=>by simp at hc) fun _=>Rn.some (h.done fun hc=>absurd hc haj)));simp only[AA];rw[gt_f (by omega),A6]
  ·rw[Ao (by first|omega|(simp only;omega)) (by first|omega|(simp only;omega))];rfl
 ·have hi:b≤a+1+k:=by
   have:=of_decide_eq_false (p:=(((a+1+k:Nat):Int)<(b:Int))) hd;omega
  exact Rn.some ⟨hp,fun p q h1 h2 h3=>hs p q h1 h2 (by omega)⟩
theorem Fm {l:List Int} {i j:Nat} (hi:i<l.length) (hj:j<l.length) (s:Int):Rn (A8 big l (i:Int) (j:Int) s) fun r=>((r.1=(i:Int)∧r.2.1=(j:Int))∨(r.1=(j:Int)∧r.2.1=(i:Int)))∧r.2.2.1=l:=by
 unfold A8;refine zC (nthD hj (0:Int)) (zC (nthD hi (0:Int)) ?_);simp only[cmpEI,Ar,AA];exact zB (fun _=>Rn.some ⟨.inr ⟨rfl,rfl⟩,rfl⟩) fun _=>Rn.some ⟨.inl ⟨rfl,rfl⟩,rfl⟩
theorem Jj {l:List Int} {i j k:Nat} (hi:i<l.length) (hj:j<l.length) (hk:k<l.length) (s:Int):Rn (Bm big l (i:Int) (j:Int) (k:Int) s) fun r=>(∃ x:Nat,r.1=(x:Int)∧(x=i∨x=j∨x=k))∧r.2.1=l:=by
 unfold Bm;refine Rn.bn (Fm hi hj s) fun v hv=>?_;obtain⟨v1,v2,v3,v4⟩:=v;obtain⟨hv1,hv2⟩:=hv;simp only at hv1 hv2;subst v3;refine Rn.chk (by simp[lenB]) ?_;obtain⟨x,y,ex,ey,hxy⟩:∃ x y:Nat,v1=(x:Int)∧v2=(y:Int)∧((x=i∧y=j)∨(x=j∧y=i)):=by
  rcases hv1 with ⟨a,b⟩|⟨a,b⟩
  ·exact⟨i,j,a,b,.inl ⟨rfl,rfl⟩⟩
  ·exact⟨j,i,a,b,.inr ⟨rfl,rfl⟩⟩
 subst ex ey;have hx:x<l.length:=by omega
 have hy:y<l.length:=by omega
 refine Rn.bn (Fm hy hk v4) fun w hw=>?_;obtain⟨w1,w2,w3,w4⟩:=w;obtain⟨hw1,hw2⟩:=hw;simp only at hw1 hw2;subst w3;refine Rn.chk (by simp[lenB]) ?_;obtain⟨z,t,ez,et,hzt⟩:∃ z t:Nat,w1=(z:Int)∧w2=(t:Int)∧((z=y∧t=k)∨(z=k∧t=y)):=by
  rcases hw1 with ⟨a,b⟩|⟨a,b⟩
  ·exact⟨y,k,a,b,.inl ⟨rfl,rfl⟩⟩
  ·exact⟨k,y,a,b,.inr ⟨rfl,rfl⟩⟩
 subst ez et;have hz:z<l.length:=by omega
 refine Rn.bn (Fm hx hz w4) fun u hu=>?_;obtain⟨u1,u2,u3,u4⟩:=u;obtain⟨hu1,hu2⟩:=hu;simp only at hu1 hu2;subst u3;refine Rn.chk (by simp[lenB]) (Rn.some ⟨?_,rfl⟩);simp only;rcases hu1 with ⟨a,b⟩|⟨a,b⟩
 ·exact⟨z,b,by omega⟩
 ·exact⟨x,b,by omega⟩
theorem Jk {l:List Int} {a b:Nat} (hab:a+12<b) (hb:b≤l.length) (hl:l.length≤sortMost):Rn (Bk big l (a:Int) (b:Int)) fun r=>(∃ k:Nat,r.1=(k:Int)∧a≤k∧k<b)∧r.2.2=l:=by
 unfold sortMost at hl;unfold Bk;refine Rn.lt ?_;rw[Aq (by omega) (by omega)];refine zC (vquo (by omega) (by omega) (by omega)) (Rn.lt ?_);obtain⟨q,hq⟩:∃ q:Nat,((b:Int) - (a:Int)) / 4=(q:Int):=⟨((b:Int) - (a:Int)).toNat / 4,by omega⟩;rw[hq];refine Rn.lt (Rn.lt (Rn.lt (Rn.lt (Rn.lt ?_))));rw[Ck (by omega) (by omega),Ck (show -9223372036854775808≤(q:Int)*2 by omega) (by omega),Ck (show -9223372036854775808≤(q:Int)*3 by omega) (by omega),Ao (by omega) (by omega),Ao (show -9223372036854775808≤(a:Int)+(q:Int)*2 by omega) (by omega),Ao (show -9223372036854775808≤(a:Int)+(q:Int)*3 by omega) (by omega)];refine Rn.bn (P:=fun y=>(∃ k:Nat,y.1=(k:Int)∧a≤k∧k<b)∧y.2.1=l) ?_ fun y hy=>?_
 ·refine Rn.lt (zB (fun _=>?_) fun h=>?_)
  ·refine zC (v:=((a:Int)+(q:Int)*1,(a:Int)+(q:Int)*2,(a:Int)+(q:Int)*3,l,0)) ?_ ?_
   ·simp only[AA];rw[ge_f (by omega),A6]
   ·simp only;rw[show (a:Int)+(q:Int)*1=((a+q:Nat):Int) by omega,show (a:Int)+(q:Int)*2=((a+q*2:Nat):Int) by omega,show (a:Int)+(q:Int)*3=((a+q*3:Nat):Int) by omega];refine Rn.bn (Jj (by omega) (by omega) (by omega) 0) fun v hv=>Rn.chk (by rw[hv.2];simp[lenB]) (Rn.some ⟨?_,hv.2⟩);obtain⟨x,e,hx⟩:=hv.1;exact⟨x,e,by omega⟩
  ·have:=of_decide_eq_false (p:=(8:Int)≤(b:Int) - (a:Int)) h;omega
 ·obtain⟨⟨k,e,hk⟩,hy2⟩:=hy;obtain⟨y1,y2,y3⟩:=y;simp only at e hy2;subst y2;exact Rn.lt (zB (fun _=>Rn.some ⟨⟨k,e,hk⟩,rfl⟩) fun _=>Rn.lt (zB (fun _=>Rn.some ⟨⟨k,e,hk⟩,rfl⟩) fun _=>Rn.some ⟨⟨k,e,hk⟩,rfl⟩))
theorem IB {l:List Int} {a b:Nat} (hab:a<b) (hb:b≤l.length) (hl:l.length≤sortMost):Rn (Bj big l (a:Int) (b:Int)) fun r=>RP a b l r:=by
 unfold sortMost at hl;unfold Bj;refine Rn.lt ?_;rw[Aq (by omega) (by omega),show (b:Int) - 1=((b - 1:Nat):Int) by omega];refine Rn.bn (P:=fun r=>RP a b l r) (zF _ (fun t y=>∃ (i j:Nat) (d:List Int),y=((i:Int),(j:Int),d)∧i=a+t∧j<b∧i≤j+1∧RP a b l d) (b - a) (by unfold big;omega) ⟨a,b - 1,l,rfl,rfl,by omega,by omega,RP.refl _ _ _⟩ fun t y ht hI=>?_) fun r hr=>Rn.some hr;obtain⟨i,j,d,rfl,h1,h2,h3,h4⟩:=hI;have hd:=h4.len;refine Rn.lt (zB (fun hc=>?_) fun hc=>Rn.some h4);have hij:i<j:=by
  have:=of_decide_eq_true (p:=((i:Int)<(j:Int))) hc;omega
 refine swapI rfl rfl (show i<d.length by omega) (show j<d.length by omega) (Rn.lt (Rn.lt (Rn.some ⟨by omega,i+1,j - 1,swI d i j,?_,by omega,by omega,by omega,h4.trans (RP.swI (by omega) (by omega) (by omega) (by omega))⟩)));show (addI .i64 (i:Int) 1,subI .i64 (j:Int) 1,swI d i j)=_;rw[Ao (by omega) (by omega),Aq (by omega) (by omega),show ((j - 1:Nat):Int)=(j:Int) - 1 by omega];rfl
theorem IC {l:List Int} {a b:Nat} (hab:a<b) (hb:b≤l.length) (hl:l.length≤sortMost):Rn (AU big l (a:Int) (b:Int)) fun r=>r.2=l∧(r.1=true→SortedI l a b):=by
 unfold sortMost at hl;unfold AU;refine Rn.lt ?_;rw[Ao (by omega) (by omega),show (a:Int)+1=((a+1:Nat):Int) by omega];refine Rn.bn (P:=fun y=>y=.inr (false,l)∨(y=.inr (true,l)∧SortedI l a b)) (zF _ (fun t y=>t=0∧y=(((a+1:Nat):Int),0,l)) 0 (by unfold big;omega) ⟨rfl,rfl⟩ fun t y ht hI=>?_) fun y hy=>?_
 ·obtain⟨rfl,rfl⟩:=hI;refine Rn.lt (zB (fun _=>?_) fun h=>absurd (show ltI 0 5=false from h) (by decide));refine Rn.bn (P:=fun y=>y=.inr (false,l)∨(y=.inr (true,l)∧SortedI l a b)) ?_ fun y hy=>?_
  ·refine Rn.bn (scanUp (p:=fun i=>decide (¬ ksI l i<ksI l (i - 1))) (i0:=a+1) (hi:=b) (by omega) (fun i h1 h2=>?_) ?_ (by omega)) fun r hr=>?_
   ·simp only[AA];rw[lt_t (by omega),AT,nthD (show i<l.length by omega) (0:Int)];simp only[Ar];rw[Aq (by omega) (by omega),show (i:Int) - 1=((i - 1:Nat):Int) by omega,nthD (show i - 1<l.length by omega) (0:Int)];simp only[Ar,cmpEI,CK];rfl
   ·simp only[AA];rw[lt_f (by omega),A6]
   ·obtain⟨k,rfl,k1,k2,k3,k4⟩:=hr;refine Rn.lt (zB (fun h=>Rn.some (.inr ⟨rfl,?_⟩)) fun h=>Rn.lt (Rn.lt ?_))
    ·have hk:k=b:=by
      have:=of_decide_eq_true (p:=((k:Int)=(b:Int))) h;omega
     subst hk;have hadj:∀ i,a+1≤i→i<k→ksI l (i - 1)≤ksI l i:=fun i g1 g2=>by
      have:=of_decide_eq_true (k3 i g1 g2);omega
     intro p q h1 h2 h3;obtain⟨n,rfl⟩:∃ n,q=p+1+n:=⟨q - (p+1),by omega⟩;clear h2
     induction n with
     |zero=>exact hadj (p+1) (by omega) h3
     |succ n ih =>
      have g1:=ih (by omega);have g2:=hadj (p+1+n+1) (by omega) h3;rw[show p+1+n+1 - 1=p+1+n by omega] at g2;exact Int.le_trans g1 g2
    ·rw[Aq (by omega) (by omega),lt_t (by omega)];exact zB (fun _=>Rn.some (.inl rfl)) fun h=>by simp at h
  ·rcases hy with rfl|⟨rfl,hs⟩
   ·rw[B4];exact Rn.some (.inl rfl)
   ·rw[B4];exact Rn.some (.inr ⟨rfl,hs⟩)
 ·rcases hy with rfl|⟨rfl,hs⟩
  ·rw[B4];exact Rn.some ⟨rfl,fun h=>by simp at h⟩
  ·rw[B4];exact Rn.some ⟨rfl,fun _=>hs⟩
structure PEI (l d:List Int) (a b:Nat) (K:Int) (i j:Nat):Prop where
 rp:RP a b l d
 pv:ksI d a=K
 lo:∀ p,a<p→p<i→ksI d p≤K
 hi:∀ p,j<p→p<b→K<ksI d p
 ai:a+1≤i
 ij:i≤j+1
 jb:j<b
theorem Jl {l:List Int} {a b k:Nat} (hk1:a≤k) (hk2:k<b) (hb:b≤l.length) (hl:l.length≤sortMost):Rn (Bd big l (a:Int) (b:Int) (k:Int)) fun r=>∃ m:Nat,r.1=(m:Int)∧a<m∧m≤b∧RP a b l r.2∧(∀ p,a≤p→p<m→ksI r.2 p≤ksI l k)∧(∀ p,m≤p→p<b→ksI l k<ksI r.2 p):=by
 unfold sortMost at hl;unfold Bd;refine swapI rfl rfl (show a<l.length by omega) (show k<l.length by omega) (Rn.lt (Rn.lt ?_));have hs:=RP.swI (d:=l) (a:=a) (b:=b) (i:=a) (j:=k) (by omega) (by omega) (by omega) (by omega);have hpv:ksI (swI l a k) a=ksI l k:=by
  rw[Ev (by omega) (by omega)];split
  ·rename_i h
   rw[← h]
  ·rw[if_pos rfl]
 generalize swI l a k=d0 at hs hpv;rw[Ao (by omega) (by omega),Aq (by omega) (by omega),show (a:Int)+1=((a+1:Nat):Int) by omega,show (b:Int) - 1=((b - 1:Nat):Int) by omega];refine Rn.bn (P:=fun y=>∃ m:Nat,y.1=(m:Int)∧a<m∧m≤b∧RP a b l y.2∧(∀ p,a≤p→p<m→ksI y.2 p≤ksI l k)∧(∀ p,m≤p→p<b→ksI l k<ksI y.2 p)) (zF _ (fun t y=>∃ (i j:Nat) (d:List Int),y=((i:Int),(j:Int),d)∧a+1+t≤i∧PEI l d a b (ksI l k) i j) (b - a) (by unfold big;omega) ⟨a+1,b - 1,d0,rfl,by omega,⟨hs,hpv,fun p h1 h2=>by omega,fun p h1 h2=>by omega,by omega,by omega,by omega⟩⟩ fun t y ht hI=>?_) fun y hy=>Rn.some hy;obtain⟨i,j,d,rfl,h1,h⟩:=hI;have hd:=h.rp.len;have hai:=h.ai;have hij:=h.ij;have hjb:=h.jb;generalize ksI l k=K at h;refine Rn.bn (scanUp (p:=fun p=>decide (¬ K<ksI d p)) (i0:=i) (hi:=j+1) (by omega) (fun p g1 g2=>?_) ?_ (by omega)) fun r hr=>?_
 ·simp only[AA];rw[le_t (by omega),AT,nthD (show a<d.length by omega) (0:Int)];simp only[Ar];rw[nthD (show p<d.length by omega) (0:Int)];simp only[Ar,cmpEI,CK];rw[← h.pv];rfl
 ·simp only[AA];rw[le_f (by omega),A6]
 obtain⟨i',rfl,i1,i2,i3,i4⟩:=hr;refine Rn.bn (scanDown (p:=fun p=>decide (K<ksI d p)) (j0:=j) (lo:=i' - 1) (by omega) (fun p g1 g2=>?_) ?_ (by omega)) fun r hr=>?_
 ·simp only[AA];rw[le_t (by omega),AT,nthD (show a<d.length by omega) (0:Int)];simp only[Ar];rw[nthD (show p<d.length by omega) (0:Int)];simp only[Ar,cmpEI];rw[← h.pv];rfl
 ·simp only[AA];rw[le_f (by omega),A6]
 obtain⟨j',rfl,j1,j2,j3,j4⟩:=hr;have hlo:∀ p,a<p→p<i'→ksI d p≤K:=fun p g1 g2=>by
  rcases Nat.lt_or_ge p i with g3|g3
  ·exact h.lo p g1 g3
  ·have:=of_decide_eq_true (i3 p g3 g2);omega
 have hhi:∀ p,j'<p→p<b→K<ksI d p:=fun p g1 g2=>by
  rcases Nat.lt_or_ge j p with g3|g3
  ·exact h.hi p g3 g2
  ·exact of_decide_eq_true (j3 p g1 g3)
 refine Rn.lt (zB (fun hc=>Rn.some ⟨i',rfl,by omega,by omega,h.rp,fun p g1 g2=>?_,fun p g1 g2=>hhi p ?_ g2⟩) fun hc=>?_)
 ·rcases Nat.eq_or_lt_of_le g1 with g3|g3
  ·subst g3;show ksI d a≤K;rw[h.pv];exact Int.le_refl _
  ·exact hlo p g3 g2
 ·have:=of_decide_eq_true (p:=((j':Int)<(i':Int))) hc;omega
 ·have hle:i'≤j':=by
   have:=of_decide_eq_false (p:=((j':Int)<(i':Int))) hc;omega
  have e1:=of_decide_eq_false (i4 (by omega));have e2:=of_decide_eq_false (j4 (by omega));have hne:i'≠j':=fun e=>by subst e;omega
  refine swapI rfl rfl (show i'<d.length by omega) (show j'<d.length by omega) (Rn.lt (Rn.lt (Rn.some ⟨by omega,i'+1,j' - 1,swI d i' j',?_,by omega,?_⟩)))
  ·rw[Ao (by omega) (by omega),Aq (by omega) (by omega),show ((j' - 1:Nat):Int)=(j':Int) - 1 by omega];rfl
  ·have hk:=Ev (d:=d) (i:=i') (j:=j') (by omega) (by omega);refine⟨h.rp.trans (RP.swI (by omega) (by omega) (by omega) (by omega)),?_,fun p g1 g2=>?_,fun p g1 g2=>?_,by omega,by omega,by omega⟩
   ·rw[hk,if_neg (by omega),if_neg (by omega)];exact h.pv
   ·rw[hk,if_neg (by omega)];split
    ·omega
    ·exact hlo p g1 (by omega)
   ·rw[hk];split
    ·omega
    ·rw[if_neg (by omega)];exact hhi p (by omega) g2
structure PTI (l d:List Int) (a b:Nat) (K:Int) (i j:Nat):Prop where
 rp:RP a b l d
 pv:ksI d a=K
 lo:∀ p,a<p→p<i→ksI d p<K
 hi:∀ p,j<p→p<b→K≤ksI d p
 ai:a+1≤i
 ij:i≤j+1
 jb:j<b
structure PSI (d:List Int) (a b:Nat) (K:Int) (i' j':Nat):Prop where
 lo:∀ p,a<p→p<i'→ksI d p<K
 hi:∀ p,j'<p→p<b→K≤ksI d p
 ge:i'≤j'+1
 both:i'≤j'→K≤ksI d i'∧ksI d j'<K
theorem PTI.scan {l d:List Int} {a b i j i' j':Nat} {K:Int} (h:PTI l d a b K i j) (i1:i≤i') (i3:∀ p,i≤p→p<i'→decide (ksI d p<K)=true) (i4:i'<j+1→decide (ksI d i'<K)=false)
  (j1:i' - 1≤j') (j2:j'≤j) (j3:∀ p,j'<p→p≤j→decide (¬ ksI d p<K)=true) (j4:i' - 1<j'→decide (¬ ksI d j'<K)=false):PSI d a b K i' j':=by
 have hai:=h.ai;refine⟨fun p g1 g2=>?_,fun p g1 g2=>?_,by omega,fun hle=>⟨?_,?_⟩⟩
 ·rcases Nat.lt_or_ge p i with g3|g3
  ·exact h.lo p g1 g3
  ·exact of_decide_eq_true (i3 p g3 g2)
 ·rcases Nat.lt_or_ge j p with g3|g3
  ·exact h.hi p g3 g2
  ·have:=of_decide_eq_true (j3 p g1 g3);omega
 ·have:=of_decide_eq_false (i4 (by omega));omega
 ·have:=of_decide_eq_false (j4 (by omega));omega
theorem PSI.last {l d:List Int} {a b i' j':Nat} {K:Int} (hr:RP a b l d) (pv:ksI d a=K) (h:PSI d a b K i' j') (hb:b≤l.length) (h1:a≤j') (h2:j'<b) (h3:j'<i') :
  RP a b l (swI d j' a)∧ksI (swI d j' a) j'=K∧(∀ p,a≤p→p<j'→ksI (swI d j' a) p<K)∧∀ p,j'<p→p<b→K≤ksI (swI d j' a) p:=by
 have hd:=hr.len;have hge:=h.ge;have hk:=Ev (d:=d) (i:=j') (j:=a) (by omega) (by omega);refine⟨hr.trans (RP.swI (by omega) (by omega) (by omega) (by omega)),?_,fun p g1 g2=>?_,fun p g1 g2=>?_⟩
 ·rw[hk];split
  ·rename_i e
   rw[e];exact pv
  ·rw[if_pos rfl];exact pv
 ·rw[hk];split
  ·exact h.lo j' (by omega) (by omega)
  ·rw[if_neg (by omega)];exact h.lo p (by omega) (by omega)
 ·rw[hk,if_neg (by omega),if_neg (by omega)];exact h.hi p g1 g2
theorem PSI.more {l d:List Int} {a b i' j':Nat} {K:Int} (hr:RP a b l d) (pv:ksI d a=K) (h:PSI d a b K i' j') (hb:b≤l.length) (h1:a+1≤i') (h2:j'<b) (h3:i'≤j') :
  i'≠j'∧PTI l (swI d i' j') a b K (i'+1) (j' - 1):=by
 have hd:=hr.len;obtain⟨e1,e2⟩:=h.both h3;have hne:i'≠j':=fun e=>by subst e;omega
 have hk:=Ev (d:=d) (i:=i') (j:=j') (by omega) (by omega);refine⟨hne,hr.trans (RP.swI (by omega) (by omega) (by omega) (by omega)),?_,fun p g1 g2=>?_,fun p g1 g2=>?_,by omega,by omega,by omega⟩
 ·rw[hk,if_neg (by omega),if_neg (by omega)];exact pv
 ·rw[hk,if_neg (by omega)];split
  ·exact e2
  ·exact h.lo p g1 (by omega)
 ·rw[hk];split
  ·exact e1
  ·rw[if_neg (by omega)];exact h.hi p (by omega) g2
theorem Ko {l:List Int} {a b k:Nat} (hk1:a≤k) (hk2:k<b) (hb:b≤l.length) (hl:l.length≤sortMost):Rn (Bp big l (a:Int) (b:Int) (k:Int)) fun r=>∃ m:Nat,r.1=(m:Int)∧a≤m∧m<b∧RP a b l r.2.2∧ksI r.2.2 m=ksI l k∧(∀ p,a≤p→p<m→ksI r.2.2 p<ksI l k)∧(∀ p,m<p→p<b→ksI l k≤ksI r.2.2 p):=by
 unfold sortMost at hl;unfold Bp;refine swapI rfl rfl (show a<l.length by omega) (show k<l.length by omega) (Rn.lt (Rn.lt ?_));have hs:=RP.swI (d:=l) (a:=a) (b:=b) (i:=a) (j:=k) (by omega) (by omega) (by omega) (by omega);have hpv:ksI (swI l a k) a=ksI l k:=by
  rw[Ev (by omega) (by omega)];split
  ·rename_i h
   rw[← h]
  ·rw[if_pos rfl]
 generalize swI l a k=d at hs hpv;generalize ksI l k=K at hpv;rw[Ao (by omega) (by omega),Aq (by omega) (by omega),show (a:Int)+1=((a+1:Nat):Int) by omega,show (b:Int) - 1=((b - 1:Nat):Int) by omega];have h0:PTI l d a b K (a+1) (b - 1):=⟨hs,hpv,fun p h1 h2=>by omega,fun p h1 h2=>by omega,by omega,by omega,by omega⟩;have hd:=hs.len;refine Rn.bn (scanUp (p:=fun p=>decide (ksI d p<K)) (i0:=a+1) (hi:=b - 1+1) (by omega) (fun p g1 g2=>?_) ?_ (by omega)) fun r hr=>?_
 ·simp only[AA];rw[le_t (by omega),AT,nthD (show p<d.length by omega) (0:Int)];simp only[Ar];rw[nthD (show a<d.length by omega) (0:Int)];simp only[Ar,cmpEI];rw[← hpv];rfl
 ·simp only[AA];rw[le_f (by omega),A6]
 obtain⟨i',rfl,i1,i2,i3,i4⟩:=hr;refine Rn.bn (scanDown (p:=fun p=>decide (¬ ksI d p<K)) (j0:=b - 1) (lo:=i' - 1) (by omega) (fun p g1 g2=>?_) ?_ (by omega)) fun r hr=>?_
 ·simp only[AA];rw[le_t (by omega),AT,nthD (show p<d.length by omega) (0:Int)];simp only[Ar];rw[nthD (show a<d.length by omega) (0:Int)];simp only[Ar,cmpEI,CK];rw[← hpv];rfl
 ·simp only[AA];rw[le_f (by omega),A6]
 obtain⟨j',rfl,j1,j2,j3,j4⟩:=hr;have ps:=h0.scan i1 i3 i4 j1 j2 j3 j4;refine Rn.lt (zB (fun hc=>?_) fun hc=>?_)
 ·have hji:j'<i':=by
   have:=of_decide_eq_true (p:=((j':Int)<(i':Int))) hc;omega
  obtain⟨q1,q2,q3,q4⟩:=ps.last hs hpv hb (by omega) (by omega) hji;exact swapI rfl rfl (show j'<d.length by omega) (show a<d.length by omega) (Rn.some ⟨j',rfl,by omega,by omega,q1,q2,q3,q4⟩)
 have hij:i'≤j':=by
  have:=of_decide_eq_false (p:=((j':Int)<(i':Int))) hc;omega
 obtain⟨hne,h1⟩:=ps.more hs hpv hb (by omega) (by omega) hij;refine swapI rfl rfl (show i'<d.length by omega) (show j'<d.length by omega) (Rn.lt (Rn.lt ?_));rw[Ao (by omega) (by omega),Aq (by omega) (by omega),show (i':Int)+1=((i'+1:Nat):Int) by omega,show (j':Int) - 1=((j' - 1:Nat):Int) by omega];generalize swI d i' j'=d1 at h1;refine Rn.bn (P:=fun y=>∃ (m i:Nat) (d:List Int),y=((m:Int),d)∧RP a b l d∧ksI d a=K∧PSI d a b K i m∧a≤m∧m<b∧m<i) (zF _ (fun t y=>∃ (i j:Nat) (d:List Int),y=((i:Int),(j:Int),d)∧a+1+t≤i∧PTI l d a b K i j) (b - a) (by unfold big;omega) ⟨i'+1,j' - 1,d1,rfl,by omega,h1⟩ fun t y ht hI=>?_) fun y hy=>?_
 ·clear i3 i4 j3 j4 ps h0 hpv hs
  obtain⟨i,j,d,rfl,ht1,h⟩:=hI;have hd:=h.rp.len;have hai:=h.ai;have hij:=h.ij;have hjb:=h.jb;refine Rn.bn (scanUp (p:=fun p=>decide (ksI d p<K)) (i0:=i) (hi:=j+1) (by omega) (fun p g1 g2=>?_) ?_ (by omega)) fun r hr=>?_
  ·simp only[AA];rw[le_t (by omega),AT,nthD (show p<d.length by omega) (0:Int)];simp only[Ar];rw[nthD (show a<d.length by omega) (0:Int)];simp only[Ar,cmpEI];rw[← h.pv];rfl
  ·simp only[AA];rw[le_f (by omega),A6]
  obtain⟨i',rfl,i1,i2,i3,i4⟩:=hr;refine Rn.bn (scanDown (p:=fun p=>decide (¬ ksI d p<K)) (j0:=j) (lo:=i' - 1) (by omega) (fun p g1 g2=>?_) ?_ (by omega)) fun r hr=>?_
  ·simp only[AA];rw[le_t (by omega),AT,nthD (show p<d.length by omega) (0:Int)];simp only[Ar];rw[nthD (show a<d.length by omega) (0:Int)];simp only[Ar,cmpEI,CK];rw[← h.pv];rfl
  ·simp only[AA];rw[le_f (by omega),A6]
  obtain⟨j',rfl,j1,j2,j3,j4⟩:=hr;have ps:=h.scan i1 i3 i4 j1 j2 j3 j4;refine Rn.lt (zB (fun hc=>Rn.some ⟨j',i',d,rfl,h.rp,h.pv,ps,by omega,by omega,?_⟩) fun hc=>?_)
  ·have:=of_decide_eq_true (p:=((j':Int)<(i':Int))) hc;omega
  ·have hij:i'≤j':=by
    have:=of_decide_eq_false (p:=((j':Int)<(i':Int))) hc;omega
   obtain⟨hne,h1⟩:=ps.more h.rp h.pv hb (by omega) (by omega) hij;refine swapI rfl rfl (show i'<d.length by omega) (show j'<d.length by omega) (Rn.lt (Rn.lt (Rn.some ⟨by omega,i'+1,j' - 1,swI d i' j',?_,by omega,h1⟩)));rw[Ao (by omega) (by omega),Aq (by omega) (by omega),show ((j' - 1:Nat):Int)=(j':Int) - 1 by omega];rfl
 ·obtain⟨m,i,e,rfl,y1,y2,y3,y4,y5,y6⟩:=hy;have he:=y1.len;obtain⟨q1,q2,q3,q4⟩:=y3.last y1 y2 hb y4 y5 y6;exact swapI rfl rfl (show m<e.length by omega) (show a<e.length by omega) (Rn.some ⟨m,rfl,y4,y5,q1,q2,q3,q4⟩)
def HeapI (d:List Int) (f lo hi:Nat):Prop:=∀ i c,lo≤i→(c=2*i+1∨c=2*i+2)→c<hi→ksI d (f+c)≤ksI d (f+i)
theorem HeapI.max {d:List Int} {f hi:Nat} (h:HeapI d f 0 hi):∀ i,i<hi→ksI d (f+i)≤ksI d f:=by
 intro i;induction i using Nat.strongRecOn with
 |ind i ih =>
  intro hi';rcases Nat.eq_zero_or_pos i with rfl|hp
  ·exact Int.le_refl _
  ·have h1:=h ((i - 1) / 2) i (Nat.zero_le _) (by omega) hi';have h2:=ih ((i - 1) / 2) (by omega) (by omega);omega
structure SDI (l d:List Int) (f lo hi r:Nat):Prop where
 rp:RP f (f+hi) l d
 lr:lo≤r
 oth:∀ i c,lo≤i→i≠r→(c=2*i+1∨c=2*i+2)→c<hi→ksI d (f+c)≤ksI d (f+i)
 up:∀ p c,lo≤p→(r=2*p+1∨r=2*p+2)→(c=2*r+1∨c=2*r+2)→c<hi→ksI d (f+c)≤ksI d (f+p)
theorem SDI.stop {l d:List Int} {f lo hi r:Nat} (h:SDI l d f lo hi r) (hc:∀ c,(c=2*r+1∨c=2*r+2)→c<hi→ksI d (f+c)≤ksI d (f+r)):RP f (f+hi) l d∧HeapI d f lo hi:=by
 refine⟨h.rp,fun i c h1 h2 h3=>?_⟩;rcases Decidable.em (i=r) with e|e
 ·subst e;exact hc c h2 h3
 ·exact h.oth i c h1 e h2 h3
theorem SDI.step {l d:List Int} {f lo hi r c0:Nat} (h:SDI l d f lo hi r) (hb:f+hi≤l.length) (h1:c0=2*r+1∨c0=2*r+2) (h2:c0<hi) (h3:ksI d (f+r)<ksI d (f+c0))
  (h4:∀ c,(c=2*r+1∨c=2*r+2)→c<hi→ksI d (f+c)≤ksI d (f+c0)):SDI l (swI d (f+r) (f+c0)) f lo hi c0:=by
 have hd:=h.rp.len;have hlr:=h.lr;have hk:=Ev (d:=d) (i:=f+r) (j:=f+c0) (by omega) (by omega);refine⟨h.rp.trans (RP.swI (by omega) (by omega) (by omega) (by omega)),by omega,fun i c g1 g2 g3 g4=>?_,fun p c g1 g2 g3 g4=>?_⟩
 ·rw[hk,hk,if_neg (show ¬ f+i=f+c0 by omega)];rcases Decidable.em (i=r) with e|e
  ·subst e;rw[if_pos (show f+i=f+i from rfl)];rcases Decidable.em (c=c0) with e2|e2
   ·rw[if_pos (by omega)];omega
   ·rw[if_neg (by omega),if_neg (by omega)];exact h4 c g3 g4
  ·rw[if_neg (show ¬ f+i=f+r by omega),if_neg (show ¬ f+c=f+c0 by omega)];rcases Decidable.em (c=r) with e2|e2
   ·subst e2;rw[if_pos rfl];exact h.up i c0 g1 g3 h1 h2
   ·rw[if_neg (by omega)];exact h.oth i c g1 e g3 g4
 ·have hp:p=r:=by omega
  subst hp;rw[hk,hk,if_neg (by omega),if_neg (by omega),if_neg (by omega),if_pos rfl];exact h.oth c0 c (by omega) (by omega) g3 g4
theorem Ii {l:List Int} {f lo hi:Nat} (hb:f+hi≤l.length) (hl:l.length≤sortMost) (hh:HeapI l f (lo+1) hi) (hlo:lo≤100):Rn (Bi big l (lo:Int) (hi:Int) (f:Int)) fun r=>RP f (f+hi) l r∧HeapI r f lo hi:=by
 unfold sortMost at hl;unfold Bi;refine Rn.bn (P:=fun y=>∃ d,(y=.inl d∨y=.inr d)∧RP f (f+hi) l d∧HeapI d f lo hi) (zF _ (fun t y=>∃ (r:Nat) (d:List Int),y=((r:Int),d)∧t≤r∧(t≤hi)∧(r<hi∨r=lo)∧SDI l d f lo hi r) hi (by unfold big;omega) ⟨lo,l,rfl,Nat.zero_le _,Nat.zero_le _,.inr rfl,RP.refl _ _ _,Nat.le_refl _,fun i c h1 h2 h3 h4=>hh i c (by omega) h3 h4,fun p c h1 h2 h3 h4=>by omega⟩ fun t y ht hI=>?_) fun y hy=>?_
 ·obtain⟨r,d,rfl,t1,t2,hr,h⟩:=hI;have hd:=h.rp.len;refine Rn.lt (Rn.lt (Rn.lt ?_));have hr2:r≤200:=by omega
  have em:mulI .i64 2 (r:Int)=((2*r:Nat):Int):=by rw[Ck (by omega) (by omega)];omega
  have e1:addI .i64 ((2*r:Nat):Int) 1=((2*r+1:Nat):Int):=by rw[Ao (by omega) (by omega)];omega
  simp only;rw[em,e1];refine zB (fun hc=>Rn.some ⟨d,.inl rfl,h.stop fun c g1 g2=>?_⟩) fun hc=>?_
  ·have:=of_decide_eq_true (p:=((hi:Int)≤((2*r+1:Nat):Int))) hc;omega
  ·have hc1:2*r+1<hi:=by
    have:=of_decide_eq_false (p:=((hi:Int)≤((2*r+1:Nat):Int))) hc;omega
   refine Rn.bn (P:=fun y=>∃ c0:Nat,y=(c0:Int)∧(c0=2*r+1∨c0=2*r+2)∧c0<hi∧∀ c,(c=2*r+1∨c=2*r+2)→c<hi→ksI d (f+c)≤ksI d (f+c0)) ?_ fun y hy=>?_
   ·have e2:addI .i64 ((2*r+1:Nat):Int) 1=((2*r+2:Nat):Int):=by rw[Ao (by omega) (by omega)];omega
    rcases Nat.lt_or_ge (2*r+2) hi with g|g
    ·refine zC (v:=decide (ksI d (f+(2*r+1))<ksI d (f+(2*r+2)))) ?_ (Rn.lt (zB (fun hq=>?_) fun hq=>?_))
     ·simp only[AA];have e3:addI .i64 (f:Int) ((2*r+1:Nat):Int)=((f+(2*r+1):Nat):Int):=by rw[Ao (by omega) (by omega)];omega
      have e4:addI .i64 ((f+(2*r+1):Nat):Int) 1=((f+(2*r+2):Nat):Int):=by rw[Ao (by omega) (by omega)];omega
      rw[e2,lt_t (by omega),AT,e3,e4,nthD (show f+(2*r+1)<d.length by omega) (0:Int)];simp only[Ar];rw[nthD (show f+(2*r+2)<d.length by omega) (0:Int)];simp only[Ar,cmpEI];rfl
     ·have hq':=of_decide_eq_true hq;rw[e2];refine Rn.lt (Rn.some ⟨2*r+2,rfl,.inr rfl,g,fun c g1 g2=>?_⟩);rcases g1 with rfl|rfl
      ·omega
      ·exact Int.le_refl _
     ·have hq':=of_decide_eq_false hq;refine Rn.some ⟨2*r+1,rfl,.inl rfl,hc1,fun c g1 g2=>?_⟩;rcases g1 with rfl|rfl
      ·exact Int.le_refl _
      ·omega
    ·refine zC (v:=false) ?_ (Rn.lt (zB (fun hq=>by simp at hq) fun _=>Rn.some ⟨2*r+1,rfl,.inl rfl,hc1,fun c g1 g2=>?_⟩))
     ·simp only[AA];rw[e2,lt_f (by omega),A6]
     ·rcases g1 with rfl|rfl
      ·exact Int.le_refl _
      ·omega
   ·obtain⟨c0,rfl,k1,k2,k3⟩:=hy;have e5:addI .i64 (f:Int) (r:Int)=((f+r:Nat):Int):=by rw[Ao (by omega) (by omega)];omega
    have e6:addI .i64 (f:Int) (c0:Int)=((f+c0:Nat):Int):=by rw[Ao (by omega) (by omega)];omega
    have hfr:f+r<d.length:=by omega
    have hfc:f+c0<d.length:=by omega
    refine Rn.lt ?_;rw[e5,e6];refine zC (nthD hfr (0:Int)) (Rn.lt (zC (nthD hfc (0:Int)) ?_));simp only[cmpEI,Ar,CK,AA];refine zB (fun hq=>Rn.some ⟨d,.inr rfl,h.stop fun c g1 g2=>?_⟩) fun hq=>?_
    ·have hq':¬ ksI d (f+r)<ksI d (f+c0):=of_decide_eq_true hq;have:=k3 c g1 g2;omega
    ·have hq':¬ ¬ ksI d (f+r)<ksI d (f+c0):=of_decide_eq_false hq;rw[Int.toNat_natCast,Int.toNat_natCast];refine zC (nthD (by simpa using hfc) (0:Int)) (Rn.some ⟨by omega,c0,_,rfl,by omega,by omega,.inl k2,h.step hb k1 k2 (by omega) k3⟩)
 ·obtain⟨d,h1,h2⟩:=hy;rcases h1 with rfl|rfl
  ·rw[Eo];exact Rn.some h2
  ·rw[B4];exact Rn.some h2
theorem Kp {l:List Int} {a b:Nat} (hab:a<b) (hb:b≤l.length) (hl:l.length≤sortMost):Rn (Bq big l (a:Int) (b:Int)) fun r=>RP a b l r∧SortedI r a b:=by
 have hl':=hl;unfold sortMost at hl;unfold Bq;obtain⟨hi,rfl⟩:∃ hi,b=a+hi:=⟨b - a,by omega⟩;have e0:subI .i64 ((a+hi:Nat):Int) (a:Int)=(hi:Int):=by rw[Aq (by omega) (by omega)];omega
 have e1:subI .i64 (hi:Int) 1=(hi:Int) - 1:=Aq (by omega) (by omega);rw[e0];refine Rn.lt (Rn.lt ?_);rw[e1];refine zC (vquo (by omega) (by omega) (by omega)) ?_;refine Rn.bn (P:=fun d=>RP a (a+hi) l d∧HeapI d a 0 hi) (zF _ (fun t y=>∃ (k:Nat) (d:List Int),y=((k:Int) - 1,d)∧k+t=(hi - 1) / 2+1∧RP a (a+hi) l d∧HeapI d a k hi) hi (by unfold big;omega) ⟨(hi - 1) / 2+1,l,?_,by omega,RP.refl _ _ _,fun i c h1 h2 h3=>by omega⟩ fun t y ht hI=>?_) fun d hd=>?_
 ·refine Prod.ext ?_ rfl;simp only;omega
 ·obtain⟨k,d,rfl,hk,hr,hh⟩:=hI;have hd:=hr.len;refine Rn.lt (zB (fun hc=>?_) fun hc=>Rn.some ⟨hr,?_⟩)
  ·have hk1:1≤k:=by
    have:=of_decide_eq_true (p:=((0:Int)≤(k:Int) - 1)) hc;omega
   obtain⟨k,rfl⟩:∃ j,k=j+1:=⟨k - 1,by omega⟩;have e2:((k+1:Nat):Int) - 1=(k:Int):=by omega
   simp only;rw[e2];refine Rn.bn (Ii (by omega) (by omega) hh (by omega)) fun r hr2=>Rn.chk (by have:=hr2.1.len;simp[lenB,this]) (Rn.lt (Rn.some ⟨by omega,k,r,?_,by omega,hr.trans hr2.1,hr2.2⟩));rw[Aq (by omega) (by omega)]
  ·have:k=0:=by
    have:=of_decide_eq_false (p:=((0:Int)≤(k:Int) - 1)) hc;omega
   subst this;exact hh
 ·obtain⟨h1,h2⟩:=hd;refine Rn.lt ?_;refine Rn.bn (P:=fun d=>RP a (a+hi) l d∧SortedI d a (a+hi)) (zF _ (fun t y=>∃ (k:Nat) (d:List Int),y=((k:Int) - 1,d)∧k+t=hi∧RP a (a+hi) l d∧HeapI d a 0 k∧∀ p q,a≤p→p<q→a+k≤q→q<a+hi→ksI d p≤ksI d q) hi (by unfold big;omega) ⟨hi,d,rfl,by omega,h1,h2,fun p q g1 g2 g3 g4=>by omega⟩ fun t y ht hI=>?_) fun r hr=>Rn.some hr;obtain⟨k,d,rfl,hk,hr,hh,htop⟩:=hI;have hd:=hr.len;refine Rn.lt (zB (fun hc=>?_) fun hc=>Rn.some ⟨hr,fun p q g1 g2 g3=>?_⟩)
  ·have hk1:1≤k:=by
    have:=of_decide_eq_true (p:=((0:Int)≤(k:Int) - 1)) hc;omega
   obtain⟨k,rfl⟩:∃ j,k=j+1:=⟨k - 1,by omega⟩;have e2:((k+1:Nat):Int) - 1=(k:Int):=by omega
   have e3:addI .i64 (a:Int) (k:Int)=((a+k:Nat):Int):=by rw[Ao (by omega) (by omega)];omega
   simp only;rw[e2,e3];refine Rn.lt (swapI rfl rfl (show a<d.length by omega) (show a+k<d.length by omega) ?_);have hks:=Ev (d:=d) (i:=a) (j:=a+k) (by omega) (by omega);have hsw:=RP.swI (d:=d) (a:=a) (b:=a+hi) (i:=a) (j:=a+k) (by omega) (by omega) (by omega) (by omega);have hh1:HeapI (swI d a (a+k)) a (0+1) k:=fun i c g1 g2 g3=>by
    rw[hks,hks,if_neg (by omega),if_neg (by omega),if_neg (by omega),if_neg (by omega)];exact hh i c (Nat.zero_le _) g2 (by omega)
   have hl1:(swI d a (a+k)).length=d.length:=Lc _ _ _;have hmax:=hh.max;generalize swI d a (a+k)=d1 at hks hsw hh1 hl1;refine Rn.bn (Ii (lo:=0) (by omega) (by omega) hh1 (by omega)) fun r hr2=>Rn.chk (by have:=hr2.1.len;simp[lenB,this]) (Rn.lt (Rn.some ⟨by omega,k,r,?_,by omega,(hr.trans hsw).trans (hr2.1.mono (Nat.le_refl _) (by omega)),hr2.2,fun p q g1 g2 g3 g4=>?_⟩))
   ·rw[Aq (by omega) (by omega)]
   ·have hq:ksI r q=ksI d1 q:=BU (hr2.1.off q (.inr (by omega)))
    -- what stands at p is one of d's,not behind a+k,or p stays
    have hp:(∃ p',a≤p'∧p'<a+k∧ksI r p=ksI d1 p')∨(a+k≤p∧ksI r p=ksI d1 p):=by
     rcases Nat.lt_or_ge p (a+k) with h|h
     ·obtain⟨p',x1,x2,x3⟩:=hr2.1.seg (by omega) (by omega) g1 h;exact .inl ⟨p',x1,x2,BU x3⟩
     ·exact .inr ⟨h,BU (hr2.1.off p (.inr h))⟩
    rw[hq,hks,if_neg (show ¬ q=a by omega) |> fun e=>e];rcases Nat.eq_or_lt_of_le g3 with g5|g5
    ·subst g5;rw[if_pos rfl];rcases hp with ⟨p',x1,x2,x3⟩|⟨x1,x3⟩
     ·rw[x3,hks,if_neg (by omega)];split
      ·exact hmax k (by omega)
      ·obtain⟨j,rfl⟩:∃ j,p'=a+j:=⟨p' - a,by omega⟩;exact hmax j (by omega)
     ·omega
    ·rw[if_neg (by omega)];rcases hp with ⟨p',x1,x2,x3⟩|⟨x1,x3⟩
     ·rw[x3,hks,if_neg (by omega)];split
      ·exact htop (a+k) q (by omega) (by omega) (by omega) g4
      ·exact htop p' q x1 (by omega) (by omega) g4
     ·rw[x3,hks];split
      ·exact htop a q (by omega) (by omega) (by omega) g4
      ·rw[if_neg (by omega)];exact htop p q g1 g2 (by omega) g4
  ·have:k=0:=by
    have:=of_decide_eq_false (p:=((0:Int)≤(k:Int) - 1)) hc;omega
   subst this;exact htop p q g1 g2 (by omega) g3
theorem JS {l:List Int} {a b:Nat} (hab:a+12<b) (hb:b≤l.length) (hl:l.length≤sortMost):Rn (Bh big l (a:Int) (b:Int)) fun r=>RP a b l r:=by
 unfold sortMost at hl;unfold Bh;obtain⟨n,rfl⟩:∃ n,b=a+n:=⟨b - a,by omega⟩;have e0:subI .i64 ((a+n:Nat):Int) (a:Int)=(n:Int):=by rw[Aq (by omega) (by omega)];omega
 rw[e0];refine Rn.lt (Rn.lt (zB (fun _=>?_) fun h=>?_))
 ·obtain⟨p,ep,p1,p2⟩:=JN (n:=n) (by omega) (by omega);obtain⟨q,hq⟩:∃ q:Nat,(n:Int) / 4=(q:Int):=⟨n / 4,by omega⟩;have e1:mulI .i64 (q:Int) 2=((q*2:Nat):Int):=by rw[Ck (by omega) (by omega)];omega
  have e2:addI .i64 (a:Int) ((q*2:Nat):Int)=((a+q*2:Nat):Int):=by rw[Ao (by omega) (by omega)];omega
  have e3:subI .i64 ((a+q*2:Nat):Int) 1=((a+q*2 - 1:Nat):Int):=by rw[Aq (by omega) (by omega)];omega
  have e4:addI .i64 ((a+q*2:Nat):Int) 1=((a+q*2+1:Nat):Int):=by rw[Ao (by omega) (by omega)];omega
  have eq4:quoI .i64 (n:Int) 4=some (q:Int):=by rw[vquo (by omega) (by omega) (by omega),hq]
  refine Rn.lt (zC ep ?_);rw[eq4];refine zC rfl (Rn.lt (Rn.lt (Rn.lt ?_)));rw[e1,e2,e3];refine Rn.bn (P:=fun r=>RP a (a+n) l r) (zF _ (fun t y=>∃ (i:Nat) (d:List Int) (r:Int),y=((i:Int),d,r)∧i=a+q*2 - 1+t∧RP a (a+n) l d) 3 (by unfold big;omega) ⟨a+q*2 - 1,l,_,rfl,by omega,RP.refl _ _ _⟩ fun t y ht hI=>?_) fun r hr=>Rn.some hr;obtain⟨i,d,r,rfl,hi,hr⟩:=hI;have hd:=hr.len;refine zC rfl (Rn.lt ?_);rw[e1];refine Rn.lt ?_;rw[e2];refine Rn.lt ?_;rw[e4];refine Rn.lt (zB (fun hc=>?_) fun _=>Rn.some hr);have hi2:i≤a+q*2+1:=by
   have:=of_decide_eq_true (p:=((i:Int)≤((a+q*2+1:Nat):Int))) hc;omega
  obtain⟨x,y,exy⟩:=Hl r;refine zC exy (Rn.lt (Rn.lt (Rn.lt ?_)));have e5:subI .u64 (p:Int) 1=(p:Int) - 1:=wrapU (by omega) (by omega);rw[e5];obtain⟨g1,g2⟩:=JO x ((p:Int) - 1) (by omega) (by omega);simp only;generalize andI .u64 x ((p:Int) - 1)=w at g1 g2;rw[ET (by omega) (by omega)];refine Rn.bn (P:=fun o=>∃ k:Nat,o=(k:Int)∧k<n) (Rn.lt (zB (fun h=>Rn.lt (Rn.some ?_)) fun h=>Rn.some ?_)) fun o ho=>?_
  ·have:=of_decide_eq_true (p:=((n:Int)≤w)) h;rw[Aq (by omega) (by omega)];exact⟨(w - n).toNat,by omega,by omega⟩
  ·have:=of_decide_eq_false (p:=((n:Int)≤w)) h;exact⟨w.toNat,by omega,by omega⟩
  ·obtain⟨k,rfl,hk⟩:=ho;refine Rn.lt ?_;have e6:addI .i64 (a:Int) (k:Int)=((a+k:Nat):Int):=by rw[Ao (by omega) (by omega)];omega
   rw[e6];refine swapI rfl rfl (show i<d.length by omega) (show a+k<d.length by omega) (Rn.lt (Rn.some ⟨by omega,i+1,swI d i (a+k),y,?_,by omega,hr.trans (RP.swI (by omega) (by omega) (by omega) (by omega))⟩));rw[Ao (by omega) (by omega)];rfl
 ·have:=of_decide_eq_false (p:=((8:Int)≤(n:Int))) h;omega
def PreI (d:List Int) (a b:Nat):Prop:=0<a→∀ i,a≤i→i<b→ksI d (a - 1)≤ksI d i
def SepI (d:List Int) (a b a' b':Nat):Prop:=∀ p q,a≤p→p<q→q<b→(p<a'∨b'≤q)→ksI d p≤ksI d q
theorem PreI.keep {d r:List Int} {a b:Nat} (h:PreI d a b) (hr:RP a b d r) (hab:a≤b) (hb:b≤d.length):PreI r a b:=by
 intro h0 i h1 h2;obtain⟨j,x1,x2,x3⟩:=hr.seg hab hb h1 h2;rw[BU x3,BU (hr.off (a - 1) (.inl (by omega)))];exact h h0 j x1 x2
theorem SepI.keep {d r:List Int} {a b a' b':Nat} (h:SepI d a b a' b') (hr:RP a' b' d r) (h1:a≤a') (h2:a'≤b') (h3:b'≤b) (hb:b≤d.length):SepI r a b a' b':=by
 intro p q g1 g2 g3 g4;have key:∀ i,∃ j,ksI r i=ksI d j∧((i<a'∧j=i)∨(b'≤i∧j=i)∨(a'≤i∧i<b'∧a'≤j∧j<b')):=by
  intro i;rcases Nat.lt_or_ge i a' with x|x
  ·exact⟨i,BU (hr.off i (.inl x)),.inl ⟨x,rfl⟩⟩
  ·rcases Nat.lt_or_ge i b' with y|y
   ·obtain⟨j,x1,x2,x3⟩:=hr.seg h2 (by omega) x y;exact⟨j,BU x3,.inr (.inr ⟨x,y,x1,x2⟩)⟩
   ·exact⟨i,BU (hr.off i (.inr y)),.inr (.inl ⟨y,rfl⟩)⟩
 obtain⟨p',e1,f1⟩:=key p;obtain⟨q',e2,f2⟩:=key q;rw[e1,e2];exact h p' q' (by omega) (by omega) (by omega) (by omega)
theorem SepI.done {r:List Int} {a b a' b':Nat} (h:SepI r a b a' b') (hs:SortedI r a' b'):SortedI r a b:=by
 intro p q g1 g2 g3;rcases Decidable.em (p<a'∨b'≤q) with x|x
 ·exact h p q g1 g2 g3 x
 ·exact hs p q (by omega) g2 (by omega)
theorem Le:∀ (m:Nat) {l:List Int} {a b:Nat} {lim:Int},b - a<m→a≤b→b≤l.length→l.length≤sortMost→PreI l a b→0≤lim→lim≤1000→Rn (AS big m l (a:Int) (b:Int) lim) fun r=>RP a b l r∧SortedI r a b:=by
 intro m;induction m with
 |zero=>intro l a b lim h;omega
 |succ m ih =>
  intro l a b lim hm hab hb hl hpre hl0 hl1;have hl':=hl;unfold sortMost at hl;rw[AS];refine Rn.bn (P:=fun r=>RP a b l r∧SortedI r a b) (zF _ (fun t y=>∃ (a' b':Nat) (lim':Int) (bal part:Bool) (d:List Int),y=((a':Int),(b':Int),lim',bal,part,d)∧a≤a'∧a'≤b'∧b'≤b∧t+(b' - a')≤b - a∧RP a b l d∧SepI d a b a' b'∧PreI d a' b'∧0≤lim'∧lim'≤1000) (b - a) (by unfold big;omega)
   ⟨a,b,lim,true,true,l,rfl,Nat.le_refl _,hab,Nat.le_refl _,by omega,RP.refl _ _ _,fun p q h1 h2 h3 h4=>by omega,hpre,hl0,hl1⟩ fun t y ht hI=>?_) fun r hr=>Rn.some hr
  obtain⟨a',b',lim',bal,part,d,rfl,i1,i2,i3,i4,hr,hsep,hp,hm0,hm1⟩:=hI;have hd:=hr.len
  -- what is sorted within is sorted
  have hdone:∀ r,RP a' b' d r→SortedI r a' b'→RP a b l r∧SortedI r a b:=fun r h1 h2 =>
   ⟨hr.trans (h1.mono i1 i3),(hsep.keep h1 i1 i2 i3 (by omega)).done h2⟩
  refine Rn.lt (Rn.lt ?_);have e0:subI .i64 (b':Int) (a':Int)=((b' - a':Nat):Int):=by rw[Aq (by omega) (by omega)];omega
  simp only;rw[e0];refine zB (fun hc=>?_) fun hc=>?_
  ·refine Rn.bn (Ld i2 (by omega) (by omega)) fun r hr2=>Rn.chk (by have:=hr2.1.len;simp[lenB,this]) (Rn.some (hdone r hr2.1 hr2.2))
  have hlong:a'+12<b':=by
   have:=of_decide_eq_false (p:=(((b' - a':Nat):Int)≤12)) hc;omega
  refine Rn.lt (zB (fun hz=>?_) fun hz=>?_)
  ·refine Rn.bn (Kp (by omega) (by omega) (by omega)) fun r hr2=>Rn.chk (by have:=hr2.1.len;simp[lenB,this]) (Rn.some (hdone r hr2.1 hr2.2))
  have hlim:lim'≠0:=of_decide_eq_false (p:=lim'=0) hz;refine Rn.bn (P:=fun y=>(0≤y.1∧y.1≤1000)∧RP a' b' d y.2) ?_ fun y hy=>?_
  ·refine Rn.lt (zB (fun _=>?_) fun _=>Rn.some ⟨⟨hm0,hm1⟩,RP.refl _ _ _⟩);refine Rn.bn (JS hlong (by omega) (by omega)) fun r hr2=>Rn.chk (by have:=hr2.len;simp[lenB,this]) (Rn.lt (Rn.some ⟨?_,hr2⟩));rw[Aq (by omega) (by omega)];exact⟨by omega,by omega⟩
  obtain⟨lim2,d1⟩:=y;obtain⟨⟨hm2,hm3⟩,hr1⟩:=hy;simp only at hm2 hm3 hr1;have hd1:=hr1.len;refine Rn.bn (Jk (l:=d1) hlong (by omega) (by omega)) fun v hv=>?_;obtain⟨v1,v2,v3⟩:=v;obtain⟨⟨k,hk,hk1,hk2⟩,hv3⟩:=hv;simp only at hk hv3;subst v3 v1;refine Rn.chk (by simp[lenB]) ?_;refine Rn.bn (P:=fun y=>(∃ k:Nat,y.1=(k:Int)∧a'≤k∧k<b')∧RP a' b' d y.2.2) ?_ fun y hy=>?_
  ·refine Rn.lt (zB (fun _=>?_) fun _=>Rn.some ⟨⟨k,rfl,hk1,hk2⟩,hr1⟩);refine Rn.bn (IB (l:=d1) (by omega) (by omega) (by omega)) fun r hr2=>Rn.chk (by have:=hr2.len;simp[lenB,this]) (Rn.lt (Rn.lt (Rn.lt (Rn.some ⟨⟨b' - 1 - (k - a'),?_,by omega,by omega⟩,hr1.trans hr2⟩))));simp only;rw[Aq (a:=(b':Int)) (by omega) (by omega),Aq (a:=(k:Int)) (by omega) (by omega),Aq (by omega) (by omega)];omega
  obtain⟨y1,y2,d2⟩:=y;obtain⟨⟨k2,hk,hk1,hk2⟩,hr2⟩:=hy;simp only at hk hr2;subst y1;have hd2:=hr2.len;refine Rn.bn (P:=fun y=>(∃ c e r,y=.inl (c,e,r)∧RP a' b' d r)∨∃ r,y=.inr r∧RP a' b' d r∧SortedI r a' b') ?_ fun y hy=>?_
  ·refine Rn.bn (P:=fun _=>True) ?_ fun w _=>?_
   ·refine Rn.lt (zB (fun _=>Rn.lt (zB (fun _=>Rn.lt (Rn.some trivial)) fun _=>Rn.some trivial)) fun _=>Rn.some trivial)
   ·refine Rn.lt (zB (fun _=>?_) fun _=>Rn.some (.inl ⟨_,_,d2,rfl,hr2⟩));refine Rn.bn (IC (l:=d2) (by omega) (by omega) (by omega)) fun r hr3=>?_;obtain⟨r1,r2⟩:=r;obtain⟨g1,g2⟩:=hr3;simp only at g1 g2;subst r2;refine Rn.chk (by simp[lenB]) (Rn.lt (zB (fun h=>Rn.some (.inr ⟨d2,rfl,hr2,g2 h⟩)) fun _=>Rn.some (.inl ⟨_,_,d2,rfl,hr2⟩)))
  rcases hy with ⟨c,e,d3,rfl,hr3⟩|⟨r,rfl,hr3,hs3⟩
  rotate_left
  ·rw[B4];exact Rn.some (hdone r hr3 hs3)
  rw[Eo];have hd3:=hr3.len;have hsep3:=hsep.keep hr3 i1 i2 i3 (by omega);have hp3:=hp.keep hr3 i2 (by omega);have hrl3:=hr.trans (hr3.mono i1 i3);refine Rn.bn (P:=fun c=>c=decide (0<a'∧¬ ksI d3 (a' - 1)<ksI d3 k2)) ?_ fun q hq=>?_
  ·refine Rn.lt (zB (fun h=>?_) fun h=>Rn.some ?_)
   ·have h0:0<a':=by
     have:=of_decide_eq_true (p:=((0:Int)<(a':Int))) h;omega
    have e1:subI .i64 (a':Int) 1=((a' - 1:Nat):Int):=by rw[Aq (by omega) (by omega)];omega
    refine Rn.lt ?_;rw[e1];refine zC (nthD (show a' - 1<d3.length by omega) (0:Int)) (zC (nthD (show k2<d3.length by omega) (0:Int)) ?_);simp only[cmpEI,Ar,AA,CK];refine Rn.some ?_;simp only[h0,true_and];rfl
   ·have h0:¬ 0<a':=by
     have:=of_decide_eq_false (p:=((0:Int)<(a':Int))) h;omega
    simp[h0]
  subst hq;refine Rn.lt (zB (fun h=>?_) fun h=>?_)
  ·obtain⟨h0,hK⟩:=of_decide_eq_true h;refine Rn.bn (Jl (l:=d3) hk1 hk2 (by omega) (by omega)) fun r hr4=>?_;obtain⟨r1,r2⟩:=r;obtain⟨md,g0,g1,g2,g3,g4,g5⟩:=hr4;simp only at g0 g3 g4 g5;subst r1;refine Rn.chk (by have:=g3.len;simp[lenB,this]) (Rn.some ⟨by omega,md,b',lim2,c,e,r2,rfl,by omega,g2,i3,by omega,hrl3.trans (g3.mono i1 i3),?_,?_,hm2,hm3⟩)
   ·have hs4:=hsep3.keep g3 i1 i2 i3 (by omega);have hp4:=hp3.keep g3 i2 (by omega);have hK2:ksI d3 k2≤ksI r2 (a' - 1):=by
     rw[BU (g3.off (a' - 1) (.inl (by omega)))];omega
    intro p q x1 x2 x3 x4;rcases Decidable.em (p<a'∨b'≤q) with x5|x5
    ·exact hs4 p q x1 x2 x3 x5
    ·have z1:=g4 p (by omega) (by omega);rcases Nat.lt_or_ge q md with x6|x6
     ·have z2:=hp4 h0 q (by omega) (by omega);omega
     ·have z2:=g5 q x6 (by omega);omega
   ·intro _ i x1 x2;have z1:=g4 (md - 1) (by omega) (by omega);have z2:=g5 i x1 x2;omega
  ·refine Rn.bn (Ko (l:=d3) hk1 hk2 (by omega) (by omega)) fun r hr4=>?_;obtain⟨r1,r2,r4⟩:=r;obtain⟨md,g0,g1,g2,g3,g4,g5,g6⟩:=hr4;simp only at g0 g3 g4 g5 g6;subst r1;have hd4:=g3.len;have hs4:=hsep3.keep g3 i1 i2 i3 (by omega);have hp4:=hp3.keep g3 i2 (by omega);generalize ksI d3 k2=K at g4 g5 g6;have e3:addI .i64 (md:Int) 1=((md+1:Nat):Int):=by rw[Ao (by omega) (by omega)];omega
   refine Rn.chk (by simp[lenB,hd4]) (Rn.lt (Rn.lt (zC (vquo (by omega) (by omega) (by omega)) (Rn.lt (zB (fun _=>Rn.lt ?_) fun _=>Rn.lt (Rn.lt ?_))))))
   ·refine Rn.bn (ih (l:=r4) (a:=a') (b:=md) (by omega) g1 (by omega) (by omega) (fun h0 i x1 x2=>hp4 h0 i x1 (by omega)) hm2 hm3) fun r hr5=>?_;obtain⟨q1,q2⟩:=hr5;have hd5:=q1.len;refine Rn.chk (by simp[lenB,hd5]) (Rn.lt ?_);rw[e3];refine Rn.some ⟨by omega,md+1,b',lim2,_,_,r,rfl,by omega,by omega,i3,by omega,(hrl3.trans (g3.mono i1 i3)).trans (q1.mono i1 (by omega)),?_,?_,hm2,hm3⟩
    ·have hs5:=hs4.keep (q1.mono (Nat.le_refl _) (by omega)) i1 i2 i3 (by omega);intro p q x1 x2 x3 x4;rcases Decidable.em (p<a'∨b'≤q) with x5|x5
     ·exact hs5 p q x1 x2 x3 x5
     ·have hge:∀ i,md<i→i<b'→K≤ksI r i:=fun i y1 y2=>by
       rw[BU (q1.off i (.inr (by omega)))];exact g6 i y1 y2
      have hmd:ksI r md=K:=by rw[BU (q1.off md (.inr (Nat.le_refl _)))];exact g4
      rcases Nat.lt_or_ge p md with x6|x6
      ·obtain⟨j,y1,y2,y3⟩:=q1.seg g1 (by omega) (show a'≤p by omega) x6;have z1:=g5 j y1 y2;rw[← BU y3] at z1;rcases Nat.lt_trichotomy q md with x7|x7|x7
       ·exact q2 p q (by omega) x2 x7
       ·subst x7;omega
       ·have:=hge q x7 (by omega);omega
      ·have:p=md:=by omega
       subst this;have:=hge q x2 (by omega);omega
    ·intro _ i x1 x2;show ksI r md≤_;rw[BU (q1.off md (.inr (Nat.le_refl _))),BU (q1.off i (.inr (by omega))),g4];exact g6 i (by omega) x2
   ·rw[e3];refine Rn.bn (ih (l:=r4) (a:=md+1) (b:=b') (by omega) (by omega) (by omega) (by omega) (fun h0 i x1 x2=>by show ksI r4 md≤_;rw[g4];exact g6 i (by omega) x2) hm2 hm3) fun r hr5=>?_;obtain⟨q1,q2⟩:=hr5;have hd5:=q1.len;refine Rn.chk (by simp[lenB,hd5]) ?_;refine Rn.some ⟨by omega,a',md,lim2,_,_,r,rfl,i1,g1,by omega,by omega,(hrl3.trans (g3.mono i1 i3)).trans (q1.mono (by omega) i3),?_,?_,hm2,hm3⟩
    ·have hs5:=hs4.keep (q1.mono (by omega) (Nat.le_refl _)) i1 i2 i3 (by omega);intro p q x1 x2 x3 x4;rcases Decidable.em (p<a'∨b'≤q) with x5|x5
     ·exact hs5 p q x1 x2 x3 x5
     ·have hmd:ksI r md=K:=by rw[BU (q1.off md (.inl (by omega)))];exact g4
      have hge:∀ i,md<i→i<b'→K≤ksI r i:=fun i y1 y2=>by
       obtain⟨j,z1,z2,z3⟩:=q1.seg (by omega) (by omega) (show md+1≤i by omega) y2;rw[BU z3];exact g6 j (by omega) z2
      have hle:∀ i,a'≤i→i<md→ksI r i<K:=fun i y1 y2=>by
       rw[BU (q1.off i (.inl (by omega)))];exact g5 i y1 y2
      rcases Nat.lt_trichotomy p md with x6|x6|x6
      ·have z1:=hle p (by omega) x6;rcases Nat.eq_or_lt_of_le (show md≤q by omega) with x7|x7
       ·subst x7;omega
       ·have:=hge q x7 (by omega);omega
      ·subst x6;have:=hge q x2 (by omega);omega
      ·exact q2 p q (by omega) x2 (by omega)
    ·intro h0 i x1 x2;rw[BU (q1.off (a' - 1) (.inl (by omega))),BU (q1.off i (.inl (by omega)))];exact hp4 h0 i x1 (by omega)
--MORE
end Go.Proofs.Ytenemndpignaoaa
namespace Go.Proofs.Ytenemndpignaoaa
open Go Go.RowKit
def cntP (p:Int→Prop) [DecidablePred p]:Nat:=(List.range 16384).countP fun k:Nat=>decide (p (k:Int))
theorem Ij (p q:Int→Prop) [DecidablePred p] [DecidablePred q] (h:∀ s,p s→¬ q s):cntP (fun s=>p s∨q s)=cntP p+cntP q:=by
 unfold cntP;have:∀ l:List Nat,l.countP (fun k:Nat=>decide (p (k:Int)∨q (k:Int)))=l.countP (fun k:Nat=>decide (p (k:Int)))+l.countP fun k:Nat=>decide (q (k:Int)):=by
  intro l;induction l with
  |nil=>rfl
  |cons x l ih =>
   rw[List.countP_cons,List.countP_cons,List.countP_cons,ih];by_cases h1:p (x:Int)
   ·simp[h1,h _ h1];omega
   ·by_cases h2:q (x:Int) <;> simp[h1,h2]
    omega
 exact this _
theorem D3 (p q:Int→Prop) [DecidablePred p] [DecidablePred q] (h:∀ s,p s↔q s):cntP p=cntP q:=by
 unfold cntP;congr 1
 funext k
 exact decide_eq_decide.2 (h _)
theorem Ik (p:Int→Prop) [DecidablePred p] (h:∀ s,¬ p s):cntP p=0:=by
 unfold cntP;rw[List.countP_eq_zero];intro a _;simp[h]
theorem Il {a b:Nat} (h1:a≤b) (h2:b<16384):cntP (fun s=>(a:Int)≤s∧s≤(b:Int))=b - a+1:=by
 unfold cntP;have:∀ n,(List.range n).countP (fun k:Nat=>decide ((a:Int)≤(k:Int)∧(k:Int)≤(b:Int)))=min n (b+1) - min n a:=by
  intro n;induction n with
  |zero=>simp
  |succ n ih =>
   rw[List.range_succ,List.countP_append,ih,List.countP_singleton];split
   ·rename_i h
    have:=of_decide_eq_true h;omega
   ·rename_i h
    have:¬ ((a:Int)≤(n:Int)∧(n:Int)≤(b:Int)):=fun h'=>h (decide_eq_true h');omega
 rw[this];omega
def sumS (l:List Span):Int:=(l.map fun x=>x.to - x.frm+1).sum
theorem IT:∀ {l:List Span},canP (l.map sP)→(∀ x∈l,0≤x.frm∧x.frm≤x.to∧x.to≤16383)→sumS l=(cntP (fun s=>∃ x∈l,x.frm≤s∧s≤x.to):Nat)
 |[],_,_=>by
  rw[Ik _ (by simp)];rfl
 |x::l,hc,hr=>by
  have hx:=hr x (by simp);have ih:=IT (l:=l) (canP.tail (p:=sP x) hc) fun y hy=>hr y (by simp[hy]);have hlt:∀ y∈l,x.to<y.frm:=fun y hy=>canP.lt (p:=sP x) hc (sP y) (List.mem_map_of_mem hy);rw[D3 _ (fun s=>(x.frm≤s∧s≤x.to)∨∃ y∈l,y.frm≤s∧s≤y.to) (fun s=>by simp),Ij _ _ (fun s h1 h2=>by
   obtain⟨y,hy,h3⟩:=h2;have:=hlt y hy;omega)]
  have e:=Il (a:=x.frm.toNat) (b:=x.to.toNat) (by omega) (by omega);rw[D3 _ (fun s=>x.frm≤s∧s≤x.to) (fun s=>by omega)] at e;rw[e];simp only[sumS,List.map_cons,List.sum_cons] at ih ⊢;omega
theorem SaysS.cnt {l:List Span} {p:Int→Prop} [DecidablePred p] (h:SaysS l p) (hp:∀ s,p s→0≤s∧s≤16383):sumS l=(cntP p:Nat):=by
 rw[IT h.1 (h.rng hp),D3 _ p h.iff]
theorem normRT:@B3=@B3:=rfl
theorem Im {l:List Span} (hl:l.length≤10000):Rn (B3 big l) fun r=>SaysS r (inS l)∧r.length≤2+2*l.length:=IR hl
theorem Kq {l:List Span} (hl:l.length≤10000):Rn (BQ big l) fun n=>n=(cntP (inS l):Nat):=by
 unfold BQ;refine Rn.bn (Im hl) fun v hv=>?_;obtain⟨h1,h2⟩:=hv;have hr:=h1.rng Cr;rw[← h1.cnt Cr];refine Rn.bn (P:=fun n=>n=sumS v) (zF _ (fun j y=>y=(sumS (v.take j),(j:Int))∧0≤sumS (v.take j)∧sumS (v.take j)≤16384*j) v.length (by unfold big;omega) ⟨rfl,by simp[sumS],by simp[sumS]⟩ fun j y hj hI=>?_) fun n h=>Rn.some h;obtain⟨rfl,b1,b2⟩:=hI;refine Rn.lt (Rn.lt (zB (fun hd=>?_) fun hd=>?_))
 ·have hjl:j<v.length:=by
   have:=of_decide_eq_true (p:=((j:Int)<(v.length:Int))) hd;omega
  have hx:=hr _ (List.getElem_mem hjl);have es:sumS (v.take (j+1))=sumS (v.take j)+(v[j].to - v[j].frm+1):=by
   unfold sumS;rw[← List.take_append_getElem hjl,List.map_append,List.sum_append];simp
  refine zC (AF hjl) (Rn.lt (Rn.lt (Rn.lt (Rn.lt (Rn.some ⟨hjl,?_,by rw[es];omega,by rw[es];omega⟩)))));simp only[];rw[es,Ao (a:=sumS (v.take j)) (by omega) (by omega),Aq (a:=sumS (v.take j)+v[j].to) (by omega) (by omega),Ao (a:=sumS (v.take j)+v[j].to - v[j].frm) (by omega) (by omega),Ao (show -9223372036854775808≤(j:Int)+1 by omega) (by omega)];refine Prod.ext ?_ rfl;simp only;omega
 ·have hjl:j=v.length:=by
   have:=of_decide_eq_false (p:=((j:Int)<(v.length:Int))) hd;omega
  subst hjl;exact Rn.some (by show sumS _=_;rw[List.take_length])
theorem Jm (l:List Span) (hl:l.length≤1000000):Cw big l l=some true:=by
 refine Rn.eqv ?_;unfold Cw;refine Rn.lt (Rn.lt (Rn.lt (zB (fun h=>?_) fun _=>?_)))
 ·simp[neI] at h
 refine Rn.bn (P:=fun y=>y=.inl ()) (zF _ (fun j a=>a=(j:Int)) l.length (by unfold big;omega) rfl fun j a hj hI=>?_) fun y hy=>?_
 ·subst hI;refine Rn.lt (Rn.lt (zB (fun hd=>?_) fun hd=>Rn.some rfl));have hjl:j<l.length:=by
   have:=of_decide_eq_true (p:=((j:Int)<(l.length:Int))) hd;omega
  refine zC (AF hjl) (zC (AF hjl) (Rn.lt (zB (fun h=>?_) fun _=>Rn.lt (Rn.some ⟨hjl,?_⟩))))
  ·simp[notB,andB,eqI] at h
  ·rw[Ao (by omega) (by omega)];rfl
 ·subst hy;exact Rn.some rfl
theorem LJ:∀ {a b:Span},sP a=sP b→a=b:=by
 intro a b h;obtain⟨a1,a2⟩:=a;obtain⟨b1,b2⟩:=b;simp[sP] at h;obtain⟨h1,h2⟩:=h;subst h1 h2;rfl
theorem SaysS.ext {l m:List Span} {p q:Int→Prop} [DecidablePred p] [DecidablePred q] (hl:SaysS l p) (hm:SaysS m q) (h:∀ s,p s↔q s):l=m :=
 GZ (f:=sP) LJ (FinP.ext hl hm fun s=>by unfold fS;simp only[h s])
theorem E0 (x:Int):∀ l:List Int,x∈compL l↔x∈l
 |[]=>by simp[compL]
 |[a]=>by simp[compL]
 |a::b::t=>by
  have ih:=E0 x (b::t);simp only[compL];split
  ·rename_i h
   subst h;rw[ih];simp
  ·rw[List.mem_cons,ih,List.mem_cons (a:=x) (b:=a)]
theorem E6:∀ {l:List Int},l.Pairwise (·≤·)→(compL l).Pairwise (·<·)
 |[],_=>List.Pairwise.nil
 |[a],_=>List.pairwise_singleton _ _
 |a::b::t,h=>by
  have ih:=E6 (l:=b::t) (List.pairwise_cons.1 h).2;simp only[compL];split
  ·exact ih
  ·rename_i hne
   refine List.pairwise_cons.2 ⟨fun x hx=>?_,ih⟩;have hab:=(List.pairwise_cons.1 h).1 b (by simp);rcases List.mem_cons.1 ((E0 x (b::t)).1 hx) with rfl|hx2
   ·omega
   ·have:=(List.pairwise_cons.1 (List.pairwise_cons.1 h).2).1 x hx2;omega
theorem Kr {l:List Int} (hl:l.length≤sortMost):Rn (B9 big l) fun r=>r.Perm l∧r.Pairwise (·≤·):=by
 unfold B9;refine Rn.lt (Rn.lt ?_);obtain⟨v,ev,v0,v1,-⟩:=JQ (n:=l.length) (by unfold sortMost at hl;omega);refine zC ev (Rn.bn (P:=fun r=>RP 0 l.length l r∧SortedI r 0 l.length) ?_ fun r hr=>Rn.chk (by simp[lenB,hr.1.len]) (Rn.some ⟨hr.1.perm,?_⟩))
 ·exact Le big (l:=l) (a:=0) (b:=l.length) (lim:=v) (by unfold big;unfold sortMost at hl;omega) (Nat.zero_le _) (Nat.le_refl _) hl (fun h=>by omega) v0 v1
 ·have h2:=hr.2;rw[← hr.1.len] at h2;refine List.pairwise_iff_getElem.2 fun i j hi hj hij=>?_;have:=h2 i j (Nat.zero_le _) hij hj;unfold ksI keyI at this;rw[List.getD_eq_getElem?_getD,List.getD_eq_getElem?_getD,List.getElem?_eq_getElem hi,List.getElem?_eq_getElem hj] at this;exact this
def clmP (f:Int→Option (Int×Int)) (s:Int):Prop:=(f s).isSome=true
instance (f:Int→Option (Int×Int)) (s:Int):Decidable (clmP f s):=by unfold clmP;infer_instance
def ownU (f:Int→Option (Int×Int)) (n:Nat) (s:Int):Prop:=∃ i:Nat,i<n∧ownP f (i:Int) s
instance (f:Int→Option (Int×Int)) (n:Nat) (s:Int):Decidable (ownU f n s) :=
 decidable_of_iff (∃ i∈List.range n,ownP f (i:Int) s) ⟨fun ⟨i,h1,h2⟩=>⟨i,List.mem_range.1 h1,h2⟩,fun ⟨i,h1,h2⟩=>⟨i,List.mem_range.2 h1,h2⟩⟩
end Go.Proofs.Ytenemndpignaoaa
namespace Go.Proofs.Ytenemndpignaoaa
open Go Go.RowKit
def badC (c:Claim):Prop:=c.frm<0∨c.to<c.frm∨16383<c.to∨c.node<0∨8≤c.node∨c.epoch<1∨9007199254740992<c.epoch
instance (c:Claim):Decidable (badC c):=by unfold badC;infer_instance
def bad2 (b c:Claim):Prop:=c.frm≤b.to∨(b.to+1=c.frm∧(b.node,b.epoch)=(c.node,c.epoch))
instance (b c:Claim):Decidable (bad2 b c):=by unfold bad2;infer_instance
def prevBad (l:List Claim) (j:Nat):Prop:=∃ (h0:0<j) (h:j<l.length),bad2 (l[j - 1]'(by omega)) l[j]
noncomputable instance (l:List Claim) (j:Nat):Decidable (prevBad l j):=Classical.propDecidable _
def MayC (l:List Claim):Prop:=(∀ c∈l,¬ badC c)∧∀ (i:Nat) (b c:Claim),l[i]?=some b→l[i+1]?=some c→¬ bad2 b c
theorem MayC.good {l:List Claim} (h:MayC l):GoodC l:=by
 refine⟨?_,fun c hc=>?_⟩
 ·have:∀ l:List Claim,MayC l→canP (l.map cP):=by
   intro l;induction l with
   |nil=>intro _;trivial
   |cons b l ih =>
    intro h;have hb:=h.1 b (by simp);unfold badC at hb;have ih':=ih ⟨fun c hc=>h.1 c (by simp[hc]),fun i x y h1 h2=>h.2 (i+1) x y h1 h2⟩;cases l with
    |nil =>
     show b.frm≤b.to;omega
    |cons c l =>
     have h2:=h.2 0 b c rfl rfl;unfold bad2 at h2;refine⟨?_,?_,?_,ih'⟩
     ·show b.frm≤b.to;omega
     ·show b.to<c.frm;omega
     ·intro hc;exact h2 (.inr hc)
  exact this l h
 ·have:=h.1 c hc;unfold badC at this;omega
theorem Jn {l:List Claim} {nd:Int} (hl:GoodC l) (h200:l.length≤200):Rn (Bv big l nd) fun r=>SaysS r (ownP (fC l) nd):=by
 unfold Bv;refine Rn.bn (P:=fun r=>r.length≤l.length∧∀ t,(∃ x∈r,x.frm≤t∧t≤x.to)↔∃ c∈l,(c.frm≤t∧t≤c.to)∧c.node=nd) (zF _ (fun j y=>∃ r:List Span,y=((j:Int),r)∧r.length≤j∧∀ t,(∃ x∈r,x.frm≤t∧t≤x.to)↔∃ c∈l.take j,(c.frm≤t∧t≤c.to)∧c.node=nd) l.length (by unfold big;omega) ⟨[],rfl,by simp,by simp⟩ fun j y hj hI=>?_) fun r hr=>?_
 ·obtain⟨r,rfl,r2,r4⟩:=hI;refine Rn.lt (Rn.lt (zB (fun hd=>?_) fun hd=>?_))
  ·have hjl:j<l.length:=by
    have:=of_decide_eq_true (p:=((j:Int)<(l.length:Int))) hd;omega
   have hnth:=AF hjl;have htk:l.take (j+1)=l.take j++[l[j]]:=(List.take_append_getElem hjl).symm;generalize l[j]=c at hnth htk;refine Rn.bn (P:=fun r'=>r'.length≤j+1∧∀ t,(∃ x∈r',x.frm≤t∧t≤x.to)↔∃ c∈l.take (j+1),(c.frm≤t∧t≤c.to)∧c.node=nd) ?_ fun r' hr'=>Rn.lt (Rn.some ⟨hjl,r',?_,hr'⟩)
   ·refine zC hnth (Rn.lt (zB (fun hc=>Rn.chk (by simp[room];omega) (Rn.lt (Rn.some ⟨by simp;omega,fun t=>?_⟩))) fun hc=>Rn.some ⟨Nat.le_succ_of_le r2,fun t=>?_⟩))
    ·have hn:c.node=nd:=of_decide_eq_true hc;rw[htk];constructor
     ·rintro⟨x,hx,h⟩;rcases List.mem_append.1 hx with hx|hx
      ·obtain⟨y,hy,h2⟩:=(r4 t).1 ⟨x,hx,h⟩;exact⟨y,by simp[hy],h2⟩
      ·simp at hx;subst hx;exact⟨c,by simp,h,hn⟩
     ·rintro⟨y,hy,h,h2⟩;rcases List.mem_append.1 hy with hy|hy
      ·obtain⟨x,hx,h3⟩:=(r4 t).2 ⟨y,hy,h,h2⟩;exact⟨x,by simp[hx],h3⟩
      ·simp at hy;subst hy;exact⟨⟨y.frm,y.to⟩,by simp,h⟩
    ·have hn:c.node≠nd:=of_decide_eq_false hc;rw[r4 t,htk];constructor
     ·rintro⟨y,hy,h⟩;exact⟨y,by simp[hy],h⟩
     ·rintro⟨y,hy,h,h2⟩;rcases List.mem_append.1 hy with hy|hy
      ·exact⟨y,hy,h,h2⟩
      ·simp at hy;subst hy;exact absurd h2 hn
   ·rw[Ao (by first|omega|(simp only;omega)) (by first|omega|(simp only;omega))];rfl
  ·have hjl:j=l.length:=by
    have:=of_decide_eq_false (p:=((j:Int)<(l.length:Int))) hd;omega
   subst hjl;rw[List.take_length] at r4;exact Rn.some ⟨r2,r4⟩
 ·obtain⟨r2,r3⟩:=hr;refine Rn.chk (by simp[room];omega) ?_;rw[normRT];refine Rn.bn (Im (by omega)) fun v hv=>Rn.some ?_;refine SaysS.of hv.1.1 fun t=>?_;rw[hv.1.iff];unfold inS ownP;rw[r3 t];constructor
  ·rintro⟨h1,c,hc,h2,h3⟩;rw[(hl.iff t _).2 ⟨c,hc,h2,rfl⟩,← h3];rfl
  ·intro h;cases hf:fC l t with
   |none=>rw[hf] at h;simp at h
   |some w =>
    rw[hf] at h;obtain⟨c,hc,h2,rfl⟩:=(hl.iff t w).1 hf;have:=(hl.tells t _ hf).1;exact⟨by omega,c,hc,h2,by simpa using h⟩
theorem Ho:∀ {l m:List Int},l.Pairwise (·<·)→m.Pairwise (·<·)→(∀ x,x∈l↔x∈m)→l=m
 |[],[],_,_,_=>rfl
 |[],b::m,_,_,h=>absurd ((h b).2 (by simp)) (by simp)
 |a::l,[],_,_,h=>absurd ((h a).1 (by simp)) (by simp)
 |a::l,b::m,hl,hm,h=>by
  rw[List.pairwise_cons] at hl hm;have hab:a=b:=by
   have h1:=(h a).1 (by simp);have h2:=(h b).2 (by simp);rcases List.mem_cons.1 h1 with e|h1
   ·exact e
   ·rcases List.mem_cons.1 h2 with e|h2
    ·exact e.symm
    ·have:=hl.1 b h2;have:=hm.1 a h1;omega
  subst hab;rw[Ho hl.2 hm.2 fun x=>?_];have:=h x;simp only[List.mem_cons] at this;constructor
  ·intro hx;have h3:=hl.1 x hx;rcases this.1 (.inr hx) with e|h2
   ·omega
   ·exact h2
  ·intro hx;have h3:=hm.1 x hx;rcases this.2 (.inr hx) with e|h2
   ·omega
   ·exact h2
end Go.Proofs.Ytenemndpignaoaa
