/- Part 4 of the proof. -/
import Derived.Test.YtenemndpignaoaaPd3
set_option linter.unusedVariables false
set_option linter.unusedSimpArgs false
set_option linter.constructorNameAsVariable false
set_option maxRecDepth 8000
set_option maxHeartbeats 8000000
namespace Go.Proofs.Ytenemndpignaoaa
open Go Go.RowKit
def Eo (n:Nat) (a0:List Span):Option (List Span) :=
some a0
theorem HS {n:Nat} {a0:List Span} {r:List Span} (h:Eo n a0=some r):Sound Try.prog 59 [.l (dA a0)] [] (.l (.f 76 [0])) [some ⟨43,1,false,none,[dA r]⟩]:=by
 unfold Eo at h;refine SO 4 Try.func59 fun cx hG (hz:cx.nb=0)=>?_;simp only[it];refine ST ?_;refine ST ?_;obtain rfl:=oi h;apply AW.ret;refine Left.of (av:=_) (by simp[Try.f59,resV,resC,comp];rfl) ?_;exact zF 0 [some 0] hz rfl (by decide) rfl (by simp[pickOb,Ab,Af]) (by simp[Ab,Af])
theorem Hl:Enters Try.prog 59:=enters Try.func59 (by kernel_rfl) rfl
def D8 (n:Nat) (a0:List Span) (a1:List Span):Option (List Span×List Span) :=
some (a0,a1)
theorem Hm {n:Nat} {a0:List Span} {a1:List Span} {r:List Span×List Span} (h:D8 n a0 a1=some r):Sound Try.prog 74 [.l (dA a0),.l (dA a1)] [] (.l (.f 80 [0,1])) [some ⟨43,1,false,none,[dA r.1]⟩,some ⟨43,1,false,none,[dA r.2]⟩]:=by
 unfold D8 at h;refine SO 6 Try.func74 fun cx hG (hz:cx.nb=0)=>?_;simp only[it];refine ST ?_;refine ST ?_;obtain rfl:=oi h;apply AW.ret;refine Left.of (av:=_) (by simp[Try.f74,resV,resC,comp];rfl) ?_;exact zF 0 [some 0,some 1] hz rfl (by decide) rfl (by simp[pickOb,Ab,Af]) (by simp[Ab,Af])
theorem GF:Enters Try.prog 74:=enters Try.func74 (by kernel_rfl) rfl
def CU (n:Nat) (a0:List Span) (a1:List Span):Option (List Span) :=
bn (bn (D8 n a0 a1) fun v2 =>
bn (A3 n v2.1) fun v3 =>
bn (A3 n v2.2) fun v4 =>
bn (iter n (fun (y5:List Span×List Span×List Span) =>
bn (lt (lenI y5.1) fun v9 =>
lt (gtI v9 0) fun v10 =>
ite' v10 (lt (lenI y5.2.1) fun v11 =>
lt (gtI v11 0) fun v12 =>
some (v12)) (some (false))) fun (y8:Bool) =>
lt (y8) fun v13 =>
ite' v13 (bn (nth y5.1 0) fun v14 =>
bn (nth y5.2.1 0) fun v15 =>
lt (maxI v14.frm v15.frm) fun v16 =>
lt (minI v14.to v15.to) fun v17 =>
lt (leI v16 v17) fun v18 =>
ite' v18 (chk (room (y5.2.2.length+1) 16) <|
lt (y5.2.2++[(⟨v16,v17⟩:Span)]) fun v20 =>
lt (ltI v14.to v15.to) fun v21 =>
ite' v21 (bn (segl y5.1 1) fun v22 =>
some (.inl (v22,y5.2.1,v20))) (bn (segl y5.2.1 1) fun v24 =>
some (.inl (y5.1,v24,v20)))) (lt (ltI v14.to v15.to) fun v26 =>
ite' v26 (bn (segl y5.1 1) fun v27 =>
some (.inl (v27,y5.2.1,y5.2.2))) (bn (segl y5.2.1 1) fun v29 =>
some (.inl (y5.1,v29,y5.2.2))))) (some (.inr y5.2.2))) (v3,v4,[])) fun (y6:List Span) =>
some (y6)) fun (y1:List Span) =>
chk (room y1.length 1) <|
bn (A3 n y1) fun v32 =>
some v32
def DX3t1:List DI:=[⟨[0],[],[(4,none)],false⟩,⟨[0],[0],[(18,some 0)],false⟩,⟨[0],[0,1],[(19,some 1)],false⟩,⟨[0],[0,1,2],[(20,some 2)],false⟩,⟨[0],[],[(5,none)],false⟩,⟨[0],[4],[(22,some 4)],false⟩,⟨[0],[4,5],[(23,some 5)],false⟩,⟨[0],[4,5,6],[(24,some 6)],false⟩,⟨[0],[0,1,2,3,4,5,6,7],[(21,some 3),(25,some 7)],false⟩,⟨[0],[],[(4,none)],false⟩,⟨[0],[9],[(27,some 9)],false⟩,⟨[0],[9,10],[(28,some 10)],false⟩,⟨[0],[9,10,11],[(29,some 11)],false⟩,⟨[0],[],[(5,none)],false⟩,⟨[0],[13],[(31,some 13)],false⟩,⟨[0],[13,14],[(32,some 14)],false⟩,⟨[0],[13,14,15],[(33,some 15)],false⟩,⟨[0],[9,10,11,12,13,14,15,16],[(30,some 12),(34,some 16)],false⟩,⟨[0],[0,1,2,3,4,5,6,7,8,9,10,11,12,13,14,15,16,17],[(26,some 8),(35,some 17)],false⟩,⟨[0],[0,1,2,3,4,5,6,7,8,9,10,11,12,13,14,15,16,17,18],[(36,some 18)],false⟩,⟨[0],[0,1,2,3,4,5,6,7,8,9,10,11,12,13,14,15,16,17,18,19],[(0,none),(37,some 19)],false⟩,⟨[0],[0,1,2,3,4,5,6,7,8,9,10,11,12,13,14,15,16,17,18,19],[(4,none),(37,some 19)],false⟩,⟨[0],[0,1,2,3,4,5,6,7,8,9,10,11,12,13,14,15,16,17,18,19,21],[(37,some 19),(39,some 21)],false⟩,⟨[0],[0,1,2,3,4,5,6,7,8,9,10,11,12,13,14,15,16,17,18,19,21,22],[(37,some 19),(40,some 22)],false⟩,⟨[0],[0,1,2,3,4,5,6,7,8,9,10,11,12,13,14,15,16,17,18,19],[(5,none),(37,some 19)],false⟩,⟨[0],[0,1,2,3,4,5,6,7,8,9,10,11,12,13,14,15,16,17,18,19,24],[(37,some 19),(42,some 24)],false⟩,⟨[0],[0,1,2,3,4,5,6,7,8,9,10,11,12,13,14,15,16,17,18,19,24,25],[(37,some 19),(43,some 25)],false⟩,⟨[],[0,1,2,3,4,5,6,7,8,9,10,11,12,13,14,15,16,17,18,19,20,21,22,23,24,25,26],[],false⟩,⟨[],[0,1,2,3,4,5,6,7,8,9,10,11,12,13,14,15,16,17,18,19,20,21,22,23,24,25,26,27],[],false⟩,⟨[],[0,1,2,3,4,5,6,7,8,9,10,11,12,13,14,15,16,17,18,19,20,21,22,23,24,25,26,27,28],[],false⟩]
def DX3t2:List DI:=[⟨[0],[],[(4,none)],false⟩,⟨[0],[0],[(48,some 0)],false⟩,⟨[0],[0,1],[(49,some 1)],false⟩,⟨[0],[0,1,2],[(50,some 2)],false⟩,⟨[0],[],[(5,none)],false⟩,⟨[0],[4],[(52,some 4)],false⟩,⟨[0],[4,5],[(53,some 5)],false⟩,⟨[0],[4,5,6],[(54,some 6)],false⟩,⟨[],[0,1,2,3,4,5,6,7],[],false⟩]
theorem HT {n:Nat} {a0:List Span} {a1:List Span} {r:List Span} (h:CU n a0 a1=some r):Sound Try.prog 57 [.l (dA a0),.l (dA a1)] [] (.l (dA r)) []:=by
 unfold CU at h;refine SO 29 Try.func57 fun cx hG (hz:cx.nb=0)=>?_;simp only[it];refine ST ?_;refine ST ?_;obtain⟨y1,g1,h⟩:=bnE h;refine zD (p:=fun gh ls=>(nP (cx:=cx) (fun q=>(⟨[(5,.l (.p 0 0))],[some ⟨43,1,false,none,[.r 1 2 0 q.length]⟩,some ⟨59,2,true,none,lvs (Ah q)⟩],29,gh,ls⟩:St))) y1) ?_ ?_
 ·replace h:=g1;clear g1
  obtain⟨v2,e2,h⟩:=bnE h;apply AW.step
  ·simp;intros;refine DQ GF (Hm e2) rfl (by simp) ⟨.same rfl,.same rfl,trivial⟩ ?_;try simp
   intros;rfl
  apply AW.block;refine AW.weak (Weak.keep [(5,.l (.p 0 0)),(10,.l (.f 80 [1,2]))] (by simp)) ?_;refine AW.rangeG rfl Try.func80 (by kernel_rfl) rfl (by decide) rfl rfl fun cxI1 yl1 hnI1 hY1=>?_;have hnJ1:cxI1.nb=0:=hnI1.trans hz;simp only[initTm,List.map_cons,List.map_nil];obtain⟨v3,e3,h⟩:=bnE h;obtain⟨v4,e4,h⟩:=bnE h;apply zI (V:=[_,_,_]) mixed [⟨[0],[],[(1,none)],false⟩,⟨[0],[0],[(6,some 0)],false⟩,⟨[0],[],[(2,none)],false⟩,⟨[],[0,1,2],[],false⟩,⟨[],[0,1,2,3],[],false⟩,⟨[],[0,1,2,3,4],[],false⟩] 3 (by kernel_rfl) (by kernel_rfl)
  ·refine⟨?_,?_,?_,trivial⟩
   ·intro tm hr;simp[AllL,rdV] at hr;simp[hr];intros;exact KA
   ·intro tm hr;simp[AllL,rdV] at hr;simp[hr];intros;refine Aj BR (B2 e3) rfl ⟨.same rfl,trivial⟩ ?_;try simp[]
    intros;exact KA
   ·intro tm hr;simp[AllL,rdV] at hr;simp[hr];intros;exact KA
  ·rfl
  ·simp[tmD,putD];rfl
  ·simp;intros;refine Aj BR (B2 e4) rfl ⟨.same rfl,trivial⟩ ?_;try simp[]
   intros;rfl
  apply AW.block;obtain⟨y6,g6,h⟩:=bnE h;refine zE g6 (mk:=fun gh ls q=>(⟨[(0,.l (.s (.func (.yield yl1) #[] #[]))),(4,.l (dA q.1)),(5,.l (dA q.2.1))],[some ⟨43,1,false,none,[.r 3 2 0 q.2.2.length]⟩,some ⟨43,1,false,none,[dA v2.1]⟩,some ⟨43,1,false,none,[dA v2.2]⟩,some ⟨59,2,true,none,lvs (Ah q.2.2)⟩],61,gh,ls⟩:St)) (N:=fun gh ls=>(xP 0 (cx:=cxI1) (fun q=>(⟨[],[some ⟨43,1,false,none,[.r 3 2 0 q.length]⟩,some ⟨43,1,false,none,[dA v2.1]⟩,some ⟨43,1,false,none,[dA v2.2]⟩,some ⟨59,2,true,none,lvs (Ah q)⟩],61,gh,ls⟩:St)))) ?_ noX ?_ ?_
  ·refine W.nilCell 0 0 59 2 3 rfl rfl rfl rfl rfl ?_;refine zA 0 [some 0,some 1,some 2,some 3] hnJ1 (by decide) (by decide) ?_ ?_ ?_;all_goals first|(simp[Ab,Af,pickOb];done)|rfl
  ·clear h;intro y5 y7 h
   apply AW.seq;obtain⟨y8,g8,h⟩:=bnE h;refine zD (p:=fun gh ls=>(nP (cx:=cxI1) (fun q=>(⟨[(0,.l (.s (.func (.yield yl1) #[] #[]))),(4,.l (dA y5.1)),(5,.l (dA y5.2.1)),(17,.l (bA q))],[some ⟨43,1,false,none,[.r 3 2 0 y5.2.2.length]⟩,some ⟨43,1,false,none,[dA v2.1]⟩,some ⟨43,1,false,none,[dA v2.2]⟩,some ⟨59,2,true,none,lvs (Ah y5.2.2)⟩],61,gh,ls⟩:St))) y8) ?_ ?_
   ·replace h:=g8;clear g8
    obtain⟨v9,e9,v10,e10,h⟩:=oll h;cases v10 with
    |true=>
     replace h:=iT h;obtain⟨v11,e11,v12,e12,h⟩:=oll h;refine AW.last (by simp[Ao e9,← e10,Ao e11,← e12];intros;rfl) ?_;obtain rfl:=oi h;refine nP_i ?_;refine zA 0 [some 0,some 1,some 2,some 3] hnJ1 (by decide) (by decide) ?_ ?_ ?_;all_goals first|(simp[Ab,Af,pickOb];done)|rfl
    |false=>
     replace h:=iF h;refine AW.last (by simp[Ao e9,← e10];intros;rfl) ?_;obtain rfl:=oi h;refine nP_i ?_;refine zA 0 [some 0,some 1,some 2,some 3] hnJ1 (by decide) (by decide) ?_ ?_ ?_;all_goals first|(simp[Ab,Af,pickOb];done)|rfl
   ·rintro e s⟨rfl,hw⟩;refine⟨_,hw,?_⟩;try simp only[nm]
    obtain⟨v13,e13,h⟩:=ltE h;rw[← e13];cases v13 with
    |true=>
     replace h:=iT h;refine CT ?_;apply AW.skip;try simp only[nm]
     apply AW.block;apply AW.seq;obtain⟨v14,e14,h⟩:=bnE h;obtain⟨v15,e15,v16,e16,v17,e17,h⟩:=obll h;obtain⟨v18,e18,h⟩:=ltE h;cases v18 with
     |true=>
      replace h:=iT h;apply AW.drawnYP (V:=[_,_,_,_,_,_,_,_,_,_,_,_,_,_,_,_,_,_,_,_,_,_,_,_,_,_,_]) mixed DX3t1 27 (by kernel_rfl) (by kernel_rfl)
      ·refine⟨?_,?_,?_,?_,?_,?_,?_,?_,?_,?_,?_,?_,?_,?_,?_,?_,?_,?_,?_,?_,?_,?_,?_,?_,?_,?_,?_,trivial⟩;iterate 27 (· intro tm hr;simp[AllL,rdV] at hr;simp[hr,(show y5.1[0]?=some v14 from (Aa e14).2),(show y5.2.1[0]?=some v15 from (Aa e15).2),← e16,← e17,← e18];intros;exact KA)
      ·rfl
      ·simp[tmD,putD,(show y5.1[0]?=some v14 from (Aa e14).2),(show y5.2.1[0]?=some v15 from (Aa e15).2),← e16,← e17,← e18];rfl
      apply xopsY.yield hY1 27 27 rfl rfl rfl (by decide)
      ·simp[(show y5.1[0]?=some v14 from (Aa e14).2),(show y5.2.1[0]?=some v15 from (Aa e15).2),← e16,← e17,← e18];intros;rfl
      ·rfl
      ·first|trivial|simp[(show y5.1[0]?=some v14 from (Aa e14).2),(show y5.2.1[0]?=some v15 from (Aa e15).2),← e16,← e17,← e18]
      ·rfl
      ·rfl
      ·simp[puts,(show y5.1[0]?=some v14 from (Aa e14).2),(show y5.2.1[0]?=some v15 from (Aa e15).2),← e16,← e17,← e18];rfl
      intro cxR1 hnR1;have hnS1:cxR1.nb=0:=hnR1.trans hnJ1;refine ST ?_;refine SL ?_;refine⟨rfl,?_⟩;apply AW.block;obtain⟨e19,h⟩:=chkE h;obtain⟨v20,e20,h⟩:=ltE h;apply AW.last
      ·simp[← e16,← e17,← At,← e20,Az e20];intros;refine Bo ?_;try simp[← e16,← e17,← At,← e20,Az e20]
       intros;refine Bv (acc:=Ah y5.2.2) (ys:=Ah [(⟨v16,v17⟩:Span)]) (cap:=none) (k:=1) Dg Df (by simp) (by simp[Ah,lvs]) (Bh _) (by simp) (by simp) (by first|(simp;done)|simpa using (Bm e19).1) ?_;try simp[← e16,← e17,← At,← e20,Az e20]
       intros;rfl
      refine⟨_,_,rfl,?_⟩;refine Dw _ _ _ rfl ?_;simp[puts,(show y5.1[0]?=some v14 from (Aa e14).2),(show y5.2.1[0]?=some v15 from (Aa e15).2),← e16,← e17,← e18];try intros
      unfold KK;refine CF ?_;apply AW.skip;try simp only[nm]
      obtain⟨v21,e21,h⟩:=ltE h;apply zI (V:=[_,_,_,_,_,_,_,_]) mixed DX3t2 8 (by kernel_rfl) (by kernel_rfl)
      ·refine⟨?_,?_,?_,?_,?_,?_,?_,?_,trivial⟩;iterate 8 (· intro tm hr;simp[AllL,rdV] at hr;simp[hr,(show y5.1[0]?=some v14 from (Aa e14).2),(show y5.2.1[0]?=some v15 from (Aa e15).2),← e21];intros;exact KA)
      ·rfl
      ·simp[tmD,putD,(show y5.1[0]?=some v14 from (Aa e14).2),(show y5.2.1[0]?=some v15 from (Aa e15).2),← e21];rfl
      ·simp[(show y5.1[0]?=some v14 from (Aa e14).2),(show y5.2.1[0]?=some v15 from (Aa e15).2),← e21];intros;rfl
      cases v21 with
      |true=>
       replace h:=iT h;refine CT ?_;obtain⟨v22,e22,h⟩:=bnE h;have f23:=DY e22;try simp at f23
       refine AW.last (by simp[f23];intros;rfl) ?_;obtain rfl:=oi h;refine nP_i ?_;refine zA 0 [some 0,some 1,some 2,some 7] hnJ1 (by decide) (by decide) ?_ ?_ ?_;all_goals first|(simp[Ab,Af,pickOb,BF];done)|rfl
      |false=>
       replace h:=iF h;refine CF ?_;obtain⟨v24,e24,h⟩:=bnE h;have f25:=DY e24;try simp at f25
       refine AW.last (by simp[f25];intros;rfl) ?_;obtain rfl:=oi h;refine nP_i ?_;refine zA 0 [some 0,some 1,some 2,some 7] hnJ1 (by decide) (by decide) ?_ ?_ ?_;all_goals first|(simp[Ab,Af,pickOb,BF];done)|rfl
     |false=>
      replace h:=iF h;apply zI (V:=[_,_,_,_,_,_,_,_,_,_,_,_,_,_,_,_,_,_,_,_,_,_,_,_,_,_,_]) mixed DX3t1 27 (by kernel_rfl) (by kernel_rfl)
      ·refine⟨?_,?_,?_,?_,?_,?_,?_,?_,?_,?_,?_,?_,?_,?_,?_,?_,?_,?_,?_,?_,?_,?_,?_,?_,?_,?_,?_,trivial⟩;iterate 27 (· intro tm hr;simp[AllL,rdV] at hr;simp[hr,(show y5.1[0]?=some v14 from (Aa e14).2),(show y5.2.1[0]?=some v15 from (Aa e15).2),← e16,← e17,← e18];intros;exact KA)
      ·rfl
      ·simp[tmD,putD,(show y5.1[0]?=some v14 from (Aa e14).2),(show y5.2.1[0]?=some v15 from (Aa e15).2),← e16,← e17,← e18];rfl
      ·simp[(show y5.1[0]?=some v14 from (Aa e14).2),(show y5.2.1[0]?=some v15 from (Aa e15).2),← e16,← e17,← e18];intros;rfl
      refine CF ?_;apply AW.skip;try simp only[nm]
      obtain⟨v26,e26,h⟩:=ltE h;apply zI (V:=[_,_,_,_,_,_,_,_]) mixed DX3t2 8 (by kernel_rfl) (by kernel_rfl)
      ·refine⟨?_,?_,?_,?_,?_,?_,?_,?_,trivial⟩;iterate 8 (· intro tm hr;simp[AllL,rdV] at hr;simp[hr,(show y5.1[0]?=some v14 from (Aa e14).2),(show y5.2.1[0]?=some v15 from (Aa e15).2),← e26];intros;exact KA)
      ·rfl
      ·simp[tmD,putD,(show y5.1[0]?=some v14 from (Aa e14).2),(show y5.2.1[0]?=some v15 from (Aa e15).2),← e26];rfl
      ·simp[(show y5.1[0]?=some v14 from (Aa e14).2),(show y5.2.1[0]?=some v15 from (Aa e15).2),← e26];intros;rfl
      cases v26 with
      |true=>
       replace h:=iT h;refine CT ?_;obtain⟨v27,e27,h⟩:=bnE h;have f28:=DY e27;try simp at f28
       refine AW.last (by simp[f28];intros;rfl) ?_;obtain rfl:=oi h;refine nP_i ?_;refine zA 0 [some 0,some 1,some 2,some 3] hnJ1 (by decide) (by decide) ?_ ?_ ?_;all_goals first|(simp[Ab,Af,pickOb];done)|rfl
      |false=>
       replace h:=iF h;refine CF ?_;obtain⟨v29,e29,h⟩:=bnE h;have f30:=DY e29;try simp at f30
       refine AW.last (by simp[f30];intros;rfl) ?_;obtain rfl:=oi h;refine nP_i ?_;refine zA 0 [some 0,some 1,some 2,some 3] hnJ1 (by decide) (by decide) ?_ ?_ ?_;all_goals first|(simp[Ab,Af,pickOb];done)|rfl
    |false=>
     replace h:=iF h;refine CF ?_;apply AW.exit;try simp only[nm]
     obtain rfl:=oi h;refine xP_i ?_;refine zA 0 [some 0,some 1,some 2,some 3] hnJ1 (by decide) (by decide) ?_ ?_ ?_;all_goals first|(simp[Ab,Af,pickOb];done)|rfl
  ·rintro e s⟨rfl,hw⟩;refine⟨_,hw,?_⟩;try simp only[nm]
   refine⟨_,_,rfl,?_⟩;try simp only[]
   try simp only[nm]
   obtain rfl:=oi h;exact nP_i (WM [0,3] hz)
 ·rintro e s⟨rfl,hw⟩;refine⟨_,hw,?_⟩;try simp only[nm]
  obtain⟨e31,h⟩:=chkE h;refine FZ 1 59 2 (Bh y1) e31 ?_;obtain⟨v32,e32,h⟩:=bnE h;apply AW.step
  ·simp;intros;refine Aj BR (B2 e32) rfl ⟨.same rfl,trivial⟩ ?_;try simp
   intros;rfl
  obtain rfl:=oi h;apply AW.ret;exact LP hz
theorem Hn:Enters Try.prog 57:=enters Try.func57 (by kernel_rfl) rfl
def Bz (n:Nat) (b1_0:List Span):Option (List Span) :=
bn (bn (A3 n b1_0) fun v2 =>
lt (lenI v2) fun v3 =>
bn (iter n (fun (y4:Int×Int×List Span) =>
lt (ltI y4.2.1 v3) fun v7 =>
ite' v7 (bn (nth v2 y4.2.1) fun v8 =>
lt (ltI y4.1 v8.frm) fun v9 =>
ite' v9 (lt (subI .i64 v8.frm 1) fun v10 =>
chk (room (y4.2.2.length+1) 16) <|
lt (y4.2.2++[(⟨y4.1,v10⟩:Span)]) fun v12 =>
lt (addI .i64 v8.to 1) fun v13 =>
lt (addI .i64 y4.2.1 1) fun v14 =>
some (.inl (v13,v14,v12))) (lt (addI .i64 v8.to 1) fun v15 =>
lt (addI .i64 y4.2.1 1) fun v16 =>
some (.inl (v15,v16,y4.2.2)))) (some (.inr (y4.1,y4.2.2)))) (0,0,[])) fun (y5:Int×List Span) =>
lt (leI y5.1 16383) fun v17 =>
ite' v17 (chk (room (y5.2.length+1) 16) <|
lt (y5.2++[(⟨y5.1,16383⟩:Span)]) fun v19 =>
some (v19)) (some (y5.2))) fun (y1:List Span) =>
chk (room y1.length 1) <|
some y1
theorem Eh {n:Nat} {b1_0:List Span} {r:List Span} (h:Bz n b1_0=some r):Sound Try.prog 75 [.l (.s (.slice none 0 0)),.l (.f 76 [0])] [⟨43,1,false,none,[dA b1_0]⟩] (.l (dA r)) [some ⟨43,1,false,none,[dA b1_0]⟩]:=by
 unfold Bz at h;refine SO 13 Try.func75 fun cx hG (hz:cx.nb=1)=>?_;simp only[it];refine ST ?_;obtain⟨y1,g1,h⟩:=bnE h;refine zD (p:=fun gh ls=>(nP (cx:=cx) (fun q=>(⟨[(2,.l (.p 1 0))],[some ⟨43,1,false,none,[dA b1_0]⟩,some ⟨43,1,false,none,[.r 2 2 0 q.length]⟩,some ⟨59,2,true,none,lvs (Ah q)⟩],13,gh,ls⟩:St))) y1) ?_ ?_
 ·replace h:=g1;clear g1
  refine ST ?_;apply AW.block;refine AW.weak (Weak.keep [(2,.l (.p 1 0)),(6,.l (.f 76 [0]))] (by simp)) ?_;refine AW.rangeG rfl Try.func76 (by kernel_rfl) rfl (by decide) rfl rfl fun cxI1 yl1 hnI1 hY1=>?_;have hnJ1:cxI1.nb=1:=hnI1.trans hz;simp only[initTm,List.map_cons,List.map_nil];refine ST ?_;apply AW.seq;obtain⟨v2,e2,v3,e3,h⟩:=obl h;apply AW.step
  ·simp[Ao e3];intros;refine Aj BR (B2 e2) rfl ⟨.same rfl,trivial⟩ ?_;try simp[Ao e3]
   intros;rfl
  apply AW.block;obtain⟨y5,g5,h⟩:=bnE h;refine zE g5 (mk:=fun gh ls q=>(⟨[(0,.l (.s (.func (.yield yl1) #[] #[]))),(3,.l (iA q.1)),(7,.l (dA v2)),(8,.l (iA v3)),(9,.l (iA q.2.1))],[some ⟨43,1,false,none,[dA b1_0]⟩,some ⟨43,1,false,none,[.r 2 2 0 q.2.2.length]⟩,some ⟨59,2,true,none,lvs (Ah q.2.2)⟩],37,gh,ls⟩:St)) (N:=fun gh ls=>(xP 0 (cx:=cxI1) (fun q=>(⟨[(0,.l (.s (.func (.yield yl1) #[] #[]))),(3,.l (iA q.1))],[some ⟨43,1,false,none,[dA b1_0]⟩,some ⟨43,1,false,none,[.r 2 2 0 q.2.length]⟩,some ⟨59,2,true,none,lvs (Ah q.2)⟩],37,gh,ls⟩:St)))) ?_ noX ?_ ?_
  ·refine W.nilCell 1 0 59 2 2 rfl rfl rfl rfl rfl ?_;refine zA 1 [some 0,some 1,some 2] hnJ1 (by decide) (by decide) ?_ ?_ ?_;all_goals first|(simp[Ab,Af,pickOb];done)|rfl
  ·clear h;intro y4 y6 h
   obtain⟨v7,e7,h⟩:=ltE h;refine AW.step (by simp[← e7];intros;rfl) ?_;apply AW.seq;cases v7 with
   |true=>
    replace h:=iT h;refine CT ?_;apply AW.skip;try simp only[nm]
    apply AW.seq;apply AW.block;obtain⟨v8,e8,h⟩:=bnE h;refine AW.step (by simp[Aa e8];intros;rfl) ?_;apply AW.seq;obtain⟨v9,e9,h⟩:=ltE h;cases v9 with
    |true=>
     replace h:=iT h;obtain⟨v10,e10,h⟩:=ltE h;refine AW.stepYK ?_;apply xopsY.yield hY1 0 11 rfl rfl rfl (by decide)
     ·simp[← e9,← e10];intros;rfl
     ·rfl
     ·first|trivial|simp[← e9,← e10]
     ·rfl
     ·rfl
     ·simp[puts,← e9,← e10];rfl
     intro cxR1 hnR1;have hnS1:cxR1.nb=1:=hnR1.trans hnJ1;refine SL ?_;refine⟨rfl,?_⟩;apply AW.block;obtain⟨e11,h⟩:=chkE h;obtain⟨v12,e12,h⟩:=ltE h;apply AW.last
     ·simp[← At,← e12,Az e12];intros;refine Bo ?_;try simp[← At,← e12,Az e12]
      intros;refine Bv (acc:=Ah y4.2.2) (ys:=Ah [(⟨y4.1,v10⟩:Span)]) (cap:=none) (k:=1) Dg Df (by simp) (by simp[Ah,lvs]) (Bh _) (by simp) (by simp) (by first|(simp;done)|simpa using (Bm e11).1) ?_;try simp[← At,← e12,Az e12]
      intros;rfl
     refine⟨_,_,rfl,?_⟩;refine Dw _ _ _ rfl ?_;simp[puts,← e9,← e10];try intros
     unfold KK;refine CF ?_;apply AW.skip;try simp only[nm]
     obtain⟨v13,e13,h⟩:=ltE h;refine AW.last (by simp[← e13];intros;rfl) ?_;try simp only[nm]
     obtain⟨v14,e14,h⟩:=ltE h;refine AW.last (by simp[← e14];intros;rfl) ?_;obtain rfl:=oi h;refine nP_i ?_;refine zA 1 [some 0,some 1,some 6] hnJ1 (by decide) (by decide) ?_ ?_ ?_;all_goals first|(simp[Ab,Af,pickOb,BF];done)|rfl
    |false=>
     replace h:=iF h;refine AW.step (by simp[← e9];intros;rfl) ?_;refine CF ?_;apply AW.skip;try simp only[nm]
     obtain⟨v15,e15,h⟩:=ltE h;refine AW.last (by simp[← e15];intros;rfl) ?_;try simp only[nm]
     obtain⟨v16,e16,h⟩:=ltE h;refine AW.last (by simp[← e16];intros;rfl) ?_;obtain rfl:=oi h;refine nP_i ?_;refine zA 1 [some 0,some 1,some 2] hnJ1 (by decide) (by decide) ?_ ?_ ?_;all_goals first|(simp[Ab,Af,pickOb];done)|rfl
   |false=>
    replace h:=iF h;refine CF ?_;apply AW.exit;try simp only[nm]
    obtain rfl:=oi h;refine xP_i ?_;refine zA 1 [some 0,some 1,some 2] hnJ1 (by decide) (by decide) ?_ ?_ ?_;all_goals first|(simp[Ab,Af,pickOb];done)|rfl
  ·rintro e s⟨rfl,hw⟩;refine⟨_,hw,?_⟩;try simp only[nm]
   obtain⟨v17,e17,h⟩:=ltE h;refine AW.step (by simp[← e17];intros;rfl) ?_;cases v17 with
   |true=>
    replace h:=iT h;refine CT ?_;refine AW.lastYK ?_;apply xopsY.yield hY1 0 3 rfl rfl rfl (by decide)
    ·simp;intros;rfl
    ·rfl
    ·first|trivial|simp
    ·rfl
    ·rfl
    ·simp[puts];rfl
    intro cxR1 hnR1;have hnS1:cxR1.nb=1:=hnR1.trans hnJ1;refine SL ?_;refine⟨rfl,?_⟩;apply AW.block;obtain⟨e18,h⟩:=chkE h;obtain⟨v19,e19,h⟩:=ltE h;apply AW.last
    ·simp[← At,← e19,Az e19];intros;refine Bo ?_;try simp[← At,← e19,Az e19]
     intros;refine Bv (acc:=Ah y5.2) (ys:=Ah [(⟨y5.1,16383⟩:Span)]) (cap:=none) (k:=1) Dg Df (by simp) (by simp[Ah,lvs]) (Bh _) (by simp) (by simp) (by first|(simp;done)|simpa using (Bm e18).1) ?_;try simp[← At,← e19,Az e19]
     intros;rfl
    refine⟨_,_,rfl,?_⟩;refine Dw _ _ _ rfl ?_;simp[puts];try intros
    unfold KK;refine⟨_,_,rfl,?_⟩;try simp only[]
    try simp only[nm]
    obtain rfl:=oi h;refine nP_i ?_;refine zA 1 [some 0,some 1,some 5] hz (by decide) (by decide) ?_ ?_ ?_;all_goals first|(simp[Ab,Af,pickOb,BF];done)|rfl
   |false=>
    replace h:=iF h;refine CF ?_;apply AW.skip;try simp only[nm]
    refine⟨_,_,rfl,?_⟩;try simp only[]
    try simp only[nm]
    obtain rfl:=oi h;refine nP_i ?_;refine zA 1 [some 0,some 1,some 2] hz (by decide) (by decide) ?_ ?_ ?_;all_goals first|(simp[Ab,Af,pickOb];done)|rfl
 ·rintro e s⟨rfl,hw⟩;refine⟨_,hw,?_⟩;try simp only[nm]
  refine ST ?_;obtain⟨e20,h⟩:=chkE h;refine FZ 2 59 2 (Bh y1) e20 ?_;obtain rfl:=oi h;apply AW.ret;refine Left.of (av:=_) (by simp[Try.f75,resV,resC,comp];rfl) ?_;exact zF 1 [some 0] hz rfl (by decide) rfl (by simp[pickOb,Ab,Af]) (by simp[Ab,Af])
theorem D9:Enters Try.prog 75:=enters Try.func75 (by kernel_rfl) rfl
def Bu (n:Nat) (b0_0:List Span):Option (List Span) :=
bn (Bz n b0_0) fun v1 =>
some v1
theorem Ev {n:Nat} {b0_0:List Span} {r:List Span} (h:Bu n b0_0=some r):Sound Try.prog 58 [.l (.f 76 [0])] [⟨43,1,false,none,[dA b0_0]⟩] (.l (dA r)) [some ⟨43,1,false,none,[dA b0_0]⟩]:=by
 unfold Bu at h;refine SO 5 Try.func58 fun cx hG (hz:cx.nb=1)=>?_;simp only[it];refine ST ?_;obtain⟨v1,e1,h⟩:=bnE h;apply AW.step
 ·simp;intros;refine As [0] D9 (Eh e1) (by decide) (by simp[pickOb,Ab,Af]) rfl rfl (by simp) ⟨.l (.s _),.l (.fn (by simp)),trivial⟩ ?_;try simp
  intros;rfl
 obtain rfl:=oi h;apply AW.ret;refine Left.of (av:=_) (by simp[Try.f58,resV,resC,comp];rfl) ?_;exact zF 1 [some 0] hz rfl (by decide) rfl (by simp[pickOb,Ab,Af]) (by simp[Ab,Af])
theorem Ep:Enters Try.prog 58:=enters Try.func58 (by kernel_rfl) rfl
def CB (n:Nat) (a0:List Span) (a1:List Span):Option (List Span) :=
bn (Eo n a1) fun v1 =>
bn (Bu n v1) fun v2 =>
bn (CU n a0 v2) fun v3 =>
some v3
theorem Ho {n:Nat} {a0:List Span} {a1:List Span} {r:List Span} (h:CB n a0 a1=some r):Sound Try.prog 36 [.l (dA a0),.l (dA a1)] [] (.l (dA r)) []:=by
 unfold CB at h;refine SO 10 Try.func36 fun cx hG (hz:cx.nb=0)=>?_;simp only[it];refine ST ?_;obtain⟨v1,e1,h⟩:=bnE h;obtain⟨v2,e2,h⟩:=bnE h;obtain⟨v3,e3,h⟩:=bnE h;apply AW.step
 ·simp;intros;refine DQ Hl (HS e1) rfl (by simp) ⟨.same rfl,trivial⟩ ?_;try simp
  intros;refine As [0] Ep (Ev e2) (by decide) (by simp[pickOb,Ab,Af]) rfl rfl (by simp) ⟨.l (.fn (by simp)),trivial⟩ ?_;try simp
  intros;refine Aj Hn (HT e3) rfl ⟨.same rfl,.same rfl,trivial⟩ ?_;try simp
  intros;rfl
 obtain rfl:=oi h;apply AW.ret;exact LP hz
theorem GG:Enters Try.prog 36:=enters Try.func36 (by kernel_rfl) rfl
end Go.Proofs.Ytenemndpignaoaa
namespace Go.Proofs.Ytenemndpignaoaa
open Go Go.RowKit
def AP (n:Nat) (a0:Int) (a1:Int):Option Bool :=
bn (bn (Bw n a0) fun v2 =>
ite' v2 (bn (Bw n a1) fun v3 =>
lt (notB v3) fun v4 =>
ite' v4 (some (true)) (lt (ltI a0 a1) fun v5 =>
some (v5))) (lt (ltI a0 a1) fun v6 =>
some (v6))) fun (y1:Bool) =>
some y1
theorem A9 {n:Nat} {a0:Int} {a1:Int} {r:Bool} (h:AP n a0 a1=some r):Sound Try.prog 51 [.l (iA a0),.l (iA a1)] [] (.l (bA r)) []:=by
 unfold AP at h;refine SO 17 Try.func51 fun cx hG (hz:cx.nb=0)=>?_;simp only[it];refine ST ?_;obtain⟨y1,g1,h⟩:=bnE h;refine zD (p:=fun gh ls=>(nP (cx:=cx) (fun q=>(⟨[(4,.l (bA q))],[],17,gh,ls⟩:St))) y1) ?_ ?_
 ·replace h:=g1;clear g1
  obtain⟨v2,e2,h⟩:=bnE h;cases v2 with
  |true=>
   replace h:=iT h;obtain⟨v3,e3,v4,e4,h⟩:=obl h;cases v4 with
   |true=>
    replace h:=iT h;apply AW.last
    ·simp[← e4];intros;refine Aj BK (BO e2) rfl ⟨.same rfl,trivial⟩ ?_;try simp[← e4]
     intros;refine Aj BK (BO e3) rfl ⟨.same rfl,trivial⟩ ?_;try simp[← e4]
     intros;rfl
    obtain rfl:=oi h;exact nP_i (WM [] hz)
   |false=>
    replace h:=iF h;obtain⟨v5,e5,h⟩:=ltE h;apply AW.last
    ·simp[← e4,← e5];intros;refine Aj BK (BO e2) rfl ⟨.same rfl,trivial⟩ ?_;try simp[← e4,← e5]
     intros;refine Aj BK (BO e3) rfl ⟨.same rfl,trivial⟩ ?_;try simp[← e4,← e5]
     intros;rfl
    obtain rfl:=oi h;exact nP_i (WM [] hz)
  |false=>
   replace h:=iF h;obtain⟨v6,e6,h⟩:=ltE h;apply AW.last
   ·simp[← e6];intros;refine Aj BK (BO e2) rfl ⟨.same rfl,trivial⟩ ?_;try simp[← e6]
    intros;rfl
   obtain rfl:=oi h;exact nP_i (WM [] hz)
 ·rintro e s⟨rfl,hw⟩;refine⟨_,hw,?_⟩;try simp only[nm]
  obtain rfl:=oi h;apply AW.ret;exact LP hz
theorem A2:Enters Try.prog 51:=enters Try.func51 (by kernel_rfl) rfl
def Be (n:Nat) (a0:List Int) (a1:Int) (a2:Int):Option (List Int) :=
lt (addI .i64 a1 1) fun v1 =>
bn (iter n (fun (y2:Int×List Int) =>
lt (ltI y2.1 a2) fun v5 =>
ite' v5 (bn (iter n (fun (y6:Int×List Int) =>
bn (lt (gtI y6.1 a1) fun v10 =>
ite' v10 (bn (nth y6.2 y6.1) fun v11 =>
lt (subI .i64 y6.1 1) fun v13 =>
bn (nth y6.2 v13) fun v14 =>
bn (AP n v11 v14) fun v16 =>
some (v16)) (some (false))) fun (y9:Bool) =>
lt (y9) fun v17 =>
ite' v17 (lt (subI .i64 y6.1 1) fun v18 =>
bn (nth y6.2 v18) fun v19 =>
bn (nth y6.2 y6.1) fun v21 =>
lt (y6.2.set y6.1.toNat v19) fun v24 =>
bn (nth v24 v18) fun v29 =>
lt (v24.set v18.toNat v21) fun v31 =>
some (.inl (v18,v31))) (some (.inr y6.2))) (y2.1,y2.2)) fun (y7:List Int) =>
lt (addI .i64 y2.1 1) fun v40 =>
some (.inl (v40,y7))) (some (.inr y2.2))) (v1,a0)) fun (y3:List Int) =>
some y3
def DX4t1:List DI:=[⟨[0],[],[(7,none)],false⟩,⟨[0],[],[(1,none)],false⟩,⟨[0],[0,1],[(16,some 0),(17,some 1)],false⟩,⟨[0],[0,1,2],[(18,some 2)],false⟩,⟨[0],[0,1,2,3],[(0,none),(19,some 3)],false⟩,⟨[0],[0,1,2,3],[(7,none),(19,some 3)],false⟩,⟨[0],[0,1,2,3,4,5],[(19,some 3),(20,some 4),(21,some 5)],false⟩,⟨[0],[0,1,2,3,4,5,6],[(19,some 3),(22,some 6)],false⟩,⟨[0],[0,1,2,3],[(0,none),(19,some 3)],false⟩,⟨[0],[0,1,2,3],[(7,none),(19,some 3)],false⟩,⟨[0],[0,1,2,3,9],[(19,some 3),(25,some 9)],false⟩,⟨[0],[0,1,2,3,8,9,10],[(19,some 3),(24,some 8),(26,some 10)],false⟩,⟨[0],[0,1,2,3,8,9,10,11],[(19,some 3),(27,some 11)],false⟩,⟨[],[0,1,2,3,4,5,6,7,8,9,10,11,12],[],false⟩,⟨[],[0,1,2,3,4,5,6,7,8,9,10,11,12,13],[],false⟩]
theorem DC {n:Nat} {a0:List Int} {a1:Int} {a2:Int} {r:List Int} (h:Be n a0 a1 a2=some r):Sound Try.prog 45 [.l (.r 0 1 0 a0.length),.l (iA a1),.l (iA a2)] [⟨3,1,false,some 0,lvs (encI a0)⟩] (.t []) [some ⟨3,1,false,some 0,lvs (encI r)⟩]:=by
 unfold Be at h;refine SO 49 Try.func45 fun cx hG (hz:cx.nb=1)=>?_;simp only[it];obtain⟨v1,e1,h⟩:=ltE h;refine AW.step (by simp[← e1];intros;rfl) ?_;apply AW.block;obtain⟨y3,g3,h⟩:=bnE h;refine zE g3 (mk:=fun gh ls q=>(⟨[(0,.l (.r 0 1 0 q.2.length)),(1,.l (iA a1)),(2,.l (iA a2)),(6,.l (iA q.1))],[some ⟨3,1,false,some 0,lvs (encI q.2)⟩],49,gh,ls⟩:St)) (N:=fun gh ls=>(xP 0 (cx:=cx) (fun q=>(⟨[],[some ⟨3,1,false,some 0,lvs (encI q)⟩],49,gh,ls⟩:St)))) ?_ noX ?_ ?_
 ·refine zA 1 [some 0] hz (by decide) (by decide) ?_ ?_ ?_;all_goals first|(simp[Ab,Af,pickOb];done)|rfl
 ·clear h;intro y2 y4 h
  apply AW.seq;obtain⟨v5,e5,h⟩:=ltE h;refine AW.step (by simp[← e5];intros;rfl) ?_;cases v5 with
  |true=>
   replace h:=iT h;refine CT ?_;apply AW.skip;try simp only[nm]
   apply AW.seq;apply AW.block;refine ST ?_;apply AW.block;obtain⟨y7,g7,h⟩:=bnE h;refine zE g7 (mk:=fun gh ls q=>(⟨[(0,.l (.r 0 1 0 q.2.length)),(1,.l (iA a1)),(2,.l (iA a2)),(6,.l (iA y2.1)),(7,.l (iA q.1))],[some ⟨3,1,false,some 0,lvs (encI q.2)⟩],49,gh,ls⟩:St)) (N:=fun gh ls=>(xP 2 (cx:=cx) (fun q=>(⟨[(0,.l (.r 0 1 0 q.length)),(1,.l (iA a1)),(2,.l (iA a2)),(6,.l (iA y2.1))],[some ⟨3,1,false,some 0,lvs (encI q)⟩],49,gh,ls⟩:St)))) ?_ noX ?_ ?_
   ·refine zA 1 [some 0] hz (by decide) (by decide) ?_ ?_ ?_;all_goals first|(simp[Ab,Af,pickOb];done)|rfl
   ·clear h;intro y6 y8 h
    apply AW.seq;obtain⟨y9,g9,h⟩:=bnE h;refine zD (p:=fun gh ls=>(nP (cx:=cx) (fun q=>(⟨[(0,.l (.r 0 1 0 y6.2.length)),(1,.l (iA a1)),(2,.l (iA a2)),(6,.l (iA y2.1)),(7,.l (iA y6.1)),(30,.l (bA q))],[some ⟨3,1,false,some 0,lvs (encI y6.2)⟩],49,gh,ls⟩:St))) y9) ?_ ?_
    ·replace h:=g9;clear g9
     obtain⟨v10,e10,h⟩:=ltE h;cases v10 with
     |true=>
      replace h:=iT h;obtain⟨v11,e11,h⟩:=bnE h;have f12:=Ai e11;try simp[← e10,Aa e11] at f12
      obtain⟨v13,e13,v14,e14,h⟩:=olb h;have f15:=Ai e14;try simp[← e10,Aa e11,f12,Ag (Aa e11).2,lvs1,← e13,Aa e14] at f15
      obtain⟨v16,e16,h⟩:=bnE h;apply zH (V:=[_,_,_,_,_,_,_,_,_,_,_,_,_]) mixed DX4t1 13 (by kernel_rfl) (by kernel_rfl)
      ·refine⟨?_,?_,?_,?_,?_,?_,?_,?_,?_,?_,?_,?_,?_,trivial⟩;iterate 13 (· intro tm hr;simp[AllL,rdV] at hr;simp[hr,← e10,Aa e11,f12,Ag (Aa e11).2,lvs1,← e13,Aa e14,f15,Ag (Aa e14).2];intros;exact KA)
      ·rfl
      ·simp[tmD,putD,← e10,Aa e11,f12,Ag (Aa e11).2,lvs1,← e13,Aa e14,f15,Ag (Aa e14).2];rfl
      ·simp[← e10,Aa e11,f12,Ag (Aa e11).2,lvs1,← e13,Aa e14,f15,Ag (Aa e14).2];intros;refine Aj A2 (A9 e16) rfl ⟨.same rfl,.same rfl,trivial⟩ ?_;try simp[← e10,Aa e11,f12,Ag (Aa e11).2,lvs1,← e13,Aa e14,f15,Ag (Aa e14).2]
       intros;rfl
      obtain rfl:=oi h;refine nP_i ?_;refine zA 1 [some 0] hz (by decide) (by decide) ?_ ?_ ?_;all_goals first|(simp[Ab,Af,pickOb];done)|rfl
     |false=>
      replace h:=iF h;apply zH (V:=[_,_,_,_,_,_,_,_,_,_,_,_,_]) mixed DX4t1 13 (by kernel_rfl) (by kernel_rfl)
      ·refine⟨?_,?_,?_,?_,?_,?_,?_,?_,?_,?_,?_,?_,?_,trivial⟩;iterate 13 (· intro tm hr;simp[AllL,rdV] at hr;simp[hr,← e10];intros;exact KA)
      ·rfl
      ·simp[tmD,putD,← e10];rfl
      ·simp[← e10];intros;rfl
      obtain rfl:=oi h;refine nP_i ?_;refine zA 1 [some 0] hz (by decide) (by decide) ?_ ?_ ?_;all_goals first|(simp[Ab,Af,pickOb];done)|rfl
    ·rintro e s⟨rfl,hw⟩;refine⟨_,hw,?_⟩;try simp only[nm]
     obtain⟨v17,e17,h⟩:=ltE h;rw[← e17];cases v17 with
     |true=>
      replace h:=iT h;refine CT ?_;apply AW.skip;try simp only[nm]
      apply AW.seq;apply AW.block;obtain⟨v18,e18,v19,e19,h⟩:=olb h;have f20:=Ai e19;try simp[← e18,Aa e19] at f20
      obtain⟨v21,e21,h⟩:=bnE h;have f22:=Ai e21;try simp[← e18,Aa e19,f20,Ag (Aa e19).2,lvs1,Aa e21] at f22
      have f23:=Ai e21;try simp[← e18,Aa e19,f20,Ag (Aa e19).2,lvs1,Aa e21,f22,Ag (Aa e21).2] at f23
      obtain⟨v24,e24,h⟩:=ltE h;have f25:=AN (Aa e21).2 e24 (cs:=[iA v19]) (by simp) rfl;try simp at f25
      have f26:=f20;try simp only[Ac e24] at f26
      have f27:=f22;try simp only[Ac e24] at f27
      have f28:=f23;try simp only[Ac e24] at f28
      obtain⟨v29,e29,h⟩:=bnE h;have f30:=Ai e29;try simp[← e18,Aa e19,f20,Ag (Aa e19).2,lvs1,Aa e21,f22,Ag (Aa e21).2,f23,Ak (Aa e21).2 (show 1≤1 by decide),f25,f26,f27,f28,Aa e29] at f30
      obtain⟨v31,e31,h⟩:=ltE h;have f32:=AN (Aa e29).2 e31 (cs:=[iA v21]) (by simp) rfl;try simp at f32
      have f33:=f20;try simp only[Ac e31] at f33
      have f34:=f22;try simp only[Ac e31] at f34
      have f35:=f23;try simp only[Ac e31] at f35
      have f36:=f26;try simp only[Ac e31] at f36
      have f37:=f27;try simp only[Ac e31] at f37
      have f38:=f28;try simp only[Ac e31] at f38
      have f39:=f30;try simp only[Ac e31] at f39
      apply zL (V:=[_,_,_,_,_,_,_,_,_,_,_,_,_,_,_,_]) (M:=[[some ⟨3,1,false,some 0,lvs (encI y6.2)⟩],[some ⟨3,1,false,some 0,lvs (encI v24)⟩]]) mixed [⟨[0],[],[(0,none)],false⟩,⟨[0],[],[(7,none)],false⟩,⟨[0,1],[],[(0,none)],false⟩,⟨[0,1],[],[(7,none)],false⟩,⟨[0,1],[3],[(36,some 3)],false⟩,⟨[0],[],[(0,none)],false⟩,⟨[0],[],[(7,none)],false⟩,⟨[0],[6],[(39,some 6)],false⟩,⟨[0],[5,6,7],[(38,some 5),(40,some 7)],false⟩,⟨[0],[5,6,7,8],[(41,some 8)],false⟩,⟨[0],[],[(0,none)],false⟩,⟨[0],[],[(7,none)],false⟩,⟨[0],[10,11],[(43,some 10),(44,some 11)],false⟩,⟨[0],[10,11,12],[(45,some 12)],false⟩,⟨[0],[0,1,5,6,7,8,9,10,11,12,13],[(33,some 0),(34,some 1)],false⟩,⟨[0],[0,1,5,6,7,8,9,10,11,12,13,14],[(42,some 9),(47,some 14)],true⟩,⟨[],[0,1,2,3,4,5,6,7,8,9,10,11,12,13,14,15],[],false⟩,⟨[],[0,1,2,3,4,5,6,7,8,9,10,11,12,13,14,15,16],[],false⟩] 16 1 (by kernel_rfl) (by kernel_rfl)
      ·rfl
      ·refine⟨?_,?_,⟨?_,?_⟩,⟨?_,?_⟩,⟨?_,?_⟩,?_,?_,?_,?_,?_,?_,?_,?_,?_,?_,?_,trivial⟩;iterate 19 (· intro tm hr;simp[AllL,rdV] at hr;simp[hr,← e18,Aa e19,f20,Ag (Aa e19).2,lvs1,Aa e21,f22,Ag (Aa e21).2,f23,Ak (Aa e21).2 (show 1≤1 by decide),f25,f26,f27,f28,Aa e29,f30,Ac e24,Ak (Aa e29).2 (show 1≤1 by decide),f32,f33,f34,f35,f36,f37,f38,f39];intros;exact KA)
      ·rfl
      ·simp[tmD,putD,← e18,Aa e19,f20,Ag (Aa e19).2,lvs1,Aa e21,f22,Ag (Aa e21).2,f23,Ak (Aa e21).2 (show 1≤1 by decide),f25,f26,f27,f28,Aa e29,f30,Ac e24,Ak (Aa e29).2 (show 1≤1 by decide),f32,f33,f34,f35,f36,f37,f38,f39];rfl
      ·simp[← e18,Aa e19,f20,Ag (Aa e19).2,lvs1,Aa e21,f22,Ag (Aa e21).2,f23,Ak (Aa e21).2 (show 1≤1 by decide),f25,f26,f27,f28,Aa e29,f30,Ac e24,Ak (Aa e29).2 (show 1≤1 by decide),f32,f33,f34,f35,f36,f37,f38,f39];intros;rfl
      try simp only[nm]
      refine AW.last (by simp[← e18];intros;rfl) ?_;obtain rfl:=oi h;refine nP_i ?_;refine zA 1 [some 0] hz (by decide) (by decide) ?_ ?_ ?_;all_goals first|(simp[Ab,Af,pickOb,Ac e24,Ac e31];done)|rfl
     |false=>
      replace h:=iF h;refine CF ?_;apply AW.exit;try simp only[nm]
      obtain rfl:=oi h;refine xP_i ?_;refine zA 1 [some 0] hz (by decide) (by decide) ?_ ?_ ?_;all_goals first|(simp[Ab,Af,pickOb];done)|rfl
   ·rintro e s⟨rfl,hw⟩;refine⟨_,hw,?_⟩;try simp only[nm]
    obtain⟨v40,e40,h⟩:=ltE h;refine AW.last (by simp[← e40];intros;rfl) ?_;obtain rfl:=oi h;refine nP_i ?_;refine zA 1 [some 0] hz (by decide) (by decide) ?_ ?_ ?_;all_goals first|(simp[Ab,Af,pickOb];done)|rfl
  |false=>
   replace h:=iF h;refine CF ?_;apply AW.exit;try simp only[nm]
   obtain rfl:=oi h;refine xP_i ?_;refine zA 1 [some 0] hz (by decide) (by decide) ?_ ?_ ?_;all_goals first|(simp[Ab,Af,pickOb];done)|rfl
 ·rintro e s⟨rfl,hw⟩;refine⟨_,hw,?_⟩;try simp only[nm]
  obtain rfl:=oi h;refine Left.of (av:=_) (by simp[Try.f45,resV,resC,comp];rfl) ?_;exact zF 1 [some 0] hz rfl (by decide) rfl (by simp[pickOb,Ab,Af]) (by simp[Ab,Af])
theorem Dr:Enters Try.prog 45:=enters Try.func45 (by kernel_rfl) rfl
def Bg (n:Nat) (a0:List Int) (a1:Int) (a2:Int) (a3:Int):Option (List Int) :=
bn (iter n (fun (y1:Int×List Int) =>
lt (mulI .i64 2 y1.1) fun v4 =>
lt (addI .i64 v4 1) fun v5 =>
lt (geI v5 a2) fun v6 =>
ite' v6 (some (.inr (.inl y1.2))) (bn (bn (lt (addI .i64 v5 1) fun v9 =>
lt (ltI v9 a2) fun v10 =>
ite' v10 (lt (addI .i64 a3 v5) fun v11 =>
bn (nth y1.2 v11) fun v12 =>
lt (addI .i64 v11 1) fun v14 =>
bn (nth y1.2 v14) fun v15 =>
bn (AP n v12 v15) fun v17 =>
some (v17)) (some (false))) fun (y8:Bool) =>
lt (y8) fun v18 =>
ite' v18 (lt (addI .i64 v5 1) fun v19 =>
some (v19)) (some (v5))) fun (y7:Int) =>
lt (addI .i64 a3 y1.1) fun v20 =>
bn (nth y1.2 v20) fun v21 =>
lt (addI .i64 a3 y7) fun v23 =>
bn (nth y1.2 v23) fun v24 =>
bn (AP n v21 v24) fun v26 =>
lt (notB v26) fun v27 =>
ite' v27 (some (.inr (.inr y1.2))) (lt (y1.2.set v20.toNat v24) fun v31 =>
bn (nth v31 v23) fun v36 =>
lt (v31.set v23.toNat v21) fun v38 =>
some (.inl (y7,v38))))) (a1,a0)) fun (y2:(List Int) ⊕ (List Int)) =>
sm y2 (fun y47=>some y47) (fun y48=>some y48)
def DX4t2:List DI:=[⟨[0],[],[(9,none)],false⟩,⟨[0],[0],[(17,some 0)],false⟩,⟨[0],[],[(2,none)],false⟩,⟨[0],[0,1,2],[(18,some 1),(19,some 2)],false⟩,⟨[0],[0,1,2,3],[(20,some 3)],false⟩,⟨[0],[0,1,2,3,4],[(0,none),(21,some 4)],false⟩,⟨[0],[0,1,2,3,4],[(3,none),(21,some 4)],false⟩,⟨[0],[0,1,2,3,4],[(9,none),(21,some 4)],false⟩,⟨[0],[0,1,2,3,4,6,7],[(21,some 4),(23,some 6),(24,some 7)],false⟩,⟨[0],[0,1,2,3,4,5,6,7,8],[(21,some 4),(22,some 5),(25,some 8)],false⟩,⟨[0],[0,1,2,3,4,5,6,7,8,9],[(21,some 4),(26,some 9)],false⟩,⟨[0],[0,1,2,3,4],[(0,none),(21,some 4)],false⟩,⟨[0],[0,1,2,3,4],[(3,none),(21,some 4)],false⟩,⟨[0],[0,1,2,3,4],[(9,none),(21,some 4)],false⟩,⟨[0],[0,1,2,3,4,12,13],[(21,some 4),(29,some 12),(30,some 13)],false⟩,⟨[0],[0,1,2,3,4,12,13,14],[(21,some 4),(31,some 14)],false⟩,⟨[0],[0,1,2,3,4,11,12,13,14,15],[(21,some 4),(28,some 11),(32,some 15)],false⟩,⟨[0],[0,1,2,3,4,11,12,13,14,15,16],[(21,some 4),(33,some 16)],false⟩,⟨[],[0,1,2,3,4,5,6,7,8,9,10,11,12,13,14,15,16,17],[],false⟩,⟨[],[0,1,2,3,4,5,6,7,8,9,10,11,12,13,14,15,16,17,18],[],false⟩]
theorem CC {n:Nat} {a0:List Int} {a1:Int} {a2:Int} {a3:Int} {r:List Int} (h:Bg n a0 a1 a2 a3=some r):Sound Try.prog 65 [.l (.r 0 1 0 a0.length),.l (iA a1),.l (iA a2),.l (iA a3)] [⟨3,1,false,some 0,lvs (encI a0)⟩] (.t []) [some ⟨3,1,false,some 0,lvs (encI r)⟩]:=by
 unfold Bg at h;refine SO 76 Try.func65 fun cx hG (hz:cx.nb=1)=>?_;simp only[it];refine ST ?_;apply AW.block;obtain⟨y2,g2,h⟩:=bnE h;refine zE g2 (mk:=fun gh ls q=>(⟨[(0,.l (.r 0 1 0 q.2.length)),(2,.l (iA a2)),(3,.l (iA a3)),(8,.l (iA q.1))],[some ⟨3,1,false,some 0,lvs (encI q.2)⟩],76,gh,ls⟩:St)) (N:=fun gh ls=>(sp (xP 0 (cx:=cx) (fun q=>(⟨[],[some ⟨3,1,false,some 0,lvs (encI q)⟩],76,gh,ls⟩:St))) (rP (cx:=cx) (P:=Try.prog) Try.f65 (fun q=>.t []) (fun q=>[some ⟨3,1,false,some 0,lvs (encI q)⟩])))) ?_ (noS noX noR) ?_ ?_
 ·refine zA 1 [some 0] hz (by decide) (by decide) ?_ ?_ ?_;all_goals first|(simp[Ab,Af,pickOb];done)|rfl
 ·clear h;intro y1 y3 h
  apply AW.block;obtain⟨v4,e4,v5,e5,h⟩:=oll h;refine AW.step (by simp[← e4,← e5];intros;rfl) ?_;apply AW.seq;obtain⟨v6,e6,h⟩:=ltE h;refine AW.step (by simp[← e6];intros;rfl) ?_;cases v6 with
  |true=>
   replace h:=iT h;refine CT ?_;apply AW.exit;try simp only[nm]
   obtain rfl:=oi h;try simp only[sp_l,sp_r]
   refine xP_i ?_;refine zA 1 [some 0] hz (by decide) (by decide) ?_ ?_ ?_;all_goals first|(simp[Ab,Af,pickOb];done)|rfl
  |false=>
   replace h:=iF h;refine CF ?_;apply AW.skip;try simp only[nm]
   obtain⟨y7,g7,h⟩:=bnE h;refine zD (p:=fun gh ls=>(nP (cx:=cx) (fun q=>(⟨[(0,.l (.r 0 1 0 y1.2.length)),(2,.l (iA a2)),(3,.l (iA a3)),(8,.l (iA y1.1)),(9,.l (iA q))],[some ⟨3,1,false,some 0,lvs (encI y1.2)⟩],76,gh,ls⟩:St))) y7) ?_ ?_
   ·replace h:=g7;clear g7
    obtain⟨y8,g8,h⟩:=bnE h;refine zD (p:=fun gh ls=>(nP (cx:=cx) (fun q=>(⟨[(0,.l (.r 0 1 0 y1.2.length)),(2,.l (iA a2)),(3,.l (iA a3)),(8,.l (iA y1.1)),(9,.l (iA v5)),(36,.l (bA q))],[some ⟨3,1,false,some 0,lvs (encI y1.2)⟩],76,gh,ls⟩:St))) y8) ?_ ?_
    ·replace h:=g8;clear g8
     obtain⟨v9,e9,v10,e10,h⟩:=oll h;cases v10 with
     |true=>
      replace h:=iT h;obtain⟨v11,e11,v12,e12,h⟩:=olb h;have f13:=Ai e12;try simp[← e9,← e10,← e11,Aa e12] at f13
      obtain⟨v14,e14,v15,e15,h⟩:=olb h;have f16:=Ai e15;try simp[← e9,← e10,← e11,Aa e12,f13,Ag (Aa e12).2,lvs1,← e14,Aa e15] at f16
      obtain⟨v17,e17,h⟩:=bnE h;apply zH (V:=[_,_,_,_,_,_,_,_,_,_,_,_,_,_,_,_,_,_]) mixed DX4t2 18 (by kernel_rfl) (by kernel_rfl)
      ·refine⟨?_,?_,?_,?_,?_,?_,?_,?_,?_,?_,?_,?_,?_,?_,?_,?_,?_,?_,trivial⟩;iterate 18 (· intro tm hr;simp[AllL,rdV] at hr;simp[hr,← e9,← e10,← e11,Aa e12,f13,Ag (Aa e12).2,lvs1,← e14,Aa e15,f16,Ag (Aa e15).2];intros;exact KA)
      ·rfl
      ·simp[tmD,putD,← e9,← e10,← e11,Aa e12,f13,Ag (Aa e12).2,lvs1,← e14,Aa e15,f16,Ag (Aa e15).2];rfl
      ·simp[← e9,← e10,← e11,Aa e12,f13,Ag (Aa e12).2,lvs1,← e14,Aa e15,f16,Ag (Aa e15).2];intros;refine Aj A2 (A9 e17) rfl ⟨.same rfl,.same rfl,trivial⟩ ?_;try simp[← e9,← e10,← e11,Aa e12,f13,Ag (Aa e12).2,lvs1,← e14,Aa e15,f16,Ag (Aa e15).2]
       intros;rfl
      obtain rfl:=oi h;refine nP_i ?_;refine zA 1 [some 0] hz (by decide) (by decide) ?_ ?_ ?_;all_goals first|(simp[Ab,Af,pickOb];done)|rfl
     |false=>
      replace h:=iF h;apply zH (V:=[_,_,_,_,_,_,_,_,_,_,_,_,_,_,_,_,_,_]) mixed DX4t2 18 (by kernel_rfl) (by kernel_rfl)
      ·refine⟨?_,?_,?_,?_,?_,?_,?_,?_,?_,?_,?_,?_,?_,?_,?_,?_,?_,?_,trivial⟩;iterate 18 (· intro tm hr;simp[AllL,rdV] at hr;simp[hr,← e9,← e10];intros;exact KA)
      ·rfl
      ·simp[tmD,putD,← e9,← e10];rfl
      ·simp[← e9,← e10];intros;rfl
      obtain rfl:=oi h;refine nP_i ?_;refine zA 1 [some 0] hz (by decide) (by decide) ?_ ?_ ?_;all_goals first|(simp[Ab,Af,pickOb];done)|rfl
    ·rintro e s⟨rfl,hw⟩;refine⟨_,hw,?_⟩;try simp only[nm]
     obtain⟨v18,e18,h⟩:=ltE h;rw[← e18];cases v18 with
     |true=>
      replace h:=iT h;refine CT ?_;obtain⟨v19,e19,h⟩:=ltE h;refine AW.last (by simp[← e19];intros;rfl) ?_;obtain rfl:=oi h;refine nP_i ?_;refine zA 1 [some 0] hz (by decide) (by decide) ?_ ?_ ?_;all_goals first|(simp[Ab,Af,pickOb];done)|rfl
     |false=>
      replace h:=iF h;refine CF ?_;apply AW.skip;try simp only[nm]
      obtain rfl:=oi h;refine nP_i ?_;refine zA 1 [some 0] hz (by decide) (by decide) ?_ ?_ ?_;all_goals first|(simp[Ab,Af,pickOb];done)|rfl
   ·rintro e s⟨rfl,hw⟩;refine⟨_,hw,?_⟩;try simp only[nm]
    apply AW.seq;obtain⟨v20,e20,v21,e21,h⟩:=olb h;have f22:=Ai e21;try simp[← e20,Aa e21] at f22
    obtain⟨v23,e23,v24,e24,h⟩:=olb h;have f25:=Ai e24;try simp[← e20,Aa e21,f22,Ag (Aa e21).2,lvs1,← e23,Aa e24] at f25
    obtain⟨v26,e26,v27,e27,h⟩:=obl h;apply zI (V:=[_,_,_,_,_,_,_,_,_,_,_,_]) mixed [⟨[0],[],[(0,none)],false⟩,⟨[0],[],[(3,none)],false⟩,⟨[0],[],[(8,none)],false⟩,⟨[0],[1,2],[(40,some 1),(41,some 2)],false⟩,⟨[0],[0,1,2,3],[(39,some 0),(42,some 3)],false⟩,⟨[0],[0,1,2,3,4],[(43,some 4)],false⟩,⟨[0],[],[(0,none)],false⟩,⟨[0],[],[(3,none)],false⟩,⟨[0],[],[(9,none)],false⟩,⟨[0],[7,8],[(46,some 7),(47,some 8)],false⟩,⟨[0],[6,7,8,9],[(45,some 6),(48,some 9)],false⟩,⟨[0],[6,7,8,9,10],[(49,some 10)],false⟩,⟨[],[0,1,2,3,4,5,6,7,8,9,10,11],[],false⟩,⟨[],[0,1,2,3,4,5,6,7,8,9,10,11,12],[],false⟩] 12 (by kernel_rfl) (by kernel_rfl)
    ·refine⟨?_,?_,?_,?_,?_,?_,?_,?_,?_,?_,?_,?_,trivial⟩;iterate 12 (· intro tm hr;simp[AllL,rdV] at hr;simp[hr,← e20,Aa e21,f22,Ag (Aa e21).2,lvs1,← e23,Aa e24,f25,Ag (Aa e24).2,← e27];intros;exact KA)
    ·rfl
    ·simp[tmD,putD,← e20,Aa e21,f22,Ag (Aa e21).2,lvs1,← e23,Aa e24,f25,Ag (Aa e24).2,← e27];rfl
    ·simp[← e20,Aa e21,f22,Ag (Aa e21).2,lvs1,← e23,Aa e24,f25,Ag (Aa e24).2,← e27];intros;refine Aj A2 (A9 e26) rfl ⟨.same rfl,.same rfl,trivial⟩ ?_;try simp[← e20,Aa e21,f22,Ag (Aa e21).2,lvs1,← e23,Aa e24,f25,Ag (Aa e24).2,← e27]
     intros;rfl
    cases v27 with
    |true=>
     replace h:=iT h;refine CT ?_;obtain rfl:=oi h;apply AW.ret;try simp only[nm]
     refine rP_i ?_;refine Left.of (av:=_) (by simp[Try.f65,resV,resC,comp];rfl) ?_;exact zF 1 [some 0] hz rfl (by decide) rfl (by simp[pickOb,Ab,Af]) (by simp[Ab,Af])
    |false=>
     replace h:=iF h;refine CF ?_;apply AW.skip;try simp only[nm]
     have f28:=Ai e24;try simp[← e20,← e23,Aa e24] at f28
     have f29:=Ai e21;try simp[← e20,← e23,Aa e24,f28,Ag (Aa e24).2,lvs1,Aa e21] at f29
     have f30:=Ai e21;try simp[← e20,← e23,Aa e24,f28,Ag (Aa e24).2,lvs1,Aa e21,f29,Ag (Aa e21).2] at f30
     obtain⟨v31,e31,h⟩:=ltE h;have f32:=AN (Aa e21).2 e31 (cs:=[iA v24]) (by simp) rfl;try simp at f32
     have f33:=f28;try simp only[Ac e31] at f33
     have f34:=f29;try simp only[Ac e31] at f34
     have f35:=f30;try simp only[Ac e31] at f35
     obtain⟨v36,e36,h⟩:=bnE h;have f37:=Ai e36;try simp[← e20,← e23,Aa e24,f28,Ag (Aa e24).2,lvs1,Aa e21,f29,Ag (Aa e21).2,f30,Ak (Aa e21).2 (show 1≤1 by decide),f32,f33,f34,f35,Aa e36] at f37
     obtain⟨v38,e38,h⟩:=ltE h;have f39:=AN (Aa e36).2 e38 (cs:=[iA v21]) (by simp) rfl;try simp at f39
     have f40:=f28;try simp only[Ac e38] at f40
     have f41:=f29;try simp only[Ac e38] at f41
     have f42:=f30;try simp only[Ac e38] at f42
     have f43:=f33;try simp only[Ac e38] at f43
     have f44:=f34;try simp only[Ac e38] at f44
     have f45:=f35;try simp only[Ac e38] at f45
     have f46:=f37;try simp only[Ac e38] at f46
     apply zJ (V:=[_,_,_,_,_,_,_,_,_,_,_,_,_,_,_,_,_,_,_,_,_,_]) (M:=[[some ⟨3,1,false,some 0,lvs (encI y1.2)⟩],[some ⟨3,1,false,some 0,lvs (encI v31)⟩]]) mixed [⟨[0],[],[(0,none)],false⟩,⟨[0],[],[(3,none)],false⟩,⟨[0],[],[(8,none)],false⟩,⟨[0],[1,2],[(54,some 1),(55,some 2)],false⟩,⟨[0,1],[],[(0,none)],false⟩,⟨[0,1],[],[(3,none)],false⟩,⟨[0,1],[],[(9,none)],false⟩,⟨[0,1],[5,6],[(58,some 5),(59,some 6)],false⟩,⟨[0],[],[(0,none)],false⟩,⟨[0],[],[(3,none)],false⟩,⟨[0],[],[(9,none)],false⟩,⟨[0],[9,10],[(62,some 9),(63,some 10)],false⟩,⟨[0],[8,9,10,11],[(61,some 8),(64,some 11)],false⟩,⟨[0],[8,9,10,11,12],[(65,some 12)],false⟩,⟨[0],[],[(0,none)],false⟩,⟨[0],[],[(3,none)],false⟩,⟨[0],[],[(8,none)],false⟩,⟨[0],[15,16],[(68,some 15),(69,some 16)],false⟩,⟨[0],[14,15,16,17],[(67,some 14),(70,some 17)],false⟩,⟨[0],[14,15,16,17,18],[(71,some 18)],false⟩,⟨[0],[0,1,2,3,8,9,10,11,12,13,14,15,16,17,18,19],[(53,some 0),(56,some 3)],false⟩,⟨[0],[0,1,2,3,8,9,10,11,12,13,14,15,16,17,18,19,20],[(66,some 13),(73,some 20)],true⟩,⟨[],[0,1,2,3,4,5,6,7,8,9,10,11,12,13,14,15,16,17,18,19,20,21],[],false⟩,⟨[],[0,1,2,3,4,5,6,7,8,9,10,11,12,13,14,15,16,17,18,19,20,21,22],[],false⟩] 22 1 (by kernel_rfl) (by kernel_rfl)
     ·rfl
     ·refine⟨?_,?_,?_,?_,⟨?_,?_⟩,⟨?_,?_⟩,⟨?_,?_⟩,⟨?_,?_⟩,?_,?_,?_,?_,?_,?_,?_,?_,?_,?_,?_,?_,?_,?_,trivial⟩;iterate 26 (· intro tm hr;simp[AllL,rdV] at hr;simp[hr,← e20,← e23,Aa e24,f28,Ag (Aa e24).2,lvs1,Aa e21,f29,Ag (Aa e21).2,f30,Ak (Aa e21).2 (show 1≤1 by decide),f32,f33,f34,f35,Aa e36,f37,Ac e31,Ak (Aa e36).2 (show 1≤1 by decide),f39,f40,f41,f42,f43,f44,f45,f46];intros;exact KA)
     ·rfl
     ·simp[tmD,putD,← e20,← e23,Aa e24,f28,Ag (Aa e24).2,lvs1,Aa e21,f29,Ag (Aa e21).2,f30,Ak (Aa e21).2 (show 1≤1 by decide),f32,f33,f34,f35,Aa e36,f37,Ac e31,Ak (Aa e36).2 (show 1≤1 by decide),f39,f40,f41,f42,f43,f44,f45,f46];rfl
     ·simp[← e20,← e23,Aa e24,f28,Ag (Aa e24).2,lvs1,Aa e21,f29,Ag (Aa e21).2,f30,Ak (Aa e21).2 (show 1≤1 by decide),f32,f33,f34,f35,Aa e36,f37,Ac e31,Ak (Aa e36).2 (show 1≤1 by decide),f39,f40,f41,f42,f43,f44,f45,f46];intros;rfl
     refine SL ?_;obtain rfl:=oi h;refine nP_i ?_;refine zA 1 [some 0] hz (by decide) (by decide) ?_ ?_ ?_;all_goals first|(simp[Ab,Af,pickOb,Ac e31,Ac e38];done)|rfl
 ·rintro e s hp;rcases y2 with y47|y48
  ·replace h:=smL h;obtain⟨rfl,hw⟩:=hp;refine⟨_,hw,?_⟩;try simp only[nm]
   obtain rfl:=oi h;refine Left.of (av:=_) (by simp[Try.f65,resV,resC,comp];rfl) ?_;exact zF 1 [some 0] hz rfl (by decide) rfl (by simp[pickOb,Ab,Af]) (by simp[Ab,Af])
  ·replace h:=smR h;obtain⟨rfl,hl⟩:=hp;refine⟨_,Weak.refl _,?_⟩;obtain rfl:=oi h;exact hl
theorem Cu:Enters Try.prog 65:=enters Try.func65 (by kernel_rfl) rfl
def Bp (n:Nat) (a0:List Int) (a1:Int) (a2:Int):Option (List Int) :=
lt (subI .i64 a2 a1) fun v1 =>
lt (subI .i64 v1 1) fun v2 =>
bn (quoI .i64 v2 2) fun v3 =>
bn (iter n (fun (y4:Int×List Int) =>
lt (geI y4.1 0) fun v7 =>
ite' v7 (bn (Bg n y4.2 y4.1 v1 a1) fun v8 =>
chk (lenB v8 y4.2) <|
lt (subI .i64 y4.1 1) fun v10 =>
some (.inl (v10,v8))) (some (.inr y4.2))) (v3,a0)) fun (y5:List Int) =>
lt (subI .i64 v1 1) fun v11 =>
bn (iter n (fun (y12:Int×List Int) =>
lt (geI y12.1 0) fun v15 =>
ite' v15 (lt (addI .i64 a1 y12.1) fun v16 =>
bn (nth y12.2 v16) fun v17 =>
bn (nth y12.2 a1) fun v19 =>
lt (y12.2.set a1.toNat v17) fun v22 =>
bn (nth v22 v16) fun v27 =>
lt (v22.set v16.toNat v19) fun v29 =>
bn (Bg n v29 0 y12.1 a1) fun v38 =>
chk (lenB v38 v29) <|
lt (subI .i64 y12.1 1) fun v40 =>
some (.inl (v40,v38))) (some (.inr y12.2))) (v11,y5)) fun (y13:List Int) =>
some y13
theorem Ea {n:Nat} {a0:List Int} {a1:Int} {a2:Int} {r:List Int} (h:Bp n a0 a1 a2=some r):Sound Try.prog 46 [.l (.r 0 1 0 a0.length),.l (iA a1),.l (iA a2)] [⟨3,1,false,some 0,lvs (encI a0)⟩] (.t []) [some ⟨3,1,false,some 0,lvs (encI r)⟩]:=by
 unfold Bp at h;refine SO 56 Try.func46 fun cx hG (hz:cx.nb=1)=>?_;simp only[it];refine ST ?_;refine ST ?_;obtain⟨v1,e1,h⟩:=ltE h;refine AW.step (by simp[← e1];intros;rfl) ?_;apply AW.seq;obtain⟨v2,e2,v3,e3,h⟩:=olb h;refine AW.step (by simp[← e2,e3];intros;rfl) ?_;apply AW.block;obtain⟨y5,g5,h⟩:=bnE h;refine zE g5 (mk:=fun gh ls q=>(⟨[(0,.l (.r 0 1 0 q.2.length)),(6,.l (iA a1)),(7,.l (iA 0)),(8,.l (iA v1)),(9,.l (iA q.1))],[some ⟨3,1,false,some 0,lvs (encI q.2)⟩],56,gh,ls⟩:St)) (N:=fun gh ls=>(xP 0 (cx:=cx) (fun q=>(⟨[(0,.l (.r 0 1 0 q.length)),(6,.l (iA a1)),(7,.l (iA 0)),(8,.l (iA v1))],[some ⟨3,1,false,some 0,lvs (encI q)⟩],56,gh,ls⟩:St)))) ?_ noX ?_ ?_
 ·refine zA 1 [some 0] hz (by decide) (by decide) ?_ ?_ ?_;all_goals first|(simp[Ab,Af,pickOb];done)|rfl
 ·clear h;intro y4 y6 h
  apply AW.seq;obtain⟨v7,e7,h⟩:=ltE h;refine AW.step (by simp[← e7];intros;rfl) ?_;cases v7 with
  |true=>
   replace h:=iT h;refine CT ?_;apply AW.skip;try simp only[nm]
   apply AW.seq;apply AW.block;obtain⟨v8,e8,e9,h⟩:=obc h;apply AW.last
   ·simp;intros;refine As [0] Cu (CC e8) (by decide) (by simp[pickOb,Ab,Af]) rfl rfl (by simp) ⟨.l (.own' (by simp[Ab,Af]) (by simp)),.l (.s _),.l (.s _),.l (.s _),trivial⟩ ?_;try simp
    intros;rfl
   try simp only[nm]
   obtain⟨v10,e10,h⟩:=ltE h;refine AW.last (by simp[← e10];intros;rfl) ?_;obtain rfl:=oi h;refine nP_i ?_;refine zA 1 [some 0] hz (by decide) (by decide) ?_ ?_ ?_;all_goals first|(simp[Ab,Af,pickOb,Am e9];done)|rfl
  |false=>
   replace h:=iF h;refine CF ?_;apply AW.exit;try simp only[nm]
   obtain rfl:=oi h;refine xP_i ?_;refine zA 1 [some 0] hz (by decide) (by decide) ?_ ?_ ?_;all_goals first|(simp[Ab,Af,pickOb];done)|rfl
 ·rintro e s⟨rfl,hw⟩;refine⟨_,hw,?_⟩;try simp only[nm]
  obtain⟨v11,e11,h⟩:=ltE h;refine AW.step (by simp[← e11];intros;rfl) ?_;apply AW.block;obtain⟨y13,g13,h⟩:=bnE h;refine zE g13 (mk:=fun gh ls q=>(⟨[(0,.l (.r 0 1 0 q.2.length)),(6,.l (iA a1)),(7,.l (iA 0)),(10,.l (iA q.1))],[some ⟨3,1,false,some 0,lvs (encI q.2)⟩],56,gh,ls⟩:St)) (N:=fun gh ls=>(xP 2 (cx:=cx) (fun q=>(⟨[],[some ⟨3,1,false,some 0,lvs (encI q)⟩],56,gh,ls⟩:St)))) ?_ noX ?_ ?_
  ·refine zA 1 [some 0] hz (by decide) (by decide) ?_ ?_ ?_;all_goals first|(simp[Ab,Af,pickOb];done)|rfl
  ·clear h;intro y12 y14 h
   apply AW.seq;obtain⟨v15,e15,h⟩:=ltE h;refine AW.step (by simp[← e15];intros;rfl) ?_;cases v15 with
   |true=>
    replace h:=iT h;refine CT ?_;apply AW.skip;try simp only[nm]
    apply AW.seq;apply AW.block;obtain⟨v16,e16,v17,e17,h⟩:=olb h;have f18:=Ai e17;try simp[← e16,Aa e17] at f18
    obtain⟨v19,e19,h⟩:=bnE h;have f20:=Ai e19;try simp[← e16,Aa e17,f18,Ag (Aa e17).2,lvs1,Aa e19] at f20
    have f21:=Ai e19;try simp[← e16,Aa e17,f18,Ag (Aa e17).2,lvs1,Aa e19,f20,Ag (Aa e19).2] at f21
    obtain⟨v22,e22,h⟩:=ltE h;have f23:=AN (Aa e19).2 e22 (cs:=[iA v17]) (by simp) rfl;try simp at f23
    have f24:=f18;try simp only[Ac e22] at f24
    have f25:=f20;try simp only[Ac e22] at f25
    have f26:=f21;try simp only[Ac e22] at f26
    obtain⟨v27,e27,h⟩:=bnE h;have f28:=Ai e27;try simp[← e16,Aa e17,f18,Ag (Aa e17).2,lvs1,Aa e19,f20,Ag (Aa e19).2,f21,Ak (Aa e19).2 (show 1≤1 by decide),f23,f24,f25,f26,Aa e27] at f28
    obtain⟨v29,e29,h⟩:=ltE h;have f30:=AN (Aa e27).2 e29 (cs:=[iA v19]) (by simp) rfl;try simp at f30
    have f31:=f18;try simp only[Ac e29] at f31
    have f32:=f20;try simp only[Ac e29] at f32
    have f33:=f21;try simp only[Ac e29] at f33
    have f34:=f24;try simp only[Ac e29] at f34
    have f35:=f25;try simp only[Ac e29] at f35
    have f36:=f26;try simp only[Ac e29] at f36
    have f37:=f28;try simp only[Ac e29] at f37
    apply zJ (V:=[_,_,_,_,_,_,_,_,_,_,_,_,_,_,_,_,_,_]) (M:=[[some ⟨3,1,false,some 0,lvs (encI y12.2)⟩],[some ⟨3,1,false,some 0,lvs (encI v22)⟩]]) mixed [⟨[0],[],[(0,none)],false⟩,⟨[0],[],[(6,none)],false⟩,⟨[0,1],[],[(0,none)],false⟩,⟨[0,1],[],[(6,none)],false⟩,⟨[0,1],[],[(10,none)],false⟩,⟨[0,1],[3,4],[(36,some 3),(37,some 4)],false⟩,⟨[0],[],[(0,none)],false⟩,⟨[0],[],[(6,none)],false⟩,⟨[0],[],[(10,none)],false⟩,⟨[0],[7,8],[(40,some 7),(41,some 8)],false⟩,⟨[0],[6,7,8,9],[(39,some 6),(42,some 9)],false⟩,⟨[0],[6,7,8,9,10],[(43,some 10)],false⟩,⟨[0],[],[(0,none)],false⟩,⟨[0],[],[(6,none)],false⟩,⟨[0],[12,13],[(45,some 12),(46,some 13)],false⟩,⟨[0],[12,13,14],[(47,some 14)],false⟩,⟨[0],[0,1,6,7,8,9,10,11,12,13,14,15],[(33,some 0),(34,some 1)],false⟩,⟨[0],[0,1,6,7,8,9,10,11,12,13,14,15,16],[(44,some 11),(49,some 16)],true⟩,⟨[],[0,1,2,3,4,5,6,7,8,9,10,11,12,13,14,15,16,17],[],false⟩,⟨[],[0,1,2,3,4,5,6,7,8,9,10,11,12,13,14,15,16,17,18],[],false⟩] 18 1 (by kernel_rfl) (by kernel_rfl)
    ·rfl
    ·refine⟨?_,?_,⟨?_,?_⟩,⟨?_,?_⟩,⟨?_,?_⟩,⟨?_,?_⟩,?_,?_,?_,?_,?_,?_,?_,?_,?_,?_,?_,?_,trivial⟩;iterate 22 (· intro tm hr;simp[AllL,rdV] at hr;simp[hr,← e16,Aa e17,f18,Ag (Aa e17).2,lvs1,Aa e19,f20,Ag (Aa e19).2,f21,Ak (Aa e19).2 (show 1≤1 by decide),f23,f24,f25,f26,Aa e27,f28,Ac e22,Ak (Aa e27).2 (show 1≤1 by decide),f30,f31,f32,f33,f34,f35,f36,f37];intros;exact KA)
    ·rfl
    ·simp[tmD,putD,← e16,Aa e17,f18,Ag (Aa e17).2,lvs1,Aa e19,f20,Ag (Aa e19).2,f21,Ak (Aa e19).2 (show 1≤1 by decide),f23,f24,f25,f26,Aa e27,f28,Ac e22,Ak (Aa e27).2 (show 1≤1 by decide),f30,f31,f32,f33,f34,f35,f36,f37];rfl
    ·simp[← e16,Aa e17,f18,Ag (Aa e17).2,lvs1,Aa e19,f20,Ag (Aa e19).2,f21,Ak (Aa e19).2 (show 1≤1 by decide),f23,f24,f25,f26,Aa e27,f28,Ac e22,Ak (Aa e27).2 (show 1≤1 by decide),f30,f31,f32,f33,f34,f35,f36,f37];intros;rfl
    obtain⟨v38,e38,e39,h⟩:=obc h;apply AW.last
    ·simp[Ac e22,Ac e29];intros;refine As [0] Cu (CC e38) (by decide) (by simp[pickOb,Ab,Af]) rfl rfl (by simp) ⟨.l (.own' (by simp[Ab,Af]) (by simp[Ac e22,Ac e29])),.l (.s _),.l (.s _),.l (.s _),trivial⟩ ?_;try simp[Ac e22,Ac e29]
     intros;rfl
    try simp only[nm]
    obtain⟨v40,e40,h⟩:=ltE h;refine AW.last (by simp[← e40];intros;rfl) ?_;obtain rfl:=oi h;refine nP_i ?_;refine zA 1 [some 0] hz (by decide) (by decide) ?_ ?_ ?_;all_goals first|(simp[Ab,Af,pickOb,Am e39,Ac e22,Ac e29];done)|rfl
   |false=>
    replace h:=iF h;refine CF ?_;apply AW.exit;try simp only[nm]
    obtain rfl:=oi h;refine xP_i ?_;refine zA 1 [some 0] hz (by decide) (by decide) ?_ ?_ ?_;all_goals first|(simp[Ab,Af,pickOb];done)|rfl
  ·rintro e s⟨rfl,hw⟩;refine⟨_,hw,?_⟩;try simp only[nm]
   obtain rfl:=oi h;refine Left.of (av:=_) (by simp[Try.f46,resV,resC,comp];rfl) ?_;exact zF 1 [some 0] hz rfl (by decide) rfl (by simp[pickOb,Ab,Af]) (by simp[Ab,Af])
theorem D1:Enters Try.prog 46:=enters Try.func46 (by kernel_rfl) rfl
def A4 (n:Nat) (a0:List Int) (a1:Int) (a2:Int) (a3:Int):Option (Int×Int×List Int×Int) :=
bn (nth a0 a2) fun v1 =>
bn (nth a0 a1) fun v3 =>
bn (AP n v1 v3) fun v5 =>
ite' v5 (lt (addI .i64 a3 1) fun v6 =>
some (a2,a1,a0,v6)) (some (a1,a2,a0,a3))
theorem B8 {n:Nat} {a0:List Int} {a1:Int} {a2:Int} {a3:Int} {r:Int×Int×List Int×Int} (h:A4 n a0 a1 a2 a3=some r):Sound Try.prog 78 [.l (.r 0 1 0 a0.length),.l (iA a1),.l (iA a2),.l (.p 1 0)] [⟨3,1,false,some 0,lvs (encI a0)⟩,⟨3,1,false,none,[iA a3]⟩] (.t [(false,[iA r.1]),(false,[iA r.2.1])]) [some ⟨3,1,false,some 0,lvs (encI r.2.2.1)⟩,some ⟨3,1,false,none,[iA r.2.2.2]⟩]:=by
 unfold A4 at h;refine SO 28 Try.func78 fun cx hG (hz:cx.nb=2)=>?_;simp only[it];refine ST ?_;apply AW.seq;obtain⟨v1,e1,h⟩:=bnE h;have f2:=Ai e1;try simp[Aa e1] at f2
 obtain⟨v3,e3,h⟩:=bnE h;have f4:=Ai e3;try simp[Aa e1,f2,Ag (Aa e1).2,lvs1,Aa e3] at f4
 obtain⟨v5,e5,h⟩:=bnE h;apply zI (V:=[_,_,_,_,_,_,_,_]) mixed [⟨[0],[],[(0,none)],false⟩,⟨[0],[],[(2,none)],false⟩,⟨[0],[0,1],[(10,some 0),(11,some 1)],false⟩,⟨[0],[0,1,2],[(12,some 2)],false⟩,⟨[0],[],[(0,none)],false⟩,⟨[0],[],[(1,none)],false⟩,⟨[0],[4,5],[(14,some 4),(15,some 5)],false⟩,⟨[0],[4,5,6],[(16,some 6)],false⟩,⟨[],[0,1,2,3,4,5,6,7],[],false⟩] 8 (by kernel_rfl) (by kernel_rfl)
 ·refine⟨?_,?_,?_,?_,?_,?_,?_,?_,trivial⟩;iterate 8 (· intro tm hr;simp[AllL,rdV] at hr;simp[hr,Aa e1,f2,Ag (Aa e1).2,lvs1,Aa e3,f4,Ag (Aa e3).2];intros;exact KA)
 ·rfl
 ·simp[tmD,putD,Aa e1,f2,Ag (Aa e1).2,lvs1,Aa e3,f4,Ag (Aa e3).2];rfl
 ·simp[Aa e1,f2,Ag (Aa e1).2,lvs1,Aa e3,f4,Ag (Aa e3).2];intros;refine Aj A2 (A9 e5) rfl ⟨.same rfl,.same rfl,trivial⟩ ?_;try simp[Aa e1,f2,Ag (Aa e1).2,lvs1,Aa e3,f4,Ag (Aa e3).2]
  intros;rfl
 cases v5 with
 |true=>
  replace h:=iT h;refine CT ?_;obtain⟨v6,e6,h⟩:=ltE h;refine AW.step (by simp[← e6];intros;rfl) ?_;refine ST ?_;obtain rfl:=oi h;apply AW.ret;refine Left.of (av:=_) (by simp[Try.f78,resV,resC,comp];rfl) ?_;exact zF 2 [some 0,some 1] hz rfl (by decide) rfl (by simp[pickOb,Ab,Af]) (by simp[Ab,Af])
 |false=>
  replace h:=iF h;refine CF ?_;apply AW.skip;try simp only[nm]
  refine ST ?_;obtain rfl:=oi h;apply AW.ret;refine Left.of (av:=_) (by simp[Try.f78,resV,resC,comp];rfl) ?_;exact zF 2 [some 0,some 1] hz rfl (by decide) rfl (by simp[pickOb,Ab,Af]) (by simp[Ab,Af])
theorem B3:Enters Try.prog 78:=enters Try.func78 (by kernel_rfl) rfl
def Bl (n:Nat) (a0:List Int) (a1:Int) (a2:Int) (a3:Int) (a4:Int):Option (Int×List Int×Int) :=
bn (A4 n a0 a1 a2 a4) fun v1 =>
chk (lenB v1.2.2.1 a0) <|
bn (A4 n v1.2.2.1 v1.2.1 a3 v1.2.2.2) fun v3 =>
chk (lenB v3.2.2.1 v1.2.2.1) <|
bn (A4 n v3.2.2.1 v1.1 v3.1 v3.2.2.2) fun v5 =>
chk (lenB v5.2.2.1 v3.2.2.1) <|
some (v5.2.1,v5.2.2.1,v5.2.2.2)
theorem CW {n:Nat} {a0:List Int} {a1:Int} {a2:Int} {a3:Int} {a4:Int} {r:Int×List Int×Int} (h:Bl n a0 a1 a2 a3 a4=some r):Sound Try.prog 69 [.l (.r 0 1 0 a0.length),.l (iA a1),.l (iA a2),.l (iA a3),.l (.p 1 0)] [⟨3,1,false,some 0,lvs (encI a0)⟩,⟨3,1,false,none,[iA a4]⟩] (.l (iA r.1)) [some ⟨3,1,false,some 0,lvs (encI r.2.1)⟩,some ⟨3,1,false,none,[iA r.2.2]⟩]:=by
 unfold Bl at h;refine SO 36 Try.func69 fun cx hG (hz:cx.nb=2)=>?_;simp only[it];refine ST ?_;obtain⟨v1,e1,e2,h⟩:=obc h;apply AW.step
 ·simp;intros;refine As [0,1] B3 (B8 e1) (by decide) (by simp[pickOb,Ab,Af]) rfl rfl (by simp) ⟨.l (.own' (by simp[Ab,Af]) (by simp)),.l (.s _),.l (.s _),.l (ptrV (by simp[Ab,Af])),trivial⟩ ?_;try simp
  intros;rfl
 obtain⟨v3,e3,e4,h⟩:=obc h;apply AW.step
 ·simp[Am e2];intros;refine As [0,1] B3 (B8 e3) (by decide) (by simp[pickOb,Ab,Af]) rfl rfl (by simp) ⟨.l (.own' (by simp[Ab,Af]) (by simp[Am e2])),.l (.s _),.l (.s _),.l (ptrV (by simp[Ab,Af])),trivial⟩ ?_;try simp[Am e2]
  intros;rfl
 obtain⟨v5,e5,e6,h⟩:=obc h;apply AW.step
 ·simp[Am e2,Am e4];intros;refine As [0,1] B3 (B8 e5) (by decide) (by simp[pickOb,Ab,Af]) rfl rfl (by simp) ⟨.l (.own' (by simp[Ab,Af]) (by simp[Am e2,Am e4])),.l (.s _),.l (.s _),.l (ptrV (by simp[Ab,Af])),trivial⟩ ?_;try simp[Am e2,Am e4]
  intros;rfl
 refine ST ?_;obtain rfl:=oi h;apply AW.ret;refine Left.of (av:=_) (by simp[Try.f69,resV,resC,comp];rfl) ?_;exact zF 2 [some 0,some 1] hz rfl (by decide) rfl (by simp[pickOb,Ab,Af,Am e2,Am e4,Am e6]) (by simp[Ab,Af,Am e2,Am e4,Am e6])
theorem CI:Enters Try.prog 69:=enters Try.func69 (by kernel_rfl) rfl
def Ba (n:Nat) (a0:List Int) (a1:Int) (a2:Int):Option (Int×List Int×Int) :=
lt (subI .i64 a1 1) fun v1 =>
lt (addI .i64 a1 1) fun v2 =>
bn (Bl n a0 v1 a1 v2 a2) fun v3 =>
chk (lenB v3.2.1 a0) <|
some (v3.1,v3.2.1,v3.2.2)
theorem BD {n:Nat} {a0:List Int} {a1:Int} {a2:Int} {r:Int×List Int×Int} (h:Ba n a0 a1 a2=some r):Sound Try.prog 68 [.l (.r 0 1 0 a0.length),.l (iA a1),.l (.p 1 0)] [⟨3,1,false,some 0,lvs (encI a0)⟩,⟨3,1,false,none,[iA a2]⟩] (.l (iA r.1)) [some ⟨3,1,false,some 0,lvs (encI r.2.1)⟩,some ⟨3,1,false,none,[iA r.2.2]⟩]:=by
 unfold Ba at h;refine SO 15 Try.func68 fun cx hG (hz:cx.nb=2)=>?_;simp only[it];refine ST ?_;obtain⟨v1,e1,v2,e2,h⟩:=oll h;obtain⟨v3,e3,e4,h⟩:=obc h;apply AW.step
 ·simp[← e1,← e2];intros;refine As [0,1] CI (CW e3) (by decide) (by simp[pickOb,Ab,Af]) rfl rfl (by simp) ⟨.l (.own' (by simp[Ab,Af]) (by simp)),.l (.s _),.l (.s _),.l (.s _),.l (ptrV (by simp[Ab,Af])),trivial⟩ ?_;try simp[← e1,← e2]
  intros;rfl
 obtain rfl:=oi h;apply AW.ret;refine Left.of (av:=_) (by simp[Try.f68,resV,resC,comp];rfl) ?_;exact zF 2 [some 0,some 1] hz rfl (by decide) rfl (by simp[pickOb,Ab,Af,Am e4]) (by simp[Ab,Af,Am e4])
theorem BA:Enters Try.prog 68:=enters Try.func68 (by kernel_rfl) rfl
def Bj (n:Nat) (a0:List Int) (a1:Int) (a2:Int):Option (Int×Int×List Int) :=
lt (subI .i64 a2 a1) fun v1 =>
bn (quoI .i64 v1 4) fun v2 =>
lt (mulI .i64 v2 1) fun v3 =>
lt (addI .i64 a1 v3) fun v4 =>
lt (mulI .i64 v2 2) fun v5 =>
lt (addI .i64 a1 v5) fun v6 =>
lt (mulI .i64 v2 3) fun v7 =>
lt (addI .i64 a1 v7) fun v8 =>
bn (lt (geI v1 8) fun v10 =>
ite' v10 (bn (lt (geI v1 50) fun v12 =>
ite' v12 (bn (Ba n a0 v4 0) fun v13 =>
chk (lenB v13.2.1 a0) <|
bn (Ba n v13.2.1 v6 v13.2.2) fun v15 =>
chk (lenB v15.2.1 v13.2.1) <|
bn (Ba n v15.2.1 v8 v15.2.2) fun v17 =>
chk (lenB v17.2.1 v15.2.1) <|
some ((v13.1,v15.1,v17.1,v17.2.1,v17.2.2))) (some ((v4,v6,v8,a0,0)))) fun (y11:Int×Int×Int×List Int×Int) =>
bn (Bl n y11.2.2.2.1 y11.1 y11.2.1 y11.2.2.1 y11.2.2.2.2) fun v19 =>
chk (lenB v19.2.1 y11.2.2.2.1) <|
some ((v19.1,v19.2.1,v19.2.2))) (some ((v6,a0,0)))) fun (y9:Int×List Int×Int) =>
lt (eqI y9.2.2 0) fun v21 =>
ite' v21 (some (y9.1,1,y9.2.1)) (lt (eqI y9.2.2 12) fun v22 =>
ite' v22 (some (y9.1,2,y9.2.1)) (some (y9.1,0,y9.2.1)))
theorem DT {n:Nat} {a0:List Int} {a1:Int} {a2:Int} {r:Int×Int×List Int} (h:Bj n a0 a1 a2=some r):Sound Try.prog 48 [.l (.r 0 1 0 a0.length),.l (iA a1),.l (iA a2)] [⟨3,1,false,some 0,lvs (encI a0)⟩] (.t [(false,[iA r.1]),(false,[iA r.2.1])]) [some ⟨3,1,false,some 0,lvs (encI r.2.2)⟩]:=by
 unfold Bj at h;refine SO 57 Try.func48 fun cx hG (hz:cx.nb=1)=>?_;simp only[it];refine ST ?_;obtain⟨v1,e1,h⟩:=ltE h;refine AW.step (by simp[← e1];intros;rfl) ?_;refine ST ?_;obtain⟨v2,e2,v3,e3,v4,e4,h⟩:=obll h;refine AW.step (by simp[e2,← e3,← e4];intros;rfl) ?_;obtain⟨v5,e5,v6,e6,h⟩:=oll h;refine AW.step (by simp[e2,← e5,← e6];intros;rfl) ?_;obtain⟨v7,e7,v8,e8,h⟩:=oll h;refine AW.step (by simp[e2,← e7,← e8];intros;rfl) ?_;obtain⟨y9,g9,h⟩:=bnE h;refine zD (p:=fun gh ls=>(nP (cx:=cx) (fun q=>(⟨[(9,.l (.p 1 0)),(11,.l (iA q.1))],[some ⟨3,1,false,some 0,lvs (encI q.2.1)⟩,some ⟨3,1,false,none,[iA q.2.2]⟩],57,gh,ls⟩:St))) y9) ?_ ?_
 ·replace h:=g9;clear g9
  obtain⟨v10,e10,h⟩:=ltE h;refine AW.step (by simp[← e10];intros;rfl) ?_;cases v10 with
  |true=>
   replace h:=iT h;refine CT ?_;obtain⟨y11,g11,h⟩:=bnE h;refine zD (p:=fun gh ls=>(nP (cx:=cx) (fun q=>(⟨[(0,.l (.r 0 1 0 q.2.2.2.1.length)),(9,.l (.p 1 0)),(10,.l (iA q.1)),(11,.l (iA q.2.1)),(12,.l (iA q.2.2.1))],[some ⟨3,1,false,some 0,lvs (encI q.2.2.2.1)⟩,some ⟨3,1,false,none,[iA q.2.2.2.2]⟩],57,gh,ls⟩:St))) y11) ?_ ?_
   ·replace h:=g11;clear g11
    obtain⟨v12,e12,h⟩:=ltE h;refine AW.step (by simp[← e12];intros;rfl) ?_;cases v12 with
    |true=>
     replace h:=iT h;refine CT ?_;obtain⟨v13,e13,e14,h⟩:=obc h;apply AW.step
     ·simp;intros;refine As [0,1] BA (BD e13) (by decide) (by simp[pickOb,Ab,Af]) rfl rfl (by simp) ⟨.l (.own' (by simp[Ab,Af]) (by simp)),.l (.s _),.l (ptrV (by simp[Ab,Af])),trivial⟩ ?_;try simp
      intros;rfl
     obtain⟨v15,e15,e16,h⟩:=obc h;apply AW.step
     ·simp[Am e14];intros;refine As [0,1] BA (BD e15) (by decide) (by simp[pickOb,Ab,Af]) rfl rfl (by simp) ⟨.l (.own' (by simp[Ab,Af]) (by simp[Am e14])),.l (.s _),.l (ptrV (by simp[Ab,Af])),trivial⟩ ?_;try simp[Am e14]
      intros;rfl
     obtain⟨v17,e17,e18,h⟩:=obc h;apply AW.last
     ·simp[Am e14,Am e16];intros;refine As [0,1] BA (BD e17) (by decide) (by simp[pickOb,Ab,Af]) rfl rfl (by simp) ⟨.l (.own' (by simp[Ab,Af]) (by simp[Am e14,Am e16])),.l (.s _),.l (ptrV (by simp[Ab,Af])),trivial⟩ ?_;try simp[Am e14,Am e16]
      intros;rfl
     obtain rfl:=oi h;refine nP_i ?_;refine zA 1 [some 0,some 1] hz (by decide) (by decide) ?_ ?_ ?_;all_goals first|(simp[Ab,Af,pickOb,Am e14,Am e16,Am e18];done)|rfl
    |false=>
     replace h:=iF h;refine CF ?_;apply AW.skip;try simp only[nm]
     obtain rfl:=oi h;refine nP_i ?_;refine zA 1 [some 0,some 1] hz (by decide) (by decide) ?_ ?_ ?_;all_goals first|(simp[Ab,Af,pickOb];done)|rfl
   ·rintro e s⟨rfl,hw⟩;refine⟨_,hw,?_⟩;try simp only[nm]
    obtain⟨v19,e19,e20,h⟩:=obc h;apply AW.last
    ·simp;intros;refine As [0,1] CI (CW e19) (by decide) (by simp[pickOb,Ab,Af]) rfl rfl (by simp) ⟨.l (.own' (by simp[Ab,Af]) (by simp)),.l (.s _),.l (.s _),.l (.s _),.l (ptrV (by simp[Ab,Af])),trivial⟩ ?_;try simp
     intros;rfl
    obtain rfl:=oi h;refine nP_i ?_;refine zA 1 [some 0,some 1] hz (by decide) (by decide) ?_ ?_ ?_;all_goals first|(simp[Ab,Af,pickOb,Am e20];done)|rfl
  |false=>
   replace h:=iF h;refine CF ?_;apply AW.skip;try simp only[nm]
   obtain rfl:=oi h;refine nP_i ?_;refine zA 1 [some 0,some 1] hz (by decide) (by decide) ?_ ?_ ?_;all_goals first|(simp[Ab,Af,pickOb];done)|rfl
 ·rintro e s⟨rfl,hw⟩;refine⟨_,hw,?_⟩;try simp only[nm]
  refine ST ?_;apply AW.block;obtain⟨v21,e21,h⟩:=ltE h;refine AW.step (by simp[← e21];intros;rfl) ?_;cases v21 with
  |true=>
   replace h:=iT h;refine CT ?_;refine ST ?_;obtain rfl:=oi h;apply AW.ret;refine Left.of (av:=_) (by simp[Try.f48,resV,resC,comp];rfl) ?_;exact zF 1 [some 0] hz rfl (by decide) rfl (by simp[pickOb,Ab,Af]) (by simp[Ab,Af])
  |false=>
   replace h:=iF h;refine CF ?_;obtain⟨v22,e22,h⟩:=ltE h;refine AW.step (by simp[← e22];intros;rfl) ?_;cases v22 with
   |true=>
    replace h:=iT h;refine CT ?_;refine ST ?_;obtain rfl:=oi h;apply AW.ret;refine Left.of (av:=_) (by simp[Try.f48,resV,resC,comp];rfl) ?_;exact zF 1 [some 0] hz rfl (by decide) rfl (by simp[pickOb,Ab,Af]) (by simp[Ab,Af])
   |false=>
    replace h:=iF h;refine CF ?_;refine ST ?_;obtain rfl:=oi h;apply AW.ret;refine Left.of (av:=_) (by simp[Try.f48,resV,resC,comp];rfl) ?_;exact zF 1 [some 0] hz rfl (by decide) rfl (by simp[pickOb,Ab,Af]) (by simp[Ab,Af])
theorem DN:Enters Try.prog 48:=enters Try.func48 (by kernel_rfl) rfl
def Bi (n:Nat) (a0:List Int) (a1:Int) (a2:Int):Option (List Int) :=
lt (subI .i64 a2 1) fun v1 =>
bn (iter n (fun (y2:Int×Int×List Int) =>
lt (ltI y2.1 y2.2.1) fun v5 =>
ite' v5 (bn (nth y2.2.2 y2.2.1) fun v6 =>
bn (nth y2.2.2 y2.1) fun v8 =>
lt (y2.2.2.set y2.1.toNat v6) fun v11 =>
bn (nth v11 y2.2.1) fun v16 =>
lt (v11.set y2.2.1.toNat v8) fun v18 =>
lt (addI .i64 y2.1 1) fun v27 =>
lt (subI .i64 y2.2.1 1) fun v28 =>
some (.inl (v27,v28,v18))) (some (.inr y2.2.2))) (a1,v1,a0)) fun (y3:List Int) =>
some y3
theorem DO {n:Nat} {a0:List Int} {a1:Int} {a2:Int} {r:List Int} (h:Bi n a0 a1 a2=some r):Sound Try.prog 49 [.l (.r 0 1 0 a0.length),.l (iA a1),.l (iA a2)] [⟨3,1,false,some 0,lvs (encI a0)⟩] (.t []) [some ⟨3,1,false,some 0,lvs (encI r)⟩]:=by
 unfold Bi at h;refine SO 32 Try.func49 fun cx hG (hz:cx.nb=1)=>?_;simp only[it];refine ST ?_;obtain⟨v1,e1,h⟩:=ltE h;refine AW.step (by simp[← e1];intros;rfl) ?_;apply AW.block;obtain⟨y3,g3,h⟩:=bnE h;refine zE g3 (mk:=fun gh ls q=>(⟨[(0,.l (.r 0 1 0 q.2.2.length)),(6,.l (iA q.1)),(7,.l (iA q.2.1))],[some ⟨3,1,false,some 0,lvs (encI q.2.2)⟩],32,gh,ls⟩:St)) (N:=fun gh ls=>(xP 0 (cx:=cx) (fun q=>(⟨[],[some ⟨3,1,false,some 0,lvs (encI q)⟩],32,gh,ls⟩:St)))) ?_ noX ?_ ?_
 ·refine zA 1 [some 0] hz (by decide) (by decide) ?_ ?_ ?_;all_goals first|(simp[Ab,Af,pickOb];done)|rfl
 ·clear h;intro y2 y4 h
  apply AW.seq;obtain⟨v5,e5,h⟩:=ltE h;refine AW.step (by simp[← e5];intros;rfl) ?_;cases v5 with
  |true=>
   replace h:=iT h;refine CT ?_;apply AW.skip;try simp only[nm]
   apply AW.block;obtain⟨v6,e6,h⟩:=bnE h;have f7:=Ai e6;try simp[Aa e6] at f7
   obtain⟨v8,e8,h⟩:=bnE h;have f9:=Ai e8;try simp[Aa e6,f7,Ag (Aa e6).2,lvs1,Aa e8] at f9
   have f10:=Ai e8;try simp[Aa e6,f7,Ag (Aa e6).2,lvs1,Aa e8,f9,Ag (Aa e8).2] at f10
   obtain⟨v11,e11,h⟩:=ltE h;have f12:=AN (Aa e8).2 e11 (cs:=[iA v6]) (by simp) rfl;try simp at f12
   have f13:=f7;try simp only[Ac e11] at f13
   have f14:=f9;try simp only[Ac e11] at f14
   have f15:=f10;try simp only[Ac e11] at f15
   obtain⟨v16,e16,h⟩:=bnE h;have f17:=Ai e16;try simp[Aa e6,f7,Ag (Aa e6).2,lvs1,Aa e8,f9,Ag (Aa e8).2,f10,Ak (Aa e8).2 (show 1≤1 by decide),f12,f13,f14,f15,Aa e16] at f17
   obtain⟨v18,e18,h⟩:=ltE h;have f19:=AN (Aa e16).2 e18 (cs:=[iA v8]) (by simp) rfl;try simp at f19
   have f20:=f7;try simp only[Ac e18] at f20
   have f21:=f9;try simp only[Ac e18] at f21
   have f22:=f10;try simp only[Ac e18] at f22
   have f23:=f13;try simp only[Ac e18] at f23
   have f24:=f14;try simp only[Ac e18] at f24
   have f25:=f15;try simp only[Ac e18] at f25
   have f26:=f17;try simp only[Ac e18] at f26
   apply zJ (V:=[_,_,_,_,_,_,_,_,_,_,_,_,_,_]) (M:=[[some ⟨3,1,false,some 0,lvs (encI y2.2.2)⟩],[some ⟨3,1,false,some 0,lvs (encI v11)⟩]]) mixed [⟨[0],[],[(0,none)],false⟩,⟨[0],[],[(6,none)],false⟩,⟨[0,1],[],[(0,none)],false⟩,⟨[0,1],[],[(7,none)],false⟩,⟨[0],[],[(0,none)],false⟩,⟨[0],[],[(7,none)],false⟩,⟨[0],[4,5],[(18,some 4),(19,some 5)],false⟩,⟨[0],[4,5,6],[(20,some 6)],false⟩,⟨[0],[],[(0,none)],false⟩,⟨[0],[],[(6,none)],false⟩,⟨[0],[8,9],[(22,some 8),(23,some 9)],false⟩,⟨[0],[8,9,10],[(24,some 10)],false⟩,⟨[0],[0,1,4,5,6,7,8,9,10,11],[(14,some 0),(15,some 1)],false⟩,⟨[0],[0,1,4,5,6,7,8,9,10,11,12],[(21,some 7),(26,some 12)],true⟩,⟨[],[0,1,2,3,4,5,6,7,8,9,10,11,12,13],[],false⟩,⟨[],[0,1,2,3,4,5,6,7,8,9,10,11,12,13,14],[],false⟩] 14 1 (by kernel_rfl) (by kernel_rfl)
   ·rfl
   ·refine⟨?_,?_,⟨?_,?_⟩,⟨?_,?_⟩,?_,?_,?_,?_,?_,?_,?_,?_,?_,?_,trivial⟩;iterate 16 (· intro tm hr;simp[AllL,rdV] at hr;simp[hr,Aa e6,f7,Ag (Aa e6).2,lvs1,Aa e8,f9,Ag (Aa e8).2,f10,Ak (Aa e8).2 (show 1≤1 by decide),f12,f13,f14,f15,Aa e16,f17,Ac e11,Ak (Aa e16).2 (show 1≤1 by decide),f19,f20,f21,f22,f23,f24,f25,f26];intros;exact KA)
   ·rfl
   ·simp[tmD,putD,Aa e6,f7,Ag (Aa e6).2,lvs1,Aa e8,f9,Ag (Aa e8).2,f10,Ak (Aa e8).2 (show 1≤1 by decide),f12,f13,f14,f15,Aa e16,f17,Ac e11,Ak (Aa e16).2 (show 1≤1 by decide),f19,f20,f21,f22,f23,f24,f25,f26];rfl
   ·simp[Aa e6,f7,Ag (Aa e6).2,lvs1,Aa e8,f9,Ag (Aa e8).2,f10,Ak (Aa e8).2 (show 1≤1 by decide),f12,f13,f14,f15,Aa e16,f17,Ac e11,Ak (Aa e16).2 (show 1≤1 by decide),f19,f20,f21,f22,f23,f24,f25,f26];intros;rfl
   obtain⟨v27,e27,h⟩:=ltE h;refine AW.step (by simp[← e27];intros;rfl) ?_;obtain⟨v28,e28,h⟩:=ltE h;refine AW.last (by simp[← e28];intros;rfl) ?_;obtain rfl:=oi h;refine nP_i ?_;refine zA 1 [some 0] hz (by decide) (by decide) ?_ ?_ ?_;all_goals first|(simp[Ab,Af,pickOb,Ac e11,Ac e18];done)|rfl
  |false=>
   replace h:=iF h;refine CF ?_;apply AW.exit;try simp only[nm]
   obtain rfl:=oi h;refine xP_i ?_;refine zA 1 [some 0] hz (by decide) (by decide) ?_ ?_ ?_;all_goals first|(simp[Ab,Af,pickOb];done)|rfl
 ·rintro e s⟨rfl,hw⟩;refine⟨_,hw,?_⟩;try simp only[nm]
  obtain rfl:=oi h;refine Left.of (av:=_) (by simp[Try.f49,resV,resC,comp];rfl) ?_;exact zF 1 [some 0] hz rfl (by decide) rfl (by simp[pickOb,Ab,Af]) (by simp[Ab,Af])
theorem DD:Enters Try.prog 49:=enters Try.func49 (by kernel_rfl) rfl
def AT (n:Nat) (a0:List Int) (a1:Int) (a2:Int):Option (Bool×List Int) :=
lt (addI .i64 a1 1) fun v1 =>
bn (iter n (fun (y2:Int×Int×List Int) =>
lt (ltI y2.2.1 5) fun v5 =>
ite' v5 (bn (bn (iter n (fun (y7:Int) =>
bn (lt (ltI y7 a2) fun v11 =>
ite' v11 (bn (nth y2.2.2 y7) fun v12 =>
lt (subI .i64 y7 1) fun v14 =>
bn (nth y2.2.2 v14) fun v15 =>
bn (AP n v12 v15) fun v17 =>
lt (notB v17) fun v18 =>
some (v18)) (some (false))) fun (y10:Bool) =>
lt (y10) fun v19 =>
ite' v19 (lt (addI .i64 y7 1) fun v20 =>
some (.inl v20)) (some (.inr y7))) y2.1) fun (y8:Int) =>
lt (eqI y8 a2) fun v21 =>
ite' v21 (some (.inr (true,y2.2.2))) (lt (subI .i64 a2 a1) fun v22 =>
lt (ltI v22 50) fun v23 =>
ite' v23 (some (.inr (false,y2.2.2))) (lt (subI .i64 y8 1) fun v24 =>
bn (nth y2.2.2 v24) fun v25 =>
bn (nth y2.2.2 y8) fun v27 =>
lt (y2.2.2.set y8.toNat v25) fun v30 =>
bn (nth v30 v24) fun v35 =>
lt (v30.set v24.toNat v27) fun v37 =>
bn (lt (subI .i64 y8 a1) fun v47 =>
lt (geI v47 2) fun v48 =>
ite' v48 (bn (iter n (fun (y49:Int×List Int) =>
lt (geI y49.1 1) fun v52 =>
ite' v52 (bn (nth y49.2 y49.1) fun v53 =>
lt (subI .i64 y49.1 1) fun v55 =>
bn (nth y49.2 v55) fun v56 =>
bn (AP n v53 v56) fun v58 =>
lt (notB v58) fun v59 =>
ite' v59 (some (.inr y49.2)) (lt (y49.2.set y49.1.toNat v56) fun v63 =>
bn (nth v63 v55) fun v68 =>
lt (v63.set v55.toNat v53) fun v70 =>
some (.inl (v55,v70)))) (some (.inr y49.2))) (v24,v37)) fun (y50:List Int) =>
some (y50)) (some (v37))) fun (y46:List Int) =>
lt (subI .i64 a2 y8) fun v79 =>
lt (geI v79 2) fun v80 =>
ite' v80 (lt (addI .i64 y8 1) fun v81 =>
bn (iter n (fun (y82:Int×List Int) =>
lt (ltI y82.1 a2) fun v85 =>
ite' v85 (bn (nth y82.2 y82.1) fun v86 =>
lt (subI .i64 y82.1 1) fun v88 =>
bn (nth y82.2 v88) fun v89 =>
bn (AP n v86 v89) fun v91 =>
lt (notB v91) fun v92 =>
ite' v92 (some (.inr y82.2)) (lt (y82.2.set y82.1.toNat v89) fun v96 =>
bn (nth v96 v88) fun v101 =>
lt (v96.set v88.toNat v86) fun v103 =>
lt (addI .i64 y82.1 1) fun v112 =>
some (.inl (v112,v103)))) (some (.inr y82.2))) (v81,y46)) fun (y83:List Int) =>
some (.inl (y8,y83))) (some (.inl (y8,y46)))))) fun (y6:(Int×List Int) ⊕ (Bool×List Int)) =>
sm y6 (fun y113=>lt (addI .i64 y2.2.1 1) fun v115 =>
some (.inl (y113.1,v115,y113.2))) (fun y114=>some (.inr (.inr y114)))) (some (.inr (.inl y2.2.2)))) (v1,0,a0)) fun (y3:(List Int) ⊕ (Bool×List Int)) =>
sm y3 (fun y116=>some (false,y116)) (fun y117=>some y117)
def DX4t3:List DI:=[⟨[0],[],[(7,none)],false⟩,⟨[0],[],[(2,none)],false⟩,⟨[0],[0,1],[(17,some 0),(18,some 1)],false⟩,⟨[0],[0,1,2],[(19,some 2)],false⟩,⟨[0],[0,1,2,3],[(0,none),(20,some 3)],false⟩,⟨[0],[0,1,2,3],[(7,none),(20,some 3)],false⟩,⟨[0],[0,1,2,3,4,5],[(20,some 3),(21,some 4),(22,some 5)],false⟩,⟨[0],[0,1,2,3,4,5,6],[(20,some 3),(23,some 6)],false⟩,⟨[0],[0,1,2,3],[(0,none),(20,some 3)],false⟩,⟨[0],[0,1,2,3],[(7,none),(20,some 3)],false⟩,⟨[0],[0,1,2,3,9],[(20,some 3),(26,some 9)],false⟩,⟨[0],[0,1,2,3,8,9,10],[(20,some 3),(25,some 8),(27,some 10)],false⟩,⟨[0],[0,1,2,3,8,9,10,11],[(20,some 3),(28,some 11)],false⟩,⟨[],[0,1,2,3,4,5,6,7,8,9,10,11,12],[],false⟩,⟨[],[0,1,2,3,4,5,6,7,8,9,10,11,12,13],[],false⟩,⟨[],[0,1,2,3,4,5,6,7,8,9,10,11,12,13,14],[],false⟩]
theorem CM {n:Nat} {a0:List Int} {a1:Int} {a2:Int} {r:Bool×List Int} (h:AT n a0 a1 a2=some r):Sound Try.prog 50 [.l (.r 0 1 0 a0.length),.l (iA a1),.l (iA a2)] [⟨3,1,false,some 0,lvs (encI a0)⟩] (.l (bA r.1)) [some ⟨3,1,false,some 0,lvs (encI r.2)⟩]:=by
 unfold AT at h;refine SO 133 Try.func50 fun cx hG (hz:cx.nb=1)=>?_;simp only[it];refine ST ?_;obtain⟨v1,e1,h⟩:=ltE h;refine AW.step (by simp[← e1];intros;rfl) ?_;apply AW.seq;refine ST ?_;apply AW.block;obtain⟨y3,g3,h⟩:=bnE h;refine zE g3 (mk:=fun gh ls q=>(⟨[(0,.l (.r 0 1 0 q.2.2.length)),(1,.l (iA a1)),(2,.l (iA a2)),(7,.l (iA q.1)),(8,.l (iA q.2.1))],[some ⟨3,1,false,some 0,lvs (encI q.2.2)⟩],133,gh,ls⟩:St)) (N:=fun gh ls=>(sp (xP 0 (cx:=cx) (fun q=>(⟨[],[some ⟨3,1,false,some 0,lvs (encI q)⟩],133,gh,ls⟩:St))) (rP (cx:=cx) (P:=Try.prog) Try.f50 (fun q=>.l (bA q.1)) (fun q=>[some ⟨3,1,false,some 0,lvs (encI q.2)⟩])))) ?_ (noS noX noR) ?_ ?_
 ·refine zA 1 [some 0] hz (by decide) (by decide) ?_ ?_ ?_;all_goals first|(simp[Ab,Af,pickOb];done)|rfl
 ·clear h;intro y2 y4 h
  apply AW.seq;obtain⟨v5,e5,h⟩:=ltE h;refine AW.step (by simp[← e5];intros;rfl) ?_;cases v5 with
  |true=>
   replace h:=iT h;refine CT ?_;apply AW.skip;try simp only[nm]
   obtain⟨y6,g6,h⟩:=bnE h;refine zD (p:=fun gh ls=>(sp (nP (cx:=cx) (fun q=>(⟨[(0,.l (.r 0 1 0 q.2.length)),(1,.l (iA a1)),(2,.l (iA a2)),(7,.l (iA q.1)),(8,.l (iA y2.2.1))],[some ⟨3,1,false,some 0,lvs (encI q.2)⟩],133,gh,ls⟩:St))) (rP (cx:=cx) (P:=Try.prog) Try.f50 (fun q=>.l (bA q.1)) (fun q=>[some ⟨3,1,false,some 0,lvs (encI q.2)⟩]))) y6) ?_ ?_
   ·replace h:=g6;clear g6
    apply AW.block;apply AW.seq;apply AW.block;obtain⟨y8,g8,h⟩:=bnE h;refine zE g8 (mk:=fun gh ls q=>(⟨[(0,.l (.r 0 1 0 y2.2.2.length)),(1,.l (iA a1)),(2,.l (iA a2)),(7,.l (iA q)),(8,.l (iA y2.2.1))],[some ⟨3,1,false,some 0,lvs (encI y2.2.2)⟩],133,gh,ls⟩:St)) (N:=fun gh ls=>(xP 2 (cx:=cx) (fun q=>(⟨[(0,.l (.r 0 1 0 y2.2.2.length)),(1,.l (iA a1)),(2,.l (iA a2)),(7,.l (iA q)),(8,.l (iA y2.2.1))],[some ⟨3,1,false,some 0,lvs (encI y2.2.2)⟩],133,gh,ls⟩:St)))) ?_ noX ?_ ?_
    ·refine zA 1 [some 0] hz (by decide) (by decide) ?_ ?_ ?_;all_goals first|(simp[Ab,Af,pickOb];done)|rfl
    ·clear h;intro y7 y9 h
     apply AW.seq;obtain⟨y10,g10,h⟩:=bnE h;refine zD (p:=fun gh ls=>(nP (cx:=cx) (fun q=>(⟨[(0,.l (.r 0 1 0 y2.2.2.length)),(1,.l (iA a1)),(2,.l (iA a2)),(7,.l (iA y7)),(8,.l (iA y2.2.1)),(32,.l (bA q))],[some ⟨3,1,false,some 0,lvs (encI y2.2.2)⟩],133,gh,ls⟩:St))) y10) ?_ ?_
     ·replace h:=g10;clear g10
      obtain⟨v11,e11,h⟩:=ltE h;cases v11 with
      |true=>
       replace h:=iT h;obtain⟨v12,e12,h⟩:=bnE h;have f13:=Ai e12;try simp[← e11,Aa e12] at f13
       obtain⟨v14,e14,v15,e15,h⟩:=olb h;have f16:=Ai e15;try simp[← e11,Aa e12,f13,Ag (Aa e12).2,lvs1,← e14,Aa e15] at f16
       obtain⟨v17,e17,v18,e18,h⟩:=obl h;apply zH (V:=[_,_,_,_,_,_,_,_,_,_,_,_,_]) mixed DX4t3 13 (by kernel_rfl) (by kernel_rfl)
       ·refine⟨?_,?_,?_,?_,?_,?_,?_,?_,?_,?_,?_,?_,?_,trivial⟩;iterate 13 (· intro tm hr;simp[AllL,rdV] at hr;simp[hr,← e11,Aa e12,f13,Ag (Aa e12).2,lvs1,← e14,Aa e15,f16,Ag (Aa e15).2,← e18];intros;exact KA)
       ·rfl
       ·simp[tmD,putD,← e11,Aa e12,f13,Ag (Aa e12).2,lvs1,← e14,Aa e15,f16,Ag (Aa e15).2,← e18];rfl
       ·simp[← e11,Aa e12,f13,Ag (Aa e12).2,lvs1,← e14,Aa e15,f16,Ag (Aa e15).2,← e18];intros;refine Aj A2 (A9 e17) rfl ⟨.same rfl,.same rfl,trivial⟩ ?_;try simp[← e11,Aa e12,f13,Ag (Aa e12).2,lvs1,← e14,Aa e15,f16,Ag (Aa e15).2,← e18]
        intros;rfl
       obtain rfl:=oi h;refine nP_i ?_;refine zA 1 [some 0] hz (by decide) (by decide) ?_ ?_ ?_;all_goals first|(simp[Ab,Af,pickOb];done)|rfl
      |false=>
       replace h:=iF h;apply zH (V:=[_,_,_,_,_,_,_,_,_,_,_,_,_]) mixed DX4t3 13 (by kernel_rfl) (by kernel_rfl)
       ·refine⟨?_,?_,?_,?_,?_,?_,?_,?_,?_,?_,?_,?_,?_,trivial⟩;iterate 13 (· intro tm hr;simp[AllL,rdV] at hr;simp[hr,← e11];intros;exact KA)
       ·rfl
       ·simp[tmD,putD,← e11];rfl
       ·simp[← e11];intros;rfl
       obtain rfl:=oi h;refine nP_i ?_;refine zA 1 [some 0] hz (by decide) (by decide) ?_ ?_ ?_;all_goals first|(simp[Ab,Af,pickOb];done)|rfl
     ·rintro e s⟨rfl,hw⟩;refine⟨_,hw,?_⟩;try simp only[nm]
      obtain⟨v19,e19,h⟩:=ltE h;rw[← e19];cases v19 with
      |true=>
       replace h:=iT h;refine CT ?_;apply AW.skip;try simp only[nm]
       apply AW.block;obtain⟨v20,e20,h⟩:=ltE h;refine AW.last (by simp[← e20];intros;rfl) ?_;obtain rfl:=oi h;refine nP_i ?_;refine zA 1 [some 0] hz (by decide) (by decide) ?_ ?_ ?_;all_goals first|(simp[Ab,Af,pickOb];done)|rfl
      |false=>
       replace h:=iF h;refine CF ?_;apply AW.exit;try simp only[nm]
       obtain rfl:=oi h;refine xP_i ?_;refine zA 1 [some 0] hz (by decide) (by decide) ?_ ?_ ?_;all_goals first|(simp[Ab,Af,pickOb];done)|rfl
    ·rintro e s⟨rfl,hw⟩;refine⟨_,hw,?_⟩;try simp only[nm]
     apply AW.seq;obtain⟨v21,e21,h⟩:=ltE h;refine AW.step (by simp[← e21];intros;rfl) ?_;cases v21 with
     |true=>
      replace h:=iT h;refine CT ?_;refine ST ?_;obtain rfl:=oi h;apply AW.ret;try simp only[nm]
      refine rP_i ?_;refine Left.of (av:=_) (by simp[Try.f50,resV,resC,comp];rfl) ?_;exact zF 1 [some 0] hz rfl (by decide) rfl (by simp[pickOb,Ab,Af]) (by simp[Ab,Af])
     |false=>
      replace h:=iF h;refine CF ?_;apply AW.skip;try simp only[nm]
      apply AW.seq;obtain⟨v22,e22,v23,e23,h⟩:=oll h;refine AW.step (by simp[← e22,← e23];intros;rfl) ?_;cases v23 with
      |true=>
       replace h:=iT h;refine CT ?_;refine ST ?_;obtain rfl:=oi h;apply AW.ret;try simp only[nm]
       refine rP_i ?_;refine Left.of (av:=_) (by simp[Try.f50,resV,resC,comp];rfl) ?_;exact zF 1 [some 0] hz rfl (by decide) rfl (by simp[pickOb,Ab,Af]) (by simp[Ab,Af])
      |false=>
       replace h:=iF h;refine CF ?_;apply AW.skip;try simp only[nm]
       obtain⟨v24,e24,v25,e25,h⟩:=olb h;have f26:=Ai e25;try simp[← e24,Aa e25] at f26
       obtain⟨v27,e27,h⟩:=bnE h;have f28:=Ai e27;try simp[← e24,Aa e25,f26,Ag (Aa e25).2,lvs1,Aa e27] at f28
       have f29:=Ai e27;try simp[← e24,Aa e25,f26,Ag (Aa e25).2,lvs1,Aa e27,f28,Ag (Aa e27).2] at f29
       obtain⟨v30,e30,h⟩:=ltE h;have f31:=AN (Aa e27).2 e30 (cs:=[iA v25]) (by simp) rfl;try simp at f31
       have f32:=f26;try simp only[Ac e30] at f32
       have f33:=f28;try simp only[Ac e30] at f33
       have f34:=f29;try simp only[Ac e30] at f34
       obtain⟨v35,e35,h⟩:=bnE h;have f36:=Ai e35;try simp[← e24,Aa e25,f26,Ag (Aa e25).2,lvs1,Aa e27,f28,Ag (Aa e27).2,f29,Ak (Aa e27).2 (show 1≤1 by decide),f31,f32,f33,f34,Aa e35] at f36
       obtain⟨v37,e37,h⟩:=ltE h;have f38:=AN (Aa e35).2 e37 (cs:=[iA v27]) (by simp) rfl;try simp at f38
       have f39:=f26;try simp only[Ac e37] at f39
       have f40:=f28;try simp only[Ac e37] at f40
       have f41:=f29;try simp only[Ac e37] at f41
       have f42:=f32;try simp only[Ac e37] at f42
       have f43:=f33;try simp only[Ac e37] at f43
       have f44:=f34;try simp only[Ac e37] at f44
       have f45:=f36;try simp only[Ac e37] at f45
       apply zJ (V:=[_,_,_,_,_,_,_,_,_,_,_,_,_,_,_,_]) (M:=[[some ⟨3,1,false,some 0,lvs (encI y2.2.2)⟩],[some ⟨3,1,false,some 0,lvs (encI v30)⟩]]) mixed [⟨[0],[],[(0,none)],false⟩,⟨[0],[],[(7,none)],false⟩,⟨[0,1],[],[(0,none)],false⟩,⟨[0,1],[],[(7,none)],false⟩,⟨[0,1],[3],[(45,some 3)],false⟩,⟨[0],[],[(0,none)],false⟩,⟨[0],[],[(7,none)],false⟩,⟨[0],[6],[(48,some 6)],false⟩,⟨[0],[5,6,7],[(47,some 5),(49,some 7)],false⟩,⟨[0],[5,6,7,8],[(50,some 8)],false⟩,⟨[0],[],[(0,none)],false⟩,⟨[0],[],[(7,none)],false⟩,⟨[0],[10,11],[(52,some 10),(53,some 11)],false⟩,⟨[0],[10,11,12],[(54,some 12)],false⟩,⟨[0],[0,1,5,6,7,8,9,10,11,12,13],[(42,some 0),(43,some 1)],false⟩,⟨[0],[0,1,5,6,7,8,9,10,11,12,13,14],[(51,some 9),(56,some 14)],true⟩,⟨[],[0,1,2,3,4,5,6,7,8,9,10,11,12,13,14,15],[],false⟩,⟨[],[0,1,2,3,4,5,6,7,8,9,10,11,12,13,14,15,16],[],false⟩] 16 1 (by kernel_rfl) (by kernel_rfl)
       ·rfl
       ·refine⟨?_,?_,⟨?_,?_⟩,⟨?_,?_⟩,⟨?_,?_⟩,?_,?_,?_,?_,?_,?_,?_,?_,?_,?_,?_,trivial⟩;iterate 19 (· intro tm hr;simp[AllL,rdV] at hr;simp[hr,← e24,Aa e25,f26,Ag (Aa e25).2,lvs1,Aa e27,f28,Ag (Aa e27).2,f29,Ak (Aa e27).2 (show 1≤1 by decide),f31,f32,f33,f34,Aa e35,f36,Ac e30,Ak (Aa e35).2 (show 1≤1 by decide),f38,f39,f40,f41,f42,f43,f44,f45];intros;exact KA)
       ·rfl
       ·simp[tmD,putD,← e24,Aa e25,f26,Ag (Aa e25).2,lvs1,Aa e27,f28,Ag (Aa e27).2,f29,Ak (Aa e27).2 (show 1≤1 by decide),f31,f32,f33,f34,Aa e35,f36,Ac e30,Ak (Aa e35).2 (show 1≤1 by decide),f38,f39,f40,f41,f42,f43,f44,f45];rfl
       ·simp[← e24,Aa e25,f26,Ag (Aa e25).2,lvs1,Aa e27,f28,Ag (Aa e27).2,f29,Ak (Aa e27).2 (show 1≤1 by decide),f31,f32,f33,f34,Aa e35,f36,Ac e30,Ak (Aa e35).2 (show 1≤1 by decide),f38,f39,f40,f41,f42,f43,f44,f45];intros;rfl
       obtain⟨y46,g46,h⟩:=bnE h;refine zD (p:=fun gh ls=>(nP (cx:=cx) (fun q=>(⟨[(0,.l (.r 0 1 0 q.length)),(1,.l (iA a1)),(2,.l (iA a2)),(7,.l (iA y8)),(8,.l (iA y2.2.1))],[some ⟨3,1,false,some 0,lvs (encI q)⟩],133,gh,ls⟩:St))) y46) ?_ ?_
       ·replace h:=g46;clear g46
        obtain⟨v47,e47,v48,e48,h⟩:=oll h;refine AW.step (by simp[← e47,← e48];intros;rfl) ?_;cases v48 with
        |true=>
         replace h:=iT h;refine CT ?_;refine AW.step (by simp[← e24];intros;rfl) ?_;apply AW.block;obtain⟨y50,g50,h⟩:=bnE h;refine zE g50 (mk:=fun gh ls q=>(⟨[(0,.l (.r 0 1 0 q.2.length)),(1,.l (iA a1)),(2,.l (iA a2)),(7,.l (iA y8)),(8,.l (iA y2.2.1)),(9,.l (iA q.1))],[some ⟨3,1,false,some 0,lvs (encI q.2)⟩],133,gh,ls⟩:St)) (N:=fun gh ls=>(xP 4 (cx:=cx) (fun q=>(⟨[(0,.l (.r 0 1 0 q.length)),(1,.l (iA a1)),(2,.l (iA a2)),(7,.l (iA y8)),(8,.l (iA y2.2.1))],[some ⟨3,1,false,some 0,lvs (encI q)⟩],133,gh,ls⟩:St)))) ?_ noX ?_ ?_
         ·refine zA 1 [some 0] hz (by decide) (by decide) ?_ ?_ ?_;all_goals first|(simp[Ab,Af,pickOb,Ac e30,Ac e37];done)|rfl
         ·clear h;intro y49 y51 h
          apply AW.seq;obtain⟨v52,e52,h⟩:=ltE h;refine AW.step (by simp[← e52];intros;rfl) ?_;cases v52 with
          |true=>
           replace h:=iT h;refine CT ?_;apply AW.skip;try simp only[nm]
           apply AW.seq;apply AW.block;apply AW.seq;obtain⟨v53,e53,h⟩:=bnE h;have f54:=Ai e53;try simp[Aa e53] at f54
           obtain⟨v55,e55,v56,e56,h⟩:=olb h;have f57:=Ai e56;try simp[Aa e53,f54,Ag (Aa e53).2,lvs1,← e55,Aa e56] at f57
           obtain⟨v58,e58,v59,e59,h⟩:=obl h;apply zI (V:=[_,_,_,_,_,_,_,_,_]) mixed [⟨[0],[],[(0,none)],false⟩,⟨[0],[],[(9,none)],false⟩,⟨[0],[0,1],[(68,some 0),(69,some 1)],false⟩,⟨[0],[0,1,2],[(70,some 2)],false⟩,⟨[0],[],[(0,none)],false⟩,⟨[0],[],[(9,none)],false⟩,⟨[0],[5],[(73,some 5)],false⟩,⟨[0],[4,5,6],[(72,some 4),(74,some 6)],false⟩,⟨[0],[4,5,6,7],[(75,some 7)],false⟩,⟨[],[0,1,2,3,4,5,6,7,8],[],false⟩,⟨[],[0,1,2,3,4,5,6,7,8,9],[],false⟩] 9 (by kernel_rfl) (by kernel_rfl)
           ·refine⟨?_,?_,?_,?_,?_,?_,?_,?_,?_,trivial⟩;iterate 9 (· intro tm hr;simp[AllL,rdV] at hr;simp[hr,Aa e53,f54,Ag (Aa e53).2,lvs1,← e55,Aa e56,f57,Ag (Aa e56).2,← e59];intros;exact KA)
           ·rfl
           ·simp[tmD,putD,Aa e53,f54,Ag (Aa e53).2,lvs1,← e55,Aa e56,f57,Ag (Aa e56).2,← e59];rfl
           ·simp[Aa e53,f54,Ag (Aa e53).2,lvs1,← e55,Aa e56,f57,Ag (Aa e56).2,← e59];intros;refine Aj A2 (A9 e58) rfl ⟨.same rfl,.same rfl,trivial⟩ ?_;try simp[Aa e53,f54,Ag (Aa e53).2,lvs1,← e55,Aa e56,f57,Ag (Aa e56).2,← e59]
            intros;rfl
           cases v59 with
           |true=>
            replace h:=iT h;refine CT ?_;apply AW.exit;try simp only[nm]
            obtain rfl:=oi h;refine xP_i ?_;refine zA 1 [some 0] hz (by decide) (by decide) ?_ ?_ ?_;all_goals first|(simp[Ab,Af,pickOb];done)|rfl
           |false=>
            replace h:=iF h;refine CF ?_;apply AW.skip;try simp only[nm]
            have f60:=Ai e56;try simp[← e55,Aa e56] at f60
            have f61:=Ai e53;try simp[← e55,Aa e56,f60,Ag (Aa e56).2,lvs1,Aa e53] at f61
            have f62:=Ai e53;try simp[← e55,Aa e56,f60,Ag (Aa e56).2,lvs1,Aa e53,f61,Ag (Aa e53).2] at f62
            obtain⟨v63,e63,h⟩:=ltE h;have f64:=AN (Aa e53).2 e63 (cs:=[iA v56]) (by simp) rfl;try simp at f64
            have f65:=f60;try simp only[Ac e63] at f65
            have f66:=f61;try simp only[Ac e63] at f66
            have f67:=f62;try simp only[Ac e63] at f67
            obtain⟨v68,e68,h⟩:=bnE h;have f69:=Ai e68;try simp[← e55,Aa e56,f60,Ag (Aa e56).2,lvs1,Aa e53,f61,Ag (Aa e53).2,f62,Ak (Aa e53).2 (show 1≤1 by decide),f64,f65,f66,f67,Aa e68] at f69
            obtain⟨v70,e70,h⟩:=ltE h;have f71:=AN (Aa e68).2 e70 (cs:=[iA v53]) (by simp) rfl;try simp at f71
            have f72:=f60;try simp only[Ac e70] at f72
            have f73:=f61;try simp only[Ac e70] at f73
            have f74:=f62;try simp only[Ac e70] at f74
            have f75:=f65;try simp only[Ac e70] at f75
            have f76:=f66;try simp only[Ac e70] at f76
            have f77:=f67;try simp only[Ac e70] at f77
            have f78:=f69;try simp only[Ac e70] at f78
            apply zL (V:=[_,_,_,_,_,_,_,_,_,_,_,_,_,_,_,_]) (M:=[[some ⟨3,1,false,some 0,lvs (encI y49.2)⟩],[some ⟨3,1,false,some 0,lvs (encI v63)⟩]]) mixed [⟨[0],[],[(0,none)],false⟩,⟨[0],[],[(9,none)],false⟩,⟨[0,1],[],[(0,none)],false⟩,⟨[0,1],[],[(9,none)],false⟩,⟨[0,1],[3],[(82,some 3)],false⟩,⟨[0],[],[(0,none)],false⟩,⟨[0],[],[(9,none)],false⟩,⟨[0],[6],[(85,some 6)],false⟩,⟨[0],[5,6,7],[(84,some 5),(86,some 7)],false⟩,⟨[0],[5,6,7,8],[(87,some 8)],false⟩,⟨[0],[],[(0,none)],false⟩,⟨[0],[],[(9,none)],false⟩,⟨[0],[10,11],[(89,some 10),(90,some 11)],false⟩,⟨[0],[10,11,12],[(91,some 12)],false⟩,⟨[0],[0,1,5,6,7,8,9,10,11,12,13],[(79,some 0),(80,some 1)],false⟩,⟨[0],[0,1,5,6,7,8,9,10,11,12,13,14],[(88,some 9),(93,some 14)],true⟩,⟨[],[0,1,2,3,4,5,6,7,8,9,10,11,12,13,14,15],[],false⟩,⟨[],[0,1,2,3,4,5,6,7,8,9,10,11,12,13,14,15,16],[],false⟩] 16 1 (by kernel_rfl) (by kernel_rfl)
            ·rfl
            ·refine⟨?_,?_,⟨?_,?_⟩,⟨?_,?_⟩,⟨?_,?_⟩,?_,?_,?_,?_,?_,?_,?_,?_,?_,?_,?_,trivial⟩;iterate 19 (· intro tm hr;simp[AllL,rdV] at hr;simp[hr,← e55,Aa e56,f60,Ag (Aa e56).2,lvs1,Aa e53,f61,Ag (Aa e53).2,f62,Ak (Aa e53).2 (show 1≤1 by decide),f64,f65,f66,f67,Aa e68,f69,Ac e63,Ak (Aa e68).2 (show 1≤1 by decide),f71,f72,f73,f74,f75,f76,f77,f78];intros;exact KA)
            ·rfl
            ·simp[tmD,putD,← e55,Aa e56,f60,Ag (Aa e56).2,lvs1,Aa e53,f61,Ag (Aa e53).2,f62,Ak (Aa e53).2 (show 1≤1 by decide),f64,f65,f66,f67,Aa e68,f69,Ac e63,Ak (Aa e68).2 (show 1≤1 by decide),f71,f72,f73,f74,f75,f76,f77,f78];rfl
            ·simp[← e55,Aa e56,f60,Ag (Aa e56).2,lvs1,Aa e53,f61,Ag (Aa e53).2,f62,Ak (Aa e53).2 (show 1≤1 by decide),f64,f65,f66,f67,Aa e68,f69,Ac e63,Ak (Aa e68).2 (show 1≤1 by decide),f71,f72,f73,f74,f75,f76,f77,f78];intros;rfl
            try simp only[nm]
            refine AW.last (by simp[← e55];intros;rfl) ?_;obtain rfl:=oi h;refine nP_i ?_;refine zA 1 [some 0] hz (by decide) (by decide) ?_ ?_ ?_;all_goals first|(simp[Ab,Af,pickOb,Ac e63,Ac e70];done)|rfl
          |false=>
           replace h:=iF h;refine CF ?_;apply AW.exit;try simp only[nm]
           obtain rfl:=oi h;refine xP_i ?_;refine zA 1 [some 0] hz (by decide) (by decide) ?_ ?_ ?_;all_goals first|(simp[Ab,Af,pickOb];done)|rfl
         ·rintro e s⟨rfl,hw⟩;refine⟨_,hw,?_⟩;try simp only[nm]
          obtain rfl:=oi h;refine nP_i ?_;refine zA 1 [some 0] hz (by decide) (by decide) ?_ ?_ ?_;all_goals first|(simp[Ab,Af,pickOb];done)|rfl
        |false=>
         replace h:=iF h;refine CF ?_;apply AW.skip;try simp only[nm]
         obtain rfl:=oi h;refine nP_i ?_;refine zA 1 [some 0] hz (by decide) (by decide) ?_ ?_ ?_;all_goals first|(simp[Ab,Af,pickOb,Ac e30,Ac e37];done)|rfl
       ·rintro e s⟨rfl,hw⟩;refine⟨_,hw,?_⟩;try simp only[nm]
        obtain⟨v79,e79,v80,e80,h⟩:=oll h;refine AW.step (by simp[← e79,← e80];intros;rfl) ?_;cases v80 with
        |true=>
         replace h:=iT h;refine CT ?_;obtain⟨v81,e81,h⟩:=ltE h;refine AW.step (by simp[← e81];intros;rfl) ?_;apply AW.block;obtain⟨y83,g83,h⟩:=bnE h;refine zE g83 (mk:=fun gh ls q=>(⟨[(0,.l (.r 0 1 0 q.2.length)),(1,.l (iA a1)),(2,.l (iA a2)),(7,.l (iA y8)),(8,.l (iA y2.2.1)),(10,.l (iA q.1))],[some ⟨3,1,false,some 0,lvs (encI q.2)⟩],133,gh,ls⟩:St)) (N:=fun gh ls=>(xP 6 (cx:=cx) (fun q=>(⟨[(0,.l (.r 0 1 0 q.length)),(1,.l (iA a1)),(2,.l (iA a2)),(7,.l (iA y8)),(8,.l (iA y2.2.1))],[some ⟨3,1,false,some 0,lvs (encI q)⟩],133,gh,ls⟩:St)))) ?_ noX ?_ ?_
         ·refine zA 1 [some 0] hz (by decide) (by decide) ?_ ?_ ?_;all_goals first|(simp[Ab,Af,pickOb];done)|rfl
         ·clear h;intro y82 y84 h
          apply AW.seq;obtain⟨v85,e85,h⟩:=ltE h;refine AW.step (by simp[← e85];intros;rfl) ?_;cases v85 with
          |true=>
           replace h:=iT h;refine CT ?_;apply AW.skip;try simp only[nm]
           apply AW.seq;apply AW.block;apply AW.seq;obtain⟨v86,e86,h⟩:=bnE h;have f87:=Ai e86;try simp[Aa e86] at f87
           obtain⟨v88,e88,v89,e89,h⟩:=olb h;have f90:=Ai e89;try simp[Aa e86,f87,Ag (Aa e86).2,lvs1,← e88,Aa e89] at f90
           obtain⟨v91,e91,v92,e92,h⟩:=obl h;apply zI (V:=[_,_,_,_,_,_,_,_,_]) mixed [⟨[0],[],[(0,none)],false⟩,⟨[0],[],[(10,none)],false⟩,⟨[0],[0,1],[(106,some 0),(107,some 1)],false⟩,⟨[0],[0,1,2],[(108,some 2)],false⟩,⟨[0],[],[(0,none)],false⟩,⟨[0],[],[(10,none)],false⟩,⟨[0],[5],[(111,some 5)],false⟩,⟨[0],[4,5,6],[(110,some 4),(112,some 6)],false⟩,⟨[0],[4,5,6,7],[(113,some 7)],false⟩,⟨[],[0,1,2,3,4,5,6,7,8],[],false⟩,⟨[],[0,1,2,3,4,5,6,7,8,9],[],false⟩] 9 (by kernel_rfl) (by kernel_rfl)
           ·refine⟨?_,?_,?_,?_,?_,?_,?_,?_,?_,trivial⟩;iterate 9 (· intro tm hr;simp[AllL,rdV] at hr;simp[hr,Aa e86,f87,Ag (Aa e86).2,lvs1,← e88,Aa e89,f90,Ag (Aa e89).2,← e92];intros;exact KA)
           ·rfl
           ·simp[tmD,putD,Aa e86,f87,Ag (Aa e86).2,lvs1,← e88,Aa e89,f90,Ag (Aa e89).2,← e92];rfl
           ·simp[Aa e86,f87,Ag (Aa e86).2,lvs1,← e88,Aa e89,f90,Ag (Aa e89).2,← e92];intros;refine Aj A2 (A9 e91) rfl ⟨.same rfl,.same rfl,trivial⟩ ?_;try simp[Aa e86,f87,Ag (Aa e86).2,lvs1,← e88,Aa e89,f90,Ag (Aa e89).2,← e92]
            intros;rfl
           cases v92 with
           |true=>
            replace h:=iT h;refine CT ?_;apply AW.exit;try simp only[nm]
            obtain rfl:=oi h;refine xP_i ?_;refine zA 1 [some 0] hz (by decide) (by decide) ?_ ?_ ?_;all_goals first|(simp[Ab,Af,pickOb];done)|rfl
           |false=>
            replace h:=iF h;refine CF ?_;apply AW.skip;try simp only[nm]
            have f93:=Ai e89;try simp[← e88,Aa e89] at f93
            have f94:=Ai e86;try simp[← e88,Aa e89,f93,Ag (Aa e89).2,lvs1,Aa e86] at f94
            have f95:=Ai e86;try simp[← e88,Aa e89,f93,Ag (Aa e89).2,lvs1,Aa e86,f94,Ag (Aa e86).2] at f95
            obtain⟨v96,e96,h⟩:=ltE h;have f97:=AN (Aa e86).2 e96 (cs:=[iA v89]) (by simp) rfl;try simp at f97
            have f98:=f93;try simp only[Ac e96] at f98
            have f99:=f94;try simp only[Ac e96] at f99
            have f100:=f95;try simp only[Ac e96] at f100
            obtain⟨v101,e101,h⟩:=bnE h;have f102:=Ai e101;try simp[← e88,Aa e89,f93,Ag (Aa e89).2,lvs1,Aa e86,f94,Ag (Aa e86).2,f95,Ak (Aa e86).2 (show 1≤1 by decide),f97,f98,f99,f100,Aa e101] at f102
            obtain⟨v103,e103,h⟩:=ltE h;have f104:=AN (Aa e101).2 e103 (cs:=[iA v86]) (by simp) rfl;try simp at f104
            have f105:=f93;try simp only[Ac e103] at f105
            have f106:=f94;try simp only[Ac e103] at f106
            have f107:=f95;try simp only[Ac e103] at f107
            have f108:=f98;try simp only[Ac e103] at f108
            have f109:=f99;try simp only[Ac e103] at f109
            have f110:=f100;try simp only[Ac e103] at f110
            have f111:=f102;try simp only[Ac e103] at f111
            apply zL (V:=[_,_,_,_,_,_,_,_,_,_,_,_,_,_,_,_]) (M:=[[some ⟨3,1,false,some 0,lvs (encI y82.2)⟩],[some ⟨3,1,false,some 0,lvs (encI v96)⟩]]) mixed [⟨[0],[],[(0,none)],false⟩,⟨[0],[],[(10,none)],false⟩,⟨[0,1],[],[(0,none)],false⟩,⟨[0,1],[],[(10,none)],false⟩,⟨[0,1],[3],[(120,some 3)],false⟩,⟨[0],[],[(0,none)],false⟩,⟨[0],[],[(10,none)],false⟩,⟨[0],[6],[(123,some 6)],false⟩,⟨[0],[5,6,7],[(122,some 5),(124,some 7)],false⟩,⟨[0],[5,6,7,8],[(125,some 8)],false⟩,⟨[0],[],[(0,none)],false⟩,⟨[0],[],[(10,none)],false⟩,⟨[0],[10,11],[(127,some 10),(128,some 11)],false⟩,⟨[0],[10,11,12],[(129,some 12)],false⟩,⟨[0],[0,1,5,6,7,8,9,10,11,12,13],[(117,some 0),(118,some 1)],false⟩,⟨[0],[0,1,5,6,7,8,9,10,11,12,13,14],[(126,some 9),(131,some 14)],true⟩,⟨[],[0,1,2,3,4,5,6,7,8,9,10,11,12,13,14,15],[],false⟩,⟨[],[0,1,2,3,4,5,6,7,8,9,10,11,12,13,14,15,16],[],false⟩] 16 1 (by kernel_rfl) (by kernel_rfl)
            ·rfl
            ·refine⟨?_,?_,⟨?_,?_⟩,⟨?_,?_⟩,⟨?_,?_⟩,?_,?_,?_,?_,?_,?_,?_,?_,?_,?_,?_,trivial⟩;iterate 19 (· intro tm hr;simp[AllL,rdV] at hr;simp[hr,← e88,Aa e89,f93,Ag (Aa e89).2,lvs1,Aa e86,f94,Ag (Aa e86).2,f95,Ak (Aa e86).2 (show 1≤1 by decide),f97,f98,f99,f100,Aa e101,f102,Ac e96,Ak (Aa e101).2 (show 1≤1 by decide),f104,f105,f106,f107,f108,f109,f110,f111];intros;exact KA)
            ·rfl
            ·simp[tmD,putD,← e88,Aa e89,f93,Ag (Aa e89).2,lvs1,Aa e86,f94,Ag (Aa e86).2,f95,Ak (Aa e86).2 (show 1≤1 by decide),f97,f98,f99,f100,Aa e101,f102,Ac e96,Ak (Aa e101).2 (show 1≤1 by decide),f104,f105,f106,f107,f108,f109,f110,f111];rfl
            ·simp[← e88,Aa e89,f93,Ag (Aa e89).2,lvs1,Aa e86,f94,Ag (Aa e86).2,f95,Ak (Aa e86).2 (show 1≤1 by decide),f97,f98,f99,f100,Aa e101,f102,Ac e96,Ak (Aa e101).2 (show 1≤1 by decide),f104,f105,f106,f107,f108,f109,f110,f111];intros;rfl
            try simp only[nm]
            obtain⟨v112,e112,h⟩:=ltE h;refine AW.last (by simp[← e112];intros;rfl) ?_;obtain rfl:=oi h;refine nP_i ?_;refine zA 1 [some 0] hz (by decide) (by decide) ?_ ?_ ?_;all_goals first|(simp[Ab,Af,pickOb,Ac e103,Ac e96];done)|rfl
          |false=>
           replace h:=iF h;refine CF ?_;apply AW.exit;try simp only[nm]
           obtain rfl:=oi h;refine xP_i ?_;refine zA 1 [some 0] hz (by decide) (by decide) ?_ ?_ ?_;all_goals first|(simp[Ab,Af,pickOb];done)|rfl
         ·rintro e s⟨rfl,hw⟩;refine⟨_,hw,?_⟩;try simp only[nm]
          obtain rfl:=oi h;try simp only[sp_l,sp_r]
          refine nP_i ?_;refine zA 1 [some 0] hz (by decide) (by decide) ?_ ?_ ?_;all_goals first|(simp[Ab,Af,pickOb];done)|rfl
        |false=>
         replace h:=iF h;refine CF ?_;apply AW.skip;try simp only[nm]
         obtain rfl:=oi h;try simp only[sp_l,sp_r]
         refine nP_i ?_;refine zA 1 [some 0] hz (by decide) (by decide) ?_ ?_ ?_;all_goals first|(simp[Ab,Af,pickOb];done)|rfl
   ·rintro e s hp;rcases y6 with y113|y114
    ·replace h:=smL h;obtain⟨rfl,hw⟩:=hp;refine⟨_,hw,?_⟩;try simp only[nm]
     obtain⟨v115,e115,h⟩:=ltE h;refine AW.last (by simp[← e115];intros;rfl) ?_;obtain rfl:=oi h;refine nP_i ?_;refine zA 1 [some 0] hz (by decide) (by decide) ?_ ?_ ?_;all_goals first|(simp[Ab,Af,pickOb];done)|rfl
    ·replace h:=smR h;obtain⟨rfl,hl⟩:=hp;refine⟨_,Weak.refl _,?_⟩;obtain rfl:=oi h;first|exact rP_i hl|(simp only[sp_l,sp_r];exact rP_i hl)|(simp only[sp_l,sp_r,Post.seq,Post.block,Nat.reduceEqDiff,reduceIte,Nat.zero_ne_one,Nat.one_ne_zero];exact rP_i hl)
  |false=>
   replace h:=iF h;refine CF ?_;apply AW.exit;try simp only[nm]
   obtain rfl:=oi h;try simp only[sp_l,sp_r]
   refine xP_i ?_;refine zA 1 [some 0] hz (by decide) (by decide) ?_ ?_ ?_;all_goals first|(simp[Ab,Af,pickOb];done)|rfl
 ·rintro e s hp;rcases y3 with y116|y117
  ·replace h:=smL h;obtain⟨rfl,hw⟩:=hp;refine⟨_,hw,?_⟩;try simp only[nm]
   refine ST ?_;obtain rfl:=oi h;apply AW.ret;refine Left.of (av:=_) (by simp[Try.f50,resV,resC,comp];rfl) ?_;exact zF 1 [some 0] hz rfl (by decide) rfl (by simp[pickOb,Ab,Af]) (by simp[Ab,Af])
  ·replace h:=smR h;obtain⟨rfl,hl⟩:=hp;refine⟨_,Weak.refl _,?_⟩;obtain rfl:=oi h;exact hl
theorem CG:Enters Try.prog 50:=enters Try.func50 (by kernel_rfl) rfl
def Bb (n:Nat) (a0:List Int) (a1:Int) (a2:Int) (a3:Int):Option (Int×List Int) :=
bn (nth a0 a3) fun v1 =>
bn (nth a0 a1) fun v3 =>
lt (a0.set a1.toNat v1) fun v6 =>
bn (nth v6 a3) fun v11 =>
lt (v6.set a3.toNat v3) fun v13 =>
lt (addI .i64 a1 1) fun v22 =>
lt (subI .i64 a2 1) fun v23 =>
bn (iter n (fun (y24:Int×Int×List Int) =>
bn (iter n (fun (y27:Int) =>
bn (lt (leI y27 y24.2.1) fun v31 =>
ite' v31 (bn (nth y24.2.2 a1) fun v32 =>
bn (nth y24.2.2 y27) fun v34 =>
bn (AP n v32 v34) fun v36 =>
lt (notB v36) fun v37 =>
some (v37)) (some (false))) fun (y30:Bool) =>
lt (y30) fun v38 =>
ite' v38 (lt (addI .i64 y27 1) fun v39 =>
some (.inl v39)) (some (.inr y27))) y24.1) fun (y28:Int) =>
bn (iter n (fun (y40:Int) =>
bn (lt (leI y28 y40) fun v44 =>
ite' v44 (bn (nth y24.2.2 a1) fun v45 =>
bn (nth y24.2.2 y40) fun v47 =>
bn (AP n v45 v47) fun v49 =>
some (v49)) (some (false))) fun (y43:Bool) =>
lt (y43) fun v50 =>
ite' v50 (lt (subI .i64 y40 1) fun v51 =>
some (.inl v51)) (some (.inr y40))) y24.2.1) fun (y41:Int) =>
lt (gtI y28 y41) fun v52 =>
ite' v52 (some (.inr (y28,y24.2.2))) (bn (nth y24.2.2 y41) fun v53 =>
bn (nth y24.2.2 y28) fun v55 =>
lt (y24.2.2.set y28.toNat v53) fun v58 =>
bn (nth v58 y41) fun v63 =>
lt (v58.set y41.toNat v55) fun v65 =>
lt (addI .i64 y28 1) fun v74 =>
lt (subI .i64 y41 1) fun v75 =>
some (.inl (v74,v75,v65)))) (v22,v23,v13)) fun (y25:Int×List Int) =>
some (y25.1,y25.2)
def DX4t4:List DI:=[⟨[0],[],[(9,none)],false⟩,⟨[0],[],[(10,none)],false⟩,⟨[0],[0,1],[(29,some 0),(30,some 1)],false⟩,⟨[0],[0,1,2],[(31,some 2)],false⟩,⟨[0],[0,1,2,3],[(0,none),(32,some 3)],false⟩,⟨[0],[0,1,2,3],[(1,none),(32,some 3)],false⟩,⟨[0],[0,1,2,3,4,5],[(32,some 3),(33,some 4),(34,some 5)],false⟩,⟨[0],[0,1,2,3,4,5,6],[(32,some 3),(35,some 6)],false⟩,⟨[0],[0,1,2,3],[(0,none),(32,some 3)],false⟩,⟨[0],[0,1,2,3],[(9,none),(32,some 3)],false⟩,⟨[0],[0,1,2,3,8,9],[(32,some 3),(37,some 8),(38,some 9)],false⟩,⟨[0],[0,1,2,3,8,9,10],[(32,some 3),(39,some 10)],false⟩,⟨[],[0,1,2,3,4,5,6,7,8,9,10,11],[],false⟩,⟨[],[0,1,2,3,4,5,6,7,8,9,10,11,12],[],false⟩,⟨[],[0,1,2,3,4,5,6,7,8,9,10,11,12,13],[],false⟩]
def DX4t5:List DI:=[⟨[0],[],[(9,none)],false⟩,⟨[0],[],[(10,none)],false⟩,⟨[0],[0,1],[(46,some 0),(47,some 1)],false⟩,⟨[0],[0,1,2],[(48,some 2)],false⟩,⟨[0],[0,1,2,3],[(0,none),(49,some 3)],false⟩,⟨[0],[0,1,2,3],[(1,none),(49,some 3)],false⟩,⟨[0],[0,1,2,3,4,5],[(49,some 3),(50,some 4),(51,some 5)],false⟩,⟨[0],[0,1,2,3,4,5,6],[(49,some 3),(52,some 6)],false⟩,⟨[0],[0,1,2,3],[(0,none),(49,some 3)],false⟩,⟨[0],[0,1,2,3],[(10,none),(49,some 3)],false⟩,⟨[0],[0,1,2,3,8,9],[(49,some 3),(54,some 8),(55,some 9)],false⟩,⟨[0],[0,1,2,3,8,9,10],[(49,some 3),(56,some 10)],false⟩,⟨[],[0,1,2,3,4,5,6,7,8,9,10,11],[],false⟩,⟨[],[0,1,2,3,4,5,6,7,8,9,10,11,12],[],false⟩]
theorem Dt {n:Nat} {a0:List Int} {a1:Int} {a2:Int} {a3:Int} {r:Int×List Int} (h:Bb n a0 a1 a2 a3=some r):Sound Try.prog 52 [.l (.r 0 1 0 a0.length),.l (iA a1),.l (iA a2),.l (iA a3)] [⟨3,1,false,some 0,lvs (encI a0)⟩] (.l (iA r.1)) [some ⟨3,1,false,some 0,lvs (encI r.2)⟩]:=by
 unfold Bb at h;refine SO 84 Try.func52 fun cx hG (hz:cx.nb=1)=>?_;simp only[it];refine ST ?_;obtain⟨v1,e1,h⟩:=bnE h;have f2:=Ai e1;try simp[Aa e1] at f2
 obtain⟨v3,e3,h⟩:=bnE h;have f4:=Ai e3;try simp[Aa e1,f2,Ag (Aa e1).2,lvs1,Aa e3] at f4
 have f5:=Ai e3;try simp[Aa e1,f2,Ag (Aa e1).2,lvs1,Aa e3,f4,Ag (Aa e3).2] at f5
 obtain⟨v6,e6,h⟩:=ltE h;have f7:=AN (Aa e3).2 e6 (cs:=[iA v1]) (by simp) rfl;try simp at f7
 have f8:=f2;try simp only[Ac e6] at f8
 have f9:=f4;try simp only[Ac e6] at f9
 have f10:=f5;try simp only[Ac e6] at f10
 obtain⟨v11,e11,h⟩:=bnE h;have f12:=Ai e11;try simp[Aa e1,f2,Ag (Aa e1).2,lvs1,Aa e3,f4,Ag (Aa e3).2,f5,Ak (Aa e3).2 (show 1≤1 by decide),f7,f8,f9,f10,Aa e11] at f12
 obtain⟨v13,e13,h⟩:=ltE h;have f14:=AN (Aa e11).2 e13 (cs:=[iA v3]) (by simp) rfl;try simp at f14
 have f15:=f2;try simp only[Ac e13] at f15
 have f16:=f4;try simp only[Ac e13] at f16
 have f17:=f5;try simp only[Ac e13] at f17
 have f18:=f8;try simp only[Ac e13] at f18
 have f19:=f9;try simp only[Ac e13] at f19
 have f20:=f10;try simp only[Ac e13] at f20
 have f21:=f12;try simp only[Ac e13] at f21
 apply zJ (V:=[_,_,_,_,_,_,_,_,_,_,_,_,_,_]) (M:=[[some ⟨3,1,false,some 0,lvs (encI a0)⟩],[some ⟨3,1,false,some 0,lvs (encI v6)⟩]]) mixed [⟨[0],[],[(0,none)],false⟩,⟨[0],[],[(1,none)],false⟩,⟨[0,1],[],[(0,none)],false⟩,⟨[0,1],[],[(3,none)],false⟩,⟨[0],[],[(0,none)],false⟩,⟨[0],[],[(3,none)],false⟩,⟨[0],[4,5],[(15,some 4),(16,some 5)],false⟩,⟨[0],[4,5,6],[(17,some 6)],false⟩,⟨[0],[],[(0,none)],false⟩,⟨[0],[],[(1,none)],false⟩,⟨[0],[8,9],[(19,some 8),(20,some 9)],false⟩,⟨[0],[8,9,10],[(21,some 10)],false⟩,⟨[0],[0,1,4,5,6,7,8,9,10,11],[(11,some 0),(12,some 1)],false⟩,⟨[0],[0,1,4,5,6,7,8,9,10,11,12],[(18,some 7),(23,some 12)],true⟩,⟨[],[0,1,2,3,4,5,6,7,8,9,10,11,12,13],[],false⟩,⟨[],[0,1,2,3,4,5,6,7,8,9,10,11,12,13,14],[],false⟩] 14 1 (by kernel_rfl) (by kernel_rfl)
 ·rfl
 ·refine⟨?_,?_,⟨?_,?_⟩,⟨?_,?_⟩,?_,?_,?_,?_,?_,?_,?_,?_,?_,?_,trivial⟩;iterate 16 (· intro tm hr;simp[AllL,rdV] at hr;simp[hr,Aa e1,f2,Ag (Aa e1).2,lvs1,Aa e3,f4,Ag (Aa e3).2,f5,Ak (Aa e3).2 (show 1≤1 by decide),f7,f8,f9,f10,Aa e11,f12,Ac e6,Ak (Aa e11).2 (show 1≤1 by decide),f14,f15,f16,f17,f18,f19,f20,f21];intros;exact KA)
 ·rfl
 ·simp[tmD,putD,Aa e1,f2,Ag (Aa e1).2,lvs1,Aa e3,f4,Ag (Aa e3).2,f5,Ak (Aa e3).2 (show 1≤1 by decide),f7,f8,f9,f10,Aa e11,f12,Ac e6,Ak (Aa e11).2 (show 1≤1 by decide),f14,f15,f16,f17,f18,f19,f20,f21];rfl
 ·simp[Aa e1,f2,Ag (Aa e1).2,lvs1,Aa e3,f4,Ag (Aa e3).2,f5,Ak (Aa e3).2 (show 1≤1 by decide),f7,f8,f9,f10,Aa e11,f12,Ac e6,Ak (Aa e11).2 (show 1≤1 by decide),f14,f15,f16,f17,f18,f19,f20,f21];intros;rfl
 obtain⟨v22,e22,v23,e23,h⟩:=oll h;refine AW.step (by simp[← e22,← e23];intros;rfl) ?_;apply AW.seq;apply AW.block;obtain⟨y25,g25,h⟩:=bnE h;refine zE g25 (mk:=fun gh ls q=>(⟨[(0,.l (.r 0 1 0 q.2.2.length)),(1,.l (iA a1)),(9,.l (iA q.1)),(10,.l (iA q.2.1))],[some ⟨3,1,false,some 0,lvs (encI q.2.2)⟩],84,gh,ls⟩:St)) (N:=fun gh ls=>(xP 0 (cx:=cx) (fun q=>(⟨[(9,.l (iA q.1))],[some ⟨3,1,false,some 0,lvs (encI q.2)⟩],84,gh,ls⟩:St)))) ?_ noX ?_ ?_
 ·refine zA 1 [some 0] hz (by decide) (by decide) ?_ ?_ ?_;all_goals first|(simp[Ab,Af,pickOb,Ac e13,Ac e6];done)|rfl
 ·clear h;intro y24 y26 h
  apply AW.block;apply AW.seq;apply AW.block;obtain⟨y28,g28,h⟩:=bnE h;refine zE g28 (mk:=fun gh ls q=>(⟨[(0,.l (.r 0 1 0 y24.2.2.length)),(1,.l (iA a1)),(9,.l (iA q)),(10,.l (iA y24.2.1))],[some ⟨3,1,false,some 0,lvs (encI y24.2.2)⟩],84,gh,ls⟩:St)) (N:=fun gh ls=>(xP 2 (cx:=cx) (fun q=>(⟨[(0,.l (.r 0 1 0 y24.2.2.length)),(1,.l (iA a1)),(9,.l (iA q)),(10,.l (iA y24.2.1))],[some ⟨3,1,false,some 0,lvs (encI y24.2.2)⟩],84,gh,ls⟩:St)))) ?_ noX ?_ ?_
  ·refine zA 1 [some 0] hz (by decide) (by decide) ?_ ?_ ?_;all_goals first|(simp[Ab,Af,pickOb];done)|rfl
  ·clear h;intro y27 y29 h
   apply AW.seq;obtain⟨y30,g30,h⟩:=bnE h;refine zD (p:=fun gh ls=>(nP (cx:=cx) (fun q=>(⟨[(0,.l (.r 0 1 0 y24.2.2.length)),(1,.l (iA a1)),(9,.l (iA y27)),(10,.l (iA y24.2.1)),(43,.l (bA q))],[some ⟨3,1,false,some 0,lvs (encI y24.2.2)⟩],84,gh,ls⟩:St))) y30) ?_ ?_
   ·replace h:=g30;clear g30
    obtain⟨v31,e31,h⟩:=ltE h;cases v31 with
    |true=>
     replace h:=iT h;obtain⟨v32,e32,h⟩:=bnE h;have f33:=Ai e32;try simp[← e31,Aa e32] at f33
     obtain⟨v34,e34,h⟩:=bnE h;have f35:=Ai e34;try simp[← e31,Aa e32,f33,Ag (Aa e32).2,lvs1,Aa e34] at f35
     obtain⟨v36,e36,v37,e37,h⟩:=obl h;apply zH (V:=[_,_,_,_,_,_,_,_,_,_,_,_]) mixed DX4t4 12 (by kernel_rfl) (by kernel_rfl)
     ·refine⟨?_,?_,?_,?_,?_,?_,?_,?_,?_,?_,?_,?_,trivial⟩;iterate 12 (· intro tm hr;simp[AllL,rdV] at hr;simp[hr,← e31,Aa e32,f33,Ag (Aa e32).2,lvs1,Aa e34,f35,Ag (Aa e34).2,← e37];intros;exact KA)
     ·rfl
     ·simp[tmD,putD,← e31,Aa e32,f33,Ag (Aa e32).2,lvs1,Aa e34,f35,Ag (Aa e34).2,← e37];rfl
     ·simp[← e31,Aa e32,f33,Ag (Aa e32).2,lvs1,Aa e34,f35,Ag (Aa e34).2,← e37];intros;refine Aj A2 (A9 e36) rfl ⟨.same rfl,.same rfl,trivial⟩ ?_;try simp[← e31,Aa e32,f33,Ag (Aa e32).2,lvs1,Aa e34,f35,Ag (Aa e34).2,← e37]
      intros;rfl
     obtain rfl:=oi h;refine nP_i ?_;refine zA 1 [some 0] hz (by decide) (by decide) ?_ ?_ ?_;all_goals first|(simp[Ab,Af,pickOb];done)|rfl
    |false=>
     replace h:=iF h;apply zH (V:=[_,_,_,_,_,_,_,_,_,_,_,_]) mixed DX4t4 12 (by kernel_rfl) (by kernel_rfl)
     ·refine⟨?_,?_,?_,?_,?_,?_,?_,?_,?_,?_,?_,?_,trivial⟩;iterate 12 (· intro tm hr;simp[AllL,rdV] at hr;simp[hr,← e31];intros;exact KA)
     ·rfl
     ·simp[tmD,putD,← e31];rfl
     ·simp[← e31];intros;rfl
     obtain rfl:=oi h;refine nP_i ?_;refine zA 1 [some 0] hz (by decide) (by decide) ?_ ?_ ?_;all_goals first|(simp[Ab,Af,pickOb];done)|rfl
   ·rintro e s⟨rfl,hw⟩;refine⟨_,hw,?_⟩;try simp only[nm]
    obtain⟨v38,e38,h⟩:=ltE h;rw[← e38];cases v38 with
    |true=>
     replace h:=iT h;refine CT ?_;apply AW.skip;try simp only[nm]
     apply AW.block;obtain⟨v39,e39,h⟩:=ltE h;refine AW.last (by simp[← e39];intros;rfl) ?_;obtain rfl:=oi h;refine nP_i ?_;refine zA 1 [some 0] hz (by decide) (by decide) ?_ ?_ ?_;all_goals first|(simp[Ab,Af,pickOb];done)|rfl
    |false=>
     replace h:=iF h;refine CF ?_;apply AW.exit;try simp only[nm]
     obtain rfl:=oi h;refine xP_i ?_;refine zA 1 [some 0] hz (by decide) (by decide) ?_ ?_ ?_;all_goals first|(simp[Ab,Af,pickOb];done)|rfl
  ·rintro e s⟨rfl,hw⟩;refine⟨_,hw,?_⟩;try simp only[nm]
   apply AW.seq;apply AW.block;obtain⟨y41,g41,h⟩:=bnE h;refine zE g41 (mk:=fun gh ls q=>(⟨[(0,.l (.r 0 1 0 y24.2.2.length)),(1,.l (iA a1)),(9,.l (iA y28)),(10,.l (iA q))],[some ⟨3,1,false,some 0,lvs (encI y24.2.2)⟩],84,gh,ls⟩:St)) (N:=fun gh ls=>(xP 4 (cx:=cx) (fun q=>(⟨[(0,.l (.r 0 1 0 y24.2.2.length)),(1,.l (iA a1)),(9,.l (iA y28)),(10,.l (iA q))],[some ⟨3,1,false,some 0,lvs (encI y24.2.2)⟩],84,gh,ls⟩:St)))) ?_ noX ?_ ?_
   ·refine zA 1 [some 0] hz (by decide) (by decide) ?_ ?_ ?_;all_goals first|(simp[Ab,Af,pickOb];done)|rfl
   ·clear h;intro y40 y42 h
    apply AW.seq;obtain⟨y43,g43,h⟩:=bnE h;refine zD (p:=fun gh ls=>(nP (cx:=cx) (fun q=>(⟨[(0,.l (.r 0 1 0 y24.2.2.length)),(1,.l (iA a1)),(9,.l (iA y28)),(10,.l (iA y40)),(59,.l (bA q))],[some ⟨3,1,false,some 0,lvs (encI y24.2.2)⟩],84,gh,ls⟩:St))) y43) ?_ ?_
    ·replace h:=g43;clear g43
     obtain⟨v44,e44,h⟩:=ltE h;cases v44 with
     |true=>
      replace h:=iT h;obtain⟨v45,e45,h⟩:=bnE h;have f46:=Ai e45;try simp[← e44,Aa e45] at f46
      obtain⟨v47,e47,h⟩:=bnE h;have f48:=Ai e47;try simp[← e44,Aa e45,f46,Ag (Aa e45).2,lvs1,Aa e47] at f48
      obtain⟨v49,e49,h⟩:=bnE h;apply zH (V:=[_,_,_,_,_,_,_,_,_,_,_,_]) mixed DX4t5 12 (by kernel_rfl) (by kernel_rfl)
      ·refine⟨?_,?_,?_,?_,?_,?_,?_,?_,?_,?_,?_,?_,trivial⟩;iterate 12 (· intro tm hr;simp[AllL,rdV] at hr;simp[hr,← e44,Aa e45,f46,Ag (Aa e45).2,lvs1,Aa e47,f48,Ag (Aa e47).2];intros;exact KA)
      ·rfl
      ·simp[tmD,putD,← e44,Aa e45,f46,Ag (Aa e45).2,lvs1,Aa e47,f48,Ag (Aa e47).2];rfl
      ·simp[← e44,Aa e45,f46,Ag (Aa e45).2,lvs1,Aa e47,f48,Ag (Aa e47).2];intros;refine Aj A2 (A9 e49) rfl ⟨.same rfl,.same rfl,trivial⟩ ?_;try simp[← e44,Aa e45,f46,Ag (Aa e45).2,lvs1,Aa e47,f48,Ag (Aa e47).2]
       intros;rfl
      obtain rfl:=oi h;refine nP_i ?_;refine zA 1 [some 0] hz (by decide) (by decide) ?_ ?_ ?_;all_goals first|(simp[Ab,Af,pickOb];done)|rfl
     |false=>
      replace h:=iF h;apply zH (V:=[_,_,_,_,_,_,_,_,_,_,_,_]) mixed DX4t5 12 (by kernel_rfl) (by kernel_rfl)
      ·refine⟨?_,?_,?_,?_,?_,?_,?_,?_,?_,?_,?_,?_,trivial⟩;iterate 12 (· intro tm hr;simp[AllL,rdV] at hr;simp[hr,← e44];intros;exact KA)
      ·rfl
      ·simp[tmD,putD,← e44];rfl
      ·simp[← e44];intros;rfl
      obtain rfl:=oi h;refine nP_i ?_;refine zA 1 [some 0] hz (by decide) (by decide) ?_ ?_ ?_;all_goals first|(simp[Ab,Af,pickOb];done)|rfl
    ·rintro e s⟨rfl,hw⟩;refine⟨_,hw,?_⟩;try simp only[nm]
     obtain⟨v50,e50,h⟩:=ltE h;rw[← e50];cases v50 with
     |true=>
      replace h:=iT h;refine CT ?_;apply AW.skip;try simp only[nm]
      apply AW.block;obtain⟨v51,e51,h⟩:=ltE h;refine AW.last (by simp[← e51];intros;rfl) ?_;obtain rfl:=oi h;refine nP_i ?_;refine zA 1 [some 0] hz (by decide) (by decide) ?_ ?_ ?_;all_goals first|(simp[Ab,Af,pickOb];done)|rfl
     |false=>
      replace h:=iF h;refine CF ?_;apply AW.exit;try simp only[nm]
      obtain rfl:=oi h;refine xP_i ?_;refine zA 1 [some 0] hz (by decide) (by decide) ?_ ?_ ?_;all_goals first|(simp[Ab,Af,pickOb];done)|rfl
   ·rintro e s⟨rfl,hw⟩;refine⟨_,hw,?_⟩;try simp only[nm]
    apply AW.seq;obtain⟨v52,e52,h⟩:=ltE h;refine AW.step (by simp[← e52];intros;rfl) ?_;cases v52 with
    |true=>
     replace h:=iT h;refine CT ?_;apply AW.exit;try simp only[nm]
     obtain rfl:=oi h;refine xP_i ?_;refine zA 1 [some 0] hz (by decide) (by decide) ?_ ?_ ?_;all_goals first|(simp[Ab,Af,pickOb];done)|rfl
    |false=>
     replace h:=iF h;refine CF ?_;apply AW.skip;try simp only[nm]
     obtain⟨v53,e53,h⟩:=bnE h;have f54:=Ai e53;try simp[Aa e53] at f54
     obtain⟨v55,e55,h⟩:=bnE h;have f56:=Ai e55;try simp[Aa e53,f54,Ag (Aa e53).2,lvs1,Aa e55] at f56
     have f57:=Ai e55;try simp[Aa e53,f54,Ag (Aa e53).2,lvs1,Aa e55,f56,Ag (Aa e55).2] at f57
     obtain⟨v58,e58,h⟩:=ltE h;have f59:=AN (Aa e55).2 e58 (cs:=[iA v53]) (by simp) rfl;try simp at f59
     have f60:=f54;try simp only[Ac e58] at f60
     have f61:=f56;try simp only[Ac e58] at f61
     have f62:=f57;try simp only[Ac e58] at f62
     obtain⟨v63,e63,h⟩:=bnE h;have f64:=Ai e63;try simp[Aa e53,f54,Ag (Aa e53).2,lvs1,Aa e55,f56,Ag (Aa e55).2,f57,Ak (Aa e55).2 (show 1≤1 by decide),f59,f60,f61,f62,Aa e63] at f64
     obtain⟨v65,e65,h⟩:=ltE h;have f66:=AN (Aa e63).2 e65 (cs:=[iA v55]) (by simp) rfl;try simp at f66
     have f67:=f54;try simp only[Ac e65] at f67
     have f68:=f56;try simp only[Ac e65] at f68
     have f69:=f57;try simp only[Ac e65] at f69
     have f70:=f60;try simp only[Ac e65] at f70
     have f71:=f61;try simp only[Ac e65] at f71
     have f72:=f62;try simp only[Ac e65] at f72
     have f73:=f64;try simp only[Ac e65] at f73
     apply zJ (V:=[_,_,_,_,_,_,_,_,_,_,_,_,_,_]) (M:=[[some ⟨3,1,false,some 0,lvs (encI y24.2.2)⟩],[some ⟨3,1,false,some 0,lvs (encI v58)⟩]]) mixed [⟨[0],[],[(0,none)],false⟩,⟨[0],[],[(9,none)],false⟩,⟨[0,1],[],[(0,none)],false⟩,⟨[0,1],[],[(10,none)],false⟩,⟨[0],[],[(0,none)],false⟩,⟨[0],[],[(10,none)],false⟩,⟨[0],[4,5],[(69,some 4),(70,some 5)],false⟩,⟨[0],[4,5,6],[(71,some 6)],false⟩,⟨[0],[],[(0,none)],false⟩,⟨[0],[],[(9,none)],false⟩,⟨[0],[8,9],[(73,some 8),(74,some 9)],false⟩,⟨[0],[8,9,10],[(75,some 10)],false⟩,⟨[0],[0,1,4,5,6,7,8,9,10,11],[(65,some 0),(66,some 1)],false⟩,⟨[0],[0,1,4,5,6,7,8,9,10,11,12],[(72,some 7),(77,some 12)],true⟩,⟨[],[0,1,2,3,4,5,6,7,8,9,10,11,12,13],[],false⟩,⟨[],[0,1,2,3,4,5,6,7,8,9,10,11,12,13,14],[],false⟩] 14 1 (by kernel_rfl) (by kernel_rfl)
     ·rfl
     ·refine⟨?_,?_,⟨?_,?_⟩,⟨?_,?_⟩,?_,?_,?_,?_,?_,?_,?_,?_,?_,?_,trivial⟩;iterate 16 (· intro tm hr;simp[AllL,rdV] at hr;simp[hr,Aa e53,f54,Ag (Aa e53).2,lvs1,Aa e55,f56,Ag (Aa e55).2,f57,Ak (Aa e55).2 (show 1≤1 by decide),f59,f60,f61,f62,Aa e63,f64,Ac e58,Ak (Aa e63).2 (show 1≤1 by decide),f66,f67,f68,f69,f70,f71,f72,f73];intros;exact KA)
     ·rfl
     ·simp[tmD,putD,Aa e53,f54,Ag (Aa e53).2,lvs1,Aa e55,f56,Ag (Aa e55).2,f57,Ak (Aa e55).2 (show 1≤1 by decide),f59,f60,f61,f62,Aa e63,f64,Ac e58,Ak (Aa e63).2 (show 1≤1 by decide),f66,f67,f68,f69,f70,f71,f72,f73];rfl
     ·simp[Aa e53,f54,Ag (Aa e53).2,lvs1,Aa e55,f56,Ag (Aa e55).2,f57,Ak (Aa e55).2 (show 1≤1 by decide),f59,f60,f61,f62,Aa e63,f64,Ac e58,Ak (Aa e63).2 (show 1≤1 by decide),f66,f67,f68,f69,f70,f71,f72,f73];intros;rfl
     obtain⟨v74,e74,h⟩:=ltE h;refine AW.step (by simp[← e74];intros;rfl) ?_;obtain⟨v75,e75,h⟩:=ltE h;refine AW.last (by simp[← e75];intros;rfl) ?_;obtain rfl:=oi h;refine nP_i ?_;refine zA 1 [some 0] hz (by decide) (by decide) ?_ ?_ ?_;all_goals first|(simp[Ab,Af,pickOb,Ac e58,Ac e65];done)|rfl
 ·rintro e s⟨rfl,hw⟩;refine⟨_,hw,?_⟩;try simp only[nm]
  refine ST ?_;obtain rfl:=oi h;apply AW.ret;refine Left.of (av:=_) (by simp[Try.f52,resV,resC,comp];rfl) ?_;exact zF 1 [some 0] hz rfl (by decide) rfl (by simp[pickOb,Ab,Af]) (by simp[Ab,Af])
theorem Dj:Enters Try.prog 52:=enters Try.func52 (by kernel_rfl) rfl
def Bn (n:Nat) (a0:List Int) (a1:Int) (a2:Int) (a3:Int):Option (Int×Bool×List Int) :=
bn (nth a0 a3) fun v1 =>
bn (nth a0 a1) fun v3 =>
lt (a0.set a1.toNat v1) fun v6 =>
bn (nth v6 a3) fun v11 =>
lt (v6.set a3.toNat v3) fun v13 =>
lt (addI .i64 a1 1) fun v22 =>
lt (subI .i64 a2 1) fun v23 =>
bn (iter n (fun (y24:Int) =>
bn (lt (leI y24 v23) fun v28 =>
ite' v28 (bn (nth v13 y24) fun v29 =>
bn (nth v13 a1) fun v31 =>
bn (AP n v29 v31) fun v33 =>
some (v33)) (some (false))) fun (y27:Bool) =>
lt (y27) fun v34 =>
ite' v34 (lt (addI .i64 y24 1) fun v35 =>
some (.inl v35)) (some (.inr y24))) v22) fun (y25:Int) =>
bn (iter n (fun (y36:Int) =>
bn (lt (leI y25 y36) fun v40 =>
ite' v40 (bn (nth v13 y36) fun v41 =>
bn (nth v13 a1) fun v43 =>
bn (AP n v41 v43) fun v45 =>
lt (notB v45) fun v46 =>
some (v46)) (some (false))) fun (y39:Bool) =>
lt (y39) fun v47 =>
ite' v47 (lt (subI .i64 y36 1) fun v48 =>
some (.inl v48)) (some (.inr y36))) v23) fun (y37:Int) =>
lt (gtI y25 y37) fun v49 =>
ite' v49 (bn (nth v13 a1) fun v50 =>
bn (nth v13 y37) fun v52 =>
lt (v13.set y37.toNat v50) fun v55 =>
bn (nth v55 a1) fun v60 =>
lt (v55.set a1.toNat v52) fun v62 =>
some (y37,true,v62)) (bn (nth v13 y37) fun v71 =>
bn (nth v13 y25) fun v73 =>
lt (v13.set y25.toNat v71) fun v76 =>
bn (nth v76 y37) fun v81 =>
lt (v76.set y37.toNat v73) fun v83 =>
lt (addI .i64 y25 1) fun v92 =>
lt (subI .i64 y37 1) fun v93 =>
bn (iter n (fun (y94:Int×Int×List Int) =>
bn (iter n (fun (y97:Int) =>
bn (lt (leI y97 y94.2.1) fun v101 =>
ite' v101 (bn (nth y94.2.2 y97) fun v102 =>
bn (nth y94.2.2 a1) fun v104 =>
bn (AP n v102 v104) fun v106 =>
some (v106)) (some (false))) fun (y100:Bool) =>
lt (y100) fun v107 =>
ite' v107 (lt (addI .i64 y97 1) fun v108 =>
some (.inl v108)) (some (.inr y97))) y94.1) fun (y98:Int) =>
bn (iter n (fun (y109:Int) =>
bn (lt (leI y98 y109) fun v113 =>
ite' v113 (bn (nth y94.2.2 y109) fun v114 =>
bn (nth y94.2.2 a1) fun v116 =>
bn (AP n v114 v116) fun v118 =>
lt (notB v118) fun v119 =>
some (v119)) (some (false))) fun (y112:Bool) =>
lt (y112) fun v120 =>
ite' v120 (lt (subI .i64 y109 1) fun v121 =>
some (.inl v121)) (some (.inr y109))) y94.2.1) fun (y110:Int) =>
lt (gtI y98 y110) fun v122 =>
ite' v122 (some (.inr (y110,y94.2.2))) (bn (nth y94.2.2 y110) fun v123 =>
bn (nth y94.2.2 y98) fun v125 =>
lt (y94.2.2.set y98.toNat v123) fun v128 =>
bn (nth v128 y110) fun v133 =>
lt (v128.set y110.toNat v125) fun v135 =>
lt (addI .i64 y98 1) fun v144 =>
lt (subI .i64 y110 1) fun v145 =>
some (.inl (v144,v145,v135)))) (v92,v93,v83)) fun (y95:Int×List Int) =>
bn (nth y95.2 a1) fun v146 =>
bn (nth y95.2 y95.1) fun v148 =>
lt (y95.2.set y95.1.toNat v146) fun v151 =>
bn (nth v151 a1) fun v156 =>
lt (v151.set a1.toNat v148) fun v158 =>
some (y95.1,false,v158))
def DX4t6:List DI:=[⟨[0],[],[(10,none)],false⟩,⟨[0],[],[(11,none)],false⟩,⟨[0],[0,1],[(30,some 0),(31,some 1)],false⟩,⟨[0],[0,1,2],[(32,some 2)],false⟩,⟨[0],[0,1,2,3],[(0,none),(33,some 3)],false⟩,⟨[0],[0,1,2,3],[(10,none),(33,some 3)],false⟩,⟨[0],[0,1,2,3,4,5],[(33,some 3),(34,some 4),(35,some 5)],false⟩,⟨[0],[0,1,2,3,4,5,6],[(33,some 3),(36,some 6)],false⟩,⟨[0],[0,1,2,3],[(0,none),(33,some 3)],false⟩,⟨[0],[0,1,2,3],[(1,none),(33,some 3)],false⟩,⟨[0],[0,1,2,3,8,9],[(33,some 3),(38,some 8),(39,some 9)],false⟩,⟨[0],[0,1,2,3,8,9,10],[(33,some 3),(40,some 10)],false⟩,⟨[],[0,1,2,3,4,5,6,7,8,9,10,11],[],false⟩,⟨[],[0,1,2,3,4,5,6,7,8,9,10,11,12],[],false⟩]
def DX4t7:List DI:=[⟨[0],[],[(10,none)],false⟩,⟨[0],[],[(11,none)],false⟩,⟨[0],[0,1],[(46,some 0),(47,some 1)],false⟩,⟨[0],[0,1,2],[(48,some 2)],false⟩,⟨[0],[0,1,2,3],[(0,none),(49,some 3)],false⟩,⟨[0],[0,1,2,3],[(11,none),(49,some 3)],false⟩,⟨[0],[0,1,2,3,4,5],[(49,some 3),(50,some 4),(51,some 5)],false⟩,⟨[0],[0,1,2,3,4,5,6],[(49,some 3),(52,some 6)],false⟩,⟨[0],[0,1,2,3],[(0,none),(49,some 3)],false⟩,⟨[0],[0,1,2,3],[(1,none),(49,some 3)],false⟩,⟨[0],[0,1,2,3,8,9],[(49,some 3),(54,some 8),(55,some 9)],false⟩,⟨[0],[0,1,2,3,8,9,10],[(49,some 3),(56,some 10)],false⟩,⟨[],[0,1,2,3,4,5,6,7,8,9,10,11],[],false⟩,⟨[],[0,1,2,3,4,5,6,7,8,9,10,11,12],[],false⟩,⟨[],[0,1,2,3,4,5,6,7,8,9,10,11,12,13],[],false⟩]
def DX4t8:List DI:=[⟨[0],[],[(10,none)],false⟩,⟨[0],[],[(11,none)],false⟩,⟨[0],[0,1],[(99,some 0),(100,some 1)],false⟩,⟨[0],[0,1,2],[(101,some 2)],false⟩,⟨[0],[0,1,2,3],[(0,none),(102,some 3)],false⟩,⟨[0],[0,1,2,3],[(10,none),(102,some 3)],false⟩,⟨[0],[0,1,2,3,4,5],[(102,some 3),(103,some 4),(104,some 5)],false⟩,⟨[0],[0,1,2,3,4,5,6],[(102,some 3),(105,some 6)],false⟩,⟨[0],[0,1,2,3],[(0,none),(102,some 3)],false⟩,⟨[0],[0,1,2,3],[(1,none),(102,some 3)],false⟩,⟨[0],[0,1,2,3,8,9],[(102,some 3),(107,some 8),(108,some 9)],false⟩,⟨[0],[0,1,2,3,8,9,10],[(102,some 3),(109,some 10)],false⟩,⟨[],[0,1,2,3,4,5,6,7,8,9,10,11],[],false⟩,⟨[],[0,1,2,3,4,5,6,7,8,9,10,11,12],[],false⟩]
def DX4t9:List DI:=[⟨[0],[],[(10,none)],false⟩,⟨[0],[],[(11,none)],false⟩,⟨[0],[0,1],[(115,some 0),(116,some 1)],false⟩,⟨[0],[0,1,2],[(117,some 2)],false⟩,⟨[0],[0,1,2,3],[(0,none),(118,some 3)],false⟩,⟨[0],[0,1,2,3],[(11,none),(118,some 3)],false⟩,⟨[0],[0,1,2,3,4,5],[(118,some 3),(119,some 4),(120,some 5)],false⟩,⟨[0],[0,1,2,3,4,5,6],[(118,some 3),(121,some 6)],false⟩,⟨[0],[0,1,2,3],[(0,none),(118,some 3)],false⟩,⟨[0],[0,1,2,3],[(1,none),(118,some 3)],false⟩,⟨[0],[0,1,2,3,8,9],[(118,some 3),(123,some 8),(124,some 9)],false⟩,⟨[0],[0,1,2,3,8,9,10],[(118,some 3),(125,some 10)],false⟩,⟨[],[0,1,2,3,4,5,6,7,8,9,10,11],[],false⟩,⟨[],[0,1,2,3,4,5,6,7,8,9,10,11,12],[],false⟩,⟨[],[0,1,2,3,4,5,6,7,8,9,10,11,12,13],[],false⟩]
theorem D2 {n:Nat} {a0:List Int} {a1:Int} {a2:Int} {a3:Int} {r:Int×Bool×List Int} (h:Bn n a0 a1 a2 a3=some r):Sound Try.prog 53 [.l (.r 0 1 0 a0.length),.l (iA a1),.l (iA a2),.l (iA a3)] [⟨3,1,false,some 0,lvs (encI a0)⟩] (.t [(false,[iA r.1]),(false,[bA r.2.1])]) [some ⟨3,1,false,some 0,lvs (encI r.2.2)⟩]:=by
 unfold Bn at h;refine SO 168 Try.func53 fun cx hG (hz:cx.nb=1)=>?_;simp only[it];refine ST ?_;obtain⟨v1,e1,h⟩:=bnE h;have f2:=Ai e1;try simp[Aa e1] at f2
 obtain⟨v3,e3,h⟩:=bnE h;have f4:=Ai e3;try simp[Aa e1,f2,Ag (Aa e1).2,lvs1,Aa e3] at f4
 have f5:=Ai e3;try simp[Aa e1,f2,Ag (Aa e1).2,lvs1,Aa e3,f4,Ag (Aa e3).2] at f5
 obtain⟨v6,e6,h⟩:=ltE h;have f7:=AN (Aa e3).2 e6 (cs:=[iA v1]) (by simp) rfl;try simp at f7
 have f8:=f2;try simp only[Ac e6] at f8
 have f9:=f4;try simp only[Ac e6] at f9
 have f10:=f5;try simp only[Ac e6] at f10
 obtain⟨v11,e11,h⟩:=bnE h;have f12:=Ai e11;try simp[Aa e1,f2,Ag (Aa e1).2,lvs1,Aa e3,f4,Ag (Aa e3).2,f5,Ak (Aa e3).2 (show 1≤1 by decide),f7,f8,f9,f10,Aa e11] at f12
 obtain⟨v13,e13,h⟩:=ltE h;have f14:=AN (Aa e11).2 e13 (cs:=[iA v3]) (by simp) rfl;try simp at f14
 have f15:=f2;try simp only[Ac e13] at f15
 have f16:=f4;try simp only[Ac e13] at f16
 have f17:=f5;try simp only[Ac e13] at f17
 have f18:=f8;try simp only[Ac e13] at f18
 have f19:=f9;try simp only[Ac e13] at f19
 have f20:=f10;try simp only[Ac e13] at f20
 have f21:=f12;try simp only[Ac e13] at f21
 apply zJ (V:=[_,_,_,_,_,_,_,_,_,_,_,_,_,_]) (M:=[[some ⟨3,1,false,some 0,lvs (encI a0)⟩],[some ⟨3,1,false,some 0,lvs (encI v6)⟩]]) mixed [⟨[0],[],[(0,none)],false⟩,⟨[0],[],[(1,none)],false⟩,⟨[0,1],[],[(0,none)],false⟩,⟨[0,1],[],[(3,none)],false⟩,⟨[0],[],[(0,none)],false⟩,⟨[0],[],[(3,none)],false⟩,⟨[0],[4,5],[(16,some 4),(17,some 5)],false⟩,⟨[0],[4,5,6],[(18,some 6)],false⟩,⟨[0],[],[(0,none)],false⟩,⟨[0],[],[(1,none)],false⟩,⟨[0],[8,9],[(20,some 8),(21,some 9)],false⟩,⟨[0],[8,9,10],[(22,some 10)],false⟩,⟨[0],[0,1,4,5,6,7,8,9,10,11],[(12,some 0),(13,some 1)],false⟩,⟨[0],[0,1,4,5,6,7,8,9,10,11,12],[(19,some 7),(24,some 12)],true⟩,⟨[],[0,1,2,3,4,5,6,7,8,9,10,11,12,13],[],false⟩,⟨[],[0,1,2,3,4,5,6,7,8,9,10,11,12,13,14],[],false⟩] 14 1 (by kernel_rfl) (by kernel_rfl)
 ·rfl
 ·refine⟨?_,?_,⟨?_,?_⟩,⟨?_,?_⟩,?_,?_,?_,?_,?_,?_,?_,?_,?_,?_,trivial⟩;iterate 16 (· intro tm hr;simp[AllL,rdV] at hr;simp[hr,Aa e1,f2,Ag (Aa e1).2,lvs1,Aa e3,f4,Ag (Aa e3).2,f5,Ak (Aa e3).2 (show 1≤1 by decide),f7,f8,f9,f10,Aa e11,f12,Ac e6,Ak (Aa e11).2 (show 1≤1 by decide),f14,f15,f16,f17,f18,f19,f20,f21];intros;exact KA)
 ·rfl
 ·simp[tmD,putD,Aa e1,f2,Ag (Aa e1).2,lvs1,Aa e3,f4,Ag (Aa e3).2,f5,Ak (Aa e3).2 (show 1≤1 by decide),f7,f8,f9,f10,Aa e11,f12,Ac e6,Ak (Aa e11).2 (show 1≤1 by decide),f14,f15,f16,f17,f18,f19,f20,f21];rfl
 ·simp[Aa e1,f2,Ag (Aa e1).2,lvs1,Aa e3,f4,Ag (Aa e3).2,f5,Ak (Aa e3).2 (show 1≤1 by decide),f7,f8,f9,f10,Aa e11,f12,Ac e6,Ak (Aa e11).2 (show 1≤1 by decide),f14,f15,f16,f17,f18,f19,f20,f21];intros;rfl
 obtain⟨v22,e22,v23,e23,h⟩:=oll h;refine AW.step (by simp[← e22,← e23];intros;rfl) ?_;apply AW.seq;apply AW.block;obtain⟨y25,g25,h⟩:=bnE h;refine zE g25 (mk:=fun gh ls q=>(⟨[(0,.l (.r 0 1 0 v13.length)),(1,.l (iA a1)),(10,.l (iA q)),(11,.l (iA v23))],[some ⟨3,1,false,some 0,lvs (encI v13)⟩],168,gh,ls⟩:St)) (N:=fun gh ls=>(xP 0 (cx:=cx) (fun q=>(⟨[(0,.l (.r 0 1 0 v13.length)),(1,.l (iA a1)),(10,.l (iA q)),(11,.l (iA v23))],[some ⟨3,1,false,some 0,lvs (encI v13)⟩],168,gh,ls⟩:St)))) ?_ noX ?_ ?_
 ·refine zA 1 [some 0] hz (by decide) (by decide) ?_ ?_ ?_;all_goals first|(simp[Ab,Af,pickOb,Ac e13,Ac e6];done)|rfl
 ·clear h;intro y24 y26 h
  apply AW.seq;obtain⟨y27,g27,h⟩:=bnE h;refine zD (p:=fun gh ls=>(nP (cx:=cx) (fun q=>(⟨[(0,.l (.r 0 1 0 v13.length)),(1,.l (iA a1)),(10,.l (iA y24)),(11,.l (iA v23)),(43,.l (bA q))],[some ⟨3,1,false,some 0,lvs (encI v13)⟩],168,gh,ls⟩:St))) y27) ?_ ?_
  ·replace h:=g27;clear g27
   obtain⟨v28,e28,h⟩:=ltE h;cases v28 with
   |true=>
    replace h:=iT h;obtain⟨v29,e29,h⟩:=bnE h;have f30:=Ai e29;try simp[← e28,Aa e29] at f30
    obtain⟨v31,e31,h⟩:=bnE h;have f32:=Ai e31;try simp[← e28,Aa e29,f30,Ag (Aa e29).2,lvs1,Aa e31] at f32
    obtain⟨v33,e33,h⟩:=bnE h;apply zH (V:=[_,_,_,_,_,_,_,_,_,_,_,_]) mixed DX4t6 12 (by kernel_rfl) (by kernel_rfl)
    ·refine⟨?_,?_,?_,?_,?_,?_,?_,?_,?_,?_,?_,?_,trivial⟩;iterate 12 (· intro tm hr;simp[AllL,rdV] at hr;simp[hr,← e28,Aa e29,f30,Ag (Aa e29).2,lvs1,Aa e31,f32,Ag (Aa e31).2];intros;exact KA)
    ·rfl
    ·simp[tmD,putD,← e28,Aa e29,f30,Ag (Aa e29).2,lvs1,Aa e31,f32,Ag (Aa e31).2];rfl
    ·simp[← e28,Aa e29,f30,Ag (Aa e29).2,lvs1,Aa e31,f32,Ag (Aa e31).2];intros;refine Aj A2 (A9 e33) rfl ⟨.same rfl,.same rfl,trivial⟩ ?_;try simp[← e28,Aa e29,f30,Ag (Aa e29).2,lvs1,Aa e31,f32,Ag (Aa e31).2]
     intros;rfl
    obtain rfl:=oi h;refine nP_i ?_;refine zA 1 [some 0] hz (by decide) (by decide) ?_ ?_ ?_;all_goals first|(simp[Ab,Af,pickOb];done)|rfl
   |false=>
    replace h:=iF h;apply zH (V:=[_,_,_,_,_,_,_,_,_,_,_,_]) mixed DX4t6 12 (by kernel_rfl) (by kernel_rfl)
    ·refine⟨?_,?_,?_,?_,?_,?_,?_,?_,?_,?_,?_,?_,trivial⟩;iterate 12 (· intro tm hr;simp[AllL,rdV] at hr;simp[hr,← e28];intros;exact KA)
    ·rfl
    ·simp[tmD,putD,← e28];rfl
    ·simp[← e28];intros;rfl
    obtain rfl:=oi h;refine nP_i ?_;refine zA 1 [some 0] hz (by decide) (by decide) ?_ ?_ ?_;all_goals first|(simp[Ab,Af,pickOb];done)|rfl
  ·rintro e s⟨rfl,hw⟩;refine⟨_,hw,?_⟩;try simp only[nm]
   obtain⟨v34,e34,h⟩:=ltE h;rw[← e34];cases v34 with
   |true=>
    replace h:=iT h;refine CT ?_;apply AW.skip;try simp only[nm]
    apply AW.block;obtain⟨v35,e35,h⟩:=ltE h;refine AW.last (by simp[← e35];intros;rfl) ?_;obtain rfl:=oi h;refine nP_i ?_;refine zA 1 [some 0] hz (by decide) (by decide) ?_ ?_ ?_;all_goals first|(simp[Ab,Af,pickOb];done)|rfl
   |false=>
    replace h:=iF h;refine CF ?_;apply AW.exit;try simp only[nm]
    obtain rfl:=oi h;refine xP_i ?_;refine zA 1 [some 0] hz (by decide) (by decide) ?_ ?_ ?_;all_goals first|(simp[Ab,Af,pickOb];done)|rfl
 ·rintro e s⟨rfl,hw⟩;refine⟨_,hw,?_⟩;try simp only[nm]
  apply AW.seq;apply AW.block;obtain⟨y37,g37,h⟩:=bnE h;refine zE g37 (mk:=fun gh ls q=>(⟨[(0,.l (.r 0 1 0 v13.length)),(1,.l (iA a1)),(10,.l (iA y25)),(11,.l (iA q))],[some ⟨3,1,false,some 0,lvs (encI v13)⟩],168,gh,ls⟩:St)) (N:=fun gh ls=>(xP 2 (cx:=cx) (fun q=>(⟨[(0,.l (.r 0 1 0 v13.length)),(1,.l (iA a1)),(10,.l (iA y25)),(11,.l (iA q))],[some ⟨3,1,false,some 0,lvs (encI v13)⟩],168,gh,ls⟩:St)))) ?_ noX ?_ ?_
  ·refine zA 1 [some 0] hz (by decide) (by decide) ?_ ?_ ?_;all_goals first|(simp[Ab,Af,pickOb];done)|rfl
  ·clear h;intro y36 y38 h
   apply AW.seq;obtain⟨y39,g39,h⟩:=bnE h;refine zD (p:=fun gh ls=>(nP (cx:=cx) (fun q=>(⟨[(0,.l (.r 0 1 0 v13.length)),(1,.l (iA a1)),(10,.l (iA y25)),(11,.l (iA y36)),(60,.l (bA q))],[some ⟨3,1,false,some 0,lvs (encI v13)⟩],168,gh,ls⟩:St))) y39) ?_ ?_
   ·replace h:=g39;clear g39
    obtain⟨v40,e40,h⟩:=ltE h;cases v40 with
    |true=>
     replace h:=iT h;obtain⟨v41,e41,h⟩:=bnE h;have f42:=Ai e41;try simp[← e40,Aa e41] at f42
     obtain⟨v43,e43,h⟩:=bnE h;have f44:=Ai e43;try simp[← e40,Aa e41,f42,Ag (Aa e41).2,lvs1,Aa e43] at f44
     obtain⟨v45,e45,v46,e46,h⟩:=obl h;apply zH (V:=[_,_,_,_,_,_,_,_,_,_,_,_]) mixed DX4t7 12 (by kernel_rfl) (by kernel_rfl)
     ·refine⟨?_,?_,?_,?_,?_,?_,?_,?_,?_,?_,?_,?_,trivial⟩;iterate 12 (· intro tm hr;simp[AllL,rdV] at hr;simp[hr,← e40,Aa e41,f42,Ag (Aa e41).2,lvs1,Aa e43,f44,Ag (Aa e43).2,← e46];intros;exact KA)
     ·rfl
     ·simp[tmD,putD,← e40,Aa e41,f42,Ag (Aa e41).2,lvs1,Aa e43,f44,Ag (Aa e43).2,← e46];rfl
     ·simp[← e40,Aa e41,f42,Ag (Aa e41).2,lvs1,Aa e43,f44,Ag (Aa e43).2,← e46];intros;refine Aj A2 (A9 e45) rfl ⟨.same rfl,.same rfl,trivial⟩ ?_;try simp[← e40,Aa e41,f42,Ag (Aa e41).2,lvs1,Aa e43,f44,Ag (Aa e43).2,← e46]
      intros;rfl
     obtain rfl:=oi h;refine nP_i ?_;refine zA 1 [some 0] hz (by decide) (by decide) ?_ ?_ ?_;all_goals first|(simp[Ab,Af,pickOb];done)|rfl
    |false=>
     replace h:=iF h;apply zH (V:=[_,_,_,_,_,_,_,_,_,_,_,_]) mixed DX4t7 12 (by kernel_rfl) (by kernel_rfl)
     ·refine⟨?_,?_,?_,?_,?_,?_,?_,?_,?_,?_,?_,?_,trivial⟩;iterate 12 (· intro tm hr;simp[AllL,rdV] at hr;simp[hr,← e40];intros;exact KA)
     ·rfl
     ·simp[tmD,putD,← e40];rfl
     ·simp[← e40];intros;rfl
     obtain rfl:=oi h;refine nP_i ?_;refine zA 1 [some 0] hz (by decide) (by decide) ?_ ?_ ?_;all_goals first|(simp[Ab,Af,pickOb];done)|rfl
   ·rintro e s⟨rfl,hw⟩;refine⟨_,hw,?_⟩;try simp only[nm]
    obtain⟨v47,e47,h⟩:=ltE h;rw[← e47];cases v47 with
    |true=>
     replace h:=iT h;refine CT ?_;apply AW.skip;try simp only[nm]
     apply AW.block;obtain⟨v48,e48,h⟩:=ltE h;refine AW.last (by simp[← e48];intros;rfl) ?_;obtain rfl:=oi h;refine nP_i ?_;refine zA 1 [some 0] hz (by decide) (by decide) ?_ ?_ ?_;all_goals first|(simp[Ab,Af,pickOb];done)|rfl
    |false=>
     replace h:=iF h;refine CF ?_;apply AW.exit;try simp only[nm]
     obtain rfl:=oi h;refine xP_i ?_;refine zA 1 [some 0] hz (by decide) (by decide) ?_ ?_ ?_;all_goals first|(simp[Ab,Af,pickOb];done)|rfl
  ·rintro e s⟨rfl,hw⟩;refine⟨_,hw,?_⟩;try simp only[nm]
   apply AW.seq;obtain⟨v49,e49,h⟩:=ltE h;refine AW.step (by simp[← e49];intros;rfl) ?_;cases v49 with
   |true=>
    replace h:=iT h;refine CT ?_;obtain⟨v50,e50,h⟩:=bnE h;have f51:=Ai e50;try simp[Aa e50] at f51
    obtain⟨v52,e52,h⟩:=bnE h;have f53:=Ai e52;try simp[Aa e50,f51,Ag (Aa e50).2,lvs1,Aa e52] at f53
    have f54:=Ai e52;try simp[Aa e50,f51,Ag (Aa e50).2,lvs1,Aa e52,f53,Ag (Aa e52).2] at f54
    obtain⟨v55,e55,h⟩:=ltE h;have f56:=AN (Aa e52).2 e55 (cs:=[iA v50]) (by simp) rfl;try simp at f56
    have f57:=f51;try simp only[Ac e55] at f57
    have f58:=f53;try simp only[Ac e55] at f58
    have f59:=f54;try simp only[Ac e55] at f59
    obtain⟨v60,e60,h⟩:=bnE h;have f61:=Ai e60;try simp[Aa e50,f51,Ag (Aa e50).2,lvs1,Aa e52,f53,Ag (Aa e52).2,f54,Ak (Aa e52).2 (show 1≤1 by decide),f56,f57,f58,f59,Aa e60] at f61
    obtain⟨v62,e62,h⟩:=ltE h;have f63:=AN (Aa e60).2 e62 (cs:=[iA v52]) (by simp) rfl;try simp at f63
    have f64:=f51;try simp only[Ac e62] at f64
    have f65:=f53;try simp only[Ac e62] at f65
    have f66:=f54;try simp only[Ac e62] at f66
    have f67:=f57;try simp only[Ac e62] at f67
    have f68:=f58;try simp only[Ac e62] at f68
    have f69:=f59;try simp only[Ac e62] at f69
    have f70:=f61;try simp only[Ac e62] at f70
    apply zJ (V:=[_,_,_,_,_,_,_,_,_,_,_,_,_,_]) (M:=[[some ⟨3,1,false,some 0,lvs (encI v13)⟩],[some ⟨3,1,false,some 0,lvs (encI v55)⟩]]) mixed [⟨[0],[],[(0,none)],false⟩,⟨[0],[],[(11,none)],false⟩,⟨[0,1],[],[(0,none)],false⟩,⟨[0,1],[],[(1,none)],false⟩,⟨[0],[],[(0,none)],false⟩,⟨[0],[],[(1,none)],false⟩,⟨[0],[4,5],[(70,some 4),(71,some 5)],false⟩,⟨[0],[4,5,6],[(72,some 6)],false⟩,⟨[0],[],[(0,none)],false⟩,⟨[0],[],[(11,none)],false⟩,⟨[0],[8,9],[(74,some 8),(75,some 9)],false⟩,⟨[0],[8,9,10],[(76,some 10)],false⟩,⟨[0],[0,1,4,5,6,7,8,9,10,11],[(66,some 0),(67,some 1)],false⟩,⟨[0],[0,1,4,5,6,7,8,9,10,11,12],[(73,some 7),(78,some 12)],true⟩,⟨[],[0,1,2,3,4,5,6,7,8,9,10,11,12,13],[],false⟩,⟨[],[0,1,2,3,4,5,6,7,8,9,10,11,12,13,14],[],false⟩] 14 1 (by kernel_rfl) (by kernel_rfl)
    ·rfl
    ·refine⟨?_,?_,⟨?_,?_⟩,⟨?_,?_⟩,?_,?_,?_,?_,?_,?_,?_,?_,?_,?_,trivial⟩;iterate 16 (· intro tm hr;simp[AllL,rdV] at hr;simp[hr,Aa e50,f51,Ag (Aa e50).2,lvs1,Aa e52,f53,Ag (Aa e52).2,f54,Ak (Aa e52).2 (show 1≤1 by decide),f56,f57,f58,f59,Aa e60,f61,Ac e55,Ak (Aa e60).2 (show 1≤1 by decide),f63,f64,f65,f66,f67,f68,f69,f70];intros;exact KA)
    ·rfl
    ·simp[tmD,putD,Aa e50,f51,Ag (Aa e50).2,lvs1,Aa e52,f53,Ag (Aa e52).2,f54,Ak (Aa e52).2 (show 1≤1 by decide),f56,f57,f58,f59,Aa e60,f61,Ac e55,Ak (Aa e60).2 (show 1≤1 by decide),f63,f64,f65,f66,f67,f68,f69,f70];rfl
    ·simp[Aa e50,f51,Ag (Aa e50).2,lvs1,Aa e52,f53,Ag (Aa e52).2,f54,Ak (Aa e52).2 (show 1≤1 by decide),f56,f57,f58,f59,Aa e60,f61,Ac e55,Ak (Aa e60).2 (show 1≤1 by decide),f63,f64,f65,f66,f67,f68,f69,f70];intros;rfl
    refine ST ?_;obtain rfl:=oi h;apply AW.ret;refine Left.of (av:=_) (by simp[Try.f53,resV,resC,comp];rfl) ?_;exact zF 1 [some 0] hz rfl (by decide) rfl (by simp[pickOb,Ab,Af,Ac e55,Ac e62]) (by simp[Ab,Af,Ac e55,Ac e62])
   |false=>
    replace h:=iF h;refine CF ?_;apply AW.skip;try simp only[nm]
    obtain⟨v71,e71,h⟩:=bnE h;have f72:=Ai e71;try simp[Aa e71] at f72
    obtain⟨v73,e73,h⟩:=bnE h;have f74:=Ai e73;try simp[Aa e71,f72,Ag (Aa e71).2,lvs1,Aa e73] at f74
    have f75:=Ai e73;try simp[Aa e71,f72,Ag (Aa e71).2,lvs1,Aa e73,f74,Ag (Aa e73).2] at f75
    obtain⟨v76,e76,h⟩:=ltE h;have f77:=AN (Aa e73).2 e76 (cs:=[iA v71]) (by simp) rfl;try simp at f77
    have f78:=f72;try simp only[Ac e76] at f78
    have f79:=f74;try simp only[Ac e76] at f79
    have f80:=f75;try simp only[Ac e76] at f80
    obtain⟨v81,e81,h⟩:=bnE h;have f82:=Ai e81;try simp[Aa e71,f72,Ag (Aa e71).2,lvs1,Aa e73,f74,Ag (Aa e73).2,f75,Ak (Aa e73).2 (show 1≤1 by decide),f77,f78,f79,f80,Aa e81] at f82
    obtain⟨v83,e83,h⟩:=ltE h;have f84:=AN (Aa e81).2 e83 (cs:=[iA v73]) (by simp) rfl;try simp at f84
    have f85:=f72;try simp only[Ac e83] at f85
    have f86:=f74;try simp only[Ac e83] at f86
    have f87:=f75;try simp only[Ac e83] at f87
    have f88:=f78;try simp only[Ac e83] at f88
    have f89:=f79;try simp only[Ac e83] at f89
    have f90:=f80;try simp only[Ac e83] at f90
    have f91:=f82;try simp only[Ac e83] at f91
    apply zJ (V:=[_,_,_,_,_,_,_,_,_,_,_,_,_,_]) (M:=[[some ⟨3,1,false,some 0,lvs (encI v13)⟩],[some ⟨3,1,false,some 0,lvs (encI v76)⟩]]) mixed [⟨[0],[],[(0,none)],false⟩,⟨[0],[],[(10,none)],false⟩,⟨[0,1],[],[(0,none)],false⟩,⟨[0,1],[],[(11,none)],false⟩,⟨[0],[],[(0,none)],false⟩,⟨[0],[],[(11,none)],false⟩,⟨[0],[4,5],[(85,some 4),(86,some 5)],false⟩,⟨[0],[4,5,6],[(87,some 6)],false⟩,⟨[0],[],[(0,none)],false⟩,⟨[0],[],[(10,none)],false⟩,⟨[0],[8,9],[(89,some 8),(90,some 9)],false⟩,⟨[0],[8,9,10],[(91,some 10)],false⟩,⟨[0],[0,1,4,5,6,7,8,9,10,11],[(81,some 0),(82,some 1)],false⟩,⟨[0],[0,1,4,5,6,7,8,9,10,11,12],[(88,some 7),(93,some 12)],true⟩,⟨[],[0,1,2,3,4,5,6,7,8,9,10,11,12,13],[],false⟩,⟨[],[0,1,2,3,4,5,6,7,8,9,10,11,12,13,14],[],false⟩] 14 1 (by kernel_rfl) (by kernel_rfl)
    ·rfl
    ·refine⟨?_,?_,⟨?_,?_⟩,⟨?_,?_⟩,?_,?_,?_,?_,?_,?_,?_,?_,?_,?_,trivial⟩;iterate 16 (· intro tm hr;simp[AllL,rdV] at hr;simp[hr,Aa e71,f72,Ag (Aa e71).2,lvs1,Aa e73,f74,Ag (Aa e73).2,f75,Ak (Aa e73).2 (show 1≤1 by decide),f77,f78,f79,f80,Aa e81,f82,Ac e76,Ak (Aa e81).2 (show 1≤1 by decide),f84,f85,f86,f87,f88,f89,f90,f91];intros;exact KA)
    ·rfl
    ·simp[tmD,putD,Aa e71,f72,Ag (Aa e71).2,lvs1,Aa e73,f74,Ag (Aa e73).2,f75,Ak (Aa e73).2 (show 1≤1 by decide),f77,f78,f79,f80,Aa e81,f82,Ac e76,Ak (Aa e81).2 (show 1≤1 by decide),f84,f85,f86,f87,f88,f89,f90,f91];rfl
    ·simp[Aa e71,f72,Ag (Aa e71).2,lvs1,Aa e73,f74,Ag (Aa e73).2,f75,Ak (Aa e73).2 (show 1≤1 by decide),f77,f78,f79,f80,Aa e81,f82,Ac e76,Ak (Aa e81).2 (show 1≤1 by decide),f84,f85,f86,f87,f88,f89,f90,f91];intros;rfl
    obtain⟨v92,e92,h⟩:=ltE h;refine AW.step (by simp[← e92];intros;rfl) ?_;obtain⟨v93,e93,h⟩:=ltE h;refine AW.step (by simp[← e93];intros;rfl) ?_;apply AW.seq;apply AW.block;obtain⟨y95,g95,h⟩:=bnE h;refine zE g95 (mk:=fun gh ls q=>(⟨[(0,.l (.r 0 1 0 q.2.2.length)),(1,.l (iA a1)),(10,.l (iA q.1)),(11,.l (iA q.2.1))],[some ⟨3,1,false,some 0,lvs (encI q.2.2)⟩],168,gh,ls⟩:St)) (N:=fun gh ls=>(xP 4 (cx:=cx) (fun q=>(⟨[(0,.l (.r 0 1 0 q.2.length)),(1,.l (iA a1)),(11,.l (iA q.1))],[some ⟨3,1,false,some 0,lvs (encI q.2)⟩],168,gh,ls⟩:St)))) ?_ noX ?_ ?_
    ·refine zA 1 [some 0] hz (by decide) (by decide) ?_ ?_ ?_;all_goals first|(simp[Ab,Af,pickOb,Ac e76,Ac e83];done)|rfl
    ·clear h;intro y94 y96 h
     apply AW.block;apply AW.seq;apply AW.block;obtain⟨y98,g98,h⟩:=bnE h;refine zE g98 (mk:=fun gh ls q=>(⟨[(0,.l (.r 0 1 0 y94.2.2.length)),(1,.l (iA a1)),(10,.l (iA q)),(11,.l (iA y94.2.1))],[some ⟨3,1,false,some 0,lvs (encI y94.2.2)⟩],168,gh,ls⟩:St)) (N:=fun gh ls=>(xP 6 (cx:=cx) (fun q=>(⟨[(0,.l (.r 0 1 0 y94.2.2.length)),(1,.l (iA a1)),(10,.l (iA q)),(11,.l (iA y94.2.1))],[some ⟨3,1,false,some 0,lvs (encI y94.2.2)⟩],168,gh,ls⟩:St)))) ?_ noX ?_ ?_
     ·refine zA 1 [some 0] hz (by decide) (by decide) ?_ ?_ ?_;all_goals first|(simp[Ab,Af,pickOb];done)|rfl
     ·clear h;intro y97 y99 h
      apply AW.seq;obtain⟨y100,g100,h⟩:=bnE h;refine zD (p:=fun gh ls=>(nP (cx:=cx) (fun q=>(⟨[(0,.l (.r 0 1 0 y94.2.2.length)),(1,.l (iA a1)),(10,.l (iA y97)),(11,.l (iA y94.2.1)),(112,.l (bA q))],[some ⟨3,1,false,some 0,lvs (encI y94.2.2)⟩],168,gh,ls⟩:St))) y100) ?_ ?_
      ·replace h:=g100;clear g100
       obtain⟨v101,e101,h⟩:=ltE h;cases v101 with
       |true=>
        replace h:=iT h;obtain⟨v102,e102,h⟩:=bnE h;have f103:=Ai e102;try simp[← e101,Aa e102] at f103
        obtain⟨v104,e104,h⟩:=bnE h;have f105:=Ai e104;try simp[← e101,Aa e102,f103,Ag (Aa e102).2,lvs1,Aa e104] at f105
        obtain⟨v106,e106,h⟩:=bnE h;apply zH (V:=[_,_,_,_,_,_,_,_,_,_,_,_]) mixed DX4t8 12 (by kernel_rfl) (by kernel_rfl)
        ·refine⟨?_,?_,?_,?_,?_,?_,?_,?_,?_,?_,?_,?_,trivial⟩;iterate 12 (· intro tm hr;simp[AllL,rdV] at hr;simp[hr,← e101,Aa e102,f103,Ag (Aa e102).2,lvs1,Aa e104,f105,Ag (Aa e104).2];intros;exact KA)
        ·rfl
        ·simp[tmD,putD,← e101,Aa e102,f103,Ag (Aa e102).2,lvs1,Aa e104,f105,Ag (Aa e104).2];rfl
        ·simp[← e101,Aa e102,f103,Ag (Aa e102).2,lvs1,Aa e104,f105,Ag (Aa e104).2];intros;refine Aj A2 (A9 e106) rfl ⟨.same rfl,.same rfl,trivial⟩ ?_;try simp[← e101,Aa e102,f103,Ag (Aa e102).2,lvs1,Aa e104,f105,Ag (Aa e104).2]
         intros;rfl
        obtain rfl:=oi h;refine nP_i ?_;refine zA 1 [some 0] hz (by decide) (by decide) ?_ ?_ ?_;all_goals first|(simp[Ab,Af,pickOb];done)|rfl
       |false=>
        replace h:=iF h;apply zH (V:=[_,_,_,_,_,_,_,_,_,_,_,_]) mixed DX4t8 12 (by kernel_rfl) (by kernel_rfl)
        ·refine⟨?_,?_,?_,?_,?_,?_,?_,?_,?_,?_,?_,?_,trivial⟩;iterate 12 (· intro tm hr;simp[AllL,rdV] at hr;simp[hr,← e101];intros;exact KA)
        ·rfl
        ·simp[tmD,putD,← e101];rfl
        ·simp[← e101];intros;rfl
        obtain rfl:=oi h;refine nP_i ?_;refine zA 1 [some 0] hz (by decide) (by decide) ?_ ?_ ?_;all_goals first|(simp[Ab,Af,pickOb];done)|rfl
      ·rintro e s⟨rfl,hw⟩;refine⟨_,hw,?_⟩;try simp only[nm]
       obtain⟨v107,e107,h⟩:=ltE h;rw[← e107];cases v107 with
       |true=>
        replace h:=iT h;refine CT ?_;apply AW.skip;try simp only[nm]
        apply AW.block;obtain⟨v108,e108,h⟩:=ltE h;refine AW.last (by simp[← e108];intros;rfl) ?_;obtain rfl:=oi h;refine nP_i ?_;refine zA 1 [some 0] hz (by decide) (by decide) ?_ ?_ ?_;all_goals first|(simp[Ab,Af,pickOb];done)|rfl
       |false=>
        replace h:=iF h;refine CF ?_;apply AW.exit;try simp only[nm]
        obtain rfl:=oi h;refine xP_i ?_;refine zA 1 [some 0] hz (by decide) (by decide) ?_ ?_ ?_;all_goals first|(simp[Ab,Af,pickOb];done)|rfl
     ·rintro e s⟨rfl,hw⟩;refine⟨_,hw,?_⟩;try simp only[nm]
      apply AW.seq;apply AW.block;obtain⟨y110,g110,h⟩:=bnE h;refine zE g110 (mk:=fun gh ls q=>(⟨[(0,.l (.r 0 1 0 y94.2.2.length)),(1,.l (iA a1)),(10,.l (iA y98)),(11,.l (iA q))],[some ⟨3,1,false,some 0,lvs (encI y94.2.2)⟩],168,gh,ls⟩:St)) (N:=fun gh ls=>(xP 8 (cx:=cx) (fun q=>(⟨[(0,.l (.r 0 1 0 y94.2.2.length)),(1,.l (iA a1)),(10,.l (iA y98)),(11,.l (iA q))],[some ⟨3,1,false,some 0,lvs (encI y94.2.2)⟩],168,gh,ls⟩:St)))) ?_ noX ?_ ?_
      ·refine zA 1 [some 0] hz (by decide) (by decide) ?_ ?_ ?_;all_goals first|(simp[Ab,Af,pickOb];done)|rfl
      ·clear h;intro y109 y111 h
       apply AW.seq;obtain⟨y112,g112,h⟩:=bnE h;refine zD (p:=fun gh ls=>(nP (cx:=cx) (fun q=>(⟨[(0,.l (.r 0 1 0 y94.2.2.length)),(1,.l (iA a1)),(10,.l (iA y98)),(11,.l (iA y109)),(129,.l (bA q))],[some ⟨3,1,false,some 0,lvs (encI y94.2.2)⟩],168,gh,ls⟩:St))) y112) ?_ ?_
       ·replace h:=g112;clear g112
        obtain⟨v113,e113,h⟩:=ltE h;cases v113 with
        |true=>
         replace h:=iT h;obtain⟨v114,e114,h⟩:=bnE h;have f115:=Ai e114;try simp[← e113,Aa e114] at f115
         obtain⟨v116,e116,h⟩:=bnE h;have f117:=Ai e116;try simp[← e113,Aa e114,f115,Ag (Aa e114).2,lvs1,Aa e116] at f117
         obtain⟨v118,e118,v119,e119,h⟩:=obl h;apply zH (V:=[_,_,_,_,_,_,_,_,_,_,_,_]) mixed DX4t9 12 (by kernel_rfl) (by kernel_rfl)
         ·refine⟨?_,?_,?_,?_,?_,?_,?_,?_,?_,?_,?_,?_,trivial⟩;iterate 12 (· intro tm hr;simp[AllL,rdV] at hr;simp[hr,← e113,Aa e114,f115,Ag (Aa e114).2,lvs1,Aa e116,f117,Ag (Aa e116).2,← e119];intros;exact KA)
         ·rfl
         ·simp[tmD,putD,← e113,Aa e114,f115,Ag (Aa e114).2,lvs1,Aa e116,f117,Ag (Aa e116).2,← e119];rfl
         ·simp[← e113,Aa e114,f115,Ag (Aa e114).2,lvs1,Aa e116,f117,Ag (Aa e116).2,← e119];intros;refine Aj A2 (A9 e118) rfl ⟨.same rfl,.same rfl,trivial⟩ ?_;try simp[← e113,Aa e114,f115,Ag (Aa e114).2,lvs1,Aa e116,f117,Ag (Aa e116).2,← e119]
          intros;rfl
         obtain rfl:=oi h;refine nP_i ?_;refine zA 1 [some 0] hz (by decide) (by decide) ?_ ?_ ?_;all_goals first|(simp[Ab,Af,pickOb];done)|rfl
        |false=>
         replace h:=iF h;apply zH (V:=[_,_,_,_,_,_,_,_,_,_,_,_]) mixed DX4t9 12 (by kernel_rfl) (by kernel_rfl)
         ·refine⟨?_,?_,?_,?_,?_,?_,?_,?_,?_,?_,?_,?_,trivial⟩;iterate 12 (· intro tm hr;simp[AllL,rdV] at hr;simp[hr,← e113];intros;exact KA)
         ·rfl
         ·simp[tmD,putD,← e113];rfl
         ·simp[← e113];intros;rfl
         obtain rfl:=oi h;refine nP_i ?_;refine zA 1 [some 0] hz (by decide) (by decide) ?_ ?_ ?_;all_goals first|(simp[Ab,Af,pickOb];done)|rfl
       ·rintro e s⟨rfl,hw⟩;refine⟨_,hw,?_⟩;try simp only[nm]
        obtain⟨v120,e120,h⟩:=ltE h;rw[← e120];cases v120 with
        |true=>
         replace h:=iT h;refine CT ?_;apply AW.skip;try simp only[nm]
         apply AW.block;obtain⟨v121,e121,h⟩:=ltE h;refine AW.last (by simp[← e121];intros;rfl) ?_;obtain rfl:=oi h;refine nP_i ?_;refine zA 1 [some 0] hz (by decide) (by decide) ?_ ?_ ?_;all_goals first|(simp[Ab,Af,pickOb];done)|rfl
        |false=>
         replace h:=iF h;refine CF ?_;apply AW.exit;try simp only[nm]
         obtain rfl:=oi h;refine xP_i ?_;refine zA 1 [some 0] hz (by decide) (by decide) ?_ ?_ ?_;all_goals first|(simp[Ab,Af,pickOb];done)|rfl
      ·rintro e s⟨rfl,hw⟩;refine⟨_,hw,?_⟩;try simp only[nm]
       apply AW.seq;obtain⟨v122,e122,h⟩:=ltE h;refine AW.step (by simp[← e122];intros;rfl) ?_;cases v122 with
       |true=>
        replace h:=iT h;refine CT ?_;apply AW.exit;try simp only[nm]
        obtain rfl:=oi h;refine xP_i ?_;refine zA 1 [some 0] hz (by decide) (by decide) ?_ ?_ ?_;all_goals first|(simp[Ab,Af,pickOb];done)|rfl
       |false=>
        replace h:=iF h;refine CF ?_;apply AW.skip;try simp only[nm]
        obtain⟨v123,e123,h⟩:=bnE h;have f124:=Ai e123;try simp[Aa e123] at f124
        obtain⟨v125,e125,h⟩:=bnE h;have f126:=Ai e125;try simp[Aa e123,f124,Ag (Aa e123).2,lvs1,Aa e125] at f126
        have f127:=Ai e125;try simp[Aa e123,f124,Ag (Aa e123).2,lvs1,Aa e125,f126,Ag (Aa e125).2] at f127
        obtain⟨v128,e128,h⟩:=ltE h;have f129:=AN (Aa e125).2 e128 (cs:=[iA v123]) (by simp) rfl;try simp at f129
        have f130:=f124;try simp only[Ac e128] at f130
        have f131:=f126;try simp only[Ac e128] at f131
        have f132:=f127;try simp only[Ac e128] at f132
        obtain⟨v133,e133,h⟩:=bnE h;have f134:=Ai e133;try simp[Aa e123,f124,Ag (Aa e123).2,lvs1,Aa e125,f126,Ag (Aa e125).2,f127,Ak (Aa e125).2 (show 1≤1 by decide),f129,f130,f131,f132,Aa e133] at f134
        obtain⟨v135,e135,h⟩:=ltE h;have f136:=AN (Aa e133).2 e135 (cs:=[iA v125]) (by simp) rfl;try simp at f136
        have f137:=f124;try simp only[Ac e135] at f137
        have f138:=f126;try simp only[Ac e135] at f138
        have f139:=f127;try simp only[Ac e135] at f139
        have f140:=f130;try simp only[Ac e135] at f140
        have f141:=f131;try simp only[Ac e135] at f141
        have f142:=f132;try simp only[Ac e135] at f142
        have f143:=f134;try simp only[Ac e135] at f143
        apply zJ (V:=[_,_,_,_,_,_,_,_,_,_,_,_,_,_]) (M:=[[some ⟨3,1,false,some 0,lvs (encI y94.2.2)⟩],[some ⟨3,1,false,some 0,lvs (encI v128)⟩]]) mixed [⟨[0],[],[(0,none)],false⟩,⟨[0],[],[(10,none)],false⟩,⟨[0,1],[],[(0,none)],false⟩,⟨[0,1],[],[(11,none)],false⟩,⟨[0],[],[(0,none)],false⟩,⟨[0],[],[(11,none)],false⟩,⟨[0],[4,5],[(139,some 4),(140,some 5)],false⟩,⟨[0],[4,5,6],[(141,some 6)],false⟩,⟨[0],[],[(0,none)],false⟩,⟨[0],[],[(10,none)],false⟩,⟨[0],[8,9],[(143,some 8),(144,some 9)],false⟩,⟨[0],[8,9,10],[(145,some 10)],false⟩,⟨[0],[0,1,4,5,6,7,8,9,10,11],[(135,some 0),(136,some 1)],false⟩,⟨[0],[0,1,4,5,6,7,8,9,10,11,12],[(142,some 7),(147,some 12)],true⟩,⟨[],[0,1,2,3,4,5,6,7,8,9,10,11,12,13],[],false⟩,⟨[],[0,1,2,3,4,5,6,7,8,9,10,11,12,13,14],[],false⟩] 14 1 (by kernel_rfl) (by kernel_rfl)
        ·rfl
        ·refine⟨?_,?_,⟨?_,?_⟩,⟨?_,?_⟩,?_,?_,?_,?_,?_,?_,?_,?_,?_,?_,trivial⟩;iterate 16 (· intro tm hr;simp[AllL,rdV] at hr;simp[hr,Aa e123,f124,Ag (Aa e123).2,lvs1,Aa e125,f126,Ag (Aa e125).2,f127,Ak (Aa e125).2 (show 1≤1 by decide),f129,f130,f131,f132,Aa e133,f134,Ac e128,Ak (Aa e133).2 (show 1≤1 by decide),f136,f137,f138,f139,f140,f141,f142,f143];intros;exact KA)
        ·rfl
        ·simp[tmD,putD,Aa e123,f124,Ag (Aa e123).2,lvs1,Aa e125,f126,Ag (Aa e125).2,f127,Ak (Aa e125).2 (show 1≤1 by decide),f129,f130,f131,f132,Aa e133,f134,Ac e128,Ak (Aa e133).2 (show 1≤1 by decide),f136,f137,f138,f139,f140,f141,f142,f143];rfl
        ·simp[Aa e123,f124,Ag (Aa e123).2,lvs1,Aa e125,f126,Ag (Aa e125).2,f127,Ak (Aa e125).2 (show 1≤1 by decide),f129,f130,f131,f132,Aa e133,f134,Ac e128,Ak (Aa e133).2 (show 1≤1 by decide),f136,f137,f138,f139,f140,f141,f142,f143];intros;rfl
        obtain⟨v144,e144,h⟩:=ltE h;refine AW.step (by simp[← e144];intros;rfl) ?_;obtain⟨v145,e145,h⟩:=ltE h;refine AW.last (by simp[← e145];intros;rfl) ?_;obtain rfl:=oi h;refine nP_i ?_;refine zA 1 [some 0] hz (by decide) (by decide) ?_ ?_ ?_;all_goals first|(simp[Ab,Af,pickOb,Ac e128,Ac e135];done)|rfl
    ·rintro e s⟨rfl,hw⟩;refine⟨_,hw,?_⟩;try simp only[nm]
     obtain⟨v146,e146,h⟩:=bnE h;have f147:=Ai e146;try simp[Aa e146] at f147
     obtain⟨v148,e148,h⟩:=bnE h;have f149:=Ai e148;try simp[Aa e146,f147,Ag (Aa e146).2,lvs1,Aa e148] at f149
     have f150:=Ai e148;try simp[Aa e146,f147,Ag (Aa e146).2,lvs1,Aa e148,f149,Ag (Aa e148).2] at f150
     obtain⟨v151,e151,h⟩:=ltE h;have f152:=AN (Aa e148).2 e151 (cs:=[iA v146]) (by simp) rfl;try simp at f152
     have f153:=f147;try simp only[Ac e151] at f153
     have f154:=f149;try simp only[Ac e151] at f154
     have f155:=f150;try simp only[Ac e151] at f155
     obtain⟨v156,e156,h⟩:=bnE h;have f157:=Ai e156;try simp[Aa e146,f147,Ag (Aa e146).2,lvs1,Aa e148,f149,Ag (Aa e148).2,f150,Ak (Aa e148).2 (show 1≤1 by decide),f152,f153,f154,f155,Aa e156] at f157
     obtain⟨v158,e158,h⟩:=ltE h;have f159:=AN (Aa e156).2 e158 (cs:=[iA v148]) (by simp) rfl;try simp at f159
     have f160:=f147;try simp only[Ac e158] at f160
     have f161:=f149;try simp only[Ac e158] at f161
     have f162:=f150;try simp only[Ac e158] at f162
     have f163:=f153;try simp only[Ac e158] at f163
     have f164:=f154;try simp only[Ac e158] at f164
     have f165:=f155;try simp only[Ac e158] at f165
     have f166:=f157;try simp only[Ac e158] at f166
     apply zJ (V:=[_,_,_,_,_,_,_,_,_,_,_,_,_,_]) (M:=[[some ⟨3,1,false,some 0,lvs (encI y95.2)⟩],[some ⟨3,1,false,some 0,lvs (encI v151)⟩]]) mixed [⟨[0],[],[(0,none)],false⟩,⟨[0],[],[(11,none)],false⟩,⟨[0,1],[],[(0,none)],false⟩,⟨[0,1],[],[(1,none)],false⟩,⟨[0],[],[(0,none)],false⟩,⟨[0],[],[(1,none)],false⟩,⟨[0],[4,5],[(157,some 4),(158,some 5)],false⟩,⟨[0],[4,5,6],[(159,some 6)],false⟩,⟨[0],[],[(0,none)],false⟩,⟨[0],[],[(11,none)],false⟩,⟨[0],[8,9],[(161,some 8),(162,some 9)],false⟩,⟨[0],[8,9,10],[(163,some 10)],false⟩,⟨[0],[0,1,4,5,6,7,8,9,10,11],[(153,some 0),(154,some 1)],false⟩,⟨[0],[0,1,4,5,6,7,8,9,10,11,12],[(160,some 7),(165,some 12)],true⟩,⟨[],[0,1,2,3,4,5,6,7,8,9,10,11,12,13],[],false⟩,⟨[],[0,1,2,3,4,5,6,7,8,9,10,11,12,13,14],[],false⟩] 14 1 (by kernel_rfl) (by kernel_rfl)
     ·rfl
     ·refine⟨?_,?_,⟨?_,?_⟩,⟨?_,?_⟩,?_,?_,?_,?_,?_,?_,?_,?_,?_,?_,trivial⟩;iterate 16 (· intro tm hr;simp[AllL,rdV] at hr;simp[hr,Aa e146,f147,Ag (Aa e146).2,lvs1,Aa e148,f149,Ag (Aa e148).2,f150,Ak (Aa e148).2 (show 1≤1 by decide),f152,f153,f154,f155,Aa e156,f157,Ac e151,Ak (Aa e156).2 (show 1≤1 by decide),f159,f160,f161,f162,f163,f164,f165,f166];intros;exact KA)
     ·rfl
     ·simp[tmD,putD,Aa e146,f147,Ag (Aa e146).2,lvs1,Aa e148,f149,Ag (Aa e148).2,f150,Ak (Aa e148).2 (show 1≤1 by decide),f152,f153,f154,f155,Aa e156,f157,Ac e151,Ak (Aa e156).2 (show 1≤1 by decide),f159,f160,f161,f162,f163,f164,f165,f166];rfl
     ·simp[Aa e146,f147,Ag (Aa e146).2,lvs1,Aa e148,f149,Ag (Aa e148).2,f150,Ak (Aa e148).2 (show 1≤1 by decide),f152,f153,f154,f155,Aa e156,f157,Ac e151,Ak (Aa e156).2 (show 1≤1 by decide),f159,f160,f161,f162,f163,f164,f165,f166];intros;rfl
     refine ST ?_;obtain rfl:=oi h;apply AW.ret;refine Left.of (av:=_) (by simp[Try.f53,resV,resC,comp];rfl) ?_;exact zF 1 [some 0] hz rfl (by decide) rfl (by simp[pickOb,Ab,Af,Ac e151,Ac e158]) (by simp[Ab,Af,Ac e151,Ac e158])
theorem DZ:Enters Try.prog 53:=enters Try.func53 (by kernel_rfl) rfl
def Bf (n:Nat) (a0:List Int) (a1:Int) (a2:Int):Option (List Int) :=
lt (subI .i64 a2 a1) fun v1 =>
lt (geI v1 8) fun v2 =>
ite' v2 (lt (cvI .u64 v1) fun v3 =>
bn (Bq n v1) fun v4 =>
bn (quoI .i64 v1 4) fun v5 =>
lt (mulI .i64 v5 2) fun v6 =>
lt (addI .i64 a1 v6) fun v7 =>
lt (subI .i64 v7 1) fun v8 =>
bn (iter n (fun (y9:Int×List Int×Int) =>
bn (quoI .i64 v1 4) fun v12 =>
lt (mulI .i64 v12 2) fun v13 =>
lt (addI .i64 a1 v13) fun v14 =>
lt (addI .i64 v14 1) fun v15 =>
lt (leI y9.1 v15) fun v16 =>
ite' v16 (bn (BC n y9.2.2) fun v17 =>
lt (subI .u64 v4 1) fun v18 =>
lt (andI .u64 v17.1 v18) fun v19 =>
lt (cvI .i64 v19) fun v20 =>
bn (lt (geI v20 v1) fun v22 =>
ite' v22 (lt (subI .i64 v20 v1) fun v23 =>
some (v23)) (some (v20))) fun (y21:Int) =>
lt (addI .i64 a1 y21) fun v24 =>
bn (nth y9.2.1 v24) fun v25 =>
bn (nth y9.2.1 y9.1) fun v27 =>
lt (y9.2.1.set y9.1.toNat v25) fun v30 =>
bn (nth v30 v24) fun v35 =>
lt (v30.set v24.toNat v27) fun v37 =>
lt (addI .i64 y9.1 1) fun v46 =>
some (.inl (v46,v37,v17.2))) (some (.inr y9.2.1))) (v8,a0,v3)) fun (y10:List Int) =>
some y10) (some a0)
theorem DE {n:Nat} {a0:List Int} {a1:Int} {a2:Int} {r:List Int} (h:Bf n a0 a1 a2=some r):Sound Try.prog 47 [.l (.r 0 1 0 a0.length),.l (iA a1),.l (iA a2)] [⟨3,1,false,some 0,lvs (encI a0)⟩] (.t []) [some ⟨3,1,false,some 0,lvs (encI r)⟩]:=by
 unfold Bf at h;refine SO 65 Try.func47 fun cx hG (hz:cx.nb=1)=>?_;simp only[it];obtain⟨v1,e1,h⟩:=ltE h;refine AW.step (by simp[← e1];intros;rfl) ?_;obtain⟨v2,e2,h⟩:=ltE h;refine AW.step (by simp[← e2];intros;rfl) ?_;cases v2 with
 |true=>
  replace h:=iT h;refine CT ?_;obtain⟨v3,e3,h⟩:=ltE h;refine AW.step (by simp[← e3];intros;rfl) ?_;obtain⟨v4,e4,h⟩:=bnE h;apply AW.step
  ·simp;intros;refine Aj Db (Dl e4) rfl ⟨.same rfl,trivial⟩ ?_;try simp
   intros;rfl
  obtain⟨v5,e5,v6,e6,v7,e7,h⟩:=obll h;obtain⟨v8,e8,h⟩:=ltE h;refine AW.step (by simp[e5,← e6,← e7,← e8];intros;rfl) ?_;apply AW.block;obtain⟨y10,g10,h⟩:=bnE h;refine zE g10 (mk:=fun gh ls q=>(⟨[(0,.l (.r 0 1 0 q.2.1.length)),(1,.l (iA a1)),(6,.l (iA v1)),(7,.l (.p 1 0)),(8,.l (.s (.int .u64 v4))),(9,.l (iA q.1))],[some ⟨3,1,false,some 0,lvs (encI q.2.1)⟩,some ⟨104,1,false,none,[.s (.int .u64 q.2.2)]⟩],65,gh,ls⟩:St)) (N:=fun gh ls=>(xP 0 (cx:=cx) (fun q=>(⟨[],[some ⟨3,1,false,some 0,lvs (encI q)⟩],65,gh,ls⟩:St)))) ?_ noX ?_ ?_
  ·refine zA 1 [some 0,some 1] hz (by decide) (by decide) ?_ ?_ ?_;all_goals first|(simp[Ab,Af,pickOb];done)|rfl
  ·clear h;intro y9 y11 h
   apply AW.seq;obtain⟨v12,e12,v13,e13,v14,e14,h⟩:=obll h;obtain⟨v15,e15,v16,e16,h⟩:=oll h;refine AW.step (by simp[e12,← e13,← e14,← e15,← e16];intros;rfl) ?_;cases v16 with
   |true=>
    replace h:=iT h;refine CT ?_;apply AW.skip;try simp only[nm]
    apply AW.seq;apply AW.block;obtain⟨v17,e17,v18,e18,v19,e19,h⟩:=obll h;obtain⟨v20,e20,h⟩:=ltE h;apply AW.step
    ·simp[← e18,← e19,← e20];intros;refine As [1] Dm (DA e17) (by decide) (by simp[pickOb,Ab,Af]) rfl rfl (by simp) ⟨.l (ptrV (by simp[Ab,Af])),trivial⟩ ?_;try simp[← e18,← e19,← e20]
     intros;rfl
    obtain⟨y21,g21,h⟩:=bnE h;refine zD (p:=fun gh ls=>(nP (cx:=cx) (fun q=>(⟨[(0,.l (.r 0 1 0 y9.2.1.length)),(1,.l (iA a1)),(6,.l (iA v1)),(7,.l (.p 1 0)),(8,.l (.s (.int .u64 v4))),(9,.l (iA y9.1)),(10,.l (iA q))],[some ⟨3,1,false,some 0,lvs (encI y9.2.1)⟩,some ⟨104,1,false,none,[.s (.int .u64 v17.2)]⟩],65,gh,ls⟩:St))) y21) ?_ ?_
    ·replace h:=g21;clear g21
     obtain⟨v22,e22,h⟩:=ltE h;refine AW.step (by simp[← e22];intros;rfl) ?_;cases v22 with
     |true=>
      replace h:=iT h;refine CT ?_;obtain⟨v23,e23,h⟩:=ltE h;refine AW.last (by simp[← e23];intros;rfl) ?_;obtain rfl:=oi h;refine nP_i ?_;refine zA 1 [some 0,some 1] hz (by decide) (by decide) ?_ ?_ ?_;all_goals first|(simp[Ab,Af,pickOb];done)|rfl
     |false=>
      replace h:=iF h;refine CF ?_;apply AW.skip;try simp only[nm]
      obtain rfl:=oi h;refine nP_i ?_;refine zA 1 [some 0,some 1] hz (by decide) (by decide) ?_ ?_ ?_;all_goals first|(simp[Ab,Af,pickOb];done)|rfl
    ·rintro e s⟨rfl,hw⟩;refine⟨_,hw,?_⟩;try simp only[nm]
     obtain⟨v24,e24,v25,e25,h⟩:=olb h;have f26:=Ai e25;try simp[← e24,Aa e25] at f26
     obtain⟨v27,e27,h⟩:=bnE h;have f28:=Ai e27;try simp[← e24,Aa e25,f26,Ag (Aa e25).2,lvs1,Aa e27] at f28
     have f29:=Ai e27;try simp[← e24,Aa e25,f26,Ag (Aa e25).2,lvs1,Aa e27,f28,Ag (Aa e27).2] at f29
     obtain⟨v30,e30,h⟩:=ltE h;have f31:=AN (Aa e27).2 e30 (cs:=[iA v25]) (by simp) rfl;try simp at f31
     have f32:=f26;try simp only[Ac e30] at f32
     have f33:=f28;try simp only[Ac e30] at f33
     have f34:=f29;try simp only[Ac e30] at f34
     obtain⟨v35,e35,h⟩:=bnE h;have f36:=Ai e35;try simp[← e24,Aa e25,f26,Ag (Aa e25).2,lvs1,Aa e27,f28,Ag (Aa e27).2,f29,Ak (Aa e27).2 (show 1≤1 by decide),f31,f32,f33,f34,Aa e35] at f36
     obtain⟨v37,e37,h⟩:=ltE h;have f38:=AN (Aa e35).2 e37 (cs:=[iA v27]) (by simp) rfl;try simp at f38
     have f39:=f26;try simp only[Ac e37] at f39
     have f40:=f28;try simp only[Ac e37] at f40
     have f41:=f29;try simp only[Ac e37] at f41
     have f42:=f32;try simp only[Ac e37] at f42
     have f43:=f33;try simp only[Ac e37] at f43
     have f44:=f34;try simp only[Ac e37] at f44
     have f45:=f36;try simp only[Ac e37] at f45
     apply zL (V:=[_,_,_,_,_,_,_,_,_,_,_,_,_,_,_,_,_,_]) (M:=[[some ⟨3,1,false,some 0,lvs (encI y9.2.1)⟩,some ⟨104,1,false,none,[.s (.int .u64 v17.2)]⟩],[some ⟨3,1,false,some 0,lvs (encI v30)⟩,some ⟨104,1,false,none,[.s (.int .u64 v17.2)]⟩]]) mixed [⟨[0],[],[(0,none)],false⟩,⟨[0],[],[(9,none)],false⟩,⟨[0,1],[],[(0,none)],false⟩,⟨[0,1],[],[(1,none)],false⟩,⟨[0,1],[],[(10,none)],false⟩,⟨[0,1],[3,4],[(50,some 3),(51,some 4)],false⟩,⟨[0],[],[(0,none)],false⟩,⟨[0],[],[(1,none)],false⟩,⟨[0],[],[(10,none)],false⟩,⟨[0],[7,8],[(54,some 7),(55,some 8)],false⟩,⟨[0],[6,7,8,9],[(53,some 6),(56,some 9)],false⟩,⟨[0],[6,7,8,9,10],[(57,some 10)],false⟩,⟨[0],[],[(0,none)],false⟩,⟨[0],[],[(9,none)],false⟩,⟨[0],[12,13],[(59,some 12),(60,some 13)],false⟩,⟨[0],[12,13,14],[(61,some 14)],false⟩,⟨[0],[0,1,6,7,8,9,10,11,12,13,14,15],[(47,some 0),(48,some 1)],false⟩,⟨[0],[0,1,6,7,8,9,10,11,12,13,14,15,16],[(58,some 11),(63,some 16)],true⟩,⟨[],[0,1,2,3,4,5,6,7,8,9,10,11,12,13,14,15,16,17],[],false⟩,⟨[],[0,1,2,3,4,5,6,7,8,9,10,11,12,13,14,15,16,17,18],[],false⟩] 18 1 (by kernel_rfl) (by kernel_rfl)
     ·rfl
     ·refine⟨?_,?_,⟨?_,?_⟩,⟨?_,?_⟩,⟨?_,?_⟩,⟨?_,?_⟩,?_,?_,?_,?_,?_,?_,?_,?_,?_,?_,?_,?_,trivial⟩;iterate 22 (· intro tm hr;simp[AllL,rdV] at hr;simp[hr,← e24,Aa e25,f26,Ag (Aa e25).2,lvs1,Aa e27,f28,Ag (Aa e27).2,f29,Ak (Aa e27).2 (show 1≤1 by decide),f31,f32,f33,f34,Aa e35,f36,Ac e30,Ak (Aa e35).2 (show 1≤1 by decide),f38,f39,f40,f41,f42,f43,f44,f45];intros;exact KA)
     ·rfl
     ·simp[tmD,putD,← e24,Aa e25,f26,Ag (Aa e25).2,lvs1,Aa e27,f28,Ag (Aa e27).2,f29,Ak (Aa e27).2 (show 1≤1 by decide),f31,f32,f33,f34,Aa e35,f36,Ac e30,Ak (Aa e35).2 (show 1≤1 by decide),f38,f39,f40,f41,f42,f43,f44,f45];rfl
     ·simp[← e24,Aa e25,f26,Ag (Aa e25).2,lvs1,Aa e27,f28,Ag (Aa e27).2,f29,Ak (Aa e27).2 (show 1≤1 by decide),f31,f32,f33,f34,Aa e35,f36,Ac e30,Ak (Aa e35).2 (show 1≤1 by decide),f38,f39,f40,f41,f42,f43,f44,f45];intros;rfl
     try simp only[nm]
     obtain⟨v46,e46,h⟩:=ltE h;refine AW.last (by simp[← e46];intros;rfl) ?_;obtain rfl:=oi h;refine nP_i ?_;refine zA 1 [some 0,some 1] hz (by decide) (by decide) ?_ ?_ ?_;all_goals first|(simp[Ab,Af,pickOb,Ac e30,Ac e37];done)|rfl
   |false=>
    replace h:=iF h;refine CF ?_;apply AW.exit;try simp only[nm]
    obtain rfl:=oi h;refine xP_i ?_;refine zA 1 [some 0] hz (by decide) (by decide) ?_ ?_ ?_;all_goals first|(simp[Ab,Af,pickOb];done)|rfl
  ·rintro e s⟨rfl,hw⟩;refine⟨_,hw,?_⟩;try simp only[nm]
   obtain rfl:=oi h;refine Left.of (av:=_) (by simp[Try.f47,resV,resC,comp];rfl) ?_;exact zF 1 [some 0] hz rfl (by decide) rfl (by simp[pickOb,Ab,Af]) (by simp[Ab,Af])
 |false=>
  replace h:=iF h;refine CF ?_;apply AW.skip;try simp only[nm]
  obtain rfl:=oi h;refine Left.of (av:=_) (by simp[Try.f47,resV,resC,comp];rfl) ?_;exact zF 1 [some 0] hz rfl (by decide) rfl (by simp[pickOb,Ab,Af]) (by simp[Ab,Af])
theorem Du:Enters Try.prog 47:=enters Try.func47 (by kernel_rfl) rfl
def AR (n:Nat):Nat→List Int→Int→Int→Int→Option (List Int)
|0,_,_,_,_=>none
|m+1,a0,a1,a2,a3 =>
bn (iter n (fun (y1:Int×Int×Int×Bool×Bool×List Int) =>
lt (subI .i64 y1.2.1 y1.1) fun v4 =>
lt (leI v4 12) fun v5 =>
ite' v5 (bn (Be n y1.2.2.2.2.2 y1.1 y1.2.1) fun v6 =>
chk (lenB v6 y1.2.2.2.2.2) <|
some (.inr v6)) (lt (eqI y1.2.2.1 0) fun v8 =>
ite' v8 (bn (Bp n y1.2.2.2.2.2 y1.1 y1.2.1) fun v9 =>
chk (lenB v9 y1.2.2.2.2.2) <|
some (.inr v9)) (bn (lt (notB y1.2.2.2.1) fun v12 =>
ite' v12 (bn (Bf n y1.2.2.2.2.2 y1.1 y1.2.1) fun v13 =>
chk (lenB v13 y1.2.2.2.2.2) <|
lt (subI .i64 y1.2.2.1 1) fun v15 =>
some ((v15,v13))) (some ((y1.2.2.1,y1.2.2.2.2.2)))) fun (y11:Int×List Int) =>
bn (Bj n y11.2 y1.1 y1.2.1) fun v16 =>
chk (lenB v16.2.2 y11.2) <|
bn (lt (eqI v16.2.1 2) fun v19 =>
ite' v19 (bn (Bi n v16.2.2 y1.1 y1.2.1) fun v20 =>
chk (lenB v20 v16.2.2) <|
lt (subI .i64 y1.2.1 1) fun v22 =>
lt (subI .i64 v16.1 y1.1) fun v23 =>
lt (subI .i64 v22 v23) fun v24 =>
some ((v24,1,v20))) (some ((v16.1,v16.2.1,v16.2.2)))) fun (y18:Int×Int×List Int) =>
bn (bn (lt (y1.2.2.2.1) fun v27 =>
ite' v27 (lt (y1.2.2.2.2.1) fun v28 =>
ite' v28 (lt (eqI y18.2.1 1) fun v29 =>
some ((true,true,v29))) (some ((true,false,false)))) (some ((false,y1.2.2.2.2.1,false)))) fun (y26:Bool×Bool×Bool) =>
lt (y26.2.2) fun v30 =>
ite' v30 (bn (AT n y18.2.2 y1.1 y1.2.1) fun v31 =>
chk (lenB v31.2 y18.2.2) <|
lt (v31.1) fun v33 =>
ite' v33 (some (.inr v31.2)) (some (.inl (y26.1,y26.2.1,v31.2)))) (some (.inl (y26.1,y26.2.1,y18.2.2)))) fun (y25:(Bool×Bool×List Int) ⊕ (List Int)) =>
sm y25 (fun y34=>bn (lt (gtI y1.1 0) fun v37 =>
ite' v37 (lt (subI .i64 y1.1 1) fun v38 =>
bn (nth y34.2.2 v38) fun v39 =>
bn (nth y34.2.2 y18.1) fun v41 =>
bn (AP n v39 v41) fun v43 =>
lt (notB v43) fun v44 =>
some (v44)) (some (false))) fun (y36:Bool) =>
lt (y36) fun v45 =>
ite' v45 (bn (Bb n y34.2.2 y1.1 y1.2.1 y18.1) fun v46 =>
chk (lenB v46.2 y34.2.2) <|
some (.inl (v46.1,y1.2.1,y11.1,y34.1,y34.2.1,v46.2))) (bn (Bn n y34.2.2 y1.1 y1.2.1 y18.1) fun v48 =>
chk (lenB v48.2.2 y34.2.2) <|
lt (subI .i64 v48.1 y1.1) fun v50 =>
lt (subI .i64 y1.2.1 v48.1) fun v51 =>
bn (quoI .i64 v4 8) fun v52 =>
lt (ltI v50 v51) fun v53 =>
ite' v53 (lt (geI v50 v52) fun v54 =>
bn (AR n m v48.2.2 y1.1 v48.1 y11.1) fun v55 =>
chk (lenB v55 v48.2.2) <|
lt (addI .i64 v48.1 1) fun v57 =>
some (.inl (v57,y1.2.1,y11.1,v54,v48.2.1,v55))) (lt (geI v51 v52) fun v58 =>
lt (addI .i64 v48.1 1) fun v59 =>
bn (AR n m v48.2.2 v59 y1.2.1 y11.1) fun v60 =>
chk (lenB v60 v48.2.2) <|
some (.inl (y1.1,v48.1,y11.1,v58,v48.2.1,v60))))) (fun y35=>some (.inr y35))))) (a1,a2,a3,true,true,a0)) fun (y2:List Int) =>
some y2
def CD (n:Nat) (a0:List Int) (a1:Int) (a2:Int) (a3:Int):Option (List Int):=AR n n a0 a1 a2 a3
theorem BU:Enters Try.prog 31:=enters Try.func31 (by kernel_rfl) rfl
def DX4t10:List DI:=[⟨[0],[],[(1,none)],false⟩,⟨[0],[0],[(73,some 0)],false⟩,⟨[0],[0,1],[(74,some 1)],false⟩,⟨[0],[0,1,2],[(0,none),(75,some 2)],false⟩,⟨[0],[0,1,2],[(1,none),(75,some 2)],false⟩,⟨[0],[0,1,2,4],[(75,some 2),(77,some 4)],false⟩,⟨[0],[0,1,2,3,4,5],[(75,some 2),(76,some 3),(78,some 5)],false⟩,⟨[0],[0,1,2,3,4,5,6],[(75,some 2),(79,some 6)],false⟩,⟨[0],[0,1,2],[(0,none),(75,some 2)],false⟩,⟨[0],[0,1,2],[(11,none),(75,some 2)],false⟩,⟨[0],[0,1,2,8,9],[(75,some 2),(81,some 8),(82,some 9)],false⟩,⟨[0],[0,1,2,8,9,10],[(75,some 2),(83,some 10)],false⟩,⟨[],[0,1,2,3,4,5,6,7,8,9,10,11],[],false⟩,⟨[],[0,1,2,3,4,5,6,7,8,9,10,11,12],[],false⟩,⟨[],[0,1,2,3,4,5,6,7,8,9,10,11,12,13],[],false⟩]
theorem Eb {n:Nat} (m:Nat):∀ {a0:List Int} {a1:Int} {a2:Int} {a3:Int} {r:List Int},AR n m a0 a1 a2 a3=some r→Sound Try.prog 31 [.l (.r 0 1 0 a0.length),.l (iA a1),.l (iA a2),.l (iA a3)] [⟨3,1,false,some 0,lvs (encI a0)⟩] (.t []) [some ⟨3,1,false,some 0,lvs (encI r)⟩]:=by
 induction m with
 |zero=>intro a0 a1 a2 a3 r h;rw[AR] at h;cases h
 |succ m ih =>
  intro a0 a1 a2 a3 r h;rw[AR] at h;refine SO 134 Try.func31 fun cx hG (hz:cx.nb=1)=>?_;simp only[it];refine ST ?_;refine ST ?_;apply AW.block;obtain⟨y2,g2,h⟩:=bnE h;refine zE g2 (mk:=fun gh ls q=>(⟨[(0,.l (.r 0 1 0 q.2.2.2.2.2.length)),(1,.l (iA q.1)),(2,.l (iA q.2.1)),(3,.l (iA q.2.2.1)),(8,.l (bA q.2.2.2.1)),(9,.l (bA q.2.2.2.2.1))],[some ⟨3,1,false,some 0,lvs (encI q.2.2.2.2.2)⟩],134,gh,ls⟩:St)) (N:=fun gh ls=>(rP (cx:=cx) (P:=Try.prog) Try.f31 (fun q=>.t []) (fun q=>[some ⟨3,1,false,some 0,lvs (encI q)⟩]))) ?_ noR ?_ ?_
  ·refine zA 1 [some 0] hz (by decide) (by decide) ?_ ?_ ?_;all_goals first|(simp[Ab,Af,pickOb];done)|rfl
  ·clear h;intro y1 y3 h
   apply AW.block;obtain⟨v4,e4,h⟩:=ltE h;refine AW.step (by simp[← e4];intros;rfl) ?_;apply AW.seq;obtain⟨v5,e5,h⟩:=ltE h;refine AW.step (by simp[← e5];intros;rfl) ?_;cases v5 with
   |true=>
    replace h:=iT h;refine CT ?_;obtain⟨v6,e6,e7,h⟩:=obc h;apply AW.step
    ·simp;intros;refine As [0] Dr (DC e6) (by decide) (by simp[pickOb,Ab,Af]) rfl rfl (by simp) ⟨.l (.own' (by simp[Ab,Af]) (by simp)),.l (.s _),.l (.s _),trivial⟩ ?_;try simp
     intros;rfl
    obtain rfl:=oi h;apply AW.ret;try simp only[nm]
    refine rP_i ?_;refine Left.of (av:=_) (by simp[Try.f31,resV,resC,comp];rfl) ?_;exact zF 1 [some 0] hz rfl (by decide) rfl (by simp[pickOb,Ab,Af,Am e7]) (by simp[Ab,Af,Am e7])
   |false=>
    replace h:=iF h;refine CF ?_;apply AW.skip;try simp only[nm]
    apply AW.seq;obtain⟨v8,e8,h⟩:=ltE h;refine AW.step (by simp[← e8];intros;rfl) ?_;cases v8 with
    |true=>
     replace h:=iT h;refine CT ?_;obtain⟨v9,e9,e10,h⟩:=obc h;apply AW.step
     ·simp;intros;refine As [0] D1 (Ea e9) (by decide) (by simp[pickOb,Ab,Af]) rfl rfl (by simp) ⟨.l (.own' (by simp[Ab,Af]) (by simp)),.l (.s _),.l (.s _),trivial⟩ ?_;try simp
      intros;rfl
     obtain rfl:=oi h;apply AW.ret;try simp only[nm]
     refine rP_i ?_;refine Left.of (av:=_) (by simp[Try.f31,resV,resC,comp];rfl) ?_;exact zF 1 [some 0] hz rfl (by decide) rfl (by simp[pickOb,Ab,Af,Am e10]) (by simp[Ab,Af,Am e10])
    |false=>
     replace h:=iF h;refine CF ?_;apply AW.skip;try simp only[nm]
     obtain⟨y11,g11,h⟩:=bnE h;refine zD (p:=fun gh ls=>(nP (cx:=cx) (fun q=>(⟨[(0,.l (.r 0 1 0 q.2.length)),(1,.l (iA y1.1)),(2,.l (iA y1.2.1)),(3,.l (iA q.1)),(8,.l (bA y1.2.2.2.1)),(9,.l (bA y1.2.2.2.2.1)),(10,.l (iA v4))],[some ⟨3,1,false,some 0,lvs (encI q.2)⟩],134,gh,ls⟩:St))) y11) ?_ ?_
     ·replace h:=g11;clear g11
      obtain⟨v12,e12,h⟩:=ltE h;refine AW.step (by simp[← e12];intros;rfl) ?_;cases v12 with
      |true=>
       replace h:=iT h;refine CT ?_;obtain⟨v13,e13,e14,h⟩:=obc h;apply AW.step
       ·simp;intros;refine As [0] Du (DE e13) (by decide) (by simp[pickOb,Ab,Af]) rfl rfl (by simp) ⟨.l (.own' (by simp[Ab,Af]) (by simp)),.l (.s _),.l (.s _),trivial⟩ ?_;try simp
        intros;rfl
       obtain⟨v15,e15,h⟩:=ltE h;refine AW.last (by simp[← e15];intros;rfl) ?_;obtain rfl:=oi h;refine nP_i ?_;refine zA 1 [some 0] hz (by decide) (by decide) ?_ ?_ ?_;all_goals first|(simp[Ab,Af,pickOb,Am e14];done)|rfl
      |false=>
       replace h:=iF h;refine CF ?_;apply AW.skip;try simp only[nm]
       obtain rfl:=oi h;refine nP_i ?_;refine zA 1 [some 0] hz (by decide) (by decide) ?_ ?_ ?_;all_goals first|(simp[Ab,Af,pickOb];done)|rfl
     ·rintro e s⟨rfl,hw⟩;refine⟨_,hw,?_⟩;try simp only[nm]
      obtain⟨v16,e16,e17,h⟩:=obc h;apply AW.step
      ·simp;intros;refine As [0] DN (DT e16) (by decide) (by simp[pickOb,Ab,Af]) rfl rfl (by simp) ⟨.l (.own' (by simp[Ab,Af]) (by simp)),.l (.s _),.l (.s _),trivial⟩ ?_;try simp
       intros;rfl
      obtain⟨y18,g18,h⟩:=bnE h;refine zD (p:=fun gh ls=>(nP (cx:=cx) (fun q=>(⟨[(0,.l (.r 0 1 0 q.2.2.length)),(1,.l (iA y1.1)),(2,.l (iA y1.2.1)),(3,.l (iA y11.1)),(8,.l (bA y1.2.2.2.1)),(9,.l (bA y1.2.2.2.2.1)),(10,.l (iA v4)),(11,.l (iA q.1)),(12,.l (iA q.2.1))],[some ⟨3,1,false,some 0,lvs (encI q.2.2)⟩],134,gh,ls⟩:St))) y18) ?_ ?_
      ·replace h:=g18;clear g18
       obtain⟨v19,e19,h⟩:=ltE h;refine AW.step (by simp[← e19];intros;rfl) ?_;cases v19 with
       |true=>
        replace h:=iT h;refine CT ?_;obtain⟨v20,e20,e21,h⟩:=obc h;apply AW.step
        ·simp[Am e17];intros;refine As [0] DD (DO e20) (by decide) (by simp[pickOb,Ab,Af]) rfl rfl (by simp) ⟨.l (.own' (by simp[Ab,Af]) (by simp[Am e17])),.l (.s _),.l (.s _),trivial⟩ ?_;try simp[Am e17]
         intros;rfl
        obtain⟨v22,e22,v23,e23,h⟩:=oll h;obtain⟨v24,e24,h⟩:=ltE h;refine AW.step (by simp[← e22,← e23,← e24];intros;rfl) ?_;refine SL ?_;obtain rfl:=oi h;refine nP_i ?_;refine zA 1 [some 0] hz (by decide) (by decide) ?_ ?_ ?_;all_goals first|(simp[Ab,Af,pickOb,Am e17,Am e21];done)|rfl
       |false=>
        replace h:=iF h;refine CF ?_;apply AW.skip;try simp only[nm]
        obtain rfl:=oi h;refine nP_i ?_;refine zA 1 [some 0] hz (by decide) (by decide) ?_ ?_ ?_;all_goals first|(simp[Ab,Af,pickOb,Am e17];done)|rfl
      ·rintro e s⟨rfl,hw⟩;refine⟨_,hw,?_⟩;try simp only[nm]
       obtain⟨y25,g25,h⟩:=bnE h;refine zD (p:=fun gh ls=>(sp (nP (cx:=cx) (fun q=>(⟨[(0,.l (.r 0 1 0 q.2.2.length)),(1,.l (iA y1.1)),(2,.l (iA y1.2.1)),(3,.l (iA y11.1)),(8,.l (bA q.1)),(9,.l (bA q.2.1)),(10,.l (iA v4)),(11,.l (iA y18.1))],[some ⟨3,1,false,some 0,lvs (encI q.2.2)⟩],134,gh,ls⟩:St))) (rP (cx:=cx) (P:=Try.prog) Try.f31 (fun q=>.t []) (fun q=>[some ⟨3,1,false,some 0,lvs (encI q)⟩]))) y25) ?_ ?_
       ·replace h:=g25;clear g25
        obtain⟨y26,g26,h⟩:=bnE h;refine zD (p:=fun gh ls=>(nP (cx:=cx) (fun q=>(⟨[(0,.l (.r 0 1 0 y18.2.2.length)),(1,.l (iA y1.1)),(2,.l (iA y1.2.1)),(3,.l (iA y11.1)),(8,.l (bA q.1)),(9,.l (bA q.2.1)),(10,.l (iA v4)),(11,.l (iA y18.1)),(68,.l (bA q.2.2))],[some ⟨3,1,false,some 0,lvs (encI y18.2.2)⟩],134,gh,ls⟩:St))) y26) ?_ ?_
        ·replace h:=g26;clear g26
         obtain⟨v27,e27,h⟩:=ltE h;cases v27 with
         |true=>
          replace h:=iT h;obtain⟨v28,e28,h⟩:=ltE h;cases v28 with
          |true=>
           replace h:=iT h;obtain⟨v29,e29,h⟩:=ltE h;refine AW.last (by simp[← e27,← e28,← e29];intros;rfl) ?_;obtain rfl:=oi h;refine nP_i ?_;refine zA 1 [some 0] hz (by decide) (by decide) ?_ ?_ ?_;all_goals first|(simp[Ab,Af,pickOb];done)|rfl
          |false=>
           replace h:=iF h;refine AW.last (by simp[← e27,← e28];intros;rfl) ?_;obtain rfl:=oi h;refine nP_i ?_;refine zA 1 [some 0] hz (by decide) (by decide) ?_ ?_ ?_;all_goals first|(simp[Ab,Af,pickOb];done)|rfl
         |false=>
          replace h:=iF h;refine AW.last (by simp[← e27];intros;rfl) ?_;obtain rfl:=oi h;refine nP_i ?_;refine zA 1 [some 0] hz (by decide) (by decide) ?_ ?_ ?_;all_goals first|(simp[Ab,Af,pickOb];done)|rfl
        ·rintro e s⟨rfl,hw⟩;refine⟨_,hw,?_⟩;try simp only[nm]
         obtain⟨v30,e30,h⟩:=ltE h;rw[← e30];cases v30 with
         |true=>
          replace h:=iT h;refine CT ?_;obtain⟨v31,e31,e32,h⟩:=obc h;apply AW.step
          ·simp;intros;refine As [0] CG (CM e31) (by decide) (by simp[pickOb,Ab,Af]) rfl rfl (by simp) ⟨.l (.own' (by simp[Ab,Af]) (by simp)),.l (.s _),.l (.s _),trivial⟩ ?_;try simp
           intros;rfl
          obtain⟨v33,e33,h⟩:=ltE h;rw[← e33];cases v33 with
          |true=>
           replace h:=iT h;refine CT ?_;obtain rfl:=oi h;apply AW.ret;try simp only[nm]
           refine rP_i ?_;refine Left.of (av:=_) (by simp[Try.f31,resV,resC,comp];rfl) ?_;exact zF 1 [some 0] hz rfl (by decide) rfl (by simp[pickOb,Ab,Af,Am e32]) (by simp[Ab,Af,Am e32])
          |false=>
           replace h:=iF h;refine CF ?_;apply AW.skip;try simp only[nm]
           obtain rfl:=oi h;try simp only[sp_l,sp_r]
           refine nP_i ?_;refine zA 1 [some 0] hz (by decide) (by decide) ?_ ?_ ?_;all_goals first|(simp[Ab,Af,pickOb,Am e32];done)|rfl
         |false=>
          replace h:=iF h;refine CF ?_;apply AW.skip;try simp only[nm]
          obtain rfl:=oi h;try simp only[sp_l,sp_r]
          refine nP_i ?_;refine zA 1 [some 0] hz (by decide) (by decide) ?_ ?_ ?_;all_goals first|(simp[Ab,Af,pickOb];done)|rfl
       ·rintro e s hp;rcases y25 with y34|y35
        ·replace h:=smL h;obtain⟨rfl,hw⟩:=hp;refine⟨_,hw,?_⟩;try simp only[nm]
         apply AW.seq;obtain⟨y36,g36,h⟩:=bnE h;refine zD (p:=fun gh ls=>(nP (cx:=cx) (fun q=>(⟨[(0,.l (.r 0 1 0 y34.2.2.length)),(1,.l (iA y1.1)),(2,.l (iA y1.2.1)),(3,.l (iA y11.1)),(8,.l (bA y34.1)),(9,.l (bA y34.2.1)),(10,.l (iA v4)),(11,.l (iA y18.1)),(87,.l (bA q))],[some ⟨3,1,false,some 0,lvs (encI y34.2.2)⟩],134,gh,ls⟩:St))) y36) ?_ ?_
         ·replace h:=g36;clear g36
          obtain⟨v37,e37,h⟩:=ltE h;cases v37 with
          |true=>
           replace h:=iT h;obtain⟨v38,e38,v39,e39,h⟩:=olb h;have f40:=Ai e39;try simp[← e37,← e38,Aa e39] at f40
           obtain⟨v41,e41,h⟩:=bnE h;have f42:=Ai e41;try simp[← e37,← e38,Aa e39,f40,Ag (Aa e39).2,lvs1,Aa e41] at f42
           obtain⟨v43,e43,v44,e44,h⟩:=obl h;apply zH (V:=[_,_,_,_,_,_,_,_,_,_,_,_]) mixed DX4t10 12 (by kernel_rfl) (by kernel_rfl)
           ·refine⟨?_,?_,?_,?_,?_,?_,?_,?_,?_,?_,?_,?_,trivial⟩;iterate 12 (· intro tm hr;simp[AllL,rdV] at hr;simp[hr,← e37,← e38,Aa e39,f40,Ag (Aa e39).2,lvs1,Aa e41,f42,Ag (Aa e41).2,← e44];intros;exact KA)
           ·rfl
           ·simp[tmD,putD,← e37,← e38,Aa e39,f40,Ag (Aa e39).2,lvs1,Aa e41,f42,Ag (Aa e41).2,← e44];rfl
           ·simp[← e37,← e38,Aa e39,f40,Ag (Aa e39).2,lvs1,Aa e41,f42,Ag (Aa e41).2,← e44];intros;refine Aj A2 (A9 e43) rfl ⟨.same rfl,.same rfl,trivial⟩ ?_;try simp[← e37,← e38,Aa e39,f40,Ag (Aa e39).2,lvs1,Aa e41,f42,Ag (Aa e41).2,← e44]
            intros;rfl
           obtain rfl:=oi h;refine nP_i ?_;refine zA 1 [some 0] hz (by decide) (by decide) ?_ ?_ ?_;all_goals first|(simp[Ab,Af,pickOb];done)|rfl
          |false=>
           replace h:=iF h;apply zH (V:=[_,_,_,_,_,_,_,_,_,_,_,_]) mixed DX4t10 12 (by kernel_rfl) (by kernel_rfl)
           ·refine⟨?_,?_,?_,?_,?_,?_,?_,?_,?_,?_,?_,?_,trivial⟩;iterate 12 (· intro tm hr;simp[AllL,rdV] at hr;simp[hr,← e37];intros;exact KA)
           ·rfl
           ·simp[tmD,putD,← e37];rfl
           ·simp[← e37];intros;rfl
           obtain rfl:=oi h;refine nP_i ?_;refine zA 1 [some 0] hz (by decide) (by decide) ?_ ?_ ?_;all_goals first|(simp[Ab,Af,pickOb];done)|rfl
         ·rintro e s⟨rfl,hw⟩;refine⟨_,hw,?_⟩;try simp only[nm]
          obtain⟨v45,e45,h⟩:=ltE h;rw[← e45];cases v45 with
          |true=>
           replace h:=iT h;refine CT ?_;obtain⟨v46,e46,e47,h⟩:=obc h;apply AW.step
           ·simp;intros;refine As [0] Dj (Dt e46) (by decide) (by simp[pickOb,Ab,Af]) rfl rfl (by simp) ⟨.l (.own' (by simp[Ab,Af]) (by simp)),.l (.s _),.l (.s _),.l (.s _),trivial⟩ ?_;try simp
            intros;rfl
           refine ST ?_;apply AW.exit;try simp only[nm]
           obtain rfl:=oi h;refine nP_i ?_;refine zA 1 [some 0] hz (by decide) (by decide) ?_ ?_ ?_;all_goals first|(simp[Ab,Af,pickOb,Am e47];done)|rfl
          |false=>
           replace h:=iF h;refine CF ?_;apply AW.skip;try simp only[nm]
           obtain⟨v48,e48,e49,h⟩:=obc h;apply AW.step
           ·simp;intros;refine As [0] DZ (D2 e48) (by decide) (by simp[pickOb,Ab,Af]) rfl rfl (by simp) ⟨.l (.own' (by simp[Ab,Af]) (by simp)),.l (.s _),.l (.s _),.l (.s _),trivial⟩ ?_;try simp
            intros;rfl
           refine ST ?_;obtain⟨v50,e50,v51,e51,h⟩:=oll h;refine AW.step (by simp[← e50,← e51];intros;rfl) ?_;obtain⟨v52,e52,h⟩:=bnE h;refine AW.step (by simp[e52];intros;rfl) ?_;obtain⟨v53,e53,h⟩:=ltE h;refine AW.step (by simp[← e53];intros;rfl) ?_;cases v53 with
           |true=>
            replace h:=iT h;refine CT ?_;obtain⟨v54,e54,h⟩:=ltE h;refine AW.step (by simp[← e54];intros;rfl) ?_;obtain⟨v55,e55,e56,h⟩:=obc h;apply AW.step
            ·simp[Am e49];intros;refine As [0] BU (ih e55) (by decide) (by simp[pickOb,Ab,Af]) rfl rfl (by simp) ⟨.l (.own' (by simp[Ab,Af]) (by simp[Am e49])),.l (.s _),.l (.s _),.l (.s _),trivial⟩ ?_;try simp[Am e49]
             intros;rfl
            obtain⟨v57,e57,h⟩:=ltE h;refine AW.last (by simp[← e57];intros;rfl) ?_;obtain rfl:=oi h;refine nP_i ?_;refine zA 1 [some 0] hz (by decide) (by decide) ?_ ?_ ?_;all_goals first|(simp[Ab,Af,pickOb,Am e49,Am e56];done)|rfl
           |false=>
            replace h:=iF h;refine CF ?_;obtain⟨v58,e58,h⟩:=ltE h;refine AW.step (by simp[← e58];intros;rfl) ?_;obtain⟨v59,e59,v60,e60,h⟩:=olb h;obtain⟨e61,h⟩:=chkE h;apply AW.step
            ·simp[← e59,Am e49];intros;refine As [0] BU (ih e60) (by decide) (by simp[pickOb,Ab,Af]) rfl rfl (by simp) ⟨.l (.own' (by simp[Ab,Af]) (by simp[Am e49])),.l (.s _),.l (.s _),.l (.s _),trivial⟩ ?_;try simp[← e59,Am e49]
             intros;rfl
            refine SL ?_;obtain rfl:=oi h;refine nP_i ?_;refine zA 1 [some 0] hz (by decide) (by decide) ?_ ?_ ?_;all_goals first|(simp[Ab,Af,pickOb,Am e49,Am e61];done)|rfl
        ·replace h:=smR h;obtain⟨rfl,hl⟩:=hp;refine⟨_,Weak.refl _,?_⟩;obtain rfl:=oi h;first|exact rP_i hl|(simp only[sp_l,sp_r];exact rP_i hl)|(simp only[sp_l,sp_r,Post.seq,Post.block,Nat.reduceEqDiff,reduceIte,Nat.zero_ne_one,Nat.one_ne_zero];exact rP_i hl)
  ·rintro e s hp;obtain⟨rfl,hl⟩:=hp;refine⟨_,Weak.refl _,?_⟩;obtain rfl:=oi h;exact hl
theorem Ei {n:Nat} {a0:List Int} {a1:Int} {a2:Int} {a3:Int} {r:List Int} (h:CD n a0 a1 a2 a3=some r):Sound Try.prog 31 [.l (.r 0 1 0 a0.length),.l (iA a1),.l (iA a2),.l (iA a3)] [⟨3,1,false,some 0,lvs (encI a0)⟩] (.t []) [some ⟨3,1,false,some 0,lvs (encI r)⟩]:=Eb n h
def B4 (n:Nat) (a0:List Int):Option (List Int) :=
lt (lenI a0) fun v1 =>
lt (cvI .u64 v1) fun v2 =>
bn (Ct n v2) fun v3 =>
bn (CD n a0 0 v1 v3) fun v4 =>
chk (lenB v4 a0) <|
some v4
theorem FF {n:Nat} {a0:List Int} {r:List Int} (h:B4 n a0=some r):Sound Try.prog 21 [.l (.r 0 1 0 a0.length)] [⟨3,1,false,some 0,lvs (encI a0)⟩] (.t []) [some ⟨3,1,false,some 0,lvs (encI r)⟩]:=by
 unfold B4 at h;refine SO 11 Try.func21 fun cx hG (hz:cx.nb=1)=>?_;simp only[it];obtain⟨v1,e1,h⟩:=ltE h;refine AW.step (by simp[Ao e1];intros;rfl) ?_;obtain⟨v2,e2,v3,e3,h⟩:=olb h;obtain⟨v4,e4,e5,h⟩:=obc h;apply AW.last
 ·simp[← e2];intros;refine Aj EP (E1 e3) rfl ⟨.same rfl,trivial⟩ ?_;try simp[← e2]
  intros;refine As [0] BU (Ei e4) (by decide) (by simp[pickOb,Ab,Af]) rfl rfl (by simp) ⟨.l (.own' (by simp[Ab,Af]) (by simp)),.l (.s _),.l (.s _),.l (.s _),trivial⟩ ?_;try simp[← e2]
  intros;rfl
 obtain rfl:=oi h;refine Left.of (av:=_) (by simp[Try.f21,resV,resC,comp];rfl) ?_;exact zF 1 [some 0] hz rfl (by decide) rfl (by simp[pickOb,Ab,Af,Am e5]) (by simp[Ab,Af,Am e5])
theorem Fu:Enters Try.prog 21:=enters Try.func21 (by kernel_rfl) rfl
def Dc (n:Nat) (a0:List BalanceShare):Option Unit :=
some ()
theorem FG {n:Nat} {a0:List BalanceShare} {r:Unit} (h:Dc n a0=some r):Sound Try.prog 25 [.l (.r 0 3 0 a0.length)] [⟨54,3,true,none,lvs (Ap a0)⟩] (.l (.f 34 [1])) [some ⟨54,3,true,none,lvs (Ap a0)⟩,some ⟨52,1,false,none,[.r 0 3 0 a0.length]⟩]:=by
 unfold Dc at h;refine SO 4 Try.func25 fun cx hG (hz:cx.nb=1)=>?_;simp only[it];refine ST ?_;refine ST ?_;obtain rfl:=oi h;apply AW.ret;refine Left.of (av:=_) (by simp[Try.f25,resV,resC,comp];rfl) ?_;exact zF 1 [some 0,some 1] hz rfl (by decide) rfl (by simp[pickOb,Ab,Af]) (by simp[Ab,Af])
theorem Fv:Enters Try.prog 25:=enters Try.func25 (by kernel_rfl) rfl
def Ca (n:Nat) (a0:List BalanceShare):Option (Int×Int) :=
lt (lenI a0) fun v1 =>
bn (iter n (fun (y2:Int×Int×Int) =>
lt (ltI y2.2.2 v1) fun v5 =>
ite' v5 (bn (bn (nth a0 y2.2.2) fun v7 =>
bn (bn (nth a0 y2.1) fun v9 =>
lt (gtI v7.n v9.n) fun v10 =>
ite' v10 (some (y2.2.2)) (some (y2.1))) fun (y8:Int) =>
bn (nth a0 y2.2.1) fun v11 =>
lt (ltI v7.n v11.n) fun v12 =>
ite' v12 (some ((y8,y2.2.2))) (some ((y8,y2.2.1)))) fun (y6:Int×Int) =>
lt (addI .i64 y2.2.2 1) fun v13 =>
some (.inl (y6.1,y6.2,v13))) (some (.inr (y2.1,y2.2.1)))) (0,0,0)) fun (y3:Int×Int) =>
some (y3.1,y3.2)
theorem F2 {n:Nat} {a0:List BalanceShare} {r:Int×Int} (h:Ca n a0=some r):Sound Try.prog 35 [.l (.d true 3 (Ap a0))] [] (.t [(false,[iA r.1]),(false,[iA r.2])]) []:=by
 unfold Ca at h;refine SO 34 Try.func35 fun cx hG (hz:cx.nb=0)=>?_;simp only[it];refine ST ?_;apply AW.seq;obtain⟨v1,e1,h⟩:=ltE h;refine AW.step (by simp[Ao e1];intros;rfl) ?_;apply AW.block;obtain⟨y3,g3,h⟩:=bnE h;refine zE g3 (mk:=fun gh ls q=>(⟨[(0,.l (.d true 3 (Ap a0))),(2,.l (iA q.1)),(3,.l (iA q.2.1)),(6,.l (.d true 3 (Ap a0))),(7,.l (iA v1)),(8,.l (iA q.2.2))],[],34,gh,ls⟩:St)) (N:=fun gh ls=>(xP 0 (cx:=cx) (fun q=>(⟨[(2,.l (iA q.1)),(3,.l (iA q.2))],[],34,gh,ls⟩:St)))) ?_ noX ?_ ?_
 ·exact WM [] hz
 ·clear h;intro y2 y4 h
  obtain⟨v5,e5,h⟩:=ltE h;refine AW.step (by simp[← e5];intros;rfl) ?_;apply AW.seq;cases v5 with
  |true=>
   replace h:=iT h;refine CT ?_;apply AW.skip;try simp only[nm]
   obtain⟨y6,g6,h⟩:=bnE h;refine zD (p:=fun gh ls=>(nP (cx:=cx) (fun q=>(⟨[(0,.l (.d true 3 (Ap a0))),(2,.l (iA q.1)),(3,.l (iA q.2)),(6,.l (.d true 3 (Ap a0))),(7,.l (iA v1)),(8,.l (iA y2.2.2))],[],34,gh,ls⟩:St))) y6) ?_ ?_
   ·replace h:=g6;clear g6
    apply AW.block;obtain⟨v7,e7,h⟩:=bnE h;refine AW.step (by simp[Aa e7];intros;rfl) ?_;obtain⟨y8,g8,h⟩:=bnE h;refine zD (p:=fun gh ls=>(nP (cx:=cx) (fun q=>(⟨[(0,.l (.d true 3 (Ap a0))),(2,.l (iA q)),(3,.l (iA y2.2.1)),(4,.l (iA y2.2.2)),(5,.l (.p 0 0)),(6,.l (.d true 3 (Ap a0))),(7,.l (iA v1)),(8,.l (iA y2.2.2))],[some ⟨54,3,false,none,[iA v7.node,.d true 2 (Ah v7.own),iA v7.n]⟩],34,gh,ls⟩:St))) y8) ?_ ?_
    ·replace h:=g8;clear g8
     obtain⟨v9,e9,v10,e10,h⟩:=obl h;apply zI (V:=[_,_,_,_,_,_,_]) mixed [⟨[0],[],[(5,none)],false⟩,⟨[0],[0],[(13,some 0)],false⟩,⟨[0],[],[(0,none)],false⟩,⟨[0],[],[(2,none)],false⟩,⟨[0],[2,3],[(15,some 2),(16,some 3)],false⟩,⟨[0],[2,3,4],[(17,some 4)],false⟩,⟨[0],[2,3,4,5],[(18,some 5)],false⟩,⟨[],[0,1,2,3,4,5,6],[],false⟩] 7 (by kernel_rfl) (by kernel_rfl)
     ·refine⟨?_,?_,?_,?_,?_,?_,?_,trivial⟩;iterate 7 (· intro tm hr;simp[AllL,rdV] at hr;simp[hr,Aa e9,← e10];intros;exact KA)
     ·rfl
     ·simp[tmD,putD,Aa e9,← e10];rfl
     ·simp[Aa e9,← e10];intros;rfl
     cases v10 with
     |true=>
      replace h:=iT h;refine CT ?_;refine SL ?_;obtain rfl:=oi h;exact nP_i (WM [0] hz)
     |false=>
      replace h:=iF h;refine CF ?_;apply AW.skip;try simp only[nm]
      obtain rfl:=oi h;exact nP_i (WM [0] hz)
    ·rintro e s⟨rfl,hw⟩;refine⟨_,hw,?_⟩;try simp only[nm]
     obtain⟨v11,e11,v12,e12,h⟩:=obl h;apply zI (V:=[_,_,_,_,_,_,_]) mixed [⟨[0],[],[(5,none)],false⟩,⟨[0],[0],[(22,some 0)],false⟩,⟨[0],[],[(0,none)],false⟩,⟨[0],[],[(3,none)],false⟩,⟨[0],[2,3],[(24,some 2),(25,some 3)],false⟩,⟨[0],[2,3,4],[(26,some 4)],false⟩,⟨[0],[2,3,4,5],[(27,some 5)],false⟩,⟨[],[0,1,2,3,4,5,6],[],false⟩] 7 (by kernel_rfl) (by kernel_rfl)
     ·refine⟨?_,?_,?_,?_,?_,?_,?_,trivial⟩;iterate 7 (· intro tm hr;simp[AllL,rdV] at hr;simp[hr,Aa e11,← e12];intros;exact KA)
     ·rfl
     ·simp[tmD,putD,Aa e11,← e12];rfl
     ·simp[Aa e11,← e12];intros;rfl
     cases v12 with
     |true=>
      replace h:=iT h;refine CT ?_;refine SL ?_;obtain rfl:=oi h;exact nP_i (WM [] hz)
     |false=>
      replace h:=iF h;refine CF ?_;apply AW.skip;try simp only[nm]
      obtain rfl:=oi h;exact nP_i (WM [] hz)
   ·rintro e s⟨rfl,hw⟩;refine⟨_,hw,?_⟩;try simp only[nm]
    obtain⟨v13,e13,h⟩:=ltE h;refine AW.last (by simp[← e13];intros;rfl) ?_;obtain rfl:=oi h;exact nP_i (WM [] hz)
  |false=>
   replace h:=iF h;refine CF ?_;apply AW.exit;try simp only[nm]
   obtain rfl:=oi h;refine xP_i ?_;exact WM [] hz
 ·rintro e s⟨rfl,hw⟩;refine⟨_,hw,?_⟩;try simp only[nm]
  refine ST ?_;obtain rfl:=oi h;apply AW.ret;exact LP hz
theorem FH:Enters Try.prog 35:=enters Try.func35 (by kernel_rfl) rfl
def BE (n:Nat) (a0:List Claim) (a1:List Int):Option (List ApiStep) :=
chk (small 8 a1) <|
bn (B4 n a1) fun v2 =>
chk (lenB v2 a1) <|
chk (cmB v2) <|
lt (compL v2) fun v5 =>
lt (lenI v5) fun v6 =>
bn (iter n (fun (y7:Int×List BalanceShare) =>
lt (ltI y7.1 v6) fun v10 =>
ite' v10 (bn (bn (nth v5 y7.1) fun v12 =>
bn (lt (geI v12 0) fun v15 =>
ite' v15 (lt (ltI v12 8) fun v16 =>
some (v16)) (some (false))) fun (y14:Bool) =>
lt (y14) fun v17 =>
ite' v17 (bn (B6 n a0 v12) fun v18 =>
bn (Cc n v18) fun v19 =>
chk (room (y7.2.length+1) 40) <|
lt (y7.2++[(⟨v12,v18,v19⟩:BalanceShare)]) fun v21 =>
some (v21)) (some (y7.2))) fun (y11:List BalanceShare) =>
lt (addI .i64 y7.1 1) fun v22 =>
some (.inl (v22,y11))) (some (.inr y7.2))) (0,[])) fun (y8:List BalanceShare) =>
bn (bn (Dc n y8) fun v24 =>
bn (iter n (fun (y25:List BalanceShare×List ApiStep) =>
lt (lenI y25.1) fun v28 =>
lt (gtI v28 0) fun v29 =>
ite' v29 (chk (room y25.1.length 1) <|
bn (Ca n y25.1) fun v31 =>
bn (nth y25.1 v31.1) fun v32 =>
bn (nth y25.1 v31.2) fun v34 =>
lt (addI .i64 v34.n 1) fun v36 =>
lt (leI v32.n v36) fun v37 =>
ite' v37 (some (.inr (.inr (.inr (y25.1,y25.2))))) (lt (lenI v32.own) fun v40 =>
lt (subI .i64 v40 1) fun v41 =>
bn (nth v32.own v41) fun v42 =>
chk (room 1 1) <|
bn (CB n v32.own [(⟨v42.to,v42.to⟩:Span)]) fun v45 =>
bn (CA n v34.own [(⟨v42.to,v42.to⟩:Span)]) fun v47 =>
lt (y25.1.set v31.1.toNat (⟨v32.node,v45,v32.n⟩:BalanceShare)) fun v49 =>
bn (nth v49 v31.2) fun v54 =>
lt (v49.set v31.2.toNat (⟨v54.node,v47,v54.n⟩:BalanceShare)) fun v56 =>
bn (nth v56 v31.1) fun v65 =>
lt (subI .i64 v65.n 1) fun v67 =>
lt (v56.set v31.1.toNat (⟨v65.node,v65.own,v67⟩:BalanceShare)) fun v69 =>
bn (nth v69 v31.2) fun v73 =>
lt (addI .i64 v73.n 1) fun v75 =>
lt (v69.set v31.2.toNat (⟨v73.node,v73.own,v75⟩:BalanceShare)) fun v77 =>
bn (nth v77 v31.1) fun v81 =>
bn (nth v77 v31.2) fun v83 =>
bn (chk (room (y25.2.length+1) 24) <|
lt (y25.2++[(⟨v42.to,v81.node,v83.node⟩:ApiStep)]) fun v87 =>
lt (lenI v87) fun v88 =>
lt (eqI v88 64) fun v89 =>
ite' v89 (some (.inr v87)) (some (.inl v87))) fun (y85:(List ApiStep) ⊕ (List ApiStep)) =>
sm y85 (fun y90=>some (.inl (v77,y90))) (fun y91=>some (.inr (.inr (.inl (v77,y91))))))) (some (.inr (.inl (y25.1,y25.2))))) (y8,[])) fun (y26:(List BalanceShare×List ApiStep) ⊕ ((List BalanceShare×List ApiStep) ⊕ (List BalanceShare×List ApiStep))) =>
sm y26 (fun y92=>some (y92.2)) (fun y93=>sm y93 (fun y94=>some (y94.2)) (fun y95=>some (y95.2)))) fun (y23:List ApiStep) =>
chk (room y23.length 1) <|
some y23
theorem Ce {n:Nat} {a0:List Claim} {a1:List Int} {r:List ApiStep} (h:BE n a0 a1=some r):Sound Try.prog 10 [.l (dB a0),.l (dC a1)] [] (.l (.d false 3 (AG r))) []:=by
 unfold BE at h;refine SO 51 Try.func10 fun cx hG (hz:cx.nb=0)=>?_;simp only[it];refine ST ?_;refine AW.scope ?_ ?_
 ·first|exact fun l s h=>h|(intro l s h;simpa [nP,sp,xP,rP] using h)
 obtain⟨e1,h⟩:=chkE h;apply AW.step
 ·simp[outR];intros;refine DQ KB (Lf a1 (Iv e1)) rfl (by simp) ⟨.d _ _ _,trivial⟩ ?_;try simp[outR]
  intros;rfl
 refine AW.pin 0 (ty:=3) (sz:=1) (cs:=lvs (encI a1)) (by simp) hz (by omega) rfl ?_;obtain⟨v2,e2,e3,h⟩:=obc h;apply AW.step
 ·simp;intros;refine As [0] Fu (FF e2) (by decide) (by simp[pickOb,Ab,Af]) rfl rfl (by simp) ⟨.l (.own' (by simp[Ab,Af]) (by simp)),trivial⟩ ?_;try simp
  intros;rfl
 refine ST ?_;apply AW.seq;refine AW.unpin 0 (ty:=3) (sz:=1) (cs:=lvs (encI v2)) (by simp) rfl ?_;obtain⟨e4,h⟩:=chkE h;obtain⟨v5,e5,v6,e6,h⟩:=oll h;apply AW.step
 ·simp[Am e3,obAfter,outR,keptR,Ab,Af,← e5,Ao e6];intros;refine FN [0] [1] ⟨_,rfl,rfl,rfl,rfl⟩ KG (sm_I v2 e4) (by decide) rfl rfl (by simp[pickOb]) rfl rfl rfl (by simp) (by simp) ⟨.l (.own' (by simp[Ab,Af]) (by simp[Am e3])),trivial⟩ ?_;try simp[Am e3,obAfter,outR,keptR,Ab,Af,← e5,Ao e6]
  intros;rfl
 apply AW.block;obtain⟨y8,g8,h⟩:=bnE h;refine zE g8 (mk:=fun gh ls q=>(⟨[(0,.l (dB a0)),(5,.l (.r 0 3 0 q.2.length)),(16,.l (.r 1 1 0 v5.length)),(17,.l (iA v6)),(18,.l (iA q.1))],[some ⟨54,3,true,none,lvs (Ap q.2)⟩,some ⟨3,1,true,none,lvs (encI v5)⟩],51,gh,ls⟩:St)) (N:=fun gh ls=>(xP 0 (cx:=cx) (fun q=>(⟨[(5,.l (.r 0 3 0 q.length))],[some ⟨54,3,true,none,lvs (Ap q)⟩],51,gh,ls⟩:St)))) ?_ noX ?_ ?_
 ·refine W.nilRow 5 54 3 2 (by simp) rfl rfl ?_;exact WM [2,1] hz
 ·clear h;intro y7 y9 h
  obtain⟨v10,e10,h⟩:=ltE h;refine AW.step (by simp[← e10];intros;rfl) ?_;apply AW.seq;cases v10 with
  |true=>
   replace h:=iT h;refine CT ?_;apply AW.skip;try simp only[nm]
   obtain⟨y11,g11,h⟩:=bnE h;refine zD (p:=fun gh ls=>(nP (cx:=cx) (fun q=>(⟨[(0,.l (dB a0)),(5,.l (.r 0 3 0 q.length)),(16,.l (.r 1 1 0 v5.length)),(17,.l (iA v6)),(18,.l (iA y7.1))],[some ⟨54,3,true,none,lvs (Ap q)⟩,some ⟨3,1,true,none,lvs (encI v5)⟩],51,gh,ls⟩:St))) y11) ?_ ?_
   ·replace h:=g11;clear g11
    apply AW.block;obtain⟨v12,e12,h⟩:=bnE h;have f13:=Ai e12;try simp[Aa e12] at f13
    refine AW.step (by simp[Aa e12,f13,Ag (Aa e12).2,lvs1];intros;rfl) ?_;obtain⟨y14,g14,h⟩:=bnE h;refine zD (p:=fun gh ls=>(nP (cx:=cx) (fun q=>(⟨[(0,.l (dB a0)),(5,.l (.r 0 3 0 y7.2.length)),(7,.l (iA v12)),(16,.l (.r 1 1 0 v5.length)),(17,.l (iA v6)),(18,.l (iA y7.1)),(27,.l (bA q))],[some ⟨54,3,true,none,lvs (Ap y7.2)⟩,some ⟨3,1,true,none,lvs (encI v5)⟩],51,gh,ls⟩:St))) y14) ?_ ?_
    ·replace h:=g14;clear g14
     obtain⟨v15,e15,h⟩:=ltE h;cases v15 with
     |true=>
      replace h:=iT h;obtain⟨v16,e16,h⟩:=ltE h;refine AW.last (by simp[← e15,← e16];intros;rfl) ?_;obtain rfl:=oi h;exact nP_i (WM [0,1] hz)
     |false=>
      replace h:=iF h;refine AW.last (by simp[← e15];intros;rfl) ?_;obtain rfl:=oi h;exact nP_i (WM [0,1] hz)
    ·rintro e s⟨rfl,hw⟩;refine⟨_,hw,?_⟩;try simp only[nm]
     obtain⟨v17,e17,h⟩:=ltE h;rw[← e17];cases v17 with
     |true=>
      replace h:=iT h;refine CT ?_;obtain⟨v18,e18,h⟩:=bnE h;apply AW.step
      ·simp;intros;refine Aj Gl (GE e18) rfl ⟨.same rfl,.same rfl,trivial⟩ ?_;try simp
       intros;rfl
      obtain⟨v19,e19,e20,h⟩:=obc h;obtain⟨v21,e21,h⟩:=ltE h;apply AW.last
      ·simp[← BW,← e21,Az e21];intros;refine Aj GA (Hi e19) rfl ⟨.same rfl,trivial⟩ ?_;try simp[← BW,← e21,Az e21]
       intros;refine Bo ?_;try simp[← BW,← e21,Az e21]
       intros;refine Bv (acc:=Ap y7.2) (ys:=Ap [(⟨v12,v18,v19⟩:BalanceShare)]) (cap:=none) (k:=1) Kq Ko (by simp) (by simp[Ap,lvs]) (Ef _) (by simp) (by simp) (by first|(simp;done)|simpa using (Bm e20).1) ?_;try simp[← BW,← e21,Az e21]
       intros;rfl
      obtain rfl:=oi h;refine nP_i ?_;refine zK [some 3,some 1] hz (by decide) ?_ ?_ rfl;all_goals first|(simp[Ab,Af,pickOb,E0];done)|rfl
     |false=>
      replace h:=iF h;refine CF ?_;apply AW.skip;try simp only[nm]
      obtain rfl:=oi h;exact nP_i (WM [0,1] hz)
   ·rintro e s⟨rfl,hw⟩;refine⟨_,hw,?_⟩;try simp only[nm]
    obtain⟨v22,e22,h⟩:=ltE h;refine AW.last (by simp[← e22];intros;rfl) ?_;obtain rfl:=oi h;exact nP_i (WM [0,1] hz)
  |false=>
   replace h:=iF h;refine CF ?_;apply AW.exit;try simp only[nm]
   obtain rfl:=oi h;refine xP_i ?_;exact WM [0] hz
 ·rintro e s⟨rfl,hw⟩;refine⟨_,hw,?_⟩;try simp only[nm]
  refine ST ?_;apply AW.seq;refine AW.label ?_;try simp only[nm]
  obtain⟨y23,g23,h⟩:=bnE h;refine zD (p:=fun gh ls=>(nP (cx:=cx) (fun q=>(⟨[(9,.l (.p 0 0))],[some ⟨24,1,false,none,[.r 1 3 0 q.length]⟩,some ⟨33,3,true,none,lvs (AG q)⟩],51,gh,ls⟩:St))) y23) ?_ ?_
  ·replace h:=g23;clear g23
   obtain⟨v24,e24,h⟩:=bnE h;apply AW.step
   ·simp[obAfter,outR,keptR,Ab,Af];intros;refine As [0] Fv (FG e24) (by decide) (by simp[pickOb,Ab,Af]) rfl rfl (by simp) ⟨.l (.own' (by simp[Ab,Af]) (by simp)),trivial⟩ ?_;try simp[obAfter,outR,keptR,Ab,Af]
    intros;rfl
   apply AW.block;refine AW.weak (Weak.keep [(9,.l (.p 1 0)),(41,.l (.f 34 [2]))] (by simp)) ?_;refine AW.rangeG rfl Try.func34 (by kernel_rfl) rfl (by decide) rfl rfl fun cxI1 yl1 hnI1 hY1=>?_;have hnJ1:cxI1.nb=0:=hnI1.trans hz;simp only[initTm,List.map_cons,List.map_nil];apply AW.block;obtain⟨y26,g26,h⟩:=bnE h;refine zE g26 (mk:=fun gh ls q=>(⟨[(0,.l (.s (.func (.yield yl1) #[] #[]))),(1,.l (.p 2 0))],[some ⟨54,3,true,none,lvs (Ap q.1)⟩,some ⟨24,1,false,none,[.r 3 3 0 q.2.length]⟩,some ⟨52,1,false,none,[.r 0 3 0 q.1.length]⟩,some ⟨33,3,true,none,lvs (AG q.2)⟩],99,gh,ls⟩:St)) (N:=fun gh ls=>(sp (xP 0 (cx:=cxI1) (fun q=>(⟨[],[some ⟨54,3,true,none,lvs (Ap q.1)⟩,some ⟨24,1,false,none,[.r 3 3 0 q.2.length]⟩,some ⟨52,1,false,none,[.r 0 3 0 q.1.length]⟩,some ⟨33,3,true,none,lvs (AG q.2)⟩],99,gh,ls⟩:St))) (sp (tP (cx:=cxI1) (fun q=>(⟨[],[some ⟨54,3,true,none,lvs (Ap q.1)⟩,some ⟨24,1,false,none,[.r 3 3 0 q.2.length]⟩,some ⟨52,1,false,none,[.r 0 3 0 q.1.length]⟩,some ⟨33,3,true,none,lvs (AG q.2)⟩],99,gh,some (.exit 2)⟩:St))) (tP (cx:=cxI1) (fun q=>(⟨[],[some ⟨54,3,true,none,lvs (Ap q.1)⟩,some ⟨24,1,false,none,[.r 3 3 0 q.2.length]⟩,some ⟨52,1,false,none,[.r 0 3 0 q.1.length]⟩,some ⟨33,3,true,none,lvs (AG q.2)⟩],99,gh,ls⟩:St)))))) ?_ (noS noX (noS noT noT)) ?_ ?_
   ·refine W.nilCell 1 0 33 3 3 rfl rfl rfl rfl rfl ?_;refine zA 0 [some 0,some 1,some 2,some 3] hnJ1 (by decide) (by decide) ?_ ?_ ?_;all_goals first|(simp[Ab,Af,pickOb];done)|rfl
   ·clear h;intro y25 y27 h
    apply AW.seq;obtain⟨v28,e28,v29,e29,h⟩:=oll h;refine AW.step (by simp[Ao e28,← e29];intros;rfl) ?_;cases v29 with
    |true=>
     replace h:=iT h;refine CT ?_;apply AW.skip;try simp only[nm]
     apply AW.block;obtain⟨e30,h⟩:=chkE h;obtain⟨v31,e31,h⟩:=bnE h;apply AW.step
     ·simp;intros;refine Aj FH (F2 e31) rfl ⟨.rowd (by simp) rfl (by omega) (Ef _) (by simp) (by first|exact (Bm e30).2|simpa using (Bm e30).2|simp),trivial⟩ ?_;try simp
      intros;rfl
     apply AW.seq;obtain⟨v32,e32,h⟩:=bnE h;have f33:=Ai e32;try simp[Aa e32] at f33
     obtain⟨v34,e34,h⟩:=bnE h;have f35:=Ai e34;try simp[Aa e32,f33,Al (Aa e32).2 (j:=2) (by decide),lvs1,Aa e34] at f35
     obtain⟨v36,e36,v37,e37,h⟩:=oll h;apply zI (V:=[_,_,_,_,_,_,_,_,_,_,_]) mixed [⟨[0],[],[(1,none)],false⟩,⟨[0],[],[(3,none)],false⟩,⟨[0],[0,1],[(15,some 0),(16,some 1)],false⟩,⟨[0],[0,1,2],[(17,some 2)],false⟩,⟨[0],[0,1,2,3],[(18,some 3)],false⟩,⟨[0],[],[(1,none)],false⟩,⟨[0],[],[(4,none)],false⟩,⟨[0],[5,6],[(20,some 5),(21,some 6)],false⟩,⟨[0],[5,6,7],[(22,some 7)],false⟩,⟨[0],[5,6,7,8],[(23,some 8)],false⟩,⟨[0],[5,6,7,8,9],[(24,some 9)],false⟩,⟨[],[0,1,2,3,4,5,6,7,8,9,10],[],false⟩] 11 (by kernel_rfl) (by kernel_rfl)
     ·refine⟨?_,?_,?_,?_,?_,?_,?_,?_,?_,?_,?_,trivial⟩;iterate 11 (· intro tm hr;simp[AllL,rdV] at hr;simp[hr,Aa e32,f33,Al (Aa e32).2 (j:=2) (by decide),lvs1,Aa e34,f35,Al (Aa e34).2 (j:=2) (by decide),← e36,← e37];intros;exact KA)
     ·rfl
     ·simp[tmD,putD,Aa e32,f33,Al (Aa e32).2 (j:=2) (by decide),lvs1,Aa e34,f35,Al (Aa e34).2 (j:=2) (by decide),← e36,← e37];rfl
     ·simp[Aa e32,f33,Al (Aa e32).2 (j:=2) (by decide),lvs1,Aa e34,f35,Al (Aa e34).2 (j:=2) (by decide),← e36,← e37];intros;rfl
     cases v37 with
     |true=>
      replace h:=iT h;refine CT ?_;obtain rfl:=oi h;apply AW.ret;try simp only[nm]
      try simp only[sp_l,sp_r]
      refine tP_i ?_;refine zA 0 [some 0,some 1,some 2,some 3] hnJ1 (by decide) (by decide) ?_ ?_ ?_;all_goals first|(simp[Ab,Af,pickOb];done)|rfl
     |false=>
      replace h:=iF h;refine CF ?_;apply AW.skip;try simp only[nm]
      have f38:=Ai e32;try simp[Aa e32] at f38
      have f39:=Ai e32;try simp[Aa e32,f38,Al (Aa e32).2 (j:=1) (by decide),lvs1] at f39
      obtain⟨v40,e40,v41,e41,h⟩:=oll h;obtain⟨v42,e42,h⟩:=bnE h;apply zI (V:=[_,_,_,_,_,_,_,_,_,_,_,_]) mixed [⟨[0],[],[(1,none)],false⟩,⟨[0],[],[(3,none)],false⟩,⟨[0],[0,1],[(27,some 0),(28,some 1)],false⟩,⟨[0],[0,1,2],[(29,some 2)],false⟩,⟨[0],[0,1,2,3],[(30,some 3)],false⟩,⟨[0],[],[(1,none)],false⟩,⟨[0],[],[(3,none)],false⟩,⟨[0],[5,6],[(32,some 5),(33,some 6)],false⟩,⟨[0],[5,6,7],[(34,some 7)],false⟩,⟨[0],[5,6,7,8],[(35,some 8)],false⟩,⟨[0],[5,6,7,8,9],[(36,some 9)],false⟩,⟨[0],[5,6,7,8,9,10],[(37,some 10)],false⟩,⟨[],[0,1,2,3,4,5,6,7,8,9,10,11],[],false⟩,⟨[],[0,1,2,3,4,5,6,7,8,9,10,11,12],[],false⟩,⟨[],[0,1,2,3,4,5,6,7,8,9,10,11,12,13],[],false⟩,⟨[],[0,1,2,3,4,5,6,7,8,9,10,11,12,13,14],[],false⟩] 12 (by kernel_rfl) (by kernel_rfl)
      ·refine⟨?_,?_,?_,?_,?_,?_,?_,?_,?_,?_,?_,?_,trivial⟩;iterate 12 (· intro tm hr;simp[AllL,rdV] at hr;simp[hr,Aa e32,f38,Al (Aa e32).2 (j:=1) (by decide),lvs1,f39,Ao e40,← e41,Aa e42];intros;exact KA)
      ·rfl
      ·simp[tmD,putD,Aa e32,f38,Al (Aa e32).2 (j:=1) (by decide),lvs1,f39,Ao e40,← e41,Aa e42];rfl
      ·simp[Aa e32,f38,Al (Aa e32).2 (j:=1) (by decide),lvs1,f39,Ao e40,← e41,Aa e42];intros;rfl
      apply AW.step
      ·simp;intros;refine Bo ?_;try simp
       intros;rfl
      obtain⟨e43,h⟩:=chkE h;refine AW.frzRow 4 (ty:=59) (cap:=none) (sz:=2) (es:=Ah [(⟨v42.to,v42.to⟩:Span)]) (by simp[BF]) (by omega) (Bh _) (by first|exact (Bm e43).2|simpa using (Bm e43).2|simp) (by simp[Tm.frz,AV.frz,LV.frz];rfl) (by simp[Ob.frz,LV.frz];rfl) (by simp[Tm.frz,AV.frz,LV.frz];rfl) ?_;have f44:=Ai e32;try simp[Aa e32] at f44
      obtain⟨v45,e45,h⟩:=bnE h;have f46:=Ai e34;try simp[Aa e32,f44,Al (Aa e32).2 (j:=1) (by decide),lvs1,Aa e34] at f46
      obtain⟨v47,e47,h⟩:=bnE h;have f48:=Ai e32;try simp[Aa e32,f44,Al (Aa e32).2 (j:=1) (by decide),lvs1,Aa e34,f46,Al (Aa e34).2 (j:=1) (by decide)] at f48
      obtain⟨v49,e49,h⟩:=ltE h;have f50:=Ci (Aa e32).2 e49 (j:=1) (cs:=[dA v45]) (by simp) rfl;try simp at f50
      have f51:=f44;try simp only[Ac e49] at f51
      have f52:=f46;try simp only[Ac e49] at f52
      have f53:=f48;try simp only[Ac e49] at f53
      obtain⟨v54,e54,h⟩:=bnE h;have f55:=Ai e54;try simp[Aa e32,f44,Al (Aa e32).2 (j:=1) (by decide),lvs1,Aa e34,f46,Al (Aa e34).2 (j:=1) (by decide),f48,Av (Aa e32).2 (j:=1) (m:=1) (by decide),f50,f51,f52,f53,Aa e54] at f55
      obtain⟨v56,e56,h⟩:=ltE h;have f57:=Ci (Aa e54).2 e56 (j:=1) (cs:=[dA v47]) (by simp) rfl;try simp at f57
      have f58:=f44;try simp only[Ac e56] at f58
      have f59:=f46;try simp only[Ac e56] at f59
      have f60:=f48;try simp only[Ac e56] at f60
      have f61:=f51;try simp only[Ac e56] at f61
      have f62:=f52;try simp only[Ac e56] at f62
      have f63:=f53;try simp only[Ac e56] at f63
      have f64:=f55;try simp only[Ac e56] at f64
      apply zJ (V:=[_,_,_,_,_,_,_,_,_,_,_,_,_,_,_,_,_,_,_,_,_]) (M:=[[some ⟨54,3,true,none,lvs (Ap y25.1)⟩,some ⟨24,1,false,none,[.r 3 3 0 y25.2.length]⟩,some ⟨52,1,false,none,[.r 0 3 0 y25.1.length]⟩,some ⟨33,3,true,none,lvs (AG y25.2)⟩,none],[some ⟨54,3,true,none,lvs (Ap v49)⟩,some ⟨24,1,false,none,[.r 3 3 0 y25.2.length]⟩,some ⟨52,1,false,none,[.r 0 3 0 y25.1.length]⟩,some ⟨33,3,true,none,lvs (AG y25.2)⟩,none]]) mixed [⟨[0],[],[(1,none)],false⟩,⟨[0],[],[(3,none)],false⟩,⟨[0,1],[],[(1,none)],false⟩,⟨[0,1],[],[(4,none)],false⟩,⟨[0],[],[(1,none)],false⟩,⟨[0],[],[(3,none)],false⟩,⟨[0],[4,5],[(50,some 4),(51,some 5)],false⟩,⟨[0],[4,5,6],[(52,some 6)],false⟩,⟨[0],[4,5,6,7],[(53,some 7)],false⟩,⟨[0],[],[(6,none)],false⟩,⟨[0],[4,5,6,7,8,9],[(54,some 8),(55,some 9)],false⟩,⟨[0],[],[(1,none)],false⟩,⟨[0],[],[(4,none)],false⟩,⟨[0],[11,12],[(57,some 11),(58,some 12)],false⟩,⟨[0],[11,12,13],[(59,some 13)],false⟩,⟨[0],[11,12,13,14],[(60,some 14)],false⟩,⟨[0],[],[(6,none)],false⟩,⟨[0],[4,5,6,7,8,9,10,11,12,13,14,15,16],[(61,some 15),(62,some 16)],false⟩,⟨[0],[0,1,4,5,6,7,8,9,10,11,12,13,14,15,16,17],[(46,some 0),(47,some 1)],false⟩,⟨[0],[0,1,4,5,6,7,8,9,10,11,12,13,14,15,16,17,18],[(64,some 18)],false⟩,⟨[0],[0,1,4,5,6,7,8,9,10,11,12,13,14,15,16,17,18,19],[(56,some 10),(65,some 19)],true⟩,⟨[],[0,1,2,3,4,5,6,7,8,9,10,11,12,13,14,15,16,17,18,19,20],[],false⟩,⟨[],[0,1,2,3,4,5,6,7,8,9,10,11,12,13,14,15,16,17,18,19,20,21],[],false⟩,⟨[],[0,1,2,3,4,5,6,7,8,9,10,11,12,13,14,15,16,17,18,19,20,21,22],[],false⟩] 21 1 (by kernel_rfl) (by kernel_rfl)
      ·rfl
      ·refine⟨?_,?_,⟨?_,?_⟩,⟨?_,?_⟩,?_,?_,?_,?_,?_,?_,?_,?_,?_,?_,?_,?_,?_,?_,?_,?_,?_,trivial⟩;iterate 12 (· intro tm hr;simp[AllL,rdV] at hr;simp[hr,Aa e32,f44,Al (Aa e32).2 (j:=1) (by decide),lvs1,Aa e34,f46,Al (Aa e34).2 (j:=1) (by decide),f48,Av (Aa e32).2 (j:=1) (m:=1) (by decide),f50,f51,f52,f53,Aa e54,f55,Ac e49,Av (Aa e54).2 (j:=1) (m:=1) (by decide),f57,f58,f59,f60,f61,f62,f63,f64];intros;exact KA)
       ·intro tm hr;simp[AllL,rdV] at hr;simp[hr,Aa e32,f44,Al (Aa e32).2 (j:=1) (by decide),lvs1,Aa e34,f46,Al (Aa e34).2 (j:=1) (by decide),f48,Av (Aa e32).2 (j:=1) (m:=1) (by decide),f50,f51,f52,f53,Aa e54,f55,Ac e49,Av (Aa e54).2 (j:=1) (m:=1) (by decide),f57,f58,f59,f60,f61,f62,f63,f64];intros;refine Aj GG (Ho e45) rfl ⟨.same rfl,.same rfl,trivial⟩ ?_;try simp[Aa e32,f44,Al (Aa e32).2 (j:=1) (by decide),lvs1,Aa e34,f46,Al (Aa e34).2 (j:=1) (by decide),f48,Av (Aa e32).2 (j:=1) (m:=1) (by decide),f50,f51,f52,f53,Aa e54,f55,Ac e49,Av (Aa e54).2 (j:=1) (m:=1) (by decide),f57,f58,f59,f60,f61,f62,f63,f64]
        intros;exact KA
       iterate 6 (· intro tm hr;simp[AllL,rdV] at hr;simp[hr,Aa e32,f44,Al (Aa e32).2 (j:=1) (by decide),lvs1,Aa e34,f46,Al (Aa e34).2 (j:=1) (by decide),f48,Av (Aa e32).2 (j:=1) (m:=1) (by decide),f50,f51,f52,f53,Aa e54,f55,Ac e49,Av (Aa e54).2 (j:=1) (m:=1) (by decide),f57,f58,f59,f60,f61,f62,f63,f64];intros;exact KA)
       ·intro tm hr;simp[AllL,rdV] at hr;simp[hr,Aa e32,f44,Al (Aa e32).2 (j:=1) (by decide),lvs1,Aa e34,f46,Al (Aa e34).2 (j:=1) (by decide),f48,Av (Aa e32).2 (j:=1) (m:=1) (by decide),f50,f51,f52,f53,Aa e54,f55,Ac e49,Av (Aa e54).2 (j:=1) (m:=1) (by decide),f57,f58,f59,f60,f61,f62,f63,f64];intros;refine Aj GB (Hj e47) rfl ⟨.same rfl,.same rfl,trivial⟩ ?_;try simp[Aa e32,f44,Al (Aa e32).2 (j:=1) (by decide),lvs1,Aa e34,f46,Al (Aa e34).2 (j:=1) (by decide),f48,Av (Aa e32).2 (j:=1) (m:=1) (by decide),f50,f51,f52,f53,Aa e54,f55,Ac e49,Av (Aa e54).2 (j:=1) (m:=1) (by decide),f57,f58,f59,f60,f61,f62,f63,f64]
        intros;exact KA
       iterate 3 (· intro tm hr;simp[AllL,rdV] at hr;simp[hr,Aa e32,f44,Al (Aa e32).2 (j:=1) (by decide),lvs1,Aa e34,f46,Al (Aa e34).2 (j:=1) (by decide),f48,Av (Aa e32).2 (j:=1) (m:=1) (by decide),f50,f51,f52,f53,Aa e54,f55,Ac e49,Av (Aa e54).2 (j:=1) (m:=1) (by decide),f57,f58,f59,f60,f61,f62,f63,f64];intros;exact KA)
      ·rfl
      ·simp[tmD,putD,Aa e32,f44,Al (Aa e32).2 (j:=1) (by decide),lvs1,Aa e34,f46,Al (Aa e34).2 (j:=1) (by decide),f48,Av (Aa e32).2 (j:=1) (m:=1) (by decide),f50,f51,f52,f53,Aa e54,f55,Ac e49,Av (Aa e54).2 (j:=1) (m:=1) (by decide),f57,f58,f59,f60,f61,f62,f63,f64];rfl
      ·simp[Aa e32,f44,Al (Aa e32).2 (j:=1) (by decide),lvs1,Aa e34,f46,Al (Aa e34).2 (j:=1) (by decide),f48,Av (Aa e32).2 (j:=1) (m:=1) (by decide),f50,f51,f52,f53,Aa e54,f55,Ac e49,Av (Aa e54).2 (j:=1) (m:=1) (by decide),f57,f58,f59,f60,f61,f62,f63,f64];intros;rfl
      obtain⟨v65,e65,h⟩:=bnE h;have f66:=Ai e65;try simp[Aa e65] at f66
      obtain⟨v67,e67,h⟩:=ltE h;have f68:=Ai e65;try simp[Aa e65,f66,Ac e49,Ac e56,Al (Aa e65).2 (j:=2) (by decide),lvs1,← e67] at f68
      obtain⟨v69,e69,h⟩:=ltE h;have f70:=Ci (Aa e65).2 e69 (j:=2) (cs:=[iA v67]) (by simp) rfl;try simp at f70
      have f71:=f66;try simp only[Ac e69] at f71
      have f72:=f68;try simp only[Ac e69] at f72
      refine AW.step (by simp[Aa e65,f66,Ac e49,Ac e56,Al (Aa e65).2 (j:=2) (by decide),lvs1,← e67,f68,Av (Aa e65).2 (j:=2) (m:=1) (by decide),f70,f71,f72];intros;rfl) ?_;obtain⟨v73,e73,h⟩:=bnE h;have f74:=Ai e73;try simp[Aa e73] at f74
      obtain⟨v75,e75,h⟩:=ltE h;have f76:=Ai e73;try simp[Aa e73,f74,Ac e49,Ac e56,Ac e69,Al (Aa e73).2 (j:=2) (by decide),lvs1,← e75] at f76
      obtain⟨v77,e77,h⟩:=ltE h;have f78:=Ci (Aa e73).2 e77 (j:=2) (cs:=[iA v75]) (by simp) rfl;try simp at f78
      have f79:=f74;try simp only[Ac e77] at f79
      have f80:=f76;try simp only[Ac e77] at f80
      refine AW.step (by simp[Aa e73,f74,Ac e49,Ac e56,Ac e69,Al (Aa e73).2 (j:=2) (by decide),lvs1,← e75,f76,Av (Aa e73).2 (j:=2) (m:=1) (by decide),f78,f79,f80];intros;rfl) ?_;obtain⟨v81,e81,h⟩:=bnE h;have f82:=Ai e81;try simp[Aa e81] at f82
      obtain⟨v83,e83,h⟩:=bnE h;have f84:=Ai e83;try simp[Aa e81,f82,Ac e49,Ac e56,Ac e69,Ac e77,AF (Aa e81).2,lvs1,Aa e83] at f84
      apply AW.drawnYP (V:=[_,_,_,_,_,_,_,_,_,_,_,_,_]) mixed [⟨[0],[],[(0,none)],false⟩,⟨[0],[],[(5,none)],false⟩,⟨[0],[],[(1,none)],false⟩,⟨[0],[],[(3,none)],false⟩,⟨[0],[2,3],[(86,some 2),(87,some 3)],false⟩,⟨[0],[2,3,4],[(88,some 4)],false⟩,⟨[0],[2,3,4,5],[(89,some 5)],false⟩,⟨[0],[],[(1,none)],false⟩,⟨[0],[],[(4,none)],false⟩,⟨[0],[7,8],[(91,some 7),(92,some 8)],false⟩,⟨[0],[7,8,9],[(93,some 9)],false⟩,⟨[0],[7,8,9,10],[(94,some 10)],false⟩,⟨[0],[1,2,3,4,5,6,7,8,9,10,11],[(85,some 1),(90,some 6),(95,some 11)],false⟩,⟨[],[0,1,2,3,4,5,6,7,8,9,10,11,12],[],false⟩,⟨[],[0,1,2,3,4,5,6,7,8,9,10,11,12,13],[],false⟩] 13 (by kernel_rfl) (by kernel_rfl)
      ·refine⟨?_,?_,?_,?_,?_,?_,?_,?_,?_,?_,?_,?_,?_,trivial⟩;iterate 13 (· intro tm hr;simp[AllL,rdV] at hr;simp[hr,Aa e81,f82,Ac e49,Ac e56,Ac e69,Ac e77,AF (Aa e81).2,lvs1,Aa e83,f84,AF (Aa e83).2];intros;exact KA)
      ·rfl
      ·simp[tmD,putD,Aa e81,f82,Ac e49,Ac e56,Ac e69,Ac e77,AF (Aa e81).2,lvs1,Aa e83,f84,AF (Aa e83).2];rfl
      apply xopsY.yield hY1 13 13 rfl rfl rfl (by decide)
      ·simp[Aa e81,f82,Ac e49,Ac e56,Ac e69,Ac e77,AF (Aa e81).2,lvs1,Aa e83,f84,AF (Aa e83).2];intros;rfl
      ·rfl
      ·first|trivial|simp[Aa e81,f82,Ac e49,Ac e56,Ac e69,Ac e77,AF (Aa e81).2,lvs1,Aa e83,f84,AF (Aa e83).2]
      ·rfl
      ·rfl
      ·simp[puts,Aa e81,f82,Ac e49,Ac e56,Ac e69,Ac e77,AF (Aa e81).2,lvs1,Aa e83,f84,AF (Aa e83).2];rfl
      intro cxR1 hnR1;have hnS1:cxR1.nb=0:=hnR1.trans hnJ1;refine SL ?_;refine⟨rfl,?_⟩;obtain⟨y85,g85,h⟩:=bnE h;refine AW.flowR (p:=fun gh ls=>(sp (nP (cx:=cxR1) (fun q=>(⟨[],[some ⟨54,3,true,none,lvs (Ap v77)⟩,some ⟨24,1,false,none,[.r 5 3 0 q.length]⟩,some ⟨52,1,false,none,[.r 0 3 0 v77.length]⟩,none,none,some ⟨33,3,true,none,lvs (AG q)⟩],51,gh,ls⟩:St))) (xP 2 (cx:=cxR1) (fun q=>(⟨[],[some ⟨54,3,true,none,lvs (Ap v77)⟩,some ⟨24,1,false,none,[.r 5 3 0 q.length]⟩,some ⟨52,1,false,none,[.r 0 3 0 v77.length]⟩,none,none,some ⟨33,3,true,none,lvs (AG q)⟩],51,gh,ls⟩:St)))) y85) ?_ ?_
      ·replace h:=g85;clear g85
       apply AW.block;obtain⟨e86,h⟩:=chkE h;obtain⟨v87,e87,h⟩:=ltE h;apply AW.step
       ·simp[← Dn,← e87,Az e87];intros;refine Bo ?_;try simp[← Dn,← e87,Az e87]
        intros;refine Bv (acc:=AG y25.2) (ys:=AG [(⟨v42.to,v81.node,v83.node⟩:ApiStep)]) (cap:=none) (k:=1) Kp Kn (by simp) (by simp[AG,lvs]) (Fa _) (by simp) (by simp) (by first|(simp;done)|simpa using (Bm e86).1) ?_;try simp[← Dn,← e87,Az e87]
        intros;rfl
       obtain⟨v88,e88,v89,e89,h⟩:=oll h;refine AW.step (by simp[Ao e88,← e89];intros;rfl) ?_;cases v89 with
       |true=>
        replace h:=iT h;refine CT ?_;apply AW.exit;try simp only[nm]
        obtain rfl:=oi h;try simp only[sp_l,sp_r]
        refine xP_i ?_;refine zA 0 [some 0,some 1,some 2,some 3,some 4,some 7] hnS1 (by decide) (by decide) ?_ ?_ ?_;all_goals first|(simp[Ab,Af,pickOb,EJ,Ac e49,Ac e56,Ac e69,Ac e77];done)|rfl
       |false=>
        replace h:=iF h;refine CF ?_;apply AW.skip;try simp only[nm]
        obtain rfl:=oi h;try simp only[sp_l,sp_r]
        refine nP_i ?_;refine zA 0 [some 0,some 1,some 2,some 3,some 4,some 7] hnS1 (by decide) (by decide) ?_ ?_ ?_;all_goals first|(simp[Ab,Af,pickOb,EJ,Ac e49,Ac e56,Ac e69,Ac e77];done)|rfl
      ·rintro e s hp;rcases y85 with y90|y91
       ·replace h:=smL h;obtain⟨rfl,hw⟩:=hp;refine⟨_,hw,?_⟩;try simp only[nm]
        refine⟨_,_,rfl,?_⟩;refine Dw _ _ _ rfl ?_;simp[puts,Aa e81,f82,Ac e49,Ac e56,Ac e69,Ac e77,AF (Aa e81).2,lvs1,Aa e83,f84,AF (Aa e83).2];try intros
        unfold KK;refine CF ?_;apply AW.skip;try simp only[nm]
        obtain rfl:=oi h;refine nP_i ?_;refine zA 0 [some 0,some 1,some 2,some 5] hnJ1 (by decide) (by decide) ?_ ?_ ?_;all_goals first|(simp[Ab,Af,pickOb];done)|rfl
       ·replace h:=smR h;obtain⟨rfl,hw⟩:=hp;refine⟨_,hw,?_⟩;try simp only[nm]
        refine⟨_,_,rfl,?_⟩;refine Dw _ _ _ rfl ?_;simp[puts,Aa e81,f82,Ac e49,Ac e56,Ac e69,Ac e77,AF (Aa e81).2,lvs1,Aa e83,f84,AF (Aa e83).2];try intros
        unfold KK;refine CT ?_;obtain rfl:=oi h;apply AW.ret;try simp only[nm]
        try simp only[sp_l,sp_r]
        refine tP_i ?_;refine zA 0 [some 0,some 1,some 2,some 5] hnJ1 (by decide) (by decide) ?_ ?_ ?_;all_goals first|(simp[Ab,Af,pickOb];done)|rfl
    |false=>
     replace h:=iF h;refine CF ?_;apply AW.exit;try simp only[nm]
     obtain rfl:=oi h;try simp only[sp_l,sp_r]
     refine xP_i ?_;refine zA 0 [some 0,some 1,some 2,some 3] hnJ1 (by decide) (by decide) ?_ ?_ ?_;all_goals first|(simp[Ab,Af,pickOb];done)|rfl
   ·rintro e s hp;rcases y26 with y92|y93
    ·replace h:=smL h;obtain⟨rfl,hw⟩:=hp;refine⟨_,hw,?_⟩;try simp only[nm]
     refine⟨_,_,rfl,?_⟩;try simp only[]
     try simp only[nm]
     obtain rfl:=oi h;exact nP_i (WM [1,3] hz)
    ·replace h:=smR h;rcases y93 with y94|y95
     ·replace h:=smL h;obtain⟨rfl,hw⟩:=hp;refine⟨_,hw,?_⟩;try simp only[nm]
      refine⟨_,_,rfl,?_⟩;try simp only[]
      apply AW.exit;try simp only[nm]
      obtain rfl:=oi h;exact nP_i (WM [1,3] hz)
     ·replace h:=smR h;obtain⟨rfl,hw⟩:=hp;refine⟨_,hw,?_⟩;try simp only[nm]
      refine⟨_,_,rfl,?_⟩;try simp only[]
      try simp only[nm]
      obtain rfl:=oi h;exact nP_i (WM [1,3] hz)
  ·rintro e s⟨rfl,hw⟩;refine⟨_,hw,?_⟩;try simp only[nm]
   refine ST ?_;obtain⟨e96,h⟩:=chkE h;refine FZ 1 33 3 (Fa y23) e96 ?_;obtain rfl:=oi h;apply AW.ret;exact LP hz
theorem B7:Enters Try.prog 10:=enters Try.func10 (by kernel_rfl) rfl
def BV (n:Nat) (a0:List Claim) (a1:List ApiStep):Option (List Claim) :=
chk (small 32 a0) <|
lt (lenI a0) fun v2 =>
bn (iter n (fun (y3:Int×Int) =>
lt (ltI y3.2 v2) fun v6 =>
ite' v6 (bn (nth a0 y3.2) fun v7 =>
lt (addI .i64 v7.epoch 1) fun v9 =>
lt (maxI y3.1 v9) fun v10 =>
lt (addI .i64 y3.2 1) fun v11 =>
some (.inl (v10,v11))) (some (.inr y3.1))) (1,0)) fun (y4:Int) =>
lt (lenI a1) fun v12 =>
chk (room a0.length 1) <|
bn (iter n (fun (y13:List Claim×Int) =>
lt (ltI y13.2 v12) fun v17 =>
ite' v17 (bn (nth a1 y13.2) fun v18 =>
bn (BT n y13.1 [(⟨v18.slot,v18.slot⟩:Span)] v18.to y4) fun v19 =>
lt (addI .i64 y13.2 1) fun v20 =>
some (.inl (v19,v20))) (some (.inr y13.1))) (a0,0)) fun (y14:List Claim) =>
some y14
theorem Gm {n:Nat} {a0:List Claim} {a1:List ApiStep} {r:List Claim} (h:BV n a0 a1=some r):Sound Try.prog 13 [.l (dB a0),.l (.d false 3 (AG a1))] [] (.l (dB r)) []:=by
 unfold BV at h;refine SO 43 Try.func13 fun cx hG (hz:cx.nb=0)=>?_;simp only[it];refine ST ?_;obtain⟨e1,h⟩:=chkE h;apply AW.step
 ·simp[outR];intros;refine DQ Ib (IP a0 (Iv e1)) rfl (by simp) ⟨.d _ _ _,trivial⟩ ?_;try simp[outR]
  intros;rfl
 refine ST ?_;apply AW.seq;obtain⟨v2,e2,h⟩:=ltE h;refine AW.step (by simp[Ao e2];intros;rfl) ?_;apply AW.block;obtain⟨y4,g4,h⟩:=bnE h;refine zE g4 (mk:=fun gh ls q=>(⟨[(0,.l (.r 0 4 0 a0.length)),(1,.l (.d false 3 (AG a1))),(5,.l (iA q.1)),(12,.l (.r 0 4 0 a0.length)),(13,.l (iA v2)),(14,.l (iA q.2))],[some ⟨31,4,true,none,lvs (Au a0)⟩],43,gh,ls⟩:St)) (N:=fun gh ls=>(xP 0 (cx:=cx) (fun q=>(⟨[(0,.l (.r 0 4 0 a0.length)),(1,.l (.d false 3 (AG a1))),(5,.l (iA q))],[some ⟨31,4,true,none,lvs (Au a0)⟩],43,gh,ls⟩:St)))) ?_ noX ?_ ?_
 ·exact WM [0] hz
 ·clear h;intro y3 y5 h
  obtain⟨v6,e6,h⟩:=ltE h;refine AW.step (by simp[← e6];intros;rfl) ?_;apply AW.seq;cases v6 with
  |true=>
   replace h:=iT h;refine CT ?_;apply AW.skip;try simp only[nm]
   apply AW.seq;apply AW.block;obtain⟨v7,e7,h⟩:=bnE h;have f8:=Ai e7;try simp[Aa e7] at f8
   refine AW.step (by simp[Aa e7,f8,CO (Aa e7).2 (k:=4) (by decide),Cy (Aa e7).2 (show 4≤4 by decide),lvs1];intros;rfl) ?_;obtain⟨v9,e9,v10,e10,h⟩:=oll h;refine AW.last (by simp[← e9,← e10];intros;rfl) ?_;try simp only[nm]
   obtain⟨v11,e11,h⟩:=ltE h;refine AW.last (by simp[← e11];intros;rfl) ?_;obtain rfl:=oi h;exact nP_i (WM [0] hz)
  |false=>
   replace h:=iF h;refine CF ?_;apply AW.exit;try simp only[nm]
   obtain rfl:=oi h;refine xP_i ?_;exact WM [0] hz
 ·rintro e s⟨rfl,hw⟩;refine⟨_,hw,?_⟩;try simp only[nm]
  apply AW.seq;obtain⟨v12,e12,h⟩:=ltE h;refine AW.step (by simp[Ao e12];intros;rfl) ?_;apply AW.block;obtain⟨e15,h⟩:=chkE h;obtain⟨y14,g14,h⟩:=bnE h;refine zE g14 (mk:=fun gh ls q=>(⟨[(0,.l (dB q.1)),(5,.l (iA y4)),(24,.l (.d false 3 (AG a1))),(25,.l (iA v12)),(26,.l (iA q.2))],[],43,gh,ls⟩:St)) (N:=fun gh ls=>(xP 2 (cx:=cx) (fun q=>(⟨[(0,.l (dB q))],[],43,gh,ls⟩:St)))) ?_ noX ?_ ?_
  ·refine W.frzRow 0 (ty:=31) (cap:=none) (sz:=4) (es:=Au a0) (by simp) (by omega) (Cs _) (by first|exact (Bm e15).2|simpa using (Bm e15).2|simp) (by simp[Tm.frz,AV.frz,LV.frz];rfl) (by simp[Ob.frz,LV.frz];rfl) rfl ?_;exact WM [] hz
  ·clear h;intro y13 y16 h
   obtain⟨v17,e17,h⟩:=ltE h;refine AW.step (by simp[← e17];intros;rfl) ?_;apply AW.seq;cases v17 with
   |true=>
    replace h:=iT h;refine CT ?_;apply AW.skip;try simp only[nm]
    apply AW.seq;apply AW.block;obtain⟨v18,e18,h⟩:=bnE h;refine AW.step (by simp[Aa e18];intros;rfl) ?_;obtain⟨v19,e19,h⟩:=bnE h;apply AW.last
    ·simp;intros;refine Ee (es:=Ah [(⟨v18.slot,v18.slot⟩:Span)]) (by simp[Ah,lvs,All2]) (Bh _) (by omega) (by simp) ?_;try simp
     intros;refine Aj GD (Hk e19) rfl ⟨.same rfl,.same rfl,.same rfl,.same rfl,trivial⟩ ?_;try simp
     intros;rfl
    try simp only[nm]
    obtain⟨v20,e20,h⟩:=ltE h;refine AW.last (by simp[← e20];intros;rfl) ?_;obtain rfl:=oi h;exact nP_i (WM [] hz)
   |false=>
    replace h:=iF h;refine CF ?_;apply AW.exit;try simp only[nm]
    obtain rfl:=oi h;refine xP_i ?_;exact WM [] hz
  ·rintro e s⟨rfl,hw⟩;refine⟨_,hw,?_⟩;try simp only[nm]
   refine ST ?_;obtain rfl:=oi h;apply AW.ret;exact LP hz
theorem F3:Enters Try.prog 13:=enters Try.func13 (by kernel_rfl) rfl
end Go.Proofs.Ytenemndpignaoaa
namespace Go.Proofs.Ytenemndpignaoaa
open Go Go.RowKit
def EE (n:Nat) (a0:List Claim) (a1:List ApiStep):Option (List Claim) :=
bn (iter n (fun (y1:Int×Int) =>
lt (lenI a0) fun v4 =>
lt (ltI y1.2 v4) fun v5 =>
ite' v5 (bn (nth a0 y1.2) fun v6 =>
lt (maxI y1.1 v6.epoch) fun v7 =>
lt (addI .i64 y1.2 1) fun v8 =>
some (.inl (v7,v8))) (some (.inr y1.1))) (0,0)) fun (y2:Int) =>
bn (iter n (fun (y9:List Claim×Int) =>
lt (lenI a1) fun v12 =>
lt (ltI y9.2 v12) fun v13 =>
ite' v13 (bn (nth a1 y9.2) fun v14 =>
lt (addI .i64 y2 1) fun v15 =>
bn (Dy n y9.1 [(⟨v14.slot,v14.slot⟩:Span)] v14.to v15) fun v16 =>
lt (addI .i64 y9.2 1) fun v17 =>
some (.inl (v16,v17))) (some (.inr y9.1))) (a0,0)) fun (y10:List Claim) =>
some y10
def D0 (n:Nat) :Option Bool :=
chk (room 1 1) <|
bn (bn (BE n [(⟨0,3,0,1⟩:Claim)] [0]) fun v3 =>
lt (lenI v3) fun v4 =>
lt (eqI v4 0) fun v5 =>
ite' v5 (bn (BE n [(⟨0,3,0,1⟩:Claim)] [0,1]) fun v6 =>
lt (lenI v6) fun v7 =>
lt (eqI v7 2) fun v8 =>
some (v8)) (some (false))) fun (y2:Bool) =>
some y2
theorem If {n:Nat}  {r:Bool} (h:D0 n =some r):Sound Try.prog 8 [] [] (.l (bA r)) []:=by
 unfold D0 at h;refine SO 16 Try.func8 fun cx hG (hz:cx.nb=0)=>?_;simp only[it];refine ST ?_;apply AW.step
 ·simp;intros;refine Bo ?_;try simp
  intros;rfl
 obtain⟨e1,h⟩:=chkE h;refine AW.frzRow 0 (ty:=31) (cap:=none) (sz:=4) (es:=Au [(⟨0,3,0,1⟩:Claim)]) (by simp[DG]) (by omega) (Cs _) (by first|exact (Bm e1).2|simpa using (Bm e1).2|simp) (by simp[Tm.frz,AV.frz,LV.frz];rfl) (by simp[Ob.frz,LV.frz];rfl) rfl ?_;obtain⟨y2,g2,h⟩:=bnE h;refine zD (p:=fun gh ls=>(nP (cx:=cx) (fun q=>(⟨[(0,.l (bA q))],[],16,gh,ls⟩:St))) y2) ?_ ?_
 ·replace h:=g2;clear g2
  obtain⟨v3,e3,v4,e4,v5,e5,h⟩:=obll h;cases v5 with
  |true=>
   replace h:=iT h;obtain⟨v6,e6,v7,e7,v8,e8,h⟩:=obll h;apply AW.last
   ·simp[Ao e4,← e5,Ao e7,← e8];intros;refine Ee (es:=encI [0]) (by simp[encI,lvs,All2]) (Cw _) (by omega) (by simp) ?_;try simp[Ao e4,← e5,Ao e7,← e8]
    intros;refine Aj B7 (Ce e3) rfl ⟨.same rfl,.same rfl,trivial⟩ ?_;try simp[Ao e4,← e5,Ao e7,← e8]
    intros;refine Ee (es:=encI [0,1]) (by simp[encI,lvs,All2]) (Cw _) (by omega) (by simp) ?_;try simp[Ao e4,← e5,Ao e7,← e8]
    intros;refine Aj B7 (Ce e6) rfl ⟨.same rfl,.same rfl,trivial⟩ ?_;try simp[Ao e4,← e5,Ao e7,← e8]
    intros;rfl
   obtain rfl:=oi h;exact nP_i (WM [] hz)
  |false=>
   replace h:=iF h;apply AW.last
   ·simp[Ao e4,← e5];intros;refine Ee (es:=encI [0]) (by simp[encI,lvs,All2]) (Cw _) (by omega) (by simp) ?_;try simp[Ao e4,← e5]
    intros;refine Aj B7 (Ce e3) rfl ⟨.same rfl,.same rfl,trivial⟩ ?_;try simp[Ao e4,← e5]
    intros;rfl
   obtain rfl:=oi h;exact nP_i (WM [] hz)
 ·rintro e s⟨rfl,hw⟩;refine⟨_,hw,?_⟩;try simp only[nm]
  obtain rfl:=oi h;apply AW.ret;exact LP hz
theorem HU:Enters Try.prog 8:=enters Try.func8 (by kernel_rfl) rfl
def Cj (n:Nat) (a0:Int) (a1:Int):Option Bool :=
lt (cvI .i64 a0) fun v1 =>
bn (remI .i64 v1 60) fun v2 =>
lt (addI .i64 1 v2) fun v3 =>
lt (cvI .i64 a1) fun v4 =>
bn (remI .i64 v4 5) fun v5 =>
lt (addI .i64 1 v5) fun v6 =>
lt (subI .i64 v3 1) fun v7 =>
bn (segh [0,1,2,3,4] v6) fun v8 =>
chk (room 1 1) <|
bn (BE n [(⟨0,v7,0,1⟩:Claim)] v8) fun v11 =>
bn (BV n [(⟨0,v7,0,1⟩:Claim)] v11) fun v12 =>
bn (iter n (fun (y13:Int) =>
lt (lenI v11) fun v16 =>
lt (ltI y13 v16) fun v17 =>
ite' v17 (bn (bn (nth v11 y13) fun v19 =>
lt (subI .i64 v3 1) fun v20 =>
lt (subI .i64 v20 y13) fun v21 =>
lt (neI v19.slot v21) fun v22 =>
ite' v22 (some (true)) (lt (neI v19.frm 0) fun v23 =>
ite' v23 (some (true)) (lt (subI .i64 v6 1) fun v24 =>
lt (maxI 1 v24) fun v25 =>
bn (remI .i64 y13 v25) fun v26 =>
lt (addI .i64 1 v26) fun v27 =>
lt (neI v19.to v27) fun v28 =>
some (v28)))) fun (y18:Bool) =>
lt (y18) fun v29 =>
ite' v29 (some (.inr (.inr false))) (lt (addI .i64 y13 1) fun v30 =>
some (.inl v30))) (some (.inr (.inl ())))) 0) fun (y14:Unit ⊕ Bool) =>
sm y14 (fun y31=>bn (iter n (fun (y33:Int) =>
lt (ltI y33 v6) fun v36 =>
ite' v36 (bn (Cz n v12 y33) fun v37 =>
bn (CZ n v37) fun v38 =>
bn (bn (quoI .i64 v3 v6) fun v40 =>
lt (ltI v38 v40) fun v41 =>
ite' v41 (some (true)) (lt (addI .i64 v3 v6) fun v42 =>
lt (subI .i64 v42 1) fun v43 =>
bn (quoI .i64 v43 v6) fun v44 =>
lt (gtI v38 v44) fun v45 =>
some (v45))) fun (y39:Bool) =>
lt (y39) fun v46 =>
ite' v46 (some (.inr (.inr false))) (lt (addI .i64 y33 1) fun v47 =>
some (.inl v47))) (some (.inr (.inl ())))) 0) fun (y34:Unit ⊕ Bool) =>
sm y34 (fun y48=>bn (bn (BE n v12 v8) fun v51 =>
lt (lenI v51) fun v52 =>
lt (eqI v52 0) fun v53 =>
ite' v53 (bn (D0 n) fun v54 =>
some (v54)) (some (false))) fun (y50:Bool) =>
some y50) (fun y49=>some y49)) (fun y32=>some y32)
def DX5t1:List DI:=[⟨[0],[],[(9,none)],false⟩,⟨[0],[],[(11,none)],false⟩,⟨[0],[0,1],[(41,some 0),(42,some 1)],false⟩,⟨[0],[0,1,2],[(43,some 2)],false⟩,⟨[0],[0,1,2,3],[(44,some 3)],false⟩,⟨[0],[],[(5,none)],false⟩,⟨[0],[5],[(46,some 5)],false⟩,⟨[0],[],[(11,none)],false⟩,⟨[0],[5,6,7],[(47,some 6),(48,some 7)],false⟩,⟨[0],[0,1,2,3,4,5,6,7,8],[(45,some 4),(49,some 8)],false⟩,⟨[0],[0,1,2,3,4,5,6,7,8,9],[(50,some 9)],false⟩,⟨[0],[0,1,2,3,4,5,6,7,8,9,10],[(9,none),(51,some 10)],false⟩,⟨[0],[0,1,2,3,4,5,6,7,8,9,10],[(11,none),(51,some 10)],false⟩,⟨[0],[0,1,2,3,4,5,6,7,8,9,10,11,12],[(51,some 10),(52,some 11),(53,some 12)],false⟩,⟨[0],[0,1,2,3,4,5,6,7,8,9,10,11,12,13],[(51,some 10),(54,some 13)],false⟩,⟨[0],[0,1,2,3,4,5,6,7,8,9,10,11,12,13,14],[(51,some 10),(55,some 14)],false⟩,⟨[0],[0,1,2,3,4,5,6,7,8,9,10,11,12,13,14,15],[(51,some 10),(56,some 15)],false⟩,⟨[0],[0,1,2,3,4,5,6,7,8,9,10,11,12,13,14,15,16],[(51,some 10),(57,some 16)],false⟩,⟨[0],[0,1,2,3,4,5,6,7,8,9,10,11,12,13,14,15,16,17],[(58,some 17)],false⟩,⟨[0],[0,1,2,3,4,5,6,7,8,9,10,11,12,13,14,15,16,17,18],[(9,none),(59,some 18)],false⟩,⟨[0],[0,1,2,3,4,5,6,7,8,9,10,11,12,13,14,15,16,17,18],[(11,none),(59,some 18)],false⟩,⟨[0],[0,1,2,3,4,5,6,7,8,9,10,11,12,13,14,15,16,17,18,19,20],[(59,some 18),(60,some 19),(61,some 20)],false⟩,⟨[0],[0,1,2,3,4,5,6,7,8,9,10,11,12,13,14,15,16,17,18,19,20,21],[(59,some 18),(62,some 21)],false⟩,⟨[0],[0,1,2,3,4,5,6,7,8,9,10,11,12,13,14,15,16,17,18,19,20,21,22],[(59,some 18),(63,some 22)],false⟩,⟨[0],[0,1,2,3,4,5,6,7,8,9,10,11,12,13,14,15,16,17,18],[(11,none),(59,some 18)],false⟩,⟨[0],[0,1,2,3,4,5,6,7,8,9,10,11,12,13,14,15,16,17,18],[(6,none),(59,some 18)],false⟩,⟨[0],[0,1,2,3,4,5,6,7,8,9,10,11,12,13,14,15,16,17,18,25],[(59,some 18),(66,some 25)],false⟩,⟨[0],[0,1,2,3,4,5,6,7,8,9,10,11,12,13,14,15,16,17,18,25,26],[(59,some 18),(67,some 26)],false⟩,⟨[0],[0,1,2,3,4,5,6,7,8,9,10,11,12,13,14,15,16,17,18,24,25,26,27],[(59,some 18),(65,some 24),(68,some 27)],false⟩,⟨[0],[0,1,2,3,4,5,6,7,8,9,10,11,12,13,14,15,16,17,18,24,25,26,27,28],[(59,some 18),(69,some 28)],false⟩,⟨[],[0,1,2,3,4,5,6,7,8,9,10,11,12,13,14,15,16,17,18,19,20,21,22,23,24,25,26,27,28,29],[],false⟩,⟨[],[0,1,2,3,4,5,6,7,8,9,10,11,12,13,14,15,16,17,18,19,20,21,22,23,24,25,26,27,28,29,30],[],false⟩]
theorem Fw {n:Nat} {a0:Int} {a1:Int} {r:Bool} (h:Cj n a0 a1=some r):Sound Try.prog 6 [.l (.s (.int .u8 a0)),.l (.s (.int .u8 a1))] [] (.l (bA r)) []:=by
 unfold Cj at h;refine SO 105 Try.func6 fun cx hG (hz:cx.nb=0)=>?_;simp only[it];refine ST ?_;obtain⟨v1,e1,h⟩:=ltE h;obtain⟨v2,e2,v3,e3,v4,e4,h⟩:=obll h;obtain⟨v5,e5,v6,e6,h⟩:=obl h;refine AW.step (by simp[← e1,e2,← e3,← e4,e5,← e6];intros;rfl) ?_;obtain⟨v7,e7,h⟩:=ltE h;apply AW.step
 ·simp[← e7];intros;refine Bo ?_;try simp[← e7]
  intros;rfl
 obtain⟨v8,e8,h⟩:=bnE h;have f9:=GX e8;try simp at f9
 apply AW.step
 ·simp[f9];intros;refine Ee (es:=encI [0,1,2,3,4]) (by simp[encI,lvs,All2]) (Cw _) (by omega) (by simp) ?_;try simp[f9]
  intros;rfl
 obtain⟨e10,h⟩:=chkE h;refine AW.frzRow 0 (ty:=31) (cap:=none) (sz:=4) (es:=Au [(⟨0,v7,0,1⟩:Claim)]) (by simp[DG]) (by omega) (Cs _) (by first|exact (Bm e10).2|simpa using (Bm e10).2|simp) (by simp[Tm.frz,AV.frz,LV.frz];rfl) (by simp[Ob.frz,LV.frz];rfl) rfl ?_;obtain⟨v11,e11,h⟩:=bnE h;apply AW.step
 ·simp;intros;refine Aj B7 (Ce e11) rfl ⟨.same rfl,.same rfl,trivial⟩ ?_;try simp
  intros;rfl
 obtain⟨v12,e12,h⟩:=bnE h;apply AW.step
 ·simp;intros;refine Aj F3 (Gm e12) rfl ⟨.same rfl,.same rfl,trivial⟩ ?_;try simp
  intros;rfl
 apply AW.seq;refine ST ?_;apply AW.block;obtain⟨y14,g14,h⟩:=bnE h;refine zE g14 (mk:=fun gh ls q=>(⟨[(5,.l (iA v3)),(6,.l (iA v6)),(8,.l (dC v8)),(9,.l (.d false 3 (AG v11))),(10,.l (dB v12)),(11,.l (iA q))],[],105,gh,ls⟩:St)) (N:=fun gh ls=>(sp (xP 0 (cx:=cx) (fun _=>(⟨[(5,.l (iA v3)),(6,.l (iA v6)),(8,.l (dC v8)),(10,.l (dB v12))],[],105,gh,ls⟩:St))) (rP (cx:=cx) (P:=Try.prog) Try.f6 (fun q=>.l (bA q)) (fun q=>[])))) ?_ (noS noX noR) ?_ ?_
 ·exact WM [] hz
 ·clear h;intro y13 y15 h
  apply AW.seq;obtain⟨v16,e16,v17,e17,h⟩:=oll h;refine AW.step (by simp[Ao e16,← e17];intros;rfl) ?_;cases v17 with
  |true=>
   replace h:=iT h;refine CT ?_;apply AW.skip;try simp only[nm]
   apply AW.seq;apply AW.block;obtain⟨y18,g18,h⟩:=bnE h;refine zD (p:=fun gh ls=>(nP (cx:=cx) (fun q=>(⟨[(5,.l (iA v3)),(6,.l (iA v6)),(8,.l (dC v8)),(9,.l (.d false 3 (AG v11))),(10,.l (dB v12)),(11,.l (iA y13)),(72,.l (bA q))],[],105,gh,ls⟩:St))) y18) ?_ ?_
   ·replace h:=g18;clear g18
    obtain⟨v19,e19,v20,e20,v21,e21,h⟩:=obll h;obtain⟨v22,e22,h⟩:=ltE h;cases v22 with
    |true=>
     replace h:=iT h;apply zH (V:=[_,_,_,_,_,_,_,_,_,_,_,_,_,_,_,_,_,_,_,_,_,_,_,_,_,_,_,_,_,_]) mixed DX5t1 30 (by kernel_rfl) (by kernel_rfl)
     ·refine⟨?_,?_,?_,?_,?_,?_,?_,?_,?_,?_,?_,?_,?_,?_,?_,?_,?_,?_,?_,?_,?_,?_,?_,?_,?_,?_,?_,?_,?_,?_,trivial⟩;iterate 30 (· intro tm hr;simp[AllL,rdV] at hr;simp[hr,Aa e19,← e20,← e21,← e22];intros;exact KA)
     ·rfl
     ·simp[tmD,putD,Aa e19,← e20,← e21,← e22];rfl
     ·simp[Aa e19,← e20,← e21,← e22];intros;rfl
     obtain rfl:=oi h;exact nP_i (WM [] hz)
    |false=>
     replace h:=iF h;obtain⟨v23,e23,h⟩:=ltE h;cases v23 with
     |true=>
      replace h:=iT h;apply zH (V:=[_,_,_,_,_,_,_,_,_,_,_,_,_,_,_,_,_,_,_,_,_,_,_,_,_,_,_,_,_,_]) mixed DX5t1 30 (by kernel_rfl) (by kernel_rfl)
      ·refine⟨?_,?_,?_,?_,?_,?_,?_,?_,?_,?_,?_,?_,?_,?_,?_,?_,?_,?_,?_,?_,?_,?_,?_,?_,?_,?_,?_,?_,?_,?_,trivial⟩;iterate 30 (· intro tm hr;simp[AllL,rdV] at hr;simp[hr,Aa e19,← e20,← e21,← e22,← e23];intros;exact KA)
      ·rfl
      ·simp[tmD,putD,Aa e19,← e20,← e21,← e22,← e23];rfl
      ·simp[Aa e19,← e20,← e21,← e22,← e23];intros;rfl
      obtain rfl:=oi h;exact nP_i (WM [] hz)
     |false=>
      replace h:=iF h;obtain⟨v24,e24,v25,e25,h⟩:=oll h;obtain⟨v26,e26,v27,e27,v28,e28,h⟩:=obll h;apply zH (V:=[_,_,_,_,_,_,_,_,_,_,_,_,_,_,_,_,_,_,_,_,_,_,_,_,_,_,_,_,_,_]) mixed DX5t1 30 (by kernel_rfl) (by kernel_rfl)
      ·refine⟨?_,?_,?_,?_,?_,?_,?_,?_,?_,?_,?_,?_,?_,?_,?_,?_,?_,?_,?_,?_,?_,?_,?_,?_,?_,?_,?_,?_,?_,?_,trivial⟩;iterate 30 (· intro tm hr;simp[AllL,rdV] at hr;simp[hr,Aa e19,← e20,← e21,← e22,← e23,← e24,← e25,e26,← e27,← e28];intros;exact KA)
      ·rfl
      ·simp[tmD,putD,Aa e19,← e20,← e21,← e22,← e23,← e24,← e25,e26,← e27,← e28];rfl
      ·simp[Aa e19,← e20,← e21,← e22,← e23,← e24,← e25,e26,← e27,← e28];intros;rfl
      obtain rfl:=oi h;exact nP_i (WM [] hz)
   ·rintro e s⟨rfl,hw⟩;refine⟨_,hw,?_⟩;try simp only[nm]
    obtain⟨v29,e29,h⟩:=ltE h;rw[← e29];cases v29 with
    |true=>
     replace h:=iT h;refine CT ?_;refine ST ?_;obtain rfl:=oi h;apply AW.ret;try simp only[nm]
     refine rP_i ?_;exact LP hz
    |false=>
     replace h:=iF h;refine CF ?_;apply AW.skip;try simp only[nm]
     obtain⟨v30,e30,h⟩:=ltE h;refine AW.last (by simp[← e30];intros;rfl) ?_;obtain rfl:=oi h;exact nP_i (WM [] hz)
  |false=>
   replace h:=iF h;refine CF ?_;apply AW.exit;try simp only[nm]
   obtain rfl:=oi h;try simp only[sp_l,sp_r]
   refine xP_i ?_;exact WM [] hz
 ·rintro e s hp;rcases y14 with y31|y32
  ·replace h:=smL h;obtain⟨rfl,hw⟩:=hp;refine⟨_,hw,?_⟩;try simp only[nm]
   apply AW.seq;refine ST ?_;apply AW.block;obtain⟨y34,g34,h⟩:=bnE h;refine zE g34 (mk:=fun gh ls q=>(⟨[(5,.l (iA v3)),(6,.l (iA v6)),(8,.l (dC v8)),(10,.l (dB v12)),(12,.l (iA q))],[],105,gh,ls⟩:St)) (N:=fun gh ls=>(sp (xP 2 (cx:=cx) (fun _=>(⟨[(8,.l (dC v8)),(10,.l (dB v12))],[],105,gh,ls⟩:St))) (rP (cx:=cx) (P:=Try.prog) Try.f6 (fun q=>.l (bA q)) (fun q=>[])))) ?_ (noS noX noR) ?_ ?_
   ·exact WM [] hz
   ·clear h;intro y33 y35 h
    apply AW.seq;obtain⟨v36,e36,h⟩:=ltE h;refine AW.step (by simp[← e36];intros;rfl) ?_;cases v36 with
    |true=>
     replace h:=iT h;refine CT ?_;apply AW.skip;try simp only[nm]
     apply AW.seq;apply AW.block;obtain⟨v37,e37,h⟩:=bnE h;obtain⟨v38,e38,h⟩:=bnE h;apply AW.step
     ·simp;intros;refine Aj HP (Id e37) rfl ⟨.same rfl,.same rfl,trivial⟩ ?_;try simp
      intros;refine Aj Ie (IT e38) rfl ⟨.same rfl,trivial⟩ ?_;try simp
      intros;rfl
     obtain⟨y39,g39,h⟩:=bnE h;refine zD (p:=fun gh ls=>(nP (cx:=cx) (fun q=>(⟨[(5,.l (iA v3)),(6,.l (iA v6)),(8,.l (dC v8)),(10,.l (dB v12)),(12,.l (iA y33)),(96,.l (bA q))],[],105,gh,ls⟩:St))) y39) ?_ ?_
     ·replace h:=g39;clear g39
      obtain⟨v40,e40,v41,e41,h⟩:=obl h;cases v41 with
      |true=>
       replace h:=iT h;refine AW.last (by simp[e40,← e41];intros;rfl) ?_;obtain rfl:=oi h;exact nP_i (WM [] hz)
      |false=>
       replace h:=iF h;obtain⟨v42,e42,v43,e43,h⟩:=oll h;obtain⟨v44,e44,v45,e45,h⟩:=obl h;refine AW.last (by simp[e40,← e41,← e42,← e43,e44,← e45];intros;rfl) ?_;obtain rfl:=oi h;exact nP_i (WM [] hz)
     ·rintro e s⟨rfl,hw⟩;refine⟨_,hw,?_⟩;try simp only[nm]
      obtain⟨v46,e46,h⟩:=ltE h;rw[← e46];cases v46 with
      |true=>
       replace h:=iT h;refine CT ?_;refine ST ?_;obtain rfl:=oi h;apply AW.ret;try simp only[nm]
       refine rP_i ?_;exact LP hz
      |false=>
       replace h:=iF h;refine CF ?_;apply AW.skip;try simp only[nm]
       obtain⟨v47,e47,h⟩:=ltE h;refine AW.last (by simp[← e47];intros;rfl) ?_;obtain rfl:=oi h;exact nP_i (WM [] hz)
    |false=>
     replace h:=iF h;refine CF ?_;apply AW.exit;try simp only[nm]
     obtain rfl:=oi h;try simp only[sp_l,sp_r]
     refine xP_i ?_;exact WM [] hz
   ·rintro e s hp;rcases y34 with y48|y49
    ·replace h:=smL h;obtain⟨rfl,hw⟩:=hp;refine⟨_,hw,?_⟩;try simp only[nm]
     obtain⟨y50,g50,h⟩:=bnE h;refine zD (p:=fun gh ls=>(nP (cx:=cx) (fun q=>(⟨[(4,.l (bA q))],[],105,gh,ls⟩:St))) y50) ?_ ?_
     ·replace h:=g50;clear g50
      obtain⟨v51,e51,v52,e52,v53,e53,h⟩:=obll h;cases v53 with
      |true=>
       replace h:=iT h;obtain⟨v54,e54,h⟩:=bnE h;apply AW.last
       ·simp[Ao e52,← e53];intros;refine Aj B7 (Ce e51) rfl ⟨.same rfl,.same rfl,trivial⟩ ?_;try simp[Ao e52,← e53]
        intros;refine Aj HU (If e54) rfl trivial ?_;try simp[Ao e52,← e53]
        intros;rfl
       obtain rfl:=oi h;exact nP_i (WM [] hz)
      |false=>
       replace h:=iF h;apply AW.last
       ·simp[Ao e52,← e53];intros;refine Aj B7 (Ce e51) rfl ⟨.same rfl,.same rfl,trivial⟩ ?_;try simp[Ao e52,← e53]
        intros;rfl
       obtain rfl:=oi h;exact nP_i (WM [] hz)
     ·rintro e s⟨rfl,hw⟩;refine⟨_,hw,?_⟩;try simp only[nm]
      obtain rfl:=oi h;apply AW.ret;exact LP hz
    ·replace h:=smR h;obtain⟨rfl,hl⟩:=hp;refine⟨_,Weak.refl _,?_⟩;obtain rfl:=oi h;exact hl
  ·replace h:=smR h;obtain⟨rfl,hl⟩:=hp;refine⟨_,Weak.refl _,?_⟩;obtain rfl:=oi h;exact hl
end Go.Proofs.Ytenemndpignaoaa
namespace Go.Proofs.Ytenemndpignaoaa
end Go.Proofs.Ytenemndpignaoaa
namespace Go.Proofs.Ytenemndpignaoaa
open Go Go.RowKit
def big:Nat:=281474976710656
section
variable {α β γ:Type}
theorem Iz {f:α→Option (α ⊕ β)} (Q:β→Prop) (I:Nat→α→Prop) (N:Nat)
  (h:∀ k a,k≤N→I k a→(∃ a',k<N∧f a=some (.inl a')∧I (k+1) a')∨∃ b,f a=some (.inr b)∧Q b) :
  ∀ (d k:Nat) (a:α),k+d=N→I k a→∀ n,d<n→∃ b,iter n f a=some b∧Q b
 |d,k,a,hd,hI,0,hn=>by omega
 |d,k,a,hd,hI,n+1,hn=>by
  rcases h k a (by omega) hI with ⟨a',hk,h1,h2⟩|⟨b,h1,h2⟩
  ·rw[JP h1];match d with
   |0=>omega
   |d+1=>exact Iz Q I N h d (k+1) a' (by omega) h2 n (by omega)
  ·exact⟨b,JQ h1,h2⟩
theorem JT {f:α→Option (α ⊕ β)} {a:α} (Q:β→Prop) (I:Nat→α→Prop) (N:Nat) (hN:N<big)
  (h0:I 0 a) (h:∀ k a,k≤N→I k a→(∃ a',k<N∧f a=some (.inl a')∧I (k+1) a')∨∃ b,f a=some (.inr b)∧Q b):∃ b,iter big f a=some b∧Q b :=
 Iz Q I N h N 0 a (by omega) h0 big hN
theorem EL {b:Bool} {k:Option β} (h:b=true):chk b k=k:=by subst h;rfl
def Rn (m:Option α) (Q:α→Prop):Prop:=∃ v,m=some v∧Q v
theorem Rn.some {v:α} {Q:α→Prop} (h:Q v):Rn (some v) Q:=⟨v,rfl,h⟩
theorem Rn.mono {m:Option α} {Q R:α→Prop} (h:Rn m Q) (hk:∀ v,Q v→R v):Rn m R:=⟨h.choose,h.choose_spec.1,hk _ h.choose_spec.2⟩
theorem Rn.lt {a:α} {k:α→Option β} {Q:β→Prop} (h:Rn (k a) Q):Rn (lt a k) Q:=h
theorem Rn.bn {m:Option α} {k:α→Option β} {P:α→Prop} {Q:β→Prop} (h:Rn m P) (hk:∀ v,P v→Rn (k v) Q):Rn (bn m k) Q:=by
 obtain⟨v,rfl,hv⟩:=h;exact hk v hv
theorem zC {m:Option α} {k:α→Option β} {v:α} {Q:β→Prop} (h:m=Option.some v) (hk:Rn (k v) Q):Rn (Go.Proofs.Ytenemndpignaoaa.bn m k) Q:=by
 subst h;exact hk
theorem Rn.chk {b:Bool} {k:Option β} {Q:β→Prop} (h:b=true) (hk:Rn k Q):Rn (chk b k) Q:=by
 subst h;exact hk
theorem Rn.room {m c:Nat} {k:Option β} {Q:β→Prop} (h:m*c≤140737488355328) (h2:m≤140737488355328) (hk:Rn k Q):Rn (Go.Proofs.Ytenemndpignaoaa.chk (Go.Proofs.Ytenemndpignaoaa.room m c) k) Q:=Rn.chk (by simp[Go.Proofs.Ytenemndpignaoaa.room,h,h2]) hk
theorem zB {b:Bool} {x y:Option β} {Q:β→Prop} (h:b=true→Rn x Q) (h2:b=false→Rn y Q):Rn (ite' b x y) Q:=by
 cases b
 ·exact h2 rfl
 ·exact h rfl
theorem Rn.sm {s:α ⊕ β} {f:α→Option γ} {g:β→Option γ} {Q:γ→Prop} (h:∀ a,s=.inl a→Rn (f a) Q) (h2:∀ b,s=.inr b→Rn (g b) Q):Rn (sm s f g) Q:=by
 cases s with
 |inl a=>exact h a rfl
 |inr b=>exact h2 b rfl
theorem zG {f:α→Option (α ⊕ β)} {a:α} (Q:β→Prop) (I:Nat→α→Prop) (N:Nat) (hN:N<big) (h0:I 0 a)
  (h:∀ k a,k≤N→I k a→Rn (f a) fun x=>match x with|.inl a'=>k<N∧I (k+1) a'|.inr b=>Q b):Rn (iter big f a) Q:=by
 refine JT Q I N hN h0 fun k a hk hI=>?_;obtain⟨x,h1,h2⟩:=h k a hk hI;cases x with
 |inl a'=>exact .inl ⟨a',h2.1,h1,h2.2⟩
 |inr b=>exact .inr ⟨b,h1,h2⟩
theorem BB (l:List α):lenI l=(l.length:Int):=rfl
theorem AM {l:List α} {i:Nat} (h:i<l.length):nth l (i:Int)=some l[i]:=by rw[Ex,List.getElem?_eq_getElem h]
theorem HV {l:List α} {i:Nat} (h:i≤l.length):segl l (i:Int)=some (l.drop i):=by simp[segl,h]
theorem HW {l:List α} {i:Nat} (h:i≤l.length):segh l (i:Int)=some (l.take i):=by simp[segh,h]
end
theorem wrap64 {a:Int} (h:-9223372036854775808≤a) (h2:a≤9223372036854775807):IntKind.i64.wrap a=a:=by
 simp[IntKind.wrap,IntKind.bits,IntKind.signed];omega
theorem An {a b:Int} (h:-9223372036854775808≤a+b) (h2:a+b≤9223372036854775807):addI .i64 a b=a+b:=wrap64 h h2
theorem Aq {a b:Int} (h:-9223372036854775808≤a - b) (h2:a - b≤9223372036854775807):subI .i64 a b=a - b:=wrap64 h h2
theorem Gn {a:Int} (h:-9223372036854775808≤a) (h2:a≤9223372036854775807):cvI .i64 a=a:=wrap64 h h2
end Go.Proofs.Ytenemndpignaoaa
namespace Go.Proofs.Ytenemndpignaoaa
open Go Go.RowKit
section
variable {β:Type}
def fnP:List (Int×Int×β)→Int→Option β
 |[],_=>none
 |p::l,s=>if p.1≤s∧s≤p.2.1 then some p.2.2 else fnP l s
def canP:List (Int×Int×β)→Prop
 |[]=>True
 |[p]=>p.1≤p.2.1
 |p::q::l=>p.1≤p.2.1∧p.2.1<q.1∧¬ (p.2.1+1=q.1∧p.2.2=q.2.2)∧canP (q::l)
theorem canP.head {p:Int×Int×β} {l:List (Int×Int×β)} (h:canP (p::l)):p.1≤p.2.1:=by
 cases l with
 |nil=>exact h
 |cons q l=>exact h.1
theorem canP.tail {p:Int×Int×β} {l:List (Int×Int×β)} (h:canP (p::l)):canP l:=by
 cases l with
 |nil=>trivial
 |cons q l=>exact h.2.2.2
theorem canP.lt {p:Int×Int×β}:∀ {l:List (Int×Int×β)},canP (p::l)→∀ q∈l,p.2.1<q.1
 |[],_,q,hq=>by simp at hq
 |r::l,h,q,hq=>by
  rcases List.mem_cons.1 hq with rfl|hq
  ·exact h.2.1
  ·have h1:=canP.lt h.2.2.2 q hq;have h2:=canP.head h.2.2.2;have h3:=h.2.1;omega
theorem Dd {l:List (Int×Int×β)} {s:Int} (h:∀ p∈l,¬ (p.1≤s∧s≤p.2.1)):fnP l s=none:=by
 induction l with
 |nil=>rfl
 |cons p l ih =>
  simp only[fnP];rw[if_neg (h p (by simp)),ih fun q hq=>h q (by simp[hq])]
theorem CJ {p:Int×Int×β} {l:List (Int×Int×β)} (h:canP (p::l)) {s:Int} (hs:s≤p.2.1):fnP l s=none :=
 Dd fun q hq hc=>by have:=h.lt q hq;omega
theorem Bx {p:Int×Int×β} {l:List (Int×Int×β)} {s:Int} (h1:p.1≤s) (h2:s≤p.2.1):fnP (p::l) s=some p.2.2:=by
 simp only[fnP];rw[if_pos ⟨h1,h2⟩]
theorem BM {p:Int×Int×β} {l:List (Int×Int×β)} {s:Int} (h:¬ (p.1≤s∧s≤p.2.1)):fnP (p::l) s=fnP l s:=by
 simp only[fnP];rw[if_neg h]
theorem E2:∀ {l m:List (Int×Int×β)},canP l→canP m→(∀ s,fnP l s=fnP m s)→l=m
 |[],[],_,_,_=>rfl
 |[],q::m,_,hm,h=>by
  have:=h q.1;rw[Bx (Int.le_refl _) hm.head] at this;simp[fnP] at this
 |p::l,[],hl,_,h=>by
  have:=h p.1;rw[Bx (Int.le_refl _) hl.head] at this;simp[fnP] at this
 |p::l,q::m,hl,hm,h=>by
  have hp:=hl.head;have hq:=hm.head;have e1:p.1=q.1:=by
   rcases Int.lt_trichotomy p.1 q.1 with hlt|he|hgt
   ·exfalso
    have:=h p.1;rw[Bx (Int.le_refl _) hp,BM (by omega),CJ hm (by omega)] at this;simp at this
   ·exact he
   ·exfalso
    have:=h q.1;rw[Bx (p:=q) (Int.le_refl _) hq,BM (by omega),CJ hl (by omega)] at this;simp at this
  have e2:p.2.2=q.2.2:=by
   have:=h p.1;rw[Bx (Int.le_refl _) hp,Bx (by omega) (by omega)] at this;exact Option.some.inj this
  have key:∀ {p q:Int×Int×β} {l m:List (Int×Int×β)},canP (p::l)→canP (q::m)→(∀ s,fnP (p::l) s=fnP (q::m) s)→p.1=q.1→p.2.2=q.2.2→¬ p.2.1<q.2.1:=by
   intro p q l m hl hm h e1 e2 hlt;have hp:=hl.head;have:=h (p.2.1+1);rw[BM (by omega),Bx (p:=q) (by omega) (by omega)] at this;cases l with
   |nil=>simp[fnP] at this
   |cons r l =>
    have hr:=hl.2.1;have hr2:=canP.head hl.2.2.2;rcases Decidable.em (p.2.1+1=r.1) with e|e
    ·rw[Bx (by omega) (by omega)] at this;have:=Option.some.inj this;exact hl.2.2.1 ⟨e,by rw[e2,this]⟩
    ·rw[BM (by omega),CJ hl.2.2.2 (by omega)] at this;simp at this
  have e3:p.2.1=q.2.1:=by
   have a:=key hl hm h e1 e2;have b:=key hm hl (fun s=>(h s).symm) e1.symm e2.symm;omega
  have e4:p=q:=Prod.ext e1 (Prod.ext e3 e2);subst e4;rw[E2 hl.tail hm.tail fun s=>?_];rcases Decidable.em (s≤p.2.1) with hs|hs
  ·rw[CJ hl hs,CJ hm hs]
  ·have:=h s;rwa [BM (by omega),BM (by omega)] at this
theorem E3 (l m:List (Int×Int×β)) (s:Int):fnP (l++m) s=match fnP l s with|some v=>some v|none=>fnP m s:=by
 induction l with
 |nil=>rfl
 |cons p l ih =>
  simp only[List.cons_append,fnP];split
  ·rfl
  ·exact ih
theorem Ej:∀ {l:List (Int×Int×β)} {p:Int×Int×β},canP l→p.1≤p.2.1→(∀ q,l.getLast?=some q→q.2.1<p.1∧¬ (q.2.1+1=p.1∧q.2.2=p.2.2))→canP (l++[p])
 |[],p,_,hp,_=>hp
 |[q],p,hq,hp,h=>by
  obtain⟨h1,h2⟩:=h q rfl;exact⟨hq,h1,h2,hp⟩
 |q::r::l,p,hl,hp,h=>by
  refine⟨hl.1,hl.2.1,hl.2.2.1,?_⟩;exact Ej (l:=r::l) hl.2.2.2 hp fun x hx=>h x (by rw[List.getLast?_cons_cons];exact hx)
theorem Fx:∀ {l:List (Int×Int×β)} {p:Int×Int×β},canP (l++[p])→canP l∧p.1≤p.2.1∧(∀ q,l.getLast?=some q→q.2.1<p.1∧¬ (q.2.1+1=p.1∧q.2.2=p.2.2))
 |[],p,h=>⟨trivial,h,fun q hq=>by simp at hq⟩
 |[q],p,h=>by
  refine⟨h.1,h.2.2.2,fun x hx=>?_⟩;simp at hx;subst hx;exact⟨h.2.1,h.2.2.1⟩
 |q::r::l,p,h=>by
  have h':canP ((r::l)++[p]):=h.2.2.2;obtain⟨a,b,c⟩:=Fx h';exact⟨⟨h.1,h.2.1,h.2.2.1,a⟩,b,fun x hx=>c x (by rw[List.getLast?_cons_cons] at hx;exact hx)⟩
structure BdP (at_:Int) (out:List (Int×Int×β)) (f:Int→Option β):Prop where
 can:canP out
 pos:∀ p∈out,p.2.1<at_
 fn:∀ s,s<at_→fnP out s=f s
def putP [DecidableEq β] (l:List (Int×Int×β)) (p:Int×Int×β):List (Int×Int×β) :=
 match l.getLast? with
 |some q=>if q.2.1+1=p.1∧q.2.2=p.2.2 then l.dropLast++[(q.1,p.2.1,q.2.2)] else l++[p]
 |none=>[p]
theorem BdP.skip {a b:Int} {out:List (Int×Int×β)} {f:Int→Option β} (h:BdP a out f) (hab:a≤b) (hf:∀ s,a≤s→s<b→f s=none):BdP b out f:=by
 refine⟨h.can,fun p hp=>by have:=h.pos p hp;omega,fun s hs=>?_⟩;rcases Decidable.em (s<a) with h1|h1
 ·exact h.fn s h1
 ·rw[hf s (by omega) hs];exact Dd fun p hp hc=>by have:=h.pos p hp;omega
theorem BdP.put [DecidableEq β] {a b:Int} {v:β} {out:List (Int×Int×β)} {f:Int→Option β} (h:BdP a out f) (hab:a≤b) (hf:∀ s,a≤s→s≤b→f s=some v):BdP (b+1) (putP out (a,b,v)) f:=by
 have hcan:=h.can;unfold putP;split
 ·rename_i q hq
  obtain⟨l,hl⟩:=List.getLast?_eq_some_iff.1 hq;subst hl;have hqp:=h.pos q (by simp);obtain⟨c1,c2,c3⟩:=Fx hcan;split
  ·rename_i hc
   obtain⟨g1,g2⟩:=hc;rw[List.dropLast_concat];refine⟨Ej c1 (by simp only at g1 ⊢;omega) (fun x hx=>?_),?_,?_⟩
   ·exact c3 x hx
   ·intro p hp;rcases List.mem_append.1 hp with hp|hp
    ·have:=h.pos p (by simp[hp]);omega
    ·simp at hp;subst hp;simp only;omega
   ·intro s hs;rw[E3];rcases Decidable.em (s<a) with h1|h1
    ·have:=h.fn s h1;rw[← this,E3];cases fnP l s with
     |some w=>rfl
     |none =>
      simp only[fnP];simp only at g1;rcases Decidable.em (q.1≤s∧s≤q.2.1) with h2|h2
      ·rw[if_pos h2,if_pos ⟨h2.1,by omega⟩]
      ·rw[if_neg h2,if_neg (by omega)]
    ·rw[hf s (by omega) (by omega)];have:fnP l s=none:=Dd fun p hp hc=>by have:=h.pos p (by simp[hp]);omega
     rw[this];simp only[fnP];simp only at g1 g2;rw[if_pos ⟨by omega,by omega⟩,g2]
  ·rename_i hc
   refine⟨Ej hcan hab fun x hx=>?_,?_,?_⟩
   ·rw[hq] at hx;have:=Option.some.inj hx;subst this;exact⟨hqp,hc⟩
   ·intro p hp;rcases List.mem_append.1 hp with hp|hp
    ·have:=h.pos p hp;omega
    ·simp at hp;subst hp;simp only;omega
   ·intro s hs;rw[E3];rcases Decidable.em (s<a) with h1|h1
    ·rw[h.fn s h1];cases f s with
     |some w=>rfl
     |none =>
      simp only[fnP];rw[if_neg (by omega)]
    ·rw[hf s (by omega) (by omega)];have:fnP (l++[q]) s=none:=Dd fun p hp hc=>by have:=h.pos p hp;omega
     rw[this];simp only[fnP];rw[if_pos ⟨by omega,by omega⟩]
 ·rename_i hn
  have:out=[]:=List.getLast?_eq_none_iff.1 hn;subst this;refine⟨hab,?_,?_⟩
  ·intro p hp;simp at hp;subst hp;simp only;omega
  ·intro s hs;simp only[fnP];rcases Decidable.em (s<a) with h1|h1
   ·have:=h.fn s h1;rw[if_neg (by omega),← this];rfl
   ·rw[if_pos ⟨by omega,by omega⟩,hf s (by omega) (by omega)]
theorem BdP.nil {a:Int} {f:Int→Option β} (hf:∀ s,s<a→f s=none):BdP a [] f:=⟨trivial,fun p hp=>by simp at hp,fun s hs=>by rw[hf s hs];rfl⟩
theorem BdP.ext {a b:Int} {l m:List (Int×Int×β)} {f:Int→Option β} (hl:BdP a l f) (hm:BdP b m f) (hf:∀ s,a≤s∨b≤s→f s=none):l=m:=by
 refine E2 hl.can hm.can fun s=>?_;have h1:fnP l s=f s:=by
  rcases Decidable.em (s<a) with h|h
  ·exact hl.fn s h
  ·rw[hf s (.inl (by omega))];exact Dd fun p hp hc=>by have:=hl.pos p hp;omega
 have h2:fnP m s=f s:=by
  rcases Decidable.em (s<b) with h|h
  ·exact hm.fn s h
  ·rw[hf s (.inr (by omega))];exact Dd fun p hp hc=>by have:=hm.pos p hp;omega
 rw[h1,h2]
theorem F4 {s:Int}:∀ {l:List (Int×Int×β)},(∀ p∈l,s+1≠p.1∧s+1≠p.2.1+1)→fnP l (s+1)=fnP l s
 |[],_=>rfl
 |p::l,h=>by
  have h1:=h p (by simp);have ih:=F4 (l:=l) fun q hq=>h q (by simp[hq]);simp only[fnP];rcases Decidable.em (p.1≤s∧s≤p.2.1) with h2|h2
  ·rw[if_pos h2,if_pos (by omega)]
  ·rw[if_neg h2,ih];rcases Decidable.em (p.1≤s+1∧s+1≤p.2.1) with h3|h3
   ·omega
   ·rw[if_neg h3]
end
end Go.Proofs.Ytenemndpignaoaa
namespace Go.Proofs.Ytenemndpignaoaa
open Go Go.RowKit
theorem Rn.eqv {α:Type} {m:Option α} {v:α} (h:Rn m (·=v)):m=Option.some v:=by
 obtain⟨w,h1,rfl⟩:=h;exact h1
theorem lt_t {a b:Int} (h:a<b):ltI a b=true:=decide_eq_true h
theorem lt_f {a b:Int} (h:b≤a):ltI a b=false:=decide_eq_false (by omega)
theorem le_t {a b:Int} (h:a≤b):leI a b=true:=decide_eq_true h
theorem le_f {a b:Int} (h:b<a):leI a b=false:=decide_eq_false (by omega)
theorem gt_t {a b:Int} (h:b<a):gtI a b=true:=decide_eq_true h
theorem gt_f {a b:Int} (h:a≤b):gtI a b=false:=decide_eq_false (by omega)
theorem ge_t {a b:Int} (h:b≤a):geI a b=true:=decide_eq_true h
theorem ge_f {a b:Int} (h:a<b):geI a b=false:=decide_eq_false (by omega)
theorem eq_t {a b:Int} (h:a=b):eqI a b=true:=decide_eq_true h
theorem eq_f {a b:Int} (h:a≠b):eqI a b=false:=decide_eq_false h
def SM (m:List Int):Prop:=m.Pairwise (·<·)∧∀ x∈m,0≤x∧x≤16384
theorem SM.nil:SM []:=⟨List.Pairwise.nil,fun x hx=>by simp at hx⟩
theorem Ey {m:List Int} {x:Int} (hm:SM m) (hl:m.length≤1000000):Rn (BX big m x) fun m'=>SM m'∧(∀ y,y∈m'↔y∈m∨(y=x∧0≤x∧x≤16384))∧m'.length≤m.length+1:=by
 unfold BX;refine Rn.lt ?_;refine Rn.bn (P:=fun a=>∃ k:Nat,a=(k:Int)∧k≤m.length∧(∀ y∈m.take k,y<x)∧(∀ y∈m.drop k,x≤y)) (zG _ (fun j a=>∃ k:Nat,a=(k:Int)∧k+j=m.length∧∀ y∈m.drop k,x≤y) m.length (by unfold big;omega) ⟨m.length,rfl,rfl,by simp⟩ fun j a hj hI=>?_) fun a ha=>?_
 ·obtain⟨k,rfl,hk,hd⟩:=hI;cases k with
  |zero=>exact zC (v:=false) rfl (Rn.lt (zB (fun h=>absurd h (by decide)) fun _=>Rn.some ⟨0,rfl,by omega,by simp,by simpa using hd⟩))
  |succ k =>
   have hkl:k<m.length:=by omega
   have e1:subI .i64 ((k+1:Nat):Int) 1=(k:Int):=by rw[Aq (by omega) (by omega)];omega
   refine zC (v:=geI m[k] x) ?_ (Rn.lt (zB (fun h=>?_) fun h=>?_))
   ·rw[gt_t (show (0:Int)<((k+1:Nat):Int) by omega)];simp only[Ay,AS];rw[e1,AM hkl];rfl
   ·refine Rn.lt (Rn.some ⟨by omega,k,e1,by omega,fun y hy=>?_⟩);rw[List.drop_eq_getElem_cons hkl] at hy;rcases List.mem_cons.1 hy with rfl|hy
    ·exact of_decide_eq_true h
    ·exact hd y hy
   ·refine Rn.some ⟨k+1,rfl,by omega,fun y hy=>?_,hd⟩;have h1:m[k]<x:=by
     have:=of_decide_eq_false (p:=x≤m[k]) h;omega
    obtain⟨i,hi,rfl⟩:=List.mem_take_iff_getElem.1 hy;rcases Decidable.em (i=k) with rfl|hne
    ·exact h1
    ·have:=List.pairwise_iff_getElem.1 hm.1 i k (by omega) hkl (by omega);omega
 obtain⟨k,rfl,hk,ht,hd⟩:=ha;have hsame:∀ (h:x<0∨16384<x∨x∈m),SM m∧(∀ y,y∈m↔y∈m∨(y=x∧0≤x∧x≤16384))∧m.length≤m.length+1:=by
  intro h;refine⟨hm,fun y=>⟨.inl,fun h2=>?_⟩,by omega⟩;rcases h2 with h2|⟨rfl,h2,h3⟩
  ·exact h2
  ·rcases h with h|h|h
   ·omega
   ·omega
   ·exact h
 refine Rn.bn (P:=fun b=>(b=true→x<0∨16384<x∨x∈m)∧(b=false→(0≤x∧x≤16384)∧x ∉ m)) ?_ fun b hb=>Rn.lt (zB (fun h=>Rn.some (hsame (hb.1 h))) fun h=>?_)
 ·refine Rn.lt (zB (fun h=>Rn.some ⟨fun _=>.inl (of_decide_eq_true h),by simp⟩) fun h=>Rn.lt (zB (fun h2=>Rn.some ⟨fun _=>.inr (.inl (of_decide_eq_true h2)),by simp⟩) fun h2=>Rn.lt (Rn.lt ?_)));have x1:0≤x:=by
   have:=of_decide_eq_false (p:=x<0) h;omega
  have x2:x≤16384:=by
   have:=of_decide_eq_false (p:=16384<x) h2;omega
  rcases Decidable.em (k<m.length) with hkl|hkl
  ·rw[BB,lt_t (by omega)];refine zB (fun _=>zC (AM hkl) (Rn.lt (Rn.some ⟨fun h3=>.inr (.inr ?_),fun h3=>⟨⟨x1,x2⟩,fun hmem=>?_⟩⟩))) (fun h=>by simp at h)
   ·have:m[k]=x:=of_decide_eq_true h3;rw[← this];exact List.getElem_mem hkl
   ·have hne:m[k]≠x:=of_decide_eq_false h3;rw[← List.take_append_drop k m] at hmem;rcases List.mem_append.1 hmem with h4|h4
    ·have:=ht x h4;omega
    ·rw[List.drop_eq_getElem_cons hkl] at h4;rcases List.mem_cons.1 h4 with h5|h5
     ·exact hne h5.symm
     ·have h6:=hd m[k] (by rw[List.drop_eq_getElem_cons hkl];exact List.mem_cons_self);have h7:(m.drop k).Pairwise (·<·):=hm.1.sublist (List.drop_sublist _ _);rw[List.drop_eq_getElem_cons hkl] at h7;have h8:=List.rel_of_pairwise_cons h7 h5;have h9:x≤m[k]:=h6;have h10:m[k]<x:=h8;omega
  ·rw[BB,lt_f (by omega)];refine zB (fun h=>by simp at h) fun _=>Rn.some ⟨by simp,fun _=>⟨⟨x1,x2⟩,fun hmem=>?_⟩⟩;rw[List.take_of_length_le (by omega)] at ht;have:=ht x hmem;omega
 ·obtain⟨⟨x1,x2⟩,hn⟩:=hb.2 h;rw[HW hk];refine zC rfl ?_;have lt1:(m.take k).length≤1000000:=by rw[List.length_take];omega
  refine Rn.chk (by simp[room];omega) (Rn.chk (by simp[room];omega) (Rn.lt ?_));rw[HV hk];refine zC rfl (Rn.chk (by simp[room];omega) (Rn.lt (Rn.chk (by simp[room];omega) (Rn.some ⟨⟨?_,?_⟩,?_,?_⟩))))
  ·rw[List.append_assoc,List.pairwise_append];refine⟨hm.1.sublist (List.take_sublist _ _),?_,?_⟩
   ·rw[List.singleton_append,List.pairwise_cons];refine⟨fun y hy=>?_,hm.1.sublist (List.drop_sublist _ _)⟩;have h1:=hd y hy;have h2:y≠x:=fun e=>hn (e ▸ List.mem_of_mem_drop hy);omega
   ·intro a ha b hb;have h1:=ht a ha;rcases List.mem_append.1 hb with hb|hb
    ·simp at hb;omega
    ·have:=hd b hb;omega
  ·intro y hy;rcases List.mem_append.1 hy with hy|hy
   ·rcases List.mem_append.1 hy with hy|hy
    ·exact hm.2 y (List.mem_of_mem_take hy)
    ·simp at hy;omega
   ·exact hm.2 y (List.mem_of_mem_drop hy)
  ·intro y;rw[List.append_assoc,List.mem_append,List.mem_append,List.mem_singleton];constructor
   ·rintro (hy|hy|hy)
    ·exact .inl (List.mem_of_mem_take hy)
    ·exact .inr ⟨hy,x1,x2⟩
    ·exact .inl (List.mem_of_mem_drop hy)
   ·rintro (hy|⟨hy,_⟩)
    ·rw[← List.take_append_drop k m] at hy;rcases List.mem_append.1 hy with hy|hy
     ·exact .inl hy
     ·exact .inr (.inr hy)
    ·exact .inr (.inl hy)
  ·simp;omega
def cP (c:Claim):Int×Int×(Int×Int):=(c.frm,c.to,(c.node,c.epoch))
def fC (l:List Claim) (s:Int):Option (Int×Int):=fnP (l.map cP) s
def inB (x:Int):Prop:=-1000000≤x∧x≤1000000
theorem JU {m:List Int} {l:List Claim} (hm:SM m) (hl:m.length+2*l.length≤1000000) (hb:∀ c∈l,inB c.frm∧inB c.to) :
  Rn (ED big m l) fun m'=>SM m'∧(∀ y,y∈m'↔y∈m∨((∃ c∈l,y=c.frm∨y=c.to+1)∧0≤y∧y≤16384))∧m'.length≤m.length+2*l.length:=by
 unfold ED;refine Rn.bn (P:=fun m'=>SM m'∧(∀ y,y∈m'↔y∈m∨((∃ c∈l,y=c.frm∨y=c.to+1)∧0≤y∧y≤16384))∧m'.length≤m.length+2*l.length) (zG _ (fun j a=>∃ m',a=(m',(j:Int))∧SM m'∧(∀ y,y∈m'↔y∈m∨((∃ c∈l.take j,y=c.frm∨y=c.to+1)∧0≤y∧y≤16384))∧m'.length≤m.length+2*j) l.length (by unfold big;omega) ⟨m,rfl,hm,by simp,by omega⟩ fun j a hj hI=>?_) fun m' h=>Rn.some h;obtain⟨m1,rfl,s1,s2,s3⟩:=hI;refine Rn.lt (Rn.lt (zB (fun hd=>?_) fun hd=>?_))
 ·have hjl:j<l.length:=by
   have:=of_decide_eq_true (p:=((j:Int)<(l.length:Int))) hd;omega
  refine zC (AM hjl) ?_;obtain⟨b1,b2⟩:=hb _ (List.getElem_mem hjl);unfold inB at b1 b2;refine Rn.bn (Ey s1 (by simp only;omega)) fun m2 h2=>?_;obtain⟨t1,t2,t3⟩:=h2;refine Rn.lt ?_;rw[An (by omega) (by omega)];refine Rn.bn (Ey t1 (by simp only at t3;omega)) fun m3 h3=>?_;obtain⟨u1,u2,u3⟩:=h3;refine Rn.lt (Rn.some ⟨hjl,m3,?_,u1,fun y=>?_,?_⟩)
  ·simp only[];rw[An (by omega) (by omega)];rfl
  ·rw[u2,t2,s2,← List.take_append_getElem hjl];simp only[List.mem_append,List.mem_singleton];constructor
   ·rintro ((( h|⟨⟨c,hc,h⟩,h'⟩)|⟨rfl,h,h'⟩)|⟨rfl,h,h'⟩)
    ·exact .inl h
    ·exact .inr ⟨⟨c,.inl hc,h⟩,h'⟩
    ·exact .inr ⟨⟨_,.inr rfl,.inl rfl⟩,h,h'⟩
    ·exact .inr ⟨⟨_,.inr rfl,.inr rfl⟩,h,h'⟩
   ·rintro (h|⟨⟨c,hc|rfl,h⟩,h'⟩)
    ·exact .inl (.inl (.inl h))
    ·exact .inl (.inl (.inr ⟨⟨c,hc,h⟩,h'⟩))
    ·rcases h with rfl|rfl
     ·exact .inl (.inr ⟨rfl,h'⟩)
     ·exact .inr ⟨rfl,h'⟩
  ·simp only at t3 u3;omega
 ·have hjl:j=l.length:=by
   have:=of_decide_eq_false (p:=((j:Int)<(l.length:Int))) hd;omega
  subst hjl;rw[List.take_length] at s2;exact Rn.some ⟨s1,s2,s3⟩
theorem Of_ok (l:List Claim) (s:Int) (hl:l.length≤1000000):Fs big l s=some ((fC l s).getD (-1,0)):=by
 refine Rn.eqv ?_;unfold Fs;refine Rn.bn (P:=fun y=>y=match fC l s with|some v=>.inr v|none=>.inl ()) (zG _ (fun j a=>a=(j:Int)∧fC l s=fC (l.drop j) s) l.length (by unfold big;omega) ⟨rfl,by simp⟩ fun j a hj hI=>?_) fun y hy=>?_
 ·obtain⟨rfl,hI⟩:=hI;refine Rn.lt (Rn.lt (zB (fun hd=>?_) fun hd=>?_))
  ·have hjl:j<l.length:=by
    have:=of_decide_eq_true (p:=((j:Int)<(l.length:Int))) hd;omega
   have hnth:=AM hjl;rw[List.drop_eq_getElem_cons hjl] at hI;generalize l[j]=c at hI hnth;rcases Decidable.em (c.frm≤s∧s≤c.to) with hc|hc
   ·refine zC (v:=true) ?_ (Rn.lt (zB (fun _=>zC hnth (Rn.some ?_)) (fun h=>by simp at h)))
    ·rw[hnth];simp only[Ar,Ay];rw[le_t hc.1,AS,le_t hc.2]
    ·rw[hI,show fC (c::List.drop (j+1) l) s=some (c.node,c.epoch) from Bx (p:=cP c) hc.1 hc.2]
   ·refine zC (v:=false) ?_ (Rn.lt (zB (fun h=>by simp at h) fun _=>Rn.lt (Rn.some ⟨hjl,?_,?_⟩)))
    ·rw[hnth];simp only[Ar,Ay];rcases Decidable.em (c.frm≤s) with h1|h1
     ·rw[le_t h1,AS,le_f (by omega)]
     ·rw[le_f (by omega),A6]
    ·rw[An (by omega) (by omega)];rfl
    ·rw[hI];exact BM (p:=cP c) hc
  ·have hjl:j=l.length:=by
    have:=of_decide_eq_false (p:=((j:Int)<(l.length:Int))) hd;omega
   subst hjl;rw[List.drop_length] at hI;refine Rn.some ?_;rw[hI];rfl
 ·subst hy;cases fC l s with
  |some v=>exact Rn.some rfl
  |none=>exact Rn.some rfl
theorem KH {l:List Claim} {c:Claim} (hl:l.length≤1000000) (hb:∀ x∈l,inB x.to) (hc:inB c.frm):Rn (Dh big l c) fun m=>m.map cP=putP (l.map cP) (cP c)∧m.length≤l.length+1:=by
 unfold Dh;refine Rn.lt (Rn.lt ?_);rw[BB,Aq (by omega) (by omega)];unfold inB at hc;rcases Decidable.em (l=[]) with rfl|hne
 ·refine zC (v:=false) rfl (Rn.lt (zB (fun h=>by simp at h) fun _=>Rn.chk rfl (Rn.lt (Rn.some ⟨rfl,by simp⟩))))
 ·obtain⟨k,x,rfl⟩:∃ k x,l=k++[x]:=⟨l.dropLast,l.getLast hne,(List.dropLast_concat_getLast hne).symm⟩;have hx:=hb x (by simp);unfold inB at hx;have e1:(((k++[x]).length:Nat):Int) - 1=((k.length:Nat):Int):=by simp
  have hk:k.length<(k++[x]).length:=by simp
  have hn:nth (k++[x]) ((k.length:Nat):Int)=some x:=by rw[AM hk];simp
  rw[e1];have hm:putP ((k++[x]).map cP) (cP c)=if x.to+1=c.frm∧(x.node,x.epoch)=(c.node,c.epoch) then k.map cP++[(x.frm,c.to,(x.node,x.epoch))] else (k++[x]).map cP++[cP c]:=by
   unfold putP;rw[List.map_append,show [x].map cP=[cP x] from rfl,List.getLast?_concat];simp only[List.dropLast_concat];rfl
  rw[hm];rcases Decidable.em (x.to+1=c.frm∧(x.node,x.epoch)=(c.node,c.epoch)) with hq|hq
  ·rw[if_pos hq];obtain⟨q1,q2⟩:=hq;have q3:x.node=c.node:=congrArg Prod.fst q2;have q4:x.epoch=c.epoch:=congrArg Prod.snd q2;refine zC (v:=true) ?_ (Rn.lt (zB (fun _=>zC hn (Rn.lt (Rn.some ⟨?_,?_⟩))) (fun h=>by simp at h)))
   ·rw[ge_t (by omega)];simp only[Ay,AS];rw[hn];simp only[Ar];rw[Aq (by omega) (by omega),eq_t (by omega),AS,eq_t q3,AS,eq_t q4]
   ·rw[Int.toNat_natCast,List.set_append_right _ _ (by omega),Nat.sub_self];simp[cP]
   ·simp
  ·rw[if_neg hq];refine zC (v:=false) ?_ (Rn.lt (zB (fun h=>by simp at h) fun _=>Rn.chk (by simp[room];simp at hl;omega) (Rn.lt (Rn.some ⟨by simp,by simp⟩))));rw[ge_t (by omega)];simp only[Ay,AS];rw[hn];simp only[Ar];rw[Aq (by omega) (by omega)];rcases Decidable.em (x.to=c.frm - 1) with h1|h1
   ·rw[eq_t h1,AS];rcases Decidable.em (x.node=c.node) with h2|h2
    ·rw[eq_t h2,AS];have h3:x.epoch≠c.epoch:=fun e=>hq ⟨by omega,by rw[h2,e]⟩;rw[eq_f h3]
    ·rw[eq_f h2,A6]
   ·rw[eq_f h1,A6]
end Go.Proofs.Ytenemndpignaoaa
namespace Go.Proofs.Ytenemndpignaoaa
open Go Go.RowKit
section
variable {β:Type}
def FinP (out:List (Int×Int×β)) (f:Int→Option β):Prop:=canP out∧∀ s,fnP out s=f s
theorem FinP.ext {l m:List (Int×Int×β)} {f g:Int→Option β} (hl:FinP l f) (hm:FinP m g) (h:∀ s,f s=g s):l=m:=E2 hl.1 hm.1 fun s=>by rw[hl.2,hm.2,h]
def Stp (m:List Int) (f:Int→Option β):Prop:=(∀ s,s+1 ∉ m→f (s+1)=f s)∧∀ s,s<0∨16384≤s→f s=none
theorem Stp.const {m:List Int} {f:Int→Option β} (h:Stp m f) {a s:Int} (h1:a≤s) (h2:∀ x∈m,¬ (a<x∧x≤s)):f s=f a:=by
 obtain⟨n,hn⟩:=Int.eq_ofNat_of_zero_le (show 0≤s - a by omega);have key:∀ k:Nat,k≤n→f (a+k)=f a:=by
  intro k;induction k with
  |zero=>intro _;simp
  |succ k ih =>
   intro hk;have e:a+((k+1:Nat):Int)=(a+k)+1:=by omega
   rw[e,h.1 (a+k) (fun hmem=>h2 _ hmem (by omega)),ih (by omega)]
 have:=key n (Nat.le_refl _);rwa [← hn,show a+(s - a)=s by omega] at this
theorem Stp.first {m:List Int} {f:Int→Option β} (h:Stp m f) (hm:SM m) (hl:0<m.length):BdP m[0] [] f:=by
 refine BdP.nil fun s hs=>?_;rcases Decidable.em (s<0) with h0|h0
 ·exact h.2 s (.inl h0)
 ·rw[h.const (a:=-1) (by omega) fun x hx hc=>?_]
  ·exact h.2 _ (.inl (by omega))
  ·obtain⟨i,hi,rfl⟩:=List.mem_iff_getElem.1 hx;rcases Nat.eq_zero_or_pos i with rfl|hp
   ·omega
   ·have:=List.pairwise_iff_getElem.1 hm.1 0 i hl hi hp;omega
theorem Stp.next [DecidableEq β] {m:List Int} {f:Int→Option β} (h:Stp m f) (hm:SM m) {j:Nat} (hj:j+1<m.length) {out:List (Int×Int×β)} (hb:BdP m[j] out f) :
  (f m[j]=none→BdP m[j+1] out f)∧∀ v,f m[j]=some v→BdP m[j+1] (putP out (m[j],m[j+1] - 1,v)) f:=by
 have hlt:=List.pairwise_iff_getElem.1 hm.1 j (j+1) (by omega) hj (by omega);have hc:∀ s,m[j]≤s→s<m[j+1]→f s=f m[j]:=by
  intro s h1 h2;refine h.const h1 fun x hx hc=>?_;obtain⟨i,hi,rfl⟩:=List.mem_iff_getElem.1 hx;rcases Nat.lt_trichotomy i j with h3|rfl|h3
  ·have:=List.pairwise_iff_getElem.1 hm.1 i j hi (by omega) h3;omega
  ·omega
  ·rcases Nat.eq_or_lt_of_le h3 with h4|h4
   ·subst h4;have h5:m[j.succ]=m[j+1]:=rfl;omega
   ·have:=List.pairwise_iff_getElem.1 hm.1 (j+1) i hj hi h4;omega
 refine⟨fun hn=>hb.skip (by omega) fun s h1 h2=>by rw[hc s h1 h2,hn],fun v hv=>?_⟩;have:=hb.put (b:=m[j+1] - 1) (v:=v) (by omega) fun s h1 h2=>by rw[hc s h1 (by omega),hv]
 rwa [show m[j+1] - 1+1=m[j+1] by omega] at this
theorem Stp.last {m:List Int} {f:Int→Option β} (h:Stp m f) (hm:SM m) {j:Nat} (hj:j<m.length) (hl:m.length≤j+1) {out:List (Int×Int×β)} (hb:BdP m[j] out f):FinP out f:=by
 refine⟨hb.can,fun s=>?_⟩;rcases Decidable.em (s<m[j]) with h1|h1
 ·exact hb.fn s h1
 ·have e:f s=none:=by
   rcases Decidable.em (16384≤s) with h2|h2
   ·exact h.2 s (.inr h2)
   ·have:=h.const (a:=s) (s:=16384) (by omega) fun x hx hc=>by
     obtain⟨i,hi,rfl⟩:=List.mem_iff_getElem.1 hx;rcases Nat.eq_or_lt_of_le (show i≤j by omega) with h3|h3
     ·subst h3;omega
     ·have:=List.pairwise_iff_getElem.1 hm.1 i j hi hj h3;omega
    rw[← this];exact h.2 _ (.inr (Int.le_refl _))
  rw[e];exact Dd fun p hp hc=>by have:=hb.pos p hp;omega
theorem Stp.none {f:Int→Option β} (h:Stp [] f):FinP ([]:List (Int×Int×β)) f:=by
 refine⟨trivial,fun s=>?_⟩;rcases Decidable.em (s<0) with h0|h0
 ·rw[h.2 s (.inl h0)];rfl
 ·rw[h.const (a:=-1) (by omega) (fun x hx=>by simp at hx),h.2 _ (.inl (by omega))];rfl
end
def sP (x:Span):Int×Int×Unit:=(x.frm,x.to,())
def inS (l:List Span) (s:Int):Prop:=(0≤s∧s<16384)∧∃ x∈l,x.frm≤s∧s≤x.to
instance (l:List Span) (s:Int):Decidable (inS l s):=by unfold inS;infer_instance
def fS (p:Int→Prop) [DecidablePred p] (s:Int):Option Unit:=if p s then some () else none
theorem HX (l:List Span) (s:Int) (hl:l.length≤1000000):C9 big l s=some (decide (inS l s)):=by
 refine Rn.eqv ?_;unfold C9;refine Rn.bn (P:=fun y=>y=if inS l s then .inr true else .inl ()) (zG _ (fun j a=>a=(j:Int)∧(inS l s↔inS (l.drop j) s)) l.length (by unfold big;omega) ⟨rfl,by simp⟩ fun j a hj hI=>?_) fun y hy=>?_
 ·obtain⟨rfl,hI⟩:=hI;refine Rn.lt (Rn.lt (zB (fun hd=>?_) fun hd=>?_))
  ·have hjl:j<l.length:=by
    have:=of_decide_eq_true (p:=((j:Int)<(l.length:Int))) hd;omega
   have hnth:=AM hjl;rw[List.drop_eq_getElem_cons hjl] at hI;generalize l[j]=c at hI hnth;rcases Decidable.em ((0≤s∧s<16384)∧c.frm≤s∧s≤c.to) with hc|hc
   ·obtain⟨⟨h1,h2⟩,h3,h4⟩:=hc;refine zC (v:=true) ?_ (Rn.lt (zB (fun _=>Rn.some ?_) (fun h=>by simp at h)))
    ·rw[ge_t h1];simp only[Ay,AS];rw[lt_t h2,AS,hnth];simp only[Ar];rw[le_t h3,AS,le_t h4]
    ·rw[if_pos (hI.2 ⟨⟨h1,h2⟩,c,by simp,h3,h4⟩)]
   ·refine zC (v:=false) ?_ (Rn.lt (zB (fun h=>by simp at h) fun _=>Rn.lt (Rn.some ⟨hjl,?_,?_⟩)))
    ·rcases Decidable.em (0≤s) with h1|h1
     ·rw[ge_t h1];simp only[Ay,AS];rcases Decidable.em (s<16384) with h2|h2
      ·rw[lt_t h2,AS,hnth];simp only[Ar];rcases Decidable.em (c.frm≤s) with h3|h3
       ·rw[le_t h3,AS,le_f (by omega)]
       ·rw[le_f (by omega),A6]
      ·rw[lt_f (by omega),A6]
     ·rw[ge_f (by omega)];simp only[Ay,A6]
    ·rw[An (by omega) (by omega)];rfl
    ·rw[hI];unfold inS;constructor
     ·rintro⟨h1,x,hx,h2⟩;rcases List.mem_cons.1 hx with rfl|hx
      ·exact absurd ⟨h1,h2⟩ hc
      ·exact⟨h1,x,hx,h2⟩
     ·rintro⟨h1,x,hx,h2⟩;exact⟨h1,x,by simp[hx],h2⟩
  ·have hjl:j=l.length:=by
    have:=of_decide_eq_false (p:=((j:Int)<(l.length:Int))) hd;omega
   subst hjl;rw[List.drop_length] at hI;refine Rn.some ?_;rw[if_neg (by rw[hI];unfold inS;simp)]
 ·subst hy;split
  ·rename_i h
   exact Rn.some (by simp[h])
  ·rename_i h
   exact Rn.some (by simp[h])
theorem Stp.inS {m:List Int} {l:List Span} (h0:(0:Int)∈m) (h1:(16384:Int)∈m) (h:∀ x∈l,x.frm≤x.to→(0≤x.frm∧x.frm≤16384→x.frm∈m)∧(x.to<16384→0≤x.to+1→x.to+1∈m)):∀ s,s+1 ∉ m→(Go.Proofs.Ytenemndpignaoaa.inS l (s+1)↔Go.Proofs.Ytenemndpignaoaa.inS l s):=by
 intro s hs;have n0:s+1≠0:=fun e=>hs (e ▸ h0);have n1:s+1≠16384:=fun e=>hs (e ▸ h1);unfold Go.Proofs.Ytenemndpignaoaa.inS;constructor
 ·rintro⟨a,x,hx,b,c⟩;refine⟨by omega,x,hx,?_,by omega⟩;rcases Decidable.em (x.frm≤s) with h2|h2
  ·exact h2
  ·exfalso
   have e:x.frm=s+1:=by omega
   have:=(h x hx (by omega)).1 (by omega);rw[e] at this;exact hs this
 ·rintro⟨a,x,hx,b,c⟩;refine⟨by omega,x,hx,by omega,?_⟩;rcases Decidable.em (s+1≤x.to) with h2|h2
  ·exact h2
  ·exfalso
   have e:x.to=s:=by omega
   have:=(h x hx (by omega)).2 (by omega) (by omega);rw[e] at this;exact hs this
end Go.Proofs.Ytenemndpignaoaa
