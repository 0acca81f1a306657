/- Part 7 of the proof. -/
import Derived.Test.YthjenkmbbnjcnaaPe6
import Derived.Test.YthjenkmbbnjcnaaRows
import Derived.ProofKit
set_option linter.unusedVariables false
set_option linter.unusedSimpArgs false
set_option linter.constructorNameAsVariable false
set_option maxRecDepth 8000
set_option maxHeartbeats 8000000
namespace Go.Proofs.Ythjenkmbbnjcnaa
open Go Go.RowKit
def Cl (n:Nat) (a0:List Span):Option Bool :=
bn (iter n (fun (y1:Int) =>
lt (lenI a0) fun v4 =>
lt (ltI y1 v4) fun v5 =>
ite' v5 (bn (bn (nth a0 y1) fun v7 =>
lt (ltI v7.frm 0) fun v8 =>
ite' v8 (some (true)) (lt (ltI v7.to v7.frm) fun v9 =>
ite' v9 (some (true)) (lt (geI v7.to 16384) fun v10 =>
ite' v10 (some (true)) (lt (gtI y1 0) fun v11 =>
ite' v11 (lt (subI .i64 y1 1) fun v12 =>
bn (nth a0 v12) fun v13 =>
lt (addI .i64 v13.to 1) fun v14 =>
lt (leI v7.frm v14) fun v15 =>
some (v15)) (some (false)))))) fun (y6:Bool) =>
lt (y6) fun v16 =>
ite' v16 (some (.inr (.inr false))) (lt (addI .i64 y1 1) fun v17 =>
some (.inl v17))) (some (.inr (.inl ())))) 0) fun (y2:Unit ⊕ Bool) =>
sm y2 (fun y18=>some true) (fun y19=>some y19)
def DX5t1:List DI:=[⟨[0],[],[(0,none)],false⟩,⟨[0],[],[(3,none)],false⟩,⟨[0],[0,1],[(10,some 0),(11,some 1)],false⟩,⟨[0],[0,1,2],[(12,some 2)],false⟩,⟨[0],[0,1,2,3],[(13,some 3)],false⟩,⟨[0],[0,1,2,3,4],[(14,some 4)],false⟩,⟨[0],[0,1,2,3,4,5],[(15,some 5)],false⟩,⟨[0],[0,1,2,3,4,5,6],[(0,none),(16,some 6)],false⟩,⟨[0],[0,1,2,3,4,5,6],[(3,none),(16,some 6)],false⟩,⟨[0],[0,1,2,3,4,5,6,7,8],[(16,some 6),(17,some 7),(18,some 8)],false⟩,⟨[0],[0,1,2,3,4,5,6,7,8,9],[(16,some 6),(19,some 9)],false⟩,⟨[0],[0,1,2,3,4,5,6,7,8,9,10],[(16,some 6),(20,some 10)],false⟩,⟨[0],[0,1,2,3,4,5,6],[(0,none),(16,some 6)],false⟩,⟨[0],[0,1,2,3,4,5,6],[(3,none),(16,some 6)],false⟩,⟨[0],[0,1,2,3,4,5,6,12,13],[(16,some 6),(22,some 12),(23,some 13)],false⟩,⟨[0],[0,1,2,3,4,5,6,12,13,14],[(16,some 6),(24,some 14)],false⟩,⟨[0],[0,1,2,3,4,5,6,12,13,14,15],[(16,some 6),(25,some 15)],false⟩,⟨[0],[0,1,2,3,4,5,6,7,8,9,10,11,12,13,14,15,16],[(16,some 6),(21,some 11),(26,some 16)],false⟩,⟨[0],[0,1,2,3,4,5,6,7,8,9,10,11,12,13,14,15,16,17],[(16,some 6),(27,some 17)],false⟩,⟨[0],[0,1,2,3,4,5,6,7,8,9,10,11,12,13,14,15,16,17,18],[(28,some 18)],false⟩,⟨[0],[0,1,2,3,4,5,6,7,8,9,10,11,12,13,14,15,16,17,18,19],[(0,none),(29,some 19)],false⟩,⟨[0],[0,1,2,3,4,5,6,7,8,9,10,11,12,13,14,15,16,17,18,19],[(3,none),(29,some 19)],false⟩,⟨[0],[0,1,2,3,4,5,6,7,8,9,10,11,12,13,14,15,16,17,18,19,20,21],[(29,some 19),(30,some 20),(31,some 21)],false⟩,⟨[0],[0,1,2,3,4,5,6,7,8,9,10,11,12,13,14,15,16,17,18,19,20,21,22],[(29,some 19),(32,some 22)],false⟩,⟨[0],[0,1,2,3,4,5,6,7,8,9,10,11,12,13,14,15,16,17,18,19,20,21,22,23],[(29,some 19),(33,some 23)],false⟩,⟨[0],[0,1,2,3,4,5,6,7,8,9,10,11,12,13,14,15,16,17,18,19,20,21,22,23,24],[(29,some 19),(34,some 24)],false⟩,⟨[0],[0,1,2,3,4,5,6,7,8,9,10,11,12,13,14,15,16,17,18,19,20,21,22,23,24,25],[(29,some 19),(35,some 25)],false⟩,⟨[0],[0,1,2,3,4,5,6,7,8,9,10,11,12,13,14,15,16,17,18,19,20,21,22,23,24,25,26],[(36,some 26)],false⟩,⟨[0],[0,1,2,3,4,5,6,7,8,9,10,11,12,13,14,15,16,17,18,19,20,21,22,23,24,25,26,27],[(3,none),(37,some 27)],false⟩,⟨[0],[0,1,2,3,4,5,6,7,8,9,10,11,12,13,14,15,16,17,18,19,20,21,22,23,24,25,26,27,28],[(37,some 27),(38,some 28)],false⟩,⟨[0],[0,1,2,3,4,5,6,7,8,9,10,11,12,13,14,15,16,17,18,19,20,21,22,23,24,25,26,27,28,29],[(37,some 27),(39,some 29)],false⟩,⟨[0],[0,1,2,3,4,5,6,7,8,9,10,11,12,13,14,15,16,17,18,19,20,21,22,23,24,25,26,27,28,29,30],[(0,none),(40,some 30)],false⟩,⟨[0],[0,1,2,3,4,5,6,7,8,9,10,11,12,13,14,15,16,17,18,19,20,21,22,23,24,25,26,27,28,29,30],[(3,none),(40,some 30)],false⟩,⟨[0],[0,1,2,3,4,5,6,7,8,9,10,11,12,13,14,15,16,17,18,19,20,21,22,23,24,25,26,27,28,29,30,31,32],[(40,some 30),(41,some 31),(42,some 32)],false⟩,⟨[0],[0,1,2,3,4,5,6,7,8,9,10,11,12,13,14,15,16,17,18,19,20,21,22,23,24,25,26,27,28,29,30,31,32,33],[(40,some 30),(43,some 33)],false⟩,⟨[0],[0,1,2,3,4,5,6,7,8,9,10,11,12,13,14,15,16,17,18,19,20,21,22,23,24,25,26,27,28,29,30,31,32,33,34],[(40,some 30),(44,some 34)],false⟩,⟨[0],[0,1,2,3,4,5,6,7,8,9,10,11,12,13,14,15,16,17,18,19,20,21,22,23,24,25,26,27,28,29,30],[(0,none),(40,some 30)],false⟩,⟨[0],[0,1,2,3,4,5,6,7,8,9,10,11,12,13,14,15,16,17,18,19,20,21,22,23,24,25,26,27,28,29,30],[(3,none),(40,some 30)],false⟩,⟨[0],[0,1,2,3,4,5,6,7,8,9,10,11,12,13,14,15,16,17,18,19,20,21,22,23,24,25,26,27,28,29,30,37],[(40,some 30),(47,some 37)],false⟩,⟨[0],[0,1,2,3,4,5,6,7,8,9,10,11,12,13,14,15,16,17,18,19,20,21,22,23,24,25,26,27,28,29,30,36,37,38],[(40,some 30),(46,some 36),(48,some 38)],false⟩,⟨[0],[0,1,2,3,4,5,6,7,8,9,10,11,12,13,14,15,16,17,18,19,20,21,22,23,24,25,26,27,28,29,30,36,37,38,39],[(40,some 30),(49,some 39)],false⟩,⟨[0],[0,1,2,3,4,5,6,7,8,9,10,11,12,13,14,15,16,17,18,19,20,21,22,23,24,25,26,27,28,29,30,36,37,38,39,40],[(40,some 30),(50,some 40)],false⟩,⟨[0],[0,1,2,3,4,5,6,7,8,9,10,11,12,13,14,15,16,17,18,19,20,21,22,23,24,25,26,27,28,29,30,36,37,38,39,40,41],[(40,some 30),(51,some 41)],false⟩,⟨[],[0,1,2,3,4,5,6,7,8,9,10,11,12,13,14,15,16,17,18,19,20,21,22,23,24,25,26,27,28,29,30,31,32,33,34,35,36,37,38,39,40,41,42],[],false⟩,⟨[],[0,1,2,3,4,5,6,7,8,9,10,11,12,13,14,15,16,17,18,19,20,21,22,23,24,25,26,27,28,29,30,31,32,33,34,35,36,37,38,39,40,41,42,43],[],false⟩,⟨[],[0,1,2,3,4,5,6,7,8,9,10,11,12,13,14,15,16,17,18,19,20,21,22,23,24,25,26,27,28,29,30,31,32,33,34,35,36,37,38,39,40,41,42,43,44],[],false⟩]
theorem GC {n:Nat} {a0:List Span} {r:Bool} (h:Cl n a0=some r):Sound Try.prog 25 [.l (.d false 2 (encSpan a0))] [] (.l (.s (.bool r))) []:=by
 unfold Cl at h
 refine Sound.of_aw (fn:=Try.f25) (c:=_) Try.func25 rfl (by simp[Try.f25]) fun cx hG hnb=>?_
 rw[show Try.f25.ntmps=56 from rfl]
 have hn0:cx.nb=0:=hnb
 simp only[At,initTm,List.map_cons,List.map_nil]
 apply AW.step
 ·simp
  intros;rfl
 refine AW.seq ?_
 apply AW.step
 ·simp
  intros;rfl
 refine AW.block ?_
 replace h:=bnE h;obtain⟨y2,g2,h⟩:=h
 refine AW.iterP g2 (mk:=fun gh ls q=>(⟨[(0,.l (.d false 2 (encSpan a0))),(3,.l (.s (.int .i64 q)))],[],56,gh,ls⟩:St)) (N:=fun gh ls=>(sp (xP 0 (cx:=cx) (fun _=>(⟨[],[],56,gh,ls⟩:St))) (rP (cx:=cx) (P:=Try.prog) Try.f25 (fun q=>.l (.s (.bool q))) (fun q=>[])))) ?_ (noS noX noR) ?_ ?_
 ·refine Weak.mixN [] hn0 (by decide) ?_ ?_ rfl
  all_goals first|(simp[Ab,Ac,pickOb];done)|rfl
 ·clear h;intro y1 y3 h
  refine AW.seq ?_
  replace h:=ltE h;obtain⟨v4,e4,h⟩:=h
  replace h:=ltE h;obtain⟨v5,e5,h⟩:=h
  apply AW.step
  ·simp[Al e4,← e5]
   intros;rfl
  cases v5 with
  |true =>
   replace h:=iteT rfl h
   refine AW.cond_true (by simp) ?_
   refine AW.skip ?_
   try simp only[nm]
   refine AW.seq ?_
   refine AW.block ?_
   replace h:=bnE h;obtain⟨y6,g6,h⟩:=h
   refine AW.flow (p:=fun gh ls=>(nP (cx:=cx) (fun q=>(⟨[(0,.l (.d false 2 (encSpan a0))),(3,.l (.s (.int .i64 y1))),(55,.l (.s (.bool q)))],[],56,gh,ls⟩:St))) y6) ?_ ?_
   ·replace h:=g6;clear g6
    replace h:=bnE h;obtain⟨v7,e7,h⟩:=h
    replace h:=ltE h;obtain⟨v8,e8,h⟩:=h
    cases v8 with
    |true =>
     replace h:=iteT rfl h
     apply AW.drawnR (V:=[_,_,_,_,_,_,_,_,_,_,_,_,_,_,_,_,_,_,_,_,_,_,_,_,_,_,_,_,_,_,_,_,_,_,_,_,_,_,_,_,_,_,_]) mixed DX5t1 43 (by kernel_rfl) (by kernel_rfl)
     ·refine⟨?_,?_,?_,?_,?_,?_,?_,?_,?_,?_,?_,?_,?_,?_,?_,?_,?_,?_,?_,?_,?_,?_,?_,?_,?_,?_,?_,?_,?_,?_,?_,?_,?_,?_,?_,?_,?_,?_,?_,?_,?_,?_,?_,trivial⟩
      iterate 43 (· intro tm hr;simp[AllL,rdV] at hr;simp[hr,Aa e7,← e8];intros;first|exact KD.mk|exact KD.mkN)
     ·rfl
     ·simp[tmD,putD,Aa e7,← e8];rfl
     ·simp[Aa e7,← e8]
      intros;rfl
     obtain rfl:=oi h
     refine nP_i ?_
     refine Weak.mixN [] hn0 (by decide) ?_ ?_ rfl
     all_goals first|(simp[Ab,Ac,pickOb];done)|rfl
    |false =>
     replace h:=iteF rfl h
     replace h:=ltE h;obtain⟨v9,e9,h⟩:=h
     cases v9 with
     |true =>
      replace h:=iteT rfl h
      apply AW.drawnR (V:=[_,_,_,_,_,_,_,_,_,_,_,_,_,_,_,_,_,_,_,_,_,_,_,_,_,_,_,_,_,_,_,_,_,_,_,_,_,_,_,_,_,_,_]) mixed DX5t1 43 (by kernel_rfl) (by kernel_rfl)
      ·refine⟨?_,?_,?_,?_,?_,?_,?_,?_,?_,?_,?_,?_,?_,?_,?_,?_,?_,?_,?_,?_,?_,?_,?_,?_,?_,?_,?_,?_,?_,?_,?_,?_,?_,?_,?_,?_,?_,?_,?_,?_,?_,?_,?_,trivial⟩
       iterate 43 (· intro tm hr;simp[AllL,rdV] at hr;simp[hr,Aa e7,← e8,← e9];intros;first|exact KD.mk|exact KD.mkN)
      ·rfl
      ·simp[tmD,putD,Aa e7,← e8,← e9];rfl
      ·simp[Aa e7,← e8,← e9]
       intros;rfl
      obtain rfl:=oi h
      refine nP_i ?_
      refine Weak.mixN [] hn0 (by decide) ?_ ?_ rfl
      all_goals first|(simp[Ab,Ac,pickOb];done)|rfl
     |false =>
      replace h:=iteF rfl h
      replace h:=ltE h;obtain⟨v10,e10,h⟩:=h
      cases v10 with
      |true =>
       replace h:=iteT rfl h
       apply AW.drawnR (V:=[_,_,_,_,_,_,_,_,_,_,_,_,_,_,_,_,_,_,_,_,_,_,_,_,_,_,_,_,_,_,_,_,_,_,_,_,_,_,_,_,_,_,_]) mixed DX5t1 43 (by kernel_rfl) (by kernel_rfl)
       ·refine⟨?_,?_,?_,?_,?_,?_,?_,?_,?_,?_,?_,?_,?_,?_,?_,?_,?_,?_,?_,?_,?_,?_,?_,?_,?_,?_,?_,?_,?_,?_,?_,?_,?_,?_,?_,?_,?_,?_,?_,?_,?_,?_,?_,trivial⟩
        iterate 43 (· intro tm hr;simp[AllL,rdV] at hr;simp[hr,Aa e7,← e8,← e9,← e10];intros;first|exact KD.mk|exact KD.mkN)
       ·rfl
       ·simp[tmD,putD,Aa e7,← e8,← e9,← e10];rfl
       ·simp[Aa e7,← e8,← e9,← e10]
        intros;rfl
       obtain rfl:=oi h
       refine nP_i ?_
       refine Weak.mixN [] hn0 (by decide) ?_ ?_ rfl
       all_goals first|(simp[Ab,Ac,pickOb];done)|rfl
      |false =>
       replace h:=iteF rfl h
       replace h:=ltE h;obtain⟨v11,e11,h⟩:=h
       cases v11 with
       |true =>
        replace h:=iteT rfl h
        replace h:=ltE h;obtain⟨v12,e12,h⟩:=h
        replace h:=bnE h;obtain⟨v13,e13,h⟩:=h
        replace h:=ltE h;obtain⟨v14,e14,h⟩:=h
        replace h:=ltE h;obtain⟨v15,e15,h⟩:=h
        apply AW.drawnR (V:=[_,_,_,_,_,_,_,_,_,_,_,_,_,_,_,_,_,_,_,_,_,_,_,_,_,_,_,_,_,_,_,_,_,_,_,_,_,_,_,_,_,_,_]) mixed DX5t1 43 (by kernel_rfl) (by kernel_rfl)
        ·refine⟨?_,?_,?_,?_,?_,?_,?_,?_,?_,?_,?_,?_,?_,?_,?_,?_,?_,?_,?_,?_,?_,?_,?_,?_,?_,?_,?_,?_,?_,?_,?_,?_,?_,?_,?_,?_,?_,?_,?_,?_,?_,?_,?_,trivial⟩
         iterate 43 (· intro tm hr;simp[AllL,rdV] at hr;simp[hr,Aa e7,← e8,← e9,← e10,← e11,← e12,Aa e13,← e14,← e15];intros;first|exact KD.mk|exact KD.mkN)
        ·rfl
        ·simp[tmD,putD,Aa e7,← e8,← e9,← e10,← e11,← e12,Aa e13,← e14,← e15];rfl
        ·simp[Aa e7,← e8,← e9,← e10,← e11,← e12,Aa e13,← e14,← e15]
         intros;rfl
        obtain rfl:=oi h
        refine nP_i ?_
        refine Weak.mixN [] hn0 (by decide) ?_ ?_ rfl
        all_goals first|(simp[Ab,Ac,pickOb];done)|rfl
       |false =>
        replace h:=iteF rfl h
        apply AW.drawnR (V:=[_,_,_,_,_,_,_,_,_,_,_,_,_,_,_,_,_,_,_,_,_,_,_,_,_,_,_,_,_,_,_,_,_,_,_,_,_,_,_,_,_,_,_]) mixed DX5t1 43 (by kernel_rfl) (by kernel_rfl)
        ·refine⟨?_,?_,?_,?_,?_,?_,?_,?_,?_,?_,?_,?_,?_,?_,?_,?_,?_,?_,?_,?_,?_,?_,?_,?_,?_,?_,?_,?_,?_,?_,?_,?_,?_,?_,?_,?_,?_,?_,?_,?_,?_,?_,?_,trivial⟩
         iterate 43 (· intro tm hr;simp[AllL,rdV] at hr;simp[hr,Aa e7,← e8,← e9,← e10,← e11];intros;first|exact KD.mk|exact KD.mkN)
        ·rfl
        ·simp[tmD,putD,Aa e7,← e8,← e9,← e10,← e11];rfl
        ·simp[Aa e7,← e8,← e9,← e10,← e11]
         intros;rfl
        obtain rfl:=oi h
        refine nP_i ?_
        refine Weak.mixN [] hn0 (by decide) ?_ ?_ rfl
        all_goals first|(simp[Ab,Ac,pickOb];done)|rfl
   ·rintro e s hp
    obtain⟨rfl,hw⟩:=hp
    refine⟨_,hw,?_⟩
    try simp only[nm]
    replace h:=ltE h;obtain⟨v16,e16,h⟩:=h
    rw[← e16]
    cases v16 with
    |true =>
     replace h:=iteT rfl h
     refine AW.cond_true (by simp) ?_
     apply AW.step
     ·simp
      intros;rfl
     obtain rfl:=oi h
     refine AW.ret ?_
     try simp only[nm]
     refine rP_i ?_
     refine Left.plain hnb (by simp[Try.f25,resV,resC,comp];rfl) rfl rfl ?_
     simp
    |false =>
     replace h:=iteF rfl h
     refine AW.cond_false (by simp) ?_
     refine AW.skip ?_
     try simp only[nm]
     replace h:=ltE h;obtain⟨v17,e17,h⟩:=h
     apply AW.last
     ·simp[← e17]
      intros;rfl
     obtain rfl:=oi h
     refine nP_i ?_
     refine Weak.mixN [] hn0 (by decide) ?_ ?_ rfl
     all_goals first|(simp[Ab,Ac,pickOb];done)|rfl
  |false =>
   replace h:=iteF rfl h
   refine AW.cond_false (by simp) ?_
   refine AW.exit ?_
   try simp only[nm]
   obtain rfl:=oi h
   try simp only[sp_l,sp_r]
   refine xP_i ?_
   refine Weak.mixN [] hn0 (by decide) ?_ ?_ rfl
   all_goals first|(simp[Ab,Ac,pickOb];done)|rfl
 ·rintro e s hp
  rcases y2 with y18|y19
  ·replace h:=smL h
   obtain⟨rfl,hw⟩:=hp
   refine⟨_,hw,?_⟩
   try simp only[nm]
   apply AW.step
   ·simp
    intros;rfl
   obtain rfl:=oi h
   refine AW.ret ?_
   refine Left.plain hnb (by simp[Try.f25,resV,resC,comp];rfl) rfl rfl ?_
   simp
  ·replace h:=smR h
   obtain⟨rfl,hl⟩:=hp
   refine⟨_,Weak.refl _,?_⟩
   obtain rfl:=oi h
   exact hl
theorem F7:Enters Try.prog 25:=enters Try.func25 (by kernel_rfl) rfl
def CC (n:Nat) (a0:List Span):Option Int :=
bn (B5 n a0) fun v1 =>
bn (iter n (fun (y2:Int×Int) =>
lt (lenI v1) fun v5 =>
lt (ltI y2.2 v5) fun v6 =>
ite' v6 (bn (nth v1 y2.2) fun v7 =>
lt (addI .i64 y2.1 v7.to) fun v8 =>
lt (subI .i64 v8 v7.frm) fun v9 =>
lt (addI .i64 v9 1) fun v10 =>
lt (addI .i64 y2.2 1) fun v11 =>
some (.inl (v10,v11))) (some (.inr y2.1))) (0,0)) fun (y3:Int) =>
some y3
def DX5t2:List DI:=[⟨[0],[],[(3,none)],false⟩,⟨[0],[],[(4,none)],false⟩,⟨[0],[],[(5,none)],false⟩,⟨[0],[1,2],[(15,some 1),(16,some 2)],false⟩,⟨[0],[1,2,3],[(17,some 3)],false⟩,⟨[0],[1,2,3,4],[(18,some 4)],false⟩,⟨[0],[0,1,2,3,4,5],[(14,some 0),(19,some 5)],false⟩,⟨[0],[],[(4,none)],false⟩,⟨[0],[],[(5,none)],false⟩,⟨[0],[7,8],[(21,some 7),(22,some 8)],false⟩,⟨[0],[7,8,9],[(23,some 9)],false⟩,⟨[0],[7,8,9,10],[(24,some 10)],false⟩,⟨[],[0,1,2,3,4,5,6,7,8,9,10,11],[],false⟩,⟨[],[0,1,2,3,4,5,6,7,8,9,10,11,12],[],false⟩,⟨[],[0,1,2,3,4,5,6,7,8,9,10,11,12,13],[],false⟩]
theorem Ie {n:Nat} {a0:List Span} {r:Int} (h:CC n a0=some r):Sound Try.prog 26 [.l (.d false 2 (encSpan a0))] [] (.l (.s (.int .i64 r))) []:=by
 unfold CC at h
 refine Sound.of_aw (fn:=Try.f26) (c:=_) Try.func26 rfl (by simp[Try.f26]) fun cx hG hnb=>?_
 rw[show Try.f26.ntmps=29 from rfl]
 have hn0:cx.nb=0:=hnb
 simp only[At,initTm,List.map_cons,List.map_nil]
 apply AW.step
 ·simp
  intros;rfl
 apply AW.step
 ·simp
  intros;rfl
 replace h:=bnE h;obtain⟨v1,e1,h⟩:=h
 apply AW.step
 ·simp
  intros
  refine Ai FN (Gq e1) rfl ⟨.same rfl,trivial⟩ ?_
  try simp
  intros;rfl
 refine AW.seq ?_
 apply AW.step
 ·simp
  intros;rfl
 refine AW.block ?_
 replace h:=bnE h;obtain⟨y3,g3,h⟩:=h
 refine AW.iterP g3 (mk:=fun gh ls q=>(⟨[(3,.l (.s (.int .i64 q.1))),(4,.l (.d false 2 (encSpan v1))),(5,.l (.s (.int .i64 q.2)))],[],29,gh,ls⟩:St)) (N:=fun gh ls=>(xP 0 (cx:=cx) (fun q=>(⟨[(3,.l (.s (.int .i64 q)))],[],29,gh,ls⟩:St)))) ?_ noX ?_ ?_
 ·refine Weak.mixN [] hn0 (by decide) ?_ ?_ rfl
  all_goals first|(simp[Ab,Ac,pickOb];done)|rfl
 ·clear h;intro y2 y4 h
  refine AW.seq ?_
  replace h:=ltE h;obtain⟨v5,e5,h⟩:=h
  replace h:=ltE h;obtain⟨v6,e6,h⟩:=h
  apply AW.step
  ·simp[Al e5,← e6]
   intros;rfl
  cases v6 with
  |true =>
   replace h:=iteT rfl h
   refine AW.cond_true (by simp) ?_
   refine AW.skip ?_
   try simp only[nm]
   refine AW.seq ?_
   refine AW.block ?_
   replace h:=bnE h;obtain⟨v7,e7,h⟩:=h
   replace h:=ltE h;obtain⟨v8,e8,h⟩:=h
   replace h:=ltE h;obtain⟨v9,e9,h⟩:=h
   replace h:=ltE h;obtain⟨v10,e10,h⟩:=h
   apply AW.drawnR (V:=[_,_,_,_,_,_,_,_,_,_,_,_]) mixed DX5t2 12 (by kernel_rfl) (by kernel_rfl)
   ·refine⟨?_,?_,?_,?_,?_,?_,?_,?_,?_,?_,?_,?_,trivial⟩
    iterate 12 (· intro tm hr;simp[AllL,rdV] at hr;simp[hr,Aa e7,← e8,← e9,← e10];intros;first|exact KD.mk|exact KD.mkN)
   ·rfl
   ·simp[tmD,putD,Aa e7,← e8,← e9,← e10];rfl
   ·simp[Aa e7,← e8,← e9,← e10]
    intros;rfl
   try simp only[nm]
   replace h:=ltE h;obtain⟨v11,e11,h⟩:=h
   apply AW.last
   ·simp[← e11]
    intros;rfl
   obtain rfl:=oi h
   refine nP_i ?_
   refine Weak.mixN [] hn0 (by decide) ?_ ?_ rfl
   all_goals first|(simp[Ab,Ac,pickOb];done)|rfl
  |false =>
   replace h:=iteF rfl h
   refine AW.cond_false (by simp) ?_
   refine AW.exit ?_
   try simp only[nm]
   obtain rfl:=oi h
   refine xP_i ?_
   refine Weak.mixN [] hn0 (by decide) ?_ ?_ rfl
   all_goals first|(simp[Ab,Ac,pickOb];done)|rfl
 ·rintro e s hp
  obtain⟨rfl,hw⟩:=hp
  refine⟨_,hw,?_⟩
  try simp only[nm]
  apply AW.step
  ·simp
   intros;rfl
  obtain rfl:=oi h
  refine AW.ret ?_
  refine Left.plain hnb (by simp[Try.f26,resV,resC,comp];rfl) rfl rfl ?_
  simp
theorem Hx:Enters Try.prog 26:=enters Try.func26 (by kernel_rfl) rfl
def DR (n:Nat) (a0:List Span) (a1:List Span):Option (List Int) :=
chk (room 2 1) <|
bn (iter n (fun (y1:List Int×Int) =>
lt (lenI a0) fun v5 =>
lt (lenI a1) fun v6 =>
lt (addI .i64 v5 v6) fun v7 =>
lt (ltI y1.2 v7) fun v8 =>
ite' v8 (bn (bn (lt (ltI y1.2 v5) fun v11 =>
ite' v11 (bn (nth a0 y1.2) fun v12 =>
some (v12)) (lt (subI .i64 y1.2 v5) fun v13 =>
bn (nth a1 v13) fun v14 =>
some (v14))) fun (y10:Span) =>
bn (lt (leI y10.frm y10.to) fun v16 =>
ite' v16 (bn (BA n y1.1 y10.frm) fun v17 =>
some (v17)) (some (y1.1))) fun (y15:List Int) =>
bn (lt (leI y10.frm y10.to) fun v19 =>
ite' v19 (lt (ltI y10.to 16384) fun v20 =>
some (v20)) (some (false))) fun (y18:Bool) =>
lt (y18) fun v21 =>
ite' v21 (lt (addI .i64 y10.to 1) fun v22 =>
bn (BA n y15 v22) fun v23 =>
some (v23)) (some (y15))) fun (y9:List Int) =>
lt (addI .i64 y1.2 1) fun v24 =>
some (.inl (y9,v24))) (some (.inr y1.1))) ([0,16384],0)) fun (y2:List Int) =>
some y2
theorem GD {n:Nat} {a0:List Span} {a1:List Span} {r:List Int} (h:DR n a0 a1=some r):Sound Try.prog 50 [.l (.d true 2 (encSpan a0)),.l (.d false 2 (encSpan a1))] [] (.l (.d false 1 (encI r))) []:=by
 unfold DR at h
 refine Sound.of_aw (fn:=Try.f50) (c:=_) Try.func50 rfl (by simp[Try.f50]) fun cx hG hnb=>?_
 rw[show Try.f50.ntmps=59 from rfl]
 have hn0:cx.nb=0:=hnb
 simp only[At,initTm,List.map_cons,List.map_nil]
 apply AW.step
 ·simp
  intros;rfl
 apply AW.step
 ·simp
  intros
  refine Bu ?_
  try simp
  intros;rfl
 refine AW.seq ?_
 apply AW.step
 ·simp
  intros;rfl
 refine AW.block ?_
 replace h:=chkE h;obtain⟨e3,h⟩:=h
 replace h:=bnE h;obtain⟨y2,g2,h⟩:=h
 refine AW.iterP g2 (mk:=fun gh ls q=>(⟨[(0,.l (.d true 2 (encSpan a0))),(1,.l (.d false 2 (encSpan a1))),(5,.l (.d false 1 (encI q.1))),(6,.l (.s (.int .i64 q.2)))],[],59,gh,ls⟩:St)) (N:=fun gh ls=>(xP 0 (cx:=cx) (fun q=>(⟨[(5,.l (.d false 1 (encI q)))],[],59,gh,ls⟩:St)))) ?_ noX ?_ ?_
 ·refine W.frzRow 0 (ty:=3) (cap:=none) (sz:=1) (es:=encI [0,16384]) (by simp[encI,lvs]) (by omega) (CA _) (by first|exact (Av e3).2|simpa using (Av e3).2|simp) (by simp[Tm.frz,AV.frz,LV.frz,(show List.take 2 (encI [0,16384])=encI [0,16384] from rfl)];rfl) (by simp[Ob.frz,LV.frz,(show List.take 2 (encI [0,16384])=encI [0,16384] from rfl)];rfl) rfl ?_
  refine Weak.mixN [] hn0 (by decide) ?_ ?_ rfl
  all_goals first|(simp[Ab,Ac,pickOb];done)|rfl
 ·clear h;intro y1 y4 h
  refine AW.seq ?_
  replace h:=ltE h;obtain⟨v5,e5,h⟩:=h
  replace h:=ltE h;obtain⟨v6,e6,h⟩:=h
  replace h:=ltE h;obtain⟨v7,e7,h⟩:=h
  replace h:=ltE h;obtain⟨v8,e8,h⟩:=h
  apply AW.step
  ·simp[Al e5,Al e6,← e7,← e8]
   intros;rfl
  cases v8 with
  |true =>
   replace h:=iteT rfl h
   refine AW.cond_true (by simp) ?_
   refine AW.skip ?_
   try simp only[nm]
   replace h:=bnE h;obtain⟨y9,g9,h⟩:=h
   refine AW.flow (p:=fun gh ls=>(nP (cx:=cx) (fun q=>(⟨[(0,.l (.d true 2 (encSpan a0))),(1,.l (.d false 2 (encSpan a1))),(5,.l (.d false 1 (encI q))),(6,.l (.s (.int .i64 y1.2)))],[],59,gh,ls⟩:St))) y9) ?_ ?_
   ·replace h:=g9;clear g9
    refine AW.block ?_
    apply AW.step
    ·simp
     intros;rfl
    replace h:=bnE h;obtain⟨y10,g10,h⟩:=h
    refine AW.flow (p:=fun gh ls=>(nP (cx:=cx) (fun q=>(⟨[(0,.l (.d true 2 (encSpan a0))),(1,.l (.d false 2 (encSpan a1))),(5,.l (.d false 1 (encI y1.1))),(6,.l (.s (.int .i64 y1.2))),(7,.l (.p 0 0))],[some ⟨43,2,false,none,[.s (.int .i64 q.frm),.s (.int .i64 q.to)]⟩],59,gh,ls⟩:St))) y10) ?_ ?_
    ·replace h:=g10;clear g10
     replace h:=ltE h;obtain⟨v11,e11,h⟩:=h
     apply AW.step
     ·simp[Al e5,← e11]
      intros;rfl
     cases v11 with
     |true =>
      replace h:=iteT rfl h
      refine AW.cond_true (by simp) ?_
      replace h:=bnE h;obtain⟨v12,e12,h⟩:=h
      apply AW.last
      ·simp[Aa e12]
       intros;rfl
      obtain rfl:=oi h
      refine nP_i ?_
      refine Weak.mixN [some 0] hn0 (by decide) ?_ ?_ rfl
      all_goals first|(simp[Ab,Ac,pickOb];done)|rfl
     |false =>
      replace h:=iteF rfl h
      refine AW.cond_false (by simp) ?_
      replace h:=ltE h;obtain⟨v13,e13,h⟩:=h
      replace h:=bnE h;obtain⟨v14,e14,h⟩:=h
      apply AW.last
      ·simp[Al e5,← e13,Aa e14]
       intros;rfl
      obtain rfl:=oi h
      refine nP_i ?_
      refine Weak.mixN [some 0] hn0 (by decide) ?_ ?_ rfl
      all_goals first|(simp[Ab,Ac,pickOb];done)|rfl
    ·rintro e s hp
     obtain⟨rfl,hw⟩:=hp
     refine⟨_,hw,?_⟩
     try simp only[nm]
     replace h:=bnE h;obtain⟨y15,g15,h⟩:=h
     refine AW.flow (p:=fun gh ls=>(nP (cx:=cx) (fun q=>(⟨[(0,.l (.d true 2 (encSpan a0))),(1,.l (.d false 2 (encSpan a1))),(5,.l (.d false 1 (encI q))),(6,.l (.s (.int .i64 y1.2))),(7,.l (.p 0 0))],[some ⟨43,2,false,none,[.s (.int .i64 y10.frm),.s (.int .i64 y10.to)]⟩],59,gh,ls⟩:St))) y15) ?_ ?_
     ·replace h:=g15;clear g15
      replace h:=ltE h;obtain⟨v16,e16,h⟩:=h
      apply AW.step
      ·simp[← e16]
       intros;rfl
      cases v16 with
      |true =>
       replace h:=iteT rfl h
       refine AW.cond_true (by simp) ?_
       replace h:=bnE h;obtain⟨v17,e17,h⟩:=h
       apply AW.last
       ·simp
        intros
        refine Ai B4 (Cp e17) rfl ⟨.same rfl,.same rfl,trivial⟩ ?_
        try simp
        intros;rfl
       obtain rfl:=oi h
       refine nP_i ?_
       refine Weak.mixN [some 0] hn0 (by decide) ?_ ?_ rfl
       all_goals first|(simp[Ab,Ac,pickOb];done)|rfl
      |false =>
       replace h:=iteF rfl h
       refine AW.cond_false (by simp) ?_
       refine AW.skip ?_
       try simp only[nm]
       obtain rfl:=oi h
       refine nP_i ?_
       refine Weak.mixN [some 0] hn0 (by decide) ?_ ?_ rfl
       all_goals first|(simp[Ab,Ac,pickOb];done)|rfl
     ·rintro e s hp
      obtain⟨rfl,hw⟩:=hp
      refine⟨_,hw,?_⟩
      try simp only[nm]
      replace h:=bnE h;obtain⟨y18,g18,h⟩:=h
      refine AW.flow (p:=fun gh ls=>(nP (cx:=cx) (fun q=>(⟨[(0,.l (.d true 2 (encSpan a0))),(1,.l (.d false 2 (encSpan a1))),(5,.l (.d false 1 (encI y15))),(6,.l (.s (.int .i64 y1.2))),(7,.l (.p 0 0)),(52,.l (.s (.bool q)))],[some ⟨43,2,false,none,[.s (.int .i64 y10.frm),.s (.int .i64 y10.to)]⟩],59,gh,ls⟩:St))) y18) ?_ ?_
      ·replace h:=g18;clear g18
       replace h:=ltE h;obtain⟨v19,e19,h⟩:=h
       cases v19 with
       |true =>
        replace h:=iteT rfl h
        replace h:=ltE h;obtain⟨v20,e20,h⟩:=h
        apply AW.last
        ·simp[← e19,← e20]
         intros;rfl
        obtain rfl:=oi h
        refine nP_i ?_
        refine Weak.mixN [some 0] hn0 (by decide) ?_ ?_ rfl
        all_goals first|(simp[Ab,Ac,pickOb];done)|rfl
       |false =>
        replace h:=iteF rfl h
        apply AW.last
        ·simp[← e19]
         intros;rfl
        obtain rfl:=oi h
        refine nP_i ?_
        refine Weak.mixN [some 0] hn0 (by decide) ?_ ?_ rfl
        all_goals first|(simp[Ab,Ac,pickOb];done)|rfl
      ·rintro e s hp
       obtain⟨rfl,hw⟩:=hp
       refine⟨_,hw,?_⟩
       try simp only[nm]
       replace h:=ltE h;obtain⟨v21,e21,h⟩:=h
       rw[← e21]
       cases v21 with
       |true =>
        replace h:=iteT rfl h
        refine AW.cond_true (by simp) ?_
        replace h:=ltE h;obtain⟨v22,e22,h⟩:=h
        replace h:=bnE h;obtain⟨v23,e23,h⟩:=h
        apply AW.last
        ·simp[← e22]
         intros
         refine Ai B4 (Cp e23) rfl ⟨.same rfl,.same rfl,trivial⟩ ?_
         try simp[← e22]
         intros;rfl
        obtain rfl:=oi h
        refine nP_i ?_
        refine Weak.mixN [] hn0 (by decide) ?_ ?_ rfl
        all_goals first|(simp[Ab,Ac,pickOb];done)|rfl
       |false =>
        replace h:=iteF rfl h
        refine AW.cond_false (by simp) ?_
        refine AW.skip ?_
        try simp only[nm]
        obtain rfl:=oi h
        refine nP_i ?_
        refine Weak.mixN [] hn0 (by decide) ?_ ?_ rfl
        all_goals first|(simp[Ab,Ac,pickOb];done)|rfl
   ·rintro e s hp
    obtain⟨rfl,hw⟩:=hp
    refine⟨_,hw,?_⟩
    try simp only[nm]
    replace h:=ltE h;obtain⟨v24,e24,h⟩:=h
    apply AW.last
    ·simp[← e24]
     intros;rfl
    obtain rfl:=oi h
    refine nP_i ?_
    refine Weak.mixN [] hn0 (by decide) ?_ ?_ rfl
    all_goals first|(simp[Ab,Ac,pickOb];done)|rfl
  |false =>
   replace h:=iteF rfl h
   refine AW.cond_false (by simp) ?_
   refine AW.exit ?_
   try simp only[nm]
   obtain rfl:=oi h
   refine xP_i ?_
   refine Weak.mixN [] hn0 (by decide) ?_ ?_ rfl
   all_goals first|(simp[Ab,Ac,pickOb];done)|rfl
 ·rintro e s hp
  obtain⟨rfl,hw⟩:=hp
  refine⟨_,hw,?_⟩
  try simp only[nm]
  apply AW.step
  ·simp
   intros;rfl
  obtain rfl:=oi h
  refine AW.ret ?_
  refine Left.plain hnb (by simp[Try.f50,resV,resC,comp];rfl) rfl rfl ?_
  simp
theorem F8:Enters Try.prog 50:=enters Try.func50 (by kernel_rfl) rfl
def Ek (n:Nat) (a0:List Span) (a1:Int):Option Bool :=
bn (iter n (fun (y1:Int) =>
lt (lenI a0) fun v4 =>
lt (ltI y1 v4) fun v5 =>
ite' v5 (bn (lt (geI a1 0) fun v7 =>
ite' v7 (lt (ltI a1 16384) fun v8 =>
ite' v8 (bn (nth a0 y1) fun v9 =>
lt (leI v9.frm a1) fun v10 =>
ite' v10 (lt (leI a1 v9.to) fun v11 =>
some (v11)) (some (false))) (some (false))) (some (false))) fun (y6:Bool) =>
lt (y6) fun v12 =>
ite' v12 (some (.inr (.inr true))) (lt (addI .i64 y1 1) fun v13 =>
some (.inl v13))) (some (.inr (.inl ())))) 0) fun (y2:Unit ⊕ Bool) =>
sm y2 (fun y14=>some false) (fun y15=>some y15)
theorem Hy {n:Nat} {a0:List Span} {a1:Int} {r:Bool} (h:Ek n a0 a1=some r):Sound Try.prog 21 [.l (.d true 2 (encSpan a0)),.l (.s (.int .i64 a1))] [] (.l (.s (.bool r))) []:=by
 unfold Ek at h
 refine Sound.of_aw (fn:=Try.f21) (c:=_) Try.func21 rfl (by simp[Try.f21]) fun cx hG hnb=>?_
 rw[show Try.f21.ntmps=36 from rfl]
 have hn0:cx.nb=0:=hnb
 simp only[At,initTm,List.map_cons,List.map_nil]
 apply AW.step
 ·simp
  intros;rfl
 refine AW.seq ?_
 apply AW.step
 ·simp
  intros;rfl
 refine AW.block ?_
 replace h:=bnE h;obtain⟨y2,g2,h⟩:=h
 refine AW.iterP g2 (mk:=fun gh ls q=>(⟨[(0,.l (.d true 2 (encSpan a0))),(1,.l (.s (.int .i64 a1))),(5,.l (.s (.int .i64 q)))],[],36,gh,ls⟩:St)) (N:=fun gh ls=>(sp (xP 0 (cx:=cx) (fun _=>(⟨[],[],36,gh,ls⟩:St))) (rP (cx:=cx) (P:=Try.prog) Try.f21 (fun q=>.l (.s (.bool q))) (fun q=>[])))) ?_ (noS noX noR) ?_ ?_
 ·refine Weak.mixN [] hn0 (by decide) ?_ ?_ rfl
  all_goals first|(simp[Ab,Ac,pickOb];done)|rfl
 ·clear h;intro y1 y3 h
  refine AW.seq ?_
  replace h:=ltE h;obtain⟨v4,e4,h⟩:=h
  replace h:=ltE h;obtain⟨v5,e5,h⟩:=h
  apply AW.step
  ·simp[Al e4,← e5]
   intros;rfl
  cases v5 with
  |true =>
   replace h:=iteT rfl h
   refine AW.cond_true (by simp) ?_
   refine AW.skip ?_
   try simp only[nm]
   refine AW.seq ?_
   refine AW.block ?_
   replace h:=bnE h;obtain⟨y6,g6,h⟩:=h
   refine AW.flow (p:=fun gh ls=>(nP (cx:=cx) (fun q=>(⟨[(0,.l (.d true 2 (encSpan a0))),(1,.l (.s (.int .i64 a1))),(5,.l (.s (.int .i64 y1))),(35,.l (.s (.bool q)))],[],36,gh,ls⟩:St))) y6) ?_ ?_
   ·replace h:=g6;clear g6
    replace h:=ltE h;obtain⟨v7,e7,h⟩:=h
    cases v7 with
    |true =>
     replace h:=iteT rfl h
     replace h:=ltE h;obtain⟨v8,e8,h⟩:=h
     cases v8 with
     |true =>
      replace h:=iteT rfl h
      replace h:=bnE h;obtain⟨v9,e9,h⟩:=h
      replace h:=ltE h;obtain⟨v10,e10,h⟩:=h
      cases v10 with
      |true =>
       replace h:=iteT rfl h
       replace h:=ltE h;obtain⟨v11,e11,h⟩:=h
       apply AW.last
       ·simp[← e7,← e8,Aa e9,← e10,← e11]
        intros;rfl
       obtain rfl:=oi h
       refine nP_i ?_
       refine Weak.mixN [] hn0 (by decide) ?_ ?_ rfl
       all_goals first|(simp[Ab,Ac,pickOb];done)|rfl
      |false =>
       replace h:=iteF rfl h
       apply AW.last
       ·simp[← e7,← e8,Aa e9,← e10]
        intros;rfl
       obtain rfl:=oi h
       refine nP_i ?_
       refine Weak.mixN [] hn0 (by decide) ?_ ?_ rfl
       all_goals first|(simp[Ab,Ac,pickOb];done)|rfl
     |false =>
      replace h:=iteF rfl h
      apply AW.last
      ·simp[← e7,← e8]
       intros;rfl
      obtain rfl:=oi h
      refine nP_i ?_
      refine Weak.mixN [] hn0 (by decide) ?_ ?_ rfl
      all_goals first|(simp[Ab,Ac,pickOb];done)|rfl
    |false =>
     replace h:=iteF rfl h
     apply AW.last
     ·simp[← e7]
      intros;rfl
     obtain rfl:=oi h
     refine nP_i ?_
     refine Weak.mixN [] hn0 (by decide) ?_ ?_ rfl
     all_goals first|(simp[Ab,Ac,pickOb];done)|rfl
   ·rintro e s hp
    obtain⟨rfl,hw⟩:=hp
    refine⟨_,hw,?_⟩
    try simp only[nm]
    replace h:=ltE h;obtain⟨v12,e12,h⟩:=h
    rw[← e12]
    cases v12 with
    |true =>
     replace h:=iteT rfl h
     refine AW.cond_true (by simp) ?_
     apply AW.step
     ·simp
      intros;rfl
     obtain rfl:=oi h
     refine AW.ret ?_
     try simp only[nm]
     refine rP_i ?_
     refine Left.plain hnb (by simp[Try.f21,resV,resC,comp];rfl) rfl rfl ?_
     simp
    |false =>
     replace h:=iteF rfl h
     refine AW.cond_false (by simp) ?_
     refine AW.skip ?_
     try simp only[nm]
     replace h:=ltE h;obtain⟨v13,e13,h⟩:=h
     apply AW.last
     ·simp[← e13]
      intros;rfl
     obtain rfl:=oi h
     refine nP_i ?_
     refine Weak.mixN [] hn0 (by decide) ?_ ?_ rfl
     all_goals first|(simp[Ab,Ac,pickOb];done)|rfl
  |false =>
   replace h:=iteF rfl h
   refine AW.cond_false (by simp) ?_
   refine AW.exit ?_
   try simp only[nm]
   obtain rfl:=oi h
   try simp only[sp_l,sp_r]
   refine xP_i ?_
   refine Weak.mixN [] hn0 (by decide) ?_ ?_ rfl
   all_goals first|(simp[Ab,Ac,pickOb];done)|rfl
 ·rintro e s hp
  rcases y2 with y14|y15
  ·replace h:=smL h
   obtain⟨rfl,hw⟩:=hp
   refine⟨_,hw,?_⟩
   try simp only[nm]
   apply AW.step
   ·simp
    intros;rfl
   obtain rfl:=oi h
   refine AW.ret ?_
   refine Left.plain hnb (by simp[Try.f21,resV,resC,comp];rfl) rfl rfl ?_
   simp
  ·replace h:=smR h
   obtain⟨rfl,hl⟩:=hp
   refine⟨_,Weak.refl _,?_⟩
   obtain rfl:=oi h
   exact hl
theorem G9:Enters Try.prog 21:=enters Try.func21 (by kernel_rfl) rfl
def D4 (n:Nat) (a0:Int) (a1:List Span) (a2:List Span):Option (List Span) :=
bn (DR n a1 a2) fun v1 =>
bn (iter n (fun (y2:Int×List Span) =>
lt (addI .i64 y2.1 1) fun v5 =>
lt (lenI v1) fun v6 =>
lt (ltI v5 v6) fun v7 =>
ite' v7 (bn (bn (nth v1 y2.1) fun v9 =>
bn (Ek n a1 v9) fun v10 =>
bn (Cq n a2 v9) fun v11 =>
bn (ite' v10 (some ((true,true))) (some ((false,v11)))) fun (y12:Bool×Bool) =>
bn (lt (eqI a0 1) fun v14 =>
ite' v14 (lt (y12.1) fun v15 =>
ite' v15 (lt (notB v11) fun v16 =>
some (v16)) (some (false))) (lt (eqI a0 2) fun v17 =>
ite' v17 (lt (y12.1) fun v18 =>
ite' v18 (some (v11)) (some (false))) (some (y12.2)))) fun (y13:Bool) =>
lt (notB y13) fun v19 =>
ite' v19 (some (y2.2)) (bn (lt (lenI y2.2) fun v21 =>
lt (gtI v21 0) fun v22 =>
ite' v22 (lt (subI .i64 v21 1) fun v23 =>
bn (nth y2.2 v23) fun v24 =>
bn (nth v1 y2.1) fun v26 =>
lt (subI .i64 v26 1) fun v27 =>
lt (eqI v24.to v27) fun v28 =>
some (v28)) (some (false))) fun (y20:Bool) =>
lt (y20) fun v29 =>
ite' v29 (lt (lenI y2.2) fun v30 =>
lt (subI .i64 v30 1) fun v31 =>
lt (addI .i64 y2.1 1) fun v32 =>
bn (nth v1 v32) fun v33 =>
lt (subI .i64 v33 1) fun v34 =>
bn (nth y2.2 v31) fun v35 =>
lt (y2.2.set v31.toNat (⟨v35.frm,v34⟩:Span)) fun v37 =>
some (v37)) (bn (nth v1 y2.1) fun v40 =>
lt (addI .i64 y2.1 1) fun v41 =>
bn (nth v1 v41) fun v42 =>
lt (subI .i64 v42 1) fun v43 =>
chk (room (y2.2.length+1) 16) <|
lt (y2.2++[(⟨v40,v43⟩:Span)]) fun v45 =>
some (v45)))) fun (y8:List Span) =>
lt (addI .i64 y2.1 1) fun v46 =>
some (.inl (v46,y8))) (some (.inr y2.2))) (0,[])) fun (y3:List Span) =>
chk (room y3.length 1) <|
some y3
def DX5t3:List DI:=[⟨[0],[],[(8,none)],false⟩,⟨[0],[0],[(71,some 0)],false⟩,⟨[0],[0,1],[(72,some 1)],false⟩,⟨[0],[0,1,2],[(73,some 2)],false⟩,⟨[0],[0,1,2,3],[(8,none),(74,some 3)],false⟩,⟨[0],[0,1,2,3],[(8,none),(74,some 3)],false⟩,⟨[0],[0,1,2,3,5],[(74,some 3),(76,some 5)],false⟩,⟨[0],[0,1,2,3,5,6],[(74,some 3),(77,some 6)],false⟩,⟨[0],[0,1,2,3,4,5,6,7],[(74,some 3),(75,some 4),(78,some 7)],false⟩,⟨[0],[0,1,2,3,4,5,6,7,8],[(74,some 3),(79,some 8)],false⟩,⟨[0],[0,1,2,3,4,5,6,7,8,9],[(74,some 3),(80,some 9)],false⟩,⟨[0],[0,1,2,3],[(7,none),(74,some 3)],false⟩,⟨[0],[0,1,2,3],[(9,none),(74,some 3)],false⟩,⟨[0],[0,1,2,3,11,12],[(74,some 3),(82,some 11),(83,some 12)],false⟩,⟨[0],[0,1,2,3,11,12,13],[(74,some 3),(84,some 13)],false⟩,⟨[0],[0,1,2,3,11,12,13,14],[(74,some 3),(85,some 14)],false⟩,⟨[],[0,1,2,3,4,5,6,7,8,9,10,11,12,13,14,15],[],false⟩,⟨[],[0,1,2,3,4,5,6,7,8,9,10,11,12,13,14,15,16],[],false⟩,⟨[],[0,1,2,3,4,5,6,7,8,9,10,11,12,13,14,15,16,17],[],false⟩]
theorem Ha {n:Nat} {a0:Int} {a1:List Span} {a2:List Span} {r:List Span} (h:D4 n a0 a1 a2=some r):Sound Try.prog 22 [.l (.s (.int .i64 a0)),.l (.d true 2 (encSpan a1)),.l (.d false 2 (encSpan a2))] [] (.l (.d false 2 (encSpan r))) []:=by
 unfold D4 at h
 refine Sound.of_aw (fn:=Try.f22) (c:=_) Try.func22 rfl (by simp[Try.f22]) fun cx hG hnb=>?_
 rw[show Try.f22.ntmps=102 from rfl]
 have hn0:cx.nb=0:=hnb
 simp only[At,initTm,List.map_cons,List.map_nil]
 apply AW.step
 ·simp
  intros;rfl
 replace h:=bnE h;obtain⟨v1,e1,h⟩:=h
 apply AW.step
 ·simp
  intros
  refine Ai F8 (GD e1) rfl ⟨.d _ _ _,.same rfl,trivial⟩ ?_
  try simp
  intros;rfl
 apply AW.step
 ·simp
  intros;rfl
 refine AW.seq ?_
 apply AW.step
 ·simp
  intros;rfl
 refine AW.block ?_
 replace h:=bnE h;obtain⟨y3,g3,h⟩:=h
 refine AW.iterP g3 (mk:=fun gh ls q=>(⟨[(0,.l (.s (.int .i64 a0))),(1,.l (.d true 2 (encSpan a1))),(2,.l (.d false 2 (encSpan a2))),(7,.l (.d false 1 (encI v1))),(8,.l (.r 0 2 0 q.2.length)),(9,.l (.s (.int .i64 q.1)))],[some ⟨43,2,true,none,lvs (encSpan q.2)⟩],102,gh,ls⟩:St)) (N:=fun gh ls=>(xP 0 (cx:=cx) (fun q=>(⟨[(8,.l (.r 0 2 0 q.length))],[some ⟨43,2,true,none,lvs (encSpan q)⟩],102,gh,ls⟩:St)))) ?_ noX ?_ ?_
 ·refine W.nilRow 8 43 2 0 (by simp) rfl rfl ?_
  refine Weak.mixN [some 0] hn0 (by decide) ?_ ?_ rfl
  all_goals first|(simp[Ab,Ac,pickOb];done)|rfl
 ·clear h;intro y2 y4 h
  refine AW.seq ?_
  replace h:=ltE h;obtain⟨v5,e5,h⟩:=h
  replace h:=ltE h;obtain⟨v6,e6,h⟩:=h
  replace h:=ltE h;obtain⟨v7,e7,h⟩:=h
  apply AW.step
  ·simp[← e5,Al e6,← e7]
   intros;rfl
  cases v7 with
  |true =>
   replace h:=iteT rfl h
   refine AW.cond_true (by simp) ?_
   refine AW.skip ?_
   try simp only[nm]
   replace h:=bnE h;obtain⟨y8,g8,h⟩:=h
   refine AW.flow (p:=fun gh ls=>(nP (cx:=cx) (fun q=>(⟨[(0,.l (.s (.int .i64 a0))),(1,.l (.d true 2 (encSpan a1))),(2,.l (.d false 2 (encSpan a2))),(7,.l (.d false 1 (encI v1))),(8,.l (.r 0 2 0 q.length)),(9,.l (.s (.int .i64 y2.1)))],[some ⟨43,2,true,none,lvs (encSpan q)⟩],102,gh,ls⟩:St))) y8) ?_ ?_
   ·replace h:=g8;clear g8
    refine AW.block ?_
    replace h:=bnE h;obtain⟨v9,e9,h⟩:=h
    replace h:=bnE h;obtain⟨v10,e10,h⟩:=h
    replace h:=bnE h;obtain⟨v11,e11,h⟩:=h
    apply AW.drawnP (V:=[_,_,_,_,_,_,_,_,_,_,_]) mixed [⟨[0],[],[(1,none)],false⟩,⟨[0],[],[(7,none)],false⟩,⟨[0],[],[(9,none)],false⟩,⟨[0],[1,2],[(24,some 1),(25,some 2)],false⟩,⟨[0],[1,2,3],[(26,some 3)],false⟩,⟨[0],[0,1,2,3,4],[(23,some 0),(27,some 4)],false⟩,⟨[0],[],[(2,none)],false⟩,⟨[0],[],[(7,none)],false⟩,⟨[0],[],[(9,none)],false⟩,⟨[0],[7,8],[(30,some 7),(31,some 8)],false⟩,⟨[0],[7,8,9],[(32,some 9)],false⟩,⟨[],[0,1,2,3,4,5,6,7,8,9,10],[],false⟩,⟨[],[0,1,2,3,4,5,6,7,8,9,10,11],[],false⟩,⟨[],[0,1,2,3,4,5,6,7,8,9,10,11,12],[],false⟩] 11 (by kernel_rfl) (by kernel_rfl)
    ·refine⟨?_,?_,?_,?_,?_,?_,?_,?_,?_,?_,?_,trivial⟩
     iterate 5 (· intro tm hr;simp[AllL,rdV] at hr;simp[hr,Aa e9];intros;first|exact KD.mk|exact KD.mkN)
     ·intro tm hr
      simp[AllL,rdV] at hr
      simp[hr,Aa e9]
      intros
      refine Ai G9 (Hy e10) rfl ⟨.d _ _ _,.same rfl,trivial⟩ ?_
      try simp[Aa e9]
      intros;first|exact KD.mk|exact KD.mkN
     iterate 5 (· intro tm hr;simp[AllL,rdV] at hr;simp[hr,Aa e9];intros;first|exact KD.mk|exact KD.mkN)
    ·rfl
    ·simp[tmD,putD,Aa e9];rfl
    ·simp[Aa e9]
     intros
     refine Ai Em (EC e11) rfl ⟨.same rfl,.same rfl,trivial⟩ ?_
     try simp[Aa e9]
     intros;rfl
    replace h:=bnE h;obtain⟨y12,g12,h⟩:=h
    refine AW.flow (p:=fun gh ls=>(nP (cx:=cx) (fun q=>(⟨[(0,.l (.s (.int .i64 a0))),(1,.l (.d true 2 (encSpan a1))),(2,.l (.d false 2 (encSpan a2))),(7,.l (.d false 1 (encI v1))),(8,.l (.r 0 2 0 y2.2.length)),(9,.l (.s (.int .i64 y2.1))),(10,.l (.s (.bool q.1))),(11,.l (.s (.bool v11))),(12,.l (.s (.bool q.2)))],[some ⟨43,2,true,none,lvs (encSpan y2.2)⟩],102,gh,ls⟩:St))) y12) ?_ ?_
    ·replace h:=g12;clear g12
     cases v10 with
     |true =>
      replace h:=iteT rfl h
      apply AW.last
      ·simp
       intros;rfl
      obtain rfl:=oi h
      refine nP_i ?_
      refine Weak.mixN [some 0] hn0 (by decide) ?_ ?_ rfl
      all_goals first|(simp[Ab,Ac,pickOb];done)|rfl
     |false =>
      replace h:=iteF rfl h
      apply AW.last
      ·simp
       intros;rfl
      obtain rfl:=oi h
      refine nP_i ?_
      refine Weak.mixN [some 0] hn0 (by decide) ?_ ?_ rfl
      all_goals first|(simp[Ab,Ac,pickOb];done)|rfl
    ·rintro e s hp
     obtain⟨rfl,hw⟩:=hp
     refine⟨_,hw,?_⟩
     try simp only[nm]
     replace h:=bnE h;obtain⟨y13,g13,h⟩:=h
     refine AW.flow (p:=fun gh ls=>(nP (cx:=cx) (fun q=>(⟨[(0,.l (.s (.int .i64 a0))),(1,.l (.d true 2 (encSpan a1))),(2,.l (.d false 2 (encSpan a2))),(7,.l (.d false 1 (encI v1))),(8,.l (.r 0 2 0 y2.2.length)),(9,.l (.s (.int .i64 y2.1))),(12,.l (.s (.bool q)))],[some ⟨43,2,true,none,lvs (encSpan y2.2)⟩],102,gh,ls⟩:St))) y13) ?_ ?_
     ·replace h:=g13;clear g13
      apply AW.step
      ·simp
       intros;rfl
      refine AW.block ?_
      replace h:=ltE h;obtain⟨v14,e14,h⟩:=h
      apply AW.step
      ·simp[← e14]
       intros;rfl
      cases v14 with
      |true =>
       replace h:=iteT rfl h
       refine AW.cond_true (by simp) ?_
       replace h:=ltE h;obtain⟨v15,e15,h⟩:=h
       cases v15 with
       |true =>
        replace h:=iteT rfl h
        replace h:=ltE h;obtain⟨v16,e16,h⟩:=h
        apply AW.last
        ·simp[← e15,← e16]
         intros;rfl
        obtain rfl:=oi h
        refine nP_i ?_
        refine Weak.mixN [some 0] hn0 (by decide) ?_ ?_ rfl
        all_goals first|(simp[Ab,Ac,pickOb];done)|rfl
       |false =>
        replace h:=iteF rfl h
        apply AW.last
        ·simp[← e15]
         intros;rfl
        obtain rfl:=oi h
        refine nP_i ?_
        refine Weak.mixN [some 0] hn0 (by decide) ?_ ?_ rfl
        all_goals first|(simp[Ab,Ac,pickOb];done)|rfl
      |false =>
       replace h:=iteF rfl h
       refine AW.cond_false (by simp) ?_
       replace h:=ltE h;obtain⟨v17,e17,h⟩:=h
       apply AW.step
       ·simp[← e17]
        intros;rfl
       cases v17 with
       |true =>
        replace h:=iteT rfl h
        refine AW.cond_true (by simp) ?_
        replace h:=ltE h;obtain⟨v18,e18,h⟩:=h
        cases v18 with
        |true =>
         replace h:=iteT rfl h
         apply AW.last
         ·simp[← e18]
          intros;rfl
         obtain rfl:=oi h
         refine nP_i ?_
         refine Weak.mixN [some 0] hn0 (by decide) ?_ ?_ rfl
         all_goals first|(simp[Ab,Ac,pickOb];done)|rfl
        |false =>
         replace h:=iteF rfl h
         apply AW.last
         ·simp[← e18]
          intros;rfl
         obtain rfl:=oi h
         refine nP_i ?_
         refine Weak.mixN [some 0] hn0 (by decide) ?_ ?_ rfl
         all_goals first|(simp[Ab,Ac,pickOb];done)|rfl
       |false =>
        replace h:=iteF rfl h
        refine AW.cond_false (by simp) ?_
        refine AW.skip ?_
        try simp only[nm]
        obtain rfl:=oi h
        refine nP_i ?_
        refine Weak.mixN [some 0] hn0 (by decide) ?_ ?_ rfl
        all_goals first|(simp[Ab,Ac,pickOb];done)|rfl
     ·rintro e s hp
      obtain⟨rfl,hw⟩:=hp
      refine⟨_,hw,?_⟩
      try simp only[nm]
      refine AW.block ?_
      replace h:=ltE h;obtain⟨v19,e19,h⟩:=h
      apply AW.step
      ·simp[← e19]
       intros;rfl
      cases v19 with
      |true =>
       replace h:=iteT rfl h
       refine AW.cond_true (by simp) ?_
       refine AW.exit ?_
       try simp only[nm]
       obtain rfl:=oi h
       refine nP_i ?_
       refine Weak.mixN [some 0] hn0 (by decide) ?_ ?_ rfl
       all_goals first|(simp[Ab,Ac,pickOb];done)|rfl
      |false =>
       replace h:=iteF rfl h
       refine AW.cond_false (by simp) ?_
       replace h:=bnE h;obtain⟨y20,g20,h⟩:=h
       refine AW.flow (p:=fun gh ls=>(nP (cx:=cx) (fun q=>(⟨[(0,.l (.s (.int .i64 a0))),(1,.l (.d true 2 (encSpan a1))),(2,.l (.d false 2 (encSpan a2))),(7,.l (.d false 1 (encI v1))),(8,.l (.r 0 2 0 y2.2.length)),(9,.l (.s (.int .i64 y2.1))),(70,.l (.s (.bool q)))],[some ⟨43,2,true,none,lvs (encSpan y2.2)⟩],102,gh,ls⟩:St))) y20) ?_ ?_
       ·replace h:=g20;clear g20
        replace h:=ltE h;obtain⟨v21,e21,h⟩:=h
        replace h:=ltE h;obtain⟨v22,e22,h⟩:=h
        cases v22 with
        |true =>
         replace h:=iteT rfl h
         replace h:=ltE h;obtain⟨v23,e23,h⟩:=h
         replace h:=bnE h;obtain⟨v24,e24,h⟩:=h
         have f25:=Ah e24
         try simp[Al e21,← e22,← e23,Aa e24] at f25
         replace h:=bnE h;obtain⟨v26,e26,h⟩:=h
         replace h:=ltE h;obtain⟨v27,e27,h⟩:=h
         replace h:=ltE h;obtain⟨v28,e28,h⟩:=h
         apply AW.drawnR (V:=[_,_,_,_,_,_,_,_,_,_,_,_,_,_,_,_]) mixed DX5t3 16 (by kernel_rfl) (by kernel_rfl)
         ·refine⟨?_,?_,?_,?_,?_,?_,?_,?_,?_,?_,?_,?_,?_,?_,?_,?_,trivial⟩
          iterate 16 (· intro tm hr;simp[AllL,rdV] at hr;simp[hr,Al e21,← e22,← e23,Aa e24,f25,Bl (Aa e24).2 (j:=1) (by decide),lvs1,Aa e26,← e27,← e28];intros;first|exact KD.mk|exact KD.mkN)
         ·rfl
         ·simp[tmD,putD,Al e21,← e22,← e23,Aa e24,f25,Bl (Aa e24).2 (j:=1) (by decide),lvs1,Aa e26,← e27,← e28];rfl
         ·simp[Al e21,← e22,← e23,Aa e24,f25,Bl (Aa e24).2 (j:=1) (by decide),lvs1,Aa e26,← e27,← e28]
          intros;rfl
         obtain rfl:=oi h
         refine nP_i ?_
         refine Weak.mixN [some 0] hn0 (by decide) ?_ ?_ rfl
         all_goals first|(simp[Ab,Ac,pickOb];done)|rfl
        |false =>
         replace h:=iteF rfl h
         apply AW.drawnR (V:=[_,_,_,_,_,_,_,_,_,_,_,_,_,_,_,_]) mixed DX5t3 16 (by kernel_rfl) (by kernel_rfl)
         ·refine⟨?_,?_,?_,?_,?_,?_,?_,?_,?_,?_,?_,?_,?_,?_,?_,?_,trivial⟩
          iterate 16 (· intro tm hr;simp[AllL,rdV] at hr;simp[hr,Al e21,← e22];intros;first|exact KD.mk|exact KD.mkN)
         ·rfl
         ·simp[tmD,putD,Al e21,← e22];rfl
         ·simp[Al e21,← e22]
          intros;rfl
         obtain rfl:=oi h
         refine nP_i ?_
         refine Weak.mixN [some 0] hn0 (by decide) ?_ ?_ rfl
         all_goals first|(simp[Ab,Ac,pickOb];done)|rfl
       ·rintro e s hp
        obtain⟨rfl,hw⟩:=hp
        refine⟨_,hw,?_⟩
        try simp only[nm]
        replace h:=ltE h;obtain⟨v29,e29,h⟩:=h
        rw[← e29]
        cases v29 with
        |true =>
         replace h:=iteT rfl h
         refine AW.cond_true (by simp) ?_
         replace h:=ltE h;obtain⟨v30,e30,h⟩:=h
         replace h:=ltE h;obtain⟨v31,e31,h⟩:=h
         replace h:=ltE h;obtain⟨v32,e32,h⟩:=h
         replace h:=bnE h;obtain⟨v33,e33,h⟩:=h
         replace h:=ltE h;obtain⟨v34,e34,h⟩:=h
         replace h:=bnE h;obtain⟨v35,e35,h⟩:=h
         have f36:=Ah e35
         try simp[Al e30,← e31,← e32,Aa e33,← e34,Aa e35] at f36
         replace h:=ltE h;obtain⟨v37,e37,h⟩:=h
         have f38:=Es (Aa e35).2 e37 (j:=1) (cs:=[.s (.int .i64 v34)]) (by simp) rfl
         try simp at f38
         have f39:=f36
         try simp only[Af e37] at f39
         apply AW.last
         ·simp[Al e30,← e31,← e32,Aa e33,← e34,Aa e35,f36,CO (Aa e35).2 (j:=1) (m:=1) (by decide),f38,f39]
          intros;rfl
         obtain rfl:=oi h
         refine nP_i ?_
         refine Weak.mixN [some 0] hn0 (by decide) ?_ ?_ rfl
         all_goals first|(simp[Ab,Ac,pickOb,Af e37];done)|rfl
        |false =>
         replace h:=iteF rfl h
         refine AW.cond_false (by simp) ?_
         replace h:=bnE h;obtain⟨v40,e40,h⟩:=h
         replace h:=ltE h;obtain⟨v41,e41,h⟩:=h
         replace h:=bnE h;obtain⟨v42,e42,h⟩:=h
         replace h:=ltE h;obtain⟨v43,e43,h⟩:=h
         replace h:=chkE h;obtain⟨e44,h⟩:=h
         replace h:=ltE h;obtain⟨v45,e45,h⟩:=h
         apply AW.drawnF (V:=[_,_,_,_,_,_,_,_,_,_,_,_,_]) (M:=[[some ⟨43,2,true,none,lvs (encSpan y2.2)⟩],[some ⟨43,2,true,none,lvs (encSpan y2.2)⟩,some ⟨43,2,true,none,[.s (.int .i64 v40),.s (.int .i64 v43)]⟩]]) mixed [⟨[0,1],[],[(8,none)],false⟩,⟨[0],[],[(7,none)],false⟩,⟨[0],[],[(9,none)],false⟩,⟨[0],[1,2],[(54,some 1),(55,some 2)],false⟩,⟨[0],[1,2,3],[(56,some 3)],false⟩,⟨[0],[],[(7,none)],false⟩,⟨[0],[],[(9,none)],false⟩,⟨[0],[6],[(59,some 6)],false⟩,⟨[0],[5,6,7],[(58,some 5),(60,some 7)],false⟩,⟨[0],[5,6,7,8],[(61,some 8)],false⟩,⟨[0],[5,6,7,8,9],[(62,some 9)],false⟩,⟨[0],[1,2,3,4,5,6,7,8,9,10],[(57,some 4),(63,some 10)],false⟩,⟨[0],[1,2,3,4,5,6,7,8,9,10,11],[(64,some 11)],true⟩,⟨[],[0,1,2,3,4,5,6,7,8,9,10,11,12],[],false⟩,⟨[],[0,1,2,3,4,5,6,7,8,9,10,11,12,13],[],false⟩] 13 1 (by kernel_rfl) (by kernel_rfl)
         ·rfl
         ·refine⟨⟨?_,?_⟩,?_,?_,?_,?_,?_,?_,?_,?_,?_,?_,?_,?_,trivial⟩
          iterate 13 (· intro tm hr;simp[AllL,rdV] at hr;simp[hr,Aa e40,← e41,Aa e42,← e43,← Ap,← e45,Ax e45];intros;first|exact KD.mk|exact KD.mkN)
          ·intro tm hr
           simp[AllL,rdV] at hr
           simp[hr,Aa e40,← e41,Aa e42,← e43,← Ap,← e45,Ax e45]
           intros
           refine Bu ?_
           try simp[Aa e40,← e41,Aa e42,← e43,← Ap,← e45,Ax e45]
           intros;first|exact KD.mk|exact KD.mkN
         ·rfl
         ·simp[tmD,putD,Aa e40,← e41,Aa e42,← e43,← Ap,← e45,Ax e45];rfl
         ·simp[Aa e40,← e41,Aa e42,← e43,← Ap,← e45,Ax e45]
          intros
          refine Br (acc:=encSpan y2.2) (ys:=encSpan [(⟨v40,v43⟩:Span)]) (cap:=none) (k:=1) Dv Du (by simp) (by simp[encSpan,lvs]) (AP _) (by simp) (by simp) (by first|(simp;done)|simpa using (Av e44).1) ?_
          try simp[Aa e40,← e41,Aa e42,← e43,← Ap,← e45,Ax e45]
          intros;rfl
         obtain rfl:=oi h
         refine nP_i ?_
         refine Weak.mixN [some 2] hn0 (by decide) ?_ ?_ rfl
         all_goals first|(simp[Ab,Ac,pickOb,Bk];done)|rfl
   ·rintro e s hp
    obtain⟨rfl,hw⟩:=hp
    refine⟨_,hw,?_⟩
    try simp only[nm]
    replace h:=ltE h;obtain⟨v46,e46,h⟩:=h
    apply AW.last
    ·simp[← e46]
     intros;rfl
    obtain rfl:=oi h
    refine nP_i ?_
    refine Weak.mixN [some 0] hn0 (by decide) ?_ ?_ rfl
    all_goals first|(simp[Ab,Ac,pickOb];done)|rfl
  |false =>
   replace h:=iteF rfl h
   refine AW.cond_false (by simp) ?_
   refine AW.exit ?_
   try simp only[nm]
   obtain rfl:=oi h
   refine xP_i ?_
   refine Weak.mixN [some 0] hn0 (by decide) ?_ ?_ rfl
   all_goals first|(simp[Ab,Ac,pickOb];done)|rfl
 ·rintro e s hp
  obtain⟨rfl,hw⟩:=hp
  refine⟨_,hw,?_⟩
  try simp only[nm]
  apply AW.step
  ·simp
   intros;rfl
  replace h:=chkE h;obtain⟨e47,h⟩:=h
  refine AW.frzRow 0 (ty:=43) (cap:=none) (sz:=2) (es:=encSpan y3) (by simp) (by omega) (AP _) (by first|exact (Av e47).2|simpa using (Av e47).2|simp) (by simp[Tm.frz,AV.frz,LV.frz];rfl) (by simp[Ob.frz,LV.frz];rfl) rfl ?_
  obtain rfl:=oi h
  refine AW.ret ?_
  refine Left.plain hnb (by simp[Try.f22,resV,resC,comp];rfl) rfl rfl ?_
  simp
theorem GE:Enters Try.prog 22:=enters Try.func22 (by kernel_rfl) rfl
def Cm (n:Nat) (a0:List Span):Option (List Span) :=
bn (D4 n 0 a0 []) fun v1 =>
some v1
theorem Ce {n:Nat} {a0:List Span} {r:List Span} (h:Cm n a0=some r):Sound Try.prog 28 [.l (.d true 2 (encSpan a0))] [] (.l (.d false 2 (encSpan r))) []:=by
 unfold Cm at h
 refine Sound.of_aw (fn:=Try.f28) (c:=_) Try.func28 rfl (by simp[Try.f28]) fun cx hG hnb=>?_
 rw[show Try.f28.ntmps=5 from rfl]
 have hn0:cx.nb=0:=hnb
 simp only[At,initTm,List.map_cons,List.map_nil]
 apply AW.step
 ·simp
  intros;rfl
 replace h:=bnE h;obtain⟨v1,e1,h⟩:=h
 apply AW.step
 ·simp
  intros
  refine Ai GE (Ha e1) rfl ⟨.same rfl,.d _ _ _,.nil _ _,trivial⟩ ?_
  try simp
  intros;rfl
 obtain rfl:=oi h
 refine AW.ret ?_
 refine Left.plain hnb (by simp[Try.f28,resV,resC,comp];rfl) rfl rfl ?_
 simp
theorem BZ:Enters Try.prog 28:=enters Try.func28 (by kernel_rfl) rfl
def B9 (n:Nat) (a0:List Span) (a1:List Span):Option Bool :=
lt (lenI a0) fun v1 =>
lt (lenI a1) fun v2 =>
lt (neI v1 v2) fun v3 =>
ite' v3 (some false) (bn (iter n (fun (y4:Int) =>
lt (lenI a0) fun v7 =>
lt (ltI y4 v7) fun v8 =>
ite' v8 (bn (nth a0 y4) fun v9 =>
bn (nth a1 y4) fun v10 =>
lt (notB (andB (eqI v9.frm v10.frm) (andB (eqI v9.to v10.to) true))) fun v11 =>
ite' v11 (some (.inr (.inr false))) (lt (addI .i64 y4 1) fun v12 =>
some (.inl v12))) (some (.inr (.inl ())))) 0) fun (y5:Unit ⊕ Bool) =>
sm y5 (fun y13=>some true) (fun y14=>some y14))
theorem DS {n:Nat} {a0:List Span} {a1:List Span} {r:Bool} (h:B9 n a0 a1=some r):Sound Try.prog 27 [.l (.d false 2 (encSpan a0)),.l (.d false 2 (encSpan a1))] [] (.l (.s (.bool r))) []:=by
 unfold B9 at h
 refine Sound.of_aw (fn:=Try.f27) (c:=_) Try.func27 rfl (by simp[Try.f27]) fun cx hG hnb=>?_
 rw[show Try.f27.ntmps=26 from rfl]
 have hn0:cx.nb=0:=hnb
 simp only[At,initTm,List.map_cons,List.map_nil]
 apply AW.step
 ·simp
  intros;rfl
 refine AW.seq ?_
 replace h:=ltE h;obtain⟨v1,e1,h⟩:=h
 replace h:=ltE h;obtain⟨v2,e2,h⟩:=h
 replace h:=ltE h;obtain⟨v3,e3,h⟩:=h
 apply AW.step
 ·simp[Al e1,Al e2,← e3]
  intros;rfl
 cases v3 with
 |true =>
  replace h:=iteT rfl h
  refine AW.cond_true (by simp) ?_
  apply AW.step
  ·simp
   intros;rfl
  obtain rfl:=oi h
  refine AW.ret ?_
  refine Left.plain hnb (by simp[Try.f27,resV,resC,comp];rfl) rfl rfl ?_
  simp
 |false =>
  replace h:=iteF rfl h
  refine AW.cond_false (by simp) ?_
  refine AW.skip ?_
  try simp only[nm]
  refine AW.seq ?_
  apply AW.step
  ·simp
   intros;rfl
  refine AW.block ?_
  replace h:=bnE h;obtain⟨y5,g5,h⟩:=h
  refine AW.iterP g5 (mk:=fun gh ls q=>(⟨[(0,.l (.d false 2 (encSpan a0))),(1,.l (.d false 2 (encSpan a1))),(5,.l (.s (.int .i64 q)))],[],26,gh,ls⟩:St)) (N:=fun gh ls=>(sp (xP 0 (cx:=cx) (fun _=>(⟨[],[],26,gh,ls⟩:St))) (rP (cx:=cx) (P:=Try.prog) Try.f27 (fun q=>.l (.s (.bool q))) (fun q=>[])))) ?_ (noS noX noR) ?_ ?_
  ·refine Weak.mixN [] hn0 (by decide) ?_ ?_ rfl
   all_goals first|(simp[Ab,Ac,pickOb];done)|rfl
  ·clear h;intro y4 y6 h
   refine AW.seq ?_
   replace h:=ltE h;obtain⟨v7,e7,h⟩:=h
   replace h:=ltE h;obtain⟨v8,e8,h⟩:=h
   apply AW.step
   ·simp[Al e7,← e8]
    intros;rfl
   cases v8 with
   |true =>
    replace h:=iteT rfl h
    refine AW.cond_true (by simp) ?_
    refine AW.skip ?_
    try simp only[nm]
    refine AW.seq ?_
    refine AW.block ?_
    replace h:=bnE h;obtain⟨v9,e9,h⟩:=h
    replace h:=bnE h;obtain⟨v10,e10,h⟩:=h
    replace h:=ltE h;obtain⟨v11,e11,h⟩:=h
    apply AW.drawnP (V:=[_,_,_,_,_,_,_,_]) mixed [⟨[0],[],[(0,none)],false⟩,⟨[0],[],[(5,none)],false⟩,⟨[0],[0,1],[(17,some 0),(18,some 1)],false⟩,⟨[0],[0,1,2],[(19,some 2)],false⟩,⟨[0],[],[(1,none)],false⟩,⟨[0],[],[(5,none)],false⟩,⟨[0],[4,5],[(21,some 4),(22,some 5)],false⟩,⟨[0],[4,5,6],[(23,some 6)],false⟩,⟨[],[0,1,2,3,4,5,6,7],[],false⟩] 8 (by kernel_rfl) (by kernel_rfl)
    ·refine⟨?_,?_,?_,?_,?_,?_,?_,?_,trivial⟩
     iterate 8 (· intro tm hr;simp[AllL,rdV] at hr;simp[hr,Aa e9,Aa e10,← e11];intros;first|exact KD.mk|exact KD.mkN)
    ·rfl
    ·simp[tmD,putD,Aa e9,Aa e10,← e11];rfl
    ·simp[Aa e9,Aa e10,← e11]
     intros;rfl
    cases v11 with
    |true =>
     replace h:=iteT rfl h
     refine AW.cond_true (by simp) ?_
     apply AW.step
     ·simp
      intros;rfl
     obtain rfl:=oi h
     refine AW.ret ?_
     try simp only[nm]
     refine rP_i ?_
     refine Left.plain hnb (by simp[Try.f27,resV,resC,comp];rfl) rfl rfl ?_
     simp
    |false =>
     replace h:=iteF rfl h
     refine AW.cond_false (by simp) ?_
     refine AW.skip ?_
     try simp only[nm]
     replace h:=ltE h;obtain⟨v12,e12,h⟩:=h
     apply AW.last
     ·simp[← e12]
      intros;rfl
     obtain rfl:=oi h
     refine nP_i ?_
     refine Weak.mixN [] hn0 (by decide) ?_ ?_ rfl
     all_goals first|(simp[Ab,Ac,pickOb];done)|rfl
   |false =>
    replace h:=iteF rfl h
    refine AW.cond_false (by simp) ?_
    refine AW.exit ?_
    try simp only[nm]
    obtain rfl:=oi h
    try simp only[sp_l,sp_r]
    refine xP_i ?_
    refine Weak.mixN [] hn0 (by decide) ?_ ?_ rfl
    all_goals first|(simp[Ab,Ac,pickOb];done)|rfl
  ·rintro e s hp
   rcases y5 with y13|y14
   ·replace h:=smL h
    obtain⟨rfl,hw⟩:=hp
    refine⟨_,hw,?_⟩
    try simp only[nm]
    apply AW.step
    ·simp
     intros;rfl
    obtain rfl:=oi h
    refine AW.ret ?_
    refine Left.plain hnb (by simp[Try.f27,resV,resC,comp];rfl) rfl rfl ?_
    simp
   ·replace h:=smR h
    obtain⟨rfl,hl⟩:=hp
    refine⟨_,Weak.refl _,?_⟩
    obtain rfl:=oi h
    exact hl
theorem DF:Enters Try.prog 27:=enters Try.func27 (by kernel_rfl) rfl
def Dl (n:Nat) (a0:List Span):Option Int :=
bn (Cm n a0) fun v1 =>
bn (iter n (fun (y2:Int×Int) =>
lt (lenI v1) fun v5 =>
lt (ltI y2.2 v5) fun v6 =>
ite' v6 (bn (nth v1 y2.2) fun v7 =>
lt (addI .i64 y2.1 v7.to) fun v8 =>
lt (subI .i64 v8 v7.frm) fun v9 =>
lt (addI .i64 v9 1) fun v10 =>
lt (addI .i64 y2.2 1) fun v11 =>
some (.inl (v10,v11))) (some (.inr y2.1))) (0,0)) fun (y3:Int) =>
some y3
theorem E7 {n:Nat} {a0:List Span} {r:Int} (h:Dl n a0=some r):Sound Try.prog 26 [.l (.d true 2 (encSpan a0))] [] (.l (.s (.int .i64 r))) []:=by
 unfold Dl at h
 refine Sound.of_aw (fn:=Try.f26) (c:=_) Try.func26 rfl (by simp[Try.f26]) fun cx hG hnb=>?_
 rw[show Try.f26.ntmps=29 from rfl]
 have hn0:cx.nb=0:=hnb
 simp only[At,initTm,List.map_cons,List.map_nil]
 apply AW.step
 ·simp
  intros;rfl
 apply AW.step
 ·simp
  intros;rfl
 replace h:=bnE h;obtain⟨v1,e1,h⟩:=h
 apply AW.step
 ·simp
  intros
  refine Ai BZ (Ce e1) rfl ⟨.d _ _ _,trivial⟩ ?_
  try simp
  intros;rfl
 refine AW.seq ?_
 apply AW.step
 ·simp
  intros;rfl
 refine AW.block ?_
 replace h:=bnE h;obtain⟨y3,g3,h⟩:=h
 refine AW.iterP g3 (mk:=fun gh ls q=>(⟨[(3,.l (.s (.int .i64 q.1))),(4,.l (.d false 2 (encSpan v1))),(5,.l (.s (.int .i64 q.2)))],[],29,gh,ls⟩:St)) (N:=fun gh ls=>(xP 0 (cx:=cx) (fun q=>(⟨[(3,.l (.s (.int .i64 q)))],[],29,gh,ls⟩:St)))) ?_ noX ?_ ?_
 ·refine Weak.mixN [] hn0 (by decide) ?_ ?_ rfl
  all_goals first|(simp[Ab,Ac,pickOb];done)|rfl
 ·clear h;intro y2 y4 h
  refine AW.seq ?_
  replace h:=ltE h;obtain⟨v5,e5,h⟩:=h
  replace h:=ltE h;obtain⟨v6,e6,h⟩:=h
  apply AW.step
  ·simp[Al e5,← e6]
   intros;rfl
  cases v6 with
  |true =>
   replace h:=iteT rfl h
   refine AW.cond_true (by simp) ?_
   refine AW.skip ?_
   try simp only[nm]
   refine AW.seq ?_
   refine AW.block ?_
   replace h:=bnE h;obtain⟨v7,e7,h⟩:=h
   replace h:=ltE h;obtain⟨v8,e8,h⟩:=h
   replace h:=ltE h;obtain⟨v9,e9,h⟩:=h
   replace h:=ltE h;obtain⟨v10,e10,h⟩:=h
   apply AW.drawnR (V:=[_,_,_,_,_,_,_,_,_,_,_,_]) mixed DX5t2 12 (by kernel_rfl) (by kernel_rfl)
   ·refine⟨?_,?_,?_,?_,?_,?_,?_,?_,?_,?_,?_,?_,trivial⟩
    iterate 12 (· intro tm hr;simp[AllL,rdV] at hr;simp[hr,Aa e7,← e8,← e9,← e10];intros;first|exact KD.mk|exact KD.mkN)
   ·rfl
   ·simp[tmD,putD,Aa e7,← e8,← e9,← e10];rfl
   ·simp[Aa e7,← e8,← e9,← e10]
    intros;rfl
   try simp only[nm]
   replace h:=ltE h;obtain⟨v11,e11,h⟩:=h
   apply AW.last
   ·simp[← e11]
    intros;rfl
   obtain rfl:=oi h
   refine nP_i ?_
   refine Weak.mixN [] hn0 (by decide) ?_ ?_ rfl
   all_goals first|(simp[Ab,Ac,pickOb];done)|rfl
  |false =>
   replace h:=iteF rfl h
   refine AW.cond_false (by simp) ?_
   refine AW.exit ?_
   try simp only[nm]
   obtain rfl:=oi h
   refine xP_i ?_
   refine Weak.mixN [] hn0 (by decide) ?_ ?_ rfl
   all_goals first|(simp[Ab,Ac,pickOb];done)|rfl
 ·rintro e s hp
  obtain⟨rfl,hw⟩:=hp
  refine⟨_,hw,?_⟩
  try simp only[nm]
  apply AW.step
  ·simp
   intros;rfl
  obtain rfl:=oi h
  refine AW.ret ?_
  refine Left.plain hnb (by simp[Try.f26,resV,resC,comp];rfl) rfl rfl ?_
  simp
theorem EL:Enters Try.prog 26:=enters Try.func26 (by kernel_rfl) rfl
def Ca (n:Nat) (a0:List Int):Option Bool :=
lt (lenI a0) fun v1 =>
lt (gtI v1 60) fun v2 =>
ite' v2 (bn (CW n) fun v3 =>
some v3) (bn (Dd n a0) fun v4 =>
bn (iter n (fun (y5:Int×List Span) =>
lt (lenI v4) fun v8 =>
lt (ltI y5.1 v8) fun v9 =>
ite' v9 (bn (nth v4 y5.1) fun v10 =>
chk (room (y5.2.length+1) 16) <|
lt (y5.2++[(⟨v10.frm,v10.to⟩:Span)]) fun v12 =>
lt (addI .i64 y5.1 1) fun v13 =>
some (.inl (v13,v12))) (some (.inr y5.2))) (0,[])) fun (y6:List Span) =>
bn (BQ n v4) fun v14 =>
bn (iter n (fun (y15:Int×Int×List Span) =>
lt (ltI y15.2.1 8) fun v18 =>
ite' v18 (bn (B8 n v4 y15.2.1) fun v19 =>
bn (iter n (fun (y20:Bool×Int) =>
lt (lenI v14) fun v23 =>
lt (ltI y20.2 v23) fun v24 =>
ite' v24 (lt (y20.1) fun v25 =>
ite' v25 (lt (addI .i64 y20.2 1) fun v26 =>
some (.inl (true,v26))) (bn (nth v14 y20.2) fun v27 =>
lt (eqI v27 y15.2.1) fun v28 =>
lt (addI .i64 y20.2 1) fun v29 =>
some (.inl (v28,v29)))) (some (.inr y20.1))) (false,0)) fun (y21:Bool) =>
bn (lt (lenI v19) fun v31 =>
lt (gtI v31 0) fun v32 =>
lt (neB y21 v32) fun v33 =>
ite' v33 (some (true)) (bn (Cl n v19) fun v34 =>
lt (notB v34) fun v35 =>
some (v35))) fun (y30:Bool) =>
lt (y30) fun v36 =>
ite' v36 (some (.inr (.inr false))) (bn (CC n v19) fun v37 =>
lt (addI .i64 y15.1 v37) fun v38 =>
chk (room (y15.2.2.length+v19.length) 16) <|
lt (y15.2.2++v19) fun v40 =>
lt (addI .i64 y15.2.1 1) fun v41 =>
some (.inl (v38,v41,v40)))) (some (.inr (.inl (y15.1,y15.2.2))))) (0,0,[])) fun (y16:(Int×List Span) ⊕ Bool) =>
sm y16 (fun y42=>bn (chk (room y42.2.length 1) <|
bn (Cm n y42.2) fun v46 =>
chk (room y6.length 1) <|
bn (Cm n y6) fun v48 =>
bn (B9 n v46 v48) fun v49 =>
ite' v49 (chk (room y6.length 1) <|
bn (Dl n y6) fun v51 =>
lt (eqI y42.1 v51) fun v52 =>
ite' v52 (bn (CW n) fun v53 =>
some (v53)) (some (false))) (some (false))) fun (y44:Bool) =>
some y44) (fun y43=>some y43))
theorem Fi {n:Nat} {a0:List Int} {r:Bool} (h:Ca n a0=some r):Sound Try.prog 6 [.l (.d false 1 (encIu16 a0))] [] (.l (.s (.bool r))) []:=by
 unfold Ca at h
 refine Sound.of_aw (fn:=Try.f6) (c:=_) Try.func6 rfl (by simp[Try.f6]) fun cx hG hnb=>?_
 rw[show Try.f6.ntmps=94 from rfl]
 have hn0:cx.nb=0:=hnb
 simp only[At,initTm,List.map_cons,List.map_nil]
 apply AW.step
 ·simp
  intros;rfl
 refine AW.seq ?_
 replace h:=ltE h;obtain⟨v1,e1,h⟩:=h
 replace h:=ltE h;obtain⟨v2,e2,h⟩:=h
 apply AW.step
 ·simp[Al e1,← e2]
  intros;rfl
 cases v2 with
 |true =>
  replace h:=iteT rfl h
  refine AW.cond_true (by simp) ?_
  replace h:=bnE h;obtain⟨v3,e3,h⟩:=h
  apply AW.step
  ·simp
   intros
   refine Ai E5 (Fo e3) rfl trivial ?_
   try simp
   intros;rfl
  obtain rfl:=oi h
  refine AW.ret ?_
  refine Left.plain hnb (by simp[Try.f6,resV,resC,comp];rfl) rfl rfl ?_
  simp
 |false =>
  replace h:=iteF rfl h
  refine AW.cond_false (by simp) ?_
  refine AW.skip ?_
  try simp only[nm]
  replace h:=bnE h;obtain⟨v4,e4,h⟩:=h
  apply AW.step
  ·simp
   intros
   refine Ai Ho (H6 e4) rfl ⟨.same rfl,trivial⟩ ?_
   try simp
   intros;rfl
  apply AW.step
  ·simp
   intros;rfl
  apply AW.step
  ·simp
   intros;rfl
  refine AW.seq ?_
  apply AW.step
  ·simp
   intros;rfl
  refine AW.block ?_
  replace h:=bnE h;obtain⟨y6,g6,h⟩:=h
  refine AW.iterP g6 (mk:=fun gh ls q=>(⟨[(3,.l (.d false 4 (encClaim v4))),(4,.l (.s (.slice none 0 0))),(5,.l (.r 0 2 0 q.2.length)),(6,.l (.s (.int .i64 0))),(7,.l (.s (.int .i64 q.1)))],[some ⟨43,2,true,none,lvs (encSpan q.2)⟩],94,gh,ls⟩:St)) (N:=fun gh ls=>(xP 0 (cx:=cx) (fun q=>(⟨[(3,.l (.d false 4 (encClaim v4))),(4,.l (.s (.slice none 0 0))),(5,.l (.r 0 2 0 q.length)),(6,.l (.s (.int .i64 0)))],[some ⟨43,2,true,none,lvs (encSpan q)⟩],94,gh,ls⟩:St)))) ?_ noX ?_ ?_
  ·refine W.nilRow 5 43 2 0 (by simp) rfl rfl ?_
   refine Weak.mixN [some 0] hn0 (by decide) ?_ ?_ rfl
   all_goals first|(simp[Ab,Ac,pickOb];done)|rfl
  ·clear h;intro y5 y7 h
   refine AW.seq ?_
   replace h:=ltE h;obtain⟨v8,e8,h⟩:=h
   replace h:=ltE h;obtain⟨v9,e9,h⟩:=h
   apply AW.step
   ·simp[Al e8,← e9]
    intros;rfl
   cases v9 with
   |true =>
    replace h:=iteT rfl h
    refine AW.cond_true (by simp) ?_
    refine AW.skip ?_
    try simp only[nm]
    refine AW.seq ?_
    refine AW.block ?_
    replace h:=bnE h;obtain⟨v10,e10,h⟩:=h
    replace h:=chkE h;obtain⟨e11,h⟩:=h
    replace h:=ltE h;obtain⟨v12,e12,h⟩:=h
    apply AW.drawnF (V:=[_,_,_,_,_,_,_,_,_,_,_,_,_]) (M:=[[some ⟨43,2,true,none,lvs (encSpan y5.2)⟩],[some ⟨43,2,true,none,lvs (encSpan y5.2)⟩,some ⟨43,2,true,none,[.s (.int .i64 v10.frm),.s (.int .i64 v10.to)]⟩]]) mixed [⟨[0,1],[],[(5,none)],false⟩,⟨[0],[],[(3,none)],false⟩,⟨[0],[],[(7,none)],false⟩,⟨[0],[1,2],[(26,some 1),(27,some 2)],false⟩,⟨[0],[1,2,3],[(28,some 3)],false⟩,⟨[0],[1,2,3,4],[(29,some 4)],false⟩,⟨[0],[],[(3,none)],false⟩,⟨[0],[],[(7,none)],false⟩,⟨[0],[6,7],[(31,some 6),(32,some 7)],false⟩,⟨[0],[6,7,8],[(33,some 8)],false⟩,⟨[0],[6,7,8,9],[(34,some 9)],false⟩,⟨[0],[1,2,3,4,5,6,7,8,9,10],[(30,some 5),(35,some 10)],false⟩,⟨[0],[1,2,3,4,5,6,7,8,9,10,11],[(36,some 11)],true⟩,⟨[],[0,1,2,3,4,5,6,7,8,9,10,11,12],[],false⟩,⟨[],[0,1,2,3,4,5,6,7,8,9,10,11,12,13],[],false⟩] 13 1 (by kernel_rfl) (by kernel_rfl)
    ·rfl
    ·refine⟨⟨?_,?_⟩,?_,?_,?_,?_,?_,?_,?_,?_,?_,?_,?_,?_,trivial⟩
     iterate 13 (· intro tm hr;simp[AllL,rdV] at hr;simp[hr,Aa e10,← Ap,← e12,Ax e12];intros;first|exact KD.mk|exact KD.mkN)
     ·intro tm hr
      simp[AllL,rdV] at hr
      simp[hr,Aa e10,← Ap,← e12,Ax e12]
      intros
      refine Bu ?_
      try simp[Aa e10,← Ap,← e12,Ax e12]
      intros;first|exact KD.mk|exact KD.mkN
    ·rfl
    ·simp[tmD,putD,Aa e10,← Ap,← e12,Ax e12];rfl
    ·simp[Aa e10,← Ap,← e12,Ax e12]
     intros
     refine Br (acc:=encSpan y5.2) (ys:=encSpan [(⟨v10.frm,v10.to⟩:Span)]) (cap:=none) (k:=1) Dv Du (by simp) (by simp[encSpan,lvs]) (AP _) (by simp) (by simp) (by first|(simp;done)|simpa using (Av e11).1) ?_
     try simp[Aa e10,← Ap,← e12,Ax e12]
     intros;rfl
    try simp only[nm]
    replace h:=ltE h;obtain⟨v13,e13,h⟩:=h
    apply AW.last
    ·simp[← e13]
     intros;rfl
    obtain rfl:=oi h
    refine nP_i ?_
    refine Weak.mixN [some 2] hn0 (by decide) ?_ ?_ rfl
    all_goals first|(simp[Ab,Ac,pickOb,Bk];done)|rfl
   |false =>
    replace h:=iteF rfl h
    refine AW.cond_false (by simp) ?_
    refine AW.exit ?_
    try simp only[nm]
    obtain rfl:=oi h
    refine xP_i ?_
    refine Weak.mixN [some 0] hn0 (by decide) ?_ ?_ rfl
    all_goals first|(simp[Ab,Ac,pickOb];done)|rfl
  ·rintro e s hp
   obtain⟨rfl,hw⟩:=hp
   refine⟨_,hw,?_⟩
   try simp only[nm]
   replace h:=bnE h;obtain⟨v14,e14,h⟩:=h
   apply AW.step
   ·simp
    intros
    refine Ai Fh (FC e14) rfl ⟨.same rfl,trivial⟩ ?_
    try simp
    intros;rfl
   refine AW.seq ?_
   apply AW.step
   ·simp
    intros;rfl
   refine AW.block ?_
   replace h:=bnE h;obtain⟨y16,g16,h⟩:=h
   refine AW.iterP g16 (mk:=fun gh ls q=>(⟨[(3,.l (.d false 4 (encClaim v4))),(4,.l (.r 0 2 0 q.2.2.length)),(5,.l (.r 1 2 0 y6.length)),(6,.l (.s (.int .i64 q.1))),(8,.l (.d false 1 (encI v14))),(9,.l (.s (.int .i64 q.2.1)))],[some ⟨43,2,true,none,lvs (encSpan q.2.2)⟩,some ⟨43,2,true,none,lvs (encSpan y6)⟩],94,gh,ls⟩:St)) (N:=fun gh ls=>(sp (xP 2 (cx:=cx) (fun q=>(⟨[(4,.l (.r 0 2 0 q.2.length)),(5,.l (.r 1 2 0 y6.length)),(6,.l (.s (.int .i64 q.1)))],[some ⟨43,2,true,none,lvs (encSpan q.2)⟩,some ⟨43,2,true,none,lvs (encSpan y6)⟩],94,gh,ls⟩:St))) (rP (cx:=cx) (P:=Try.prog) Try.f6 (fun q=>.l (.s (.bool q))) (fun q=>[])))) ?_ (noS noX noR) ?_ ?_
   ·refine W.nilRow 4 43 2 1 (by simp) rfl rfl ?_
    refine Weak.mixN [some 1,some 0] hn0 (by decide) ?_ ?_ rfl
    all_goals first|(simp[Ab,Ac,pickOb];done)|rfl
   ·clear h;intro y15 y17 h
    refine AW.seq ?_
    replace h:=ltE h;obtain⟨v18,e18,h⟩:=h
    apply AW.step
    ·simp[← e18]
     intros;rfl
    cases v18 with
    |true =>
     replace h:=iteT rfl h
     refine AW.cond_true (by simp) ?_
     refine AW.skip ?_
     try simp only[nm]
     refine AW.seq ?_
     refine AW.block ?_
     replace h:=bnE h;obtain⟨v19,e19,h⟩:=h
     apply AW.step
     ·simp
      intros
      refine Ai FS (F6 e19) rfl ⟨.same rfl,.same rfl,trivial⟩ ?_
      try simp
      intros;rfl
     apply AW.step
     ·simp
      intros;rfl
     refine AW.seq ?_
     apply AW.step
     ·simp
      intros;rfl
     refine AW.block ?_
     replace h:=bnE h;obtain⟨y21,g21,h⟩:=h
     refine AW.iterP g21 (mk:=fun gh ls q=>(⟨[(3,.l (.d false 4 (encClaim v4))),(4,.l (.r 0 2 0 y15.2.2.length)),(5,.l (.r 1 2 0 y6.length)),(6,.l (.s (.int .i64 y15.1))),(8,.l (.d false 1 (encI v14))),(9,.l (.s (.int .i64 y15.2.1))),(10,.l (.d false 2 (encSpan v19))),(11,.l (.s (.bool q.1))),(12,.l (.s (.int .i64 q.2)))],[some ⟨43,2,true,none,lvs (encSpan y15.2.2)⟩,some ⟨43,2,true,none,lvs (encSpan y6)⟩],94,gh,ls⟩:St)) (N:=fun gh ls=>(xP 4 (cx:=cx) (fun q=>(⟨[(3,.l (.d false 4 (encClaim v4))),(4,.l (.r 0 2 0 y15.2.2.length)),(5,.l (.r 1 2 0 y6.length)),(6,.l (.s (.int .i64 y15.1))),(8,.l (.d false 1 (encI v14))),(9,.l (.s (.int .i64 y15.2.1))),(10,.l (.d false 2 (encSpan v19))),(11,.l (.s (.bool q)))],[some ⟨43,2,true,none,lvs (encSpan y15.2.2)⟩,some ⟨43,2,true,none,lvs (encSpan y6)⟩],94,gh,ls⟩:St)))) ?_ noX ?_ ?_
     ·refine Weak.mixN [some 0,some 1] hn0 (by decide) ?_ ?_ rfl
      all_goals first|(simp[Ab,Ac,pickOb];done)|rfl
     ·clear h;intro y20 y22 h
      refine AW.seq ?_
      replace h:=ltE h;obtain⟨v23,e23,h⟩:=h
      replace h:=ltE h;obtain⟨v24,e24,h⟩:=h
      apply AW.step
      ·simp[Al e23,← e24]
       intros;rfl
      cases v24 with
      |true =>
       replace h:=iteT rfl h
       refine AW.cond_true (by simp) ?_
       refine AW.skip ?_
       try simp only[nm]
       refine AW.seq ?_
       refine AW.block ?_
       replace h:=ltE h;obtain⟨v25,e25,h⟩:=h
       cases v25 with
       |true =>
        replace h:=iteT rfl h
        apply AW.last
        ·simp[← e25]
         intros;rfl
        try simp only[nm]
        replace h:=ltE h;obtain⟨v26,e26,h⟩:=h
        apply AW.last
        ·simp[← e26]
         intros;rfl
        obtain rfl:=oi h
        refine nP_i ?_
        refine Weak.mixN [some 0,some 1] hn0 (by decide) ?_ ?_ rfl
        all_goals first|(simp[Ab,Ac,pickOb];done)|rfl
       |false =>
        replace h:=iteF rfl h
        replace h:=bnE h;obtain⟨v27,e27,h⟩:=h
        replace h:=ltE h;obtain⟨v28,e28,h⟩:=h
        apply AW.last
        ·simp[← e25,Aa e27,← e28]
         intros;rfl
        try simp only[nm]
        replace h:=ltE h;obtain⟨v29,e29,h⟩:=h
        apply AW.last
        ·simp[← e29]
         intros;rfl
        obtain rfl:=oi h
        refine nP_i ?_
        refine Weak.mixN [some 0,some 1] hn0 (by decide) ?_ ?_ rfl
        all_goals first|(simp[Ab,Ac,pickOb];done)|rfl
      |false =>
       replace h:=iteF rfl h
       refine AW.cond_false (by simp) ?_
       refine AW.exit ?_
       try simp only[nm]
       obtain rfl:=oi h
       refine xP_i ?_
       refine Weak.mixN [some 0,some 1] hn0 (by decide) ?_ ?_ rfl
       all_goals first|(simp[Ab,Ac,pickOb];done)|rfl
     ·rintro e s hp
      obtain⟨rfl,hw⟩:=hp
      refine⟨_,hw,?_⟩
      try simp only[nm]
      refine AW.seq ?_
      replace h:=bnE h;obtain⟨y30,g30,h⟩:=h
      refine AW.flow (p:=fun gh ls=>(nP (cx:=cx) (fun q=>(⟨[(3,.l (.d false 4 (encClaim v4))),(4,.l (.r 0 2 0 y15.2.2.length)),(5,.l (.r 1 2 0 y6.length)),(6,.l (.s (.int .i64 y15.1))),(8,.l (.d false 1 (encI v14))),(9,.l (.s (.int .i64 y15.2.1))),(10,.l (.d false 2 (encSpan v19))),(72,.l (.s (.bool q)))],[some ⟨43,2,true,none,lvs (encSpan y15.2.2)⟩,some ⟨43,2,true,none,lvs (encSpan y6)⟩],94,gh,ls⟩:St))) y30) ?_ ?_
      ·replace h:=g30;clear g30
       replace h:=ltE h;obtain⟨v31,e31,h⟩:=h
       replace h:=ltE h;obtain⟨v32,e32,h⟩:=h
       replace h:=ltE h;obtain⟨v33,e33,h⟩:=h
       cases v33 with
       |true =>
        replace h:=iteT rfl h
        apply AW.last
        ·simp[Al e31,← e32,← e33]
         intros;rfl
        obtain rfl:=oi h
        refine nP_i ?_
        refine Weak.mixN [some 0,some 1] hn0 (by decide) ?_ ?_ rfl
        all_goals first|(simp[Ab,Ac,pickOb];done)|rfl
       |false =>
        replace h:=iteF rfl h
        replace h:=bnE h;obtain⟨v34,e34,h⟩:=h
        replace h:=ltE h;obtain⟨v35,e35,h⟩:=h
        apply AW.last
        ·simp[Al e31,← e32,← e33,← e35]
         intros
         refine Ai F7 (GC e34) rfl ⟨.same rfl,trivial⟩ ?_
         try simp[Al e31,← e32,← e33,← e35]
         intros;rfl
        obtain rfl:=oi h
        refine nP_i ?_
        refine Weak.mixN [some 0,some 1] hn0 (by decide) ?_ ?_ rfl
        all_goals first|(simp[Ab,Ac,pickOb];done)|rfl
      ·rintro e s hp
       obtain⟨rfl,hw⟩:=hp
       refine⟨_,hw,?_⟩
       try simp only[nm]
       replace h:=ltE h;obtain⟨v36,e36,h⟩:=h
       rw[← e36]
       cases v36 with
       |true =>
        replace h:=iteT rfl h
        refine AW.cond_true (by simp) ?_
        apply AW.step
        ·simp
         intros;rfl
        obtain rfl:=oi h
        refine AW.ret ?_
        try simp only[nm]
        refine rP_i ?_
        refine Left.plain hnb (by simp[Try.f6,resV,resC,comp];rfl) rfl rfl ?_
        simp
       |false =>
        replace h:=iteF rfl h
        refine AW.cond_false (by simp) ?_
        refine AW.skip ?_
        try simp only[nm]
        replace h:=bnE h;obtain⟨v37,e37,h⟩:=h
        replace h:=ltE h;obtain⟨v38,e38,h⟩:=h
        apply AW.step
        ·simp[← e38]
         intros
         refine Ai Hx (Ie e37) rfl ⟨.same rfl,trivial⟩ ?_
         try simp[← e38]
         intros;rfl
        replace h:=chkE h;obtain⟨e39,h⟩:=h
        replace h:=ltE h;obtain⟨v40,e40,h⟩:=h
        apply AW.last
        ·simp[← Ap,← e40,Fb e40]
         intros
         refine Br (acc:=encSpan y15.2.2) (ys:=encSpan v19) (cap:=none) (k:=v19.length) Dv Du (by simp) (by rw[HX];simp) (AP _) (by simp) (by simp) (by first|(simp;done)|simpa using (Av e39).1) ?_
         try simp[← Ap,← e40,Fb e40]
         intros;rfl
        try simp only[nm]
        replace h:=ltE h;obtain⟨v41,e41,h⟩:=h
        apply AW.last
        ·simp[← e41]
         intros;rfl
        obtain rfl:=oi h
        refine nP_i ?_
        refine Weak.mixN [some 2,some 1] hn0 (by decide) ?_ ?_ rfl
        all_goals first|(simp[Ab,Ac,pickOb];done)|rfl
    |false =>
     replace h:=iteF rfl h
     refine AW.cond_false (by simp) ?_
     refine AW.exit ?_
     try simp only[nm]
     obtain rfl:=oi h
     try simp only[sp_l,sp_r]
     refine xP_i ?_
     refine Weak.mixN [some 0,some 1] hn0 (by decide) ?_ ?_ rfl
     all_goals first|(simp[Ab,Ac,pickOb];done)|rfl
   ·rintro e s hp
    rcases y16 with y42|y43
    ·replace h:=smL h
     obtain⟨rfl,hw⟩:=hp
     refine⟨_,hw,?_⟩
     try simp only[nm]
     replace h:=bnE h;obtain⟨y44,g44,h⟩:=h
     refine AW.flow (p:=fun gh ls=>(nP (cx:=cx) (fun q=>(⟨[(2,.l (.s (.bool q)))],[],94,gh,ls⟩:St))) y44) ?_ ?_
     ·replace h:=g44;clear g44
      replace h:=chkE h;obtain⟨e45,h⟩:=h
      replace h:=bnE h;obtain⟨v46,e46,h⟩:=h
      replace h:=chkE h;obtain⟨e47,h⟩:=h
      replace h:=bnE h;obtain⟨v48,e48,h⟩:=h
      replace h:=bnE h;obtain⟨v49,e49,h⟩:=h
      cases v49 with
      |true =>
       replace h:=iteT rfl h
       replace h:=chkE h;obtain⟨e50,h⟩:=h
       replace h:=bnE h;obtain⟨v51,e51,h⟩:=h
       replace h:=ltE h;obtain⟨v52,e52,h⟩:=h
       cases v52 with
       |true =>
        replace h:=iteT rfl h
        replace h:=bnE h;obtain⟨v53,e53,h⟩:=h
        apply AW.last
        ·simp[← e52]
         intros
         refine Ai BZ (Ce e46) rfl ⟨.rowd (by simp) rfl (by omega) (AP _) (by simp) (by first|exact (Av e45).2|simpa using (Av e45).2|simp),trivial⟩ ?_
         try simp[← e52]
         intros
         refine Ai BZ (Ce e48) rfl ⟨.rowd (by simp) rfl (by omega) (AP _) (by simp) (by first|exact (Av e47).2|simpa using (Av e47).2|simp),trivial⟩ ?_
         try simp[← e52]
         intros
         refine Ai DF (DS e49) rfl ⟨.same rfl,.same rfl,trivial⟩ ?_
         try simp[← e52]
         intros
         refine Ai EL (E7 e51) rfl ⟨.rowd (by simp) rfl (by omega) (AP _) (by simp) (by first|exact (Av e50).2|simpa using (Av e50).2|simp),trivial⟩ ?_
         try simp[← e52]
         intros
         refine Ai E5 (Fo e53) rfl trivial ?_
         try simp[← e52]
         intros;rfl
        obtain rfl:=oi h
        refine nP_i ?_
        refine Weak.mixN [] hn0 (by decide) ?_ ?_ rfl
        all_goals first|(simp[Ab,Ac,pickOb];done)|rfl
       |false =>
        replace h:=iteF rfl h
        apply AW.last
        ·simp[← e52]
         intros
         refine Ai BZ (Ce e46) rfl ⟨.rowd (by simp) rfl (by omega) (AP _) (by simp) (by first|exact (Av e45).2|simpa using (Av e45).2|simp),trivial⟩ ?_
         try simp[← e52]
         intros
         refine Ai BZ (Ce e48) rfl ⟨.rowd (by simp) rfl (by omega) (AP _) (by simp) (by first|exact (Av e47).2|simpa using (Av e47).2|simp),trivial⟩ ?_
         try simp[← e52]
         intros
         refine Ai DF (DS e49) rfl ⟨.same rfl,.same rfl,trivial⟩ ?_
         try simp[← e52]
         intros
         refine Ai EL (E7 e51) rfl ⟨.rowd (by simp) rfl (by omega) (AP _) (by simp) (by first|exact (Av e50).2|simpa using (Av e50).2|simp),trivial⟩ ?_
         try simp[← e52]
         intros;rfl
        obtain rfl:=oi h
        refine nP_i ?_
        refine Weak.mixN [] hn0 (by decide) ?_ ?_ rfl
        all_goals first|(simp[Ab,Ac,pickOb];done)|rfl
      |false =>
       replace h:=iteF rfl h
       apply AW.last
       ·simp
        intros
        refine Ai BZ (Ce e46) rfl ⟨.rowd (by simp) rfl (by omega) (AP _) (by simp) (by first|exact (Av e45).2|simpa using (Av e45).2|simp),trivial⟩ ?_
        try simp
        intros
        refine Ai BZ (Ce e48) rfl ⟨.rowd (by simp) rfl (by omega) (AP _) (by simp) (by first|exact (Av e47).2|simpa using (Av e47).2|simp),trivial⟩ ?_
        try simp
        intros
        refine Ai DF (DS e49) rfl ⟨.same rfl,.same rfl,trivial⟩ ?_
        try simp
        intros;rfl
       obtain rfl:=oi h
       refine nP_i ?_
       refine Weak.mixN [] hn0 (by decide) ?_ ?_ rfl
       all_goals first|(simp[Ab,Ac,pickOb];done)|rfl
     ·rintro e s hp
      obtain⟨rfl,hw⟩:=hp
      refine⟨_,hw,?_⟩
      try simp only[nm]
      obtain rfl:=oi h
      refine AW.ret ?_
      refine Left.plain hnb (by simp[Try.f6,resV,resC,comp];rfl) rfl rfl ?_
      simp
    ·replace h:=smR h
     obtain⟨rfl,hl⟩:=hp
     refine⟨_,Weak.refl _,?_⟩
     obtain rfl:=oi h
     exact hl
end Go.Proofs.Ythjenkmbbnjcnaa
namespace Go.Proofs.Ythjenkmbbnjcnaa
open Go Go.RowKit
def cntP (p:Int→Prop) [DecidablePred p]:Nat:=(List.range 16384).countP fun k:Nat=>decide (p (k:Int))
theorem IM (p q:Int→Prop) [DecidablePred p] [DecidablePred q] (h:∀ s,p s→¬ q s):cntP (fun s=>p s∨q s)=cntP p+cntP q:=by
 unfold cntP
 have:∀ l:List Nat,l.countP (fun k:Nat=>decide (p (k:Int)∨q (k:Int)))=l.countP (fun k:Nat=>decide (p (k:Int)))+l.countP fun k:Nat=>decide (q (k:Int)):=by
  intro l
  induction l with
  |nil=>rfl
  |cons x l ih =>
   rw[List.countP_cons,List.countP_cons,List.countP_cons,ih]
   by_cases h1:p (x:Int)
   ·simp[h1,h _ h1]
    omega
   ·by_cases h2:q (x:Int) <;> simp[h1,h2]
    omega
 exact this _
theorem Eb (p q:Int→Prop) [DecidablePred p] [DecidablePred q] (h:∀ s,p s↔q s):cntP p=cntP q:=by
 unfold cntP
 congr 1
 funext k
 exact decide_eq_decide.2 (h _)
theorem Hb (p:Int→Prop) [DecidablePred p] (h:∀ s,¬ p s):cntP p=0:=by
 unfold cntP
 rw[List.countP_eq_zero]
 intro a _
 simp[h]
theorem Ja {a b:Nat} (h1:a≤b) (h2:b<16384):cntP (fun s=>(a:Int)≤s∧s≤(b:Int))=b - a+1:=by
 unfold cntP
 have:∀ n,(List.range n).countP (fun k:Nat=>decide ((a:Int)≤(k:Int)∧(k:Int)≤(b:Int)))=min n (b+1) - min n a:=by
  intro n
  induction n with
  |zero=>simp
  |succ n ih =>
   rw[List.range_succ,List.countP_append,ih,List.countP_singleton]
   split
   ·rename_i h
    have:=of_decide_eq_true h
    omega
   ·rename_i h
    have:¬ ((a:Int)≤(n:Int)∧(n:Int)≤(b:Int)):=fun h'=>h (decide_eq_true h')
    omega
 rw[this]
 omega
def sumS (l:List Span):Int:=(l.map fun x=>x.to - x.frm+1).sum
theorem HP:∀ {l:List Span},canP (l.map sP)→(∀ x∈l,0≤x.frm∧x.frm≤x.to∧x.to≤16383)→sumS l=(cntP (fun s=>∃ x∈l,x.frm≤s∧s≤x.to):Nat)
 |[],_,_=>by
  rw[Hb _ (by simp)]
  rfl
 |x::l,hc,hr=>by
  have hx:=hr x (by simp)
  have ih:=HP (l:=l) (canP.tail (p:=sP x) hc) fun y hy=>hr y (by simp[hy])
  have hlt:∀ y∈l,x.to<y.frm:=fun y hy=>canP.lt (p:=sP x) hc (sP y) (List.mem_map_of_mem hy)
  rw[Eb _ (fun s=>(x.frm≤s∧s≤x.to)∨∃ y∈l,y.frm≤s∧s≤y.to) (fun s=>by simp),IM _ _ (fun s h1 h2=>by
   obtain⟨y,hy,h3⟩:=h2
   have:=hlt y hy
   omega)]
  have e:=Ja (a:=x.frm.toNat) (b:=x.to.toNat) (by omega) (by omega)
  rw[Eb _ (fun s=>x.frm≤s∧s≤x.to) (fun s=>by omega)] at e
  rw[e]
  simp only[sumS,List.map_cons,List.sum_cons] at ih ⊢
  omega
theorem SaysS.cnt {l:List Span} {p:Int→Prop} [DecidablePred p] (h:SaysS l p) (hp:∀ s,p s→0≤s∧s≤16383):sumS l=(cntP p:Nat):=by
 rw[HP h.1 (h.rng hp),Eb _ p h.iff]
theorem normRT:@Cm=@B5:=rfl
theorem countRT:@Dl=@CC:=rfl
theorem FD {l:List Span} (hl:l.length≤10000):Rn (B5 big l) fun r=>SaysS r (inS l)∧r.length≤2+2*l.length:=HN hl
theorem Hc {l:List Span} (hl:l.length≤10000):Rn (CC big l) fun n=>n=(cntP (inS l):Nat):=by
 unfold CC
 refine Rn.bn (FD hl) fun v hv=>?_
 obtain⟨h1,h2⟩:=hv
 have hr:=h1.rng DN
 rw[← h1.cnt DN]
 refine Rn.bn (P:=fun n=>n=sumS v) (Rn.iter _ (fun j y=>y=(sumS (v.take j),(j:Int))∧0≤sumS (v.take j)∧sumS (v.take j)≤16384*j) v.length (by unfold big;omega) ⟨rfl,by simp[sumS],by simp[sumS]⟩ fun j y hj hI=>?_) fun n h=>Rn.some h
 obtain⟨rfl,b1,b2⟩:=hI
 refine Rn.lt (Rn.lt (Rn.ite (fun hd=>?_) fun hd=>?_))
 ·have hjl:j<v.length:=by
   have:=of_decide_eq_true (p:=((j:Int)<(v.length:Int))) hd
   omega
  have hx:=hr _ (List.getElem_mem hjl)
  have es:sumS (v.take (j+1))=sumS (v.take j)+(v[j].to - v[j].frm+1):=by
   unfold sumS
   rw[← List.take_append_getElem hjl,List.map_append,List.sum_append]
   simp
  refine Rn.bnE (AM hjl) (Rn.lt (Rn.lt (Rn.lt (Rn.lt (Rn.some ⟨hjl,?_,by rw[es];omega,by rw[es];omega⟩)))))
  simp only[]
  rw[es,Am (a:=sumS (v.take j)) (by omega) (by omega),Ao (a:=sumS (v.take j)+v[j].to) (by omega) (by omega),Am (a:=sumS (v.take j)+v[j].to - v[j].frm) (by omega) (by omega),Am (show -9223372036854775808≤(j:Int)+1 by omega) (by omega)]
  refine Prod.ext ?_ rfl
  simp only
  omega
 ·have hjl:j=v.length:=by
   have:=of_decide_eq_false (p:=((j:Int)<(v.length:Int))) hd
   omega
  subst hjl
  exact Rn.some (by show sumS _=_;rw[List.take_length])
theorem If (l:List Span) (hl:l.length≤1000000):B9 big l l=some true:=by
 refine Rn.eqv ?_
 unfold B9
 refine Rn.lt (Rn.lt (Rn.lt (Rn.ite (fun h=>?_) fun _=>?_)))
 ·simp[neI] at h
 refine Rn.bn (P:=fun y=>y=.inl ()) (Rn.iter _ (fun j a=>a=(j:Int)) l.length (by unfold big;omega) rfl fun j a hj hI=>?_) fun y hy=>?_
 ·subst hI
  refine Rn.lt (Rn.lt (Rn.ite (fun hd=>?_) fun hd=>Rn.some rfl))
  have hjl:j<l.length:=by
   have:=of_decide_eq_true (p:=((j:Int)<(l.length:Int))) hd
   omega
  refine Rn.bnE (AM hjl) (Rn.bnE (AM hjl) (Rn.lt (Rn.ite (fun h=>?_) fun _=>Rn.lt (Rn.some ⟨hjl,?_⟩))))
  ·simp[notB,andB,eqI] at h
  ·rw[Am (by omega) (by omega)]
   rfl
 ·subst hy
  exact Rn.some rfl
theorem J5:∀ {a b:Span},sP a=sP b→a=b:=by
 intro a b h
 obtain⟨a1,a2⟩:=a
 obtain⟨b1,b2⟩:=b
 simp[sP] at h
 obtain⟨h1,h2⟩:=h
 subst h1 h2
 rfl
theorem SaysS.ext {l m:List Span} {p q:Int→Prop} [DecidablePred p] [DecidablePred q] (hl:SaysS l p) (hm:SaysS m q) (h:∀ s,p s↔q s):l=m :=
 F1 (f:=sP) J5 (FinP.ext hl hm fun s=>by unfold fS;simp only[h s])
theorem Hz {l:List Span} {p:Int→Prop} [DecidablePred p] (h:SaysS l p) (hp:∀ s,p s→0≤s∧s≤16383):Cl big l=some true:=by
 refine Rn.eqv ?_
 have hlen:=h.len hp
 have hr:=h.rng hp
 have hcanl:=h.1
 unfold Cl
 refine Rn.bn (P:=fun y=>y=.inl ()) (Rn.iter _ (fun j a=>a=(j:Int)) l.length (by unfold big;omega) rfl fun j a hj hI=>?_) fun y hy=>?_
 ·subst hI
  refine Rn.lt (Rn.lt (Rn.ite (fun hd=>?_) fun hd=>Rn.some rfl))
  have hjl:j<l.length:=by
   have:=of_decide_eq_true (p:=((j:Int)<(l.length:Int))) hd
   omega
  have hx:=hr _ (List.getElem_mem hjl)
  refine Rn.bnE (v:=false) ?_ (Rn.lt (Rn.ite (fun h=>by simp at h) fun _=>Rn.lt (Rn.some ⟨hjl,?_⟩)))
  ·refine Rn.eqv (Rn.bnE (AM hjl) (Rn.lt (Rn.ite (fun h=>?_) fun _=>Rn.lt (Rn.ite (fun h=>?_) fun _=>Rn.lt (Rn.ite (fun h=>?_) fun _=>Rn.lt (Rn.ite (fun h=>?_) fun _=>Rn.some rfl))))))
   ·have:=of_decide_eq_true h
    omega
   ·have:=of_decide_eq_true h
    omega
   ·have:=of_decide_eq_true (p:=(16384:Int)≤l[j].to) h
    omega
   ·have hj0:0<j:=by
     have:=of_decide_eq_true (p:=(0:Int)<(j:Int)) h
     omega
    have hj1:j - 1<l.length:=by omega
    refine Rn.lt ?_
    rw[Ao (by omega) (by omega),show (j:Int) - 1=((j - 1:Nat):Int) by omega]
    have hy:=hr _ (List.getElem_mem hj1)
    refine Rn.bnE (AM hj1) (Rn.lt (Rn.lt (Rn.some ?_)))
    rw[Am (by omega) (by omega)]
    have hcan:∀ (l:List Span),canP (l.map sP)→∀ i (h1:i<l.length) (h2:i+1<l.length),l[i].to+1<l[i+1].frm:=by
     intro l
     induction l with
     |nil=>intro _ i h1;simp at h1
     |cons x l ih =>
      intro hc i h1 h2
      cases i with
      |zero =>
       cases l with
       |nil=>simp at h2
       |cons y l =>
        have c1:x.to<y.frm:=hc.2.1
        have c2:¬ (x.to+1=y.frm∧()=()):=hc.2.2.1
        have c3:x.to+1≠y.frm:=fun e=>c2 ⟨e,rfl⟩
        show x.to+1<y.frm
        omega
      |succ i=>exact ih (canP.tail (p:=sP x) hc) i (by simpa using h1) (by simpa using h2)
    have:=hcan l hcanl (j - 1) hj1 (by omega)
    have e:j - 1+1=j:=by omega
    simp only[e] at this
    exact le_f this
  ·rw[Am (by omega) (by omega)]
   rfl
 ·subst hy
  exact Rn.some rfl
theorem E8 (x:Int):∀ l:List Int,x∈compL l↔x∈l
 |[]=>by simp[compL]
 |[a]=>by simp[compL]
 |a::b::t=>by
  have ih:=E8 x (b::t)
  simp only[compL]
  split
  ·rename_i h
   subst h
   rw[ih]
   simp
  ·rw[List.mem_cons,ih,List.mem_cons (a:=x) (b:=a)]
theorem Fq:∀ {l:List Int},l.Pairwise (·≤·)→(compL l).Pairwise (·<·)
 |[],_=>List.Pairwise.nil
 |[a],_=>List.pairwise_singleton _ _
 |a::b::t,h=>by
  have ih:=Fq (l:=b::t) (List.pairwise_cons.1 h).2
  simp only[compL]
  split
  ·exact ih
  ·rename_i hne
   refine List.pairwise_cons.2 ⟨fun x hx=>?_,ih⟩
   have hab:=(List.pairwise_cons.1 h).1 b (by simp)
   rcases List.mem_cons.1 ((E8 x (b::t)).1 hx) with rfl|hx2
   ·omega
   ·have:=(List.pairwise_cons.1 (List.pairwise_cons.1 h).2).1 x hx2
    omega
theorem Jb {l:List Int} (hl:l.length≤sortMost):Rn (BN big l) fun r=>r.Perm l∧r.Pairwise (·≤·):=by
 unfold BN
 refine Rn.lt (Rn.lt ?_)
 obtain⟨v,ev,v0,v1,-⟩:=IK (n:=l.length) (by unfold sortMost at hl;omega)
 refine Rn.bnE ev (Rn.bn (P:=fun r=>RP 0 l.length l r∧SortedI r 0 l.length) ?_ fun r hr=>Rn.chk (by simp[lenB,hr.1.len]) (Rn.some ⟨hr.1.perm,?_⟩))
 ·exact JF big (l:=l) (a:=0) (b:=l.length) (lim:=v) (by unfold big;unfold sortMost at hl;omega) (Nat.zero_le _) (Nat.le_refl _) hl (fun h=>by omega) v0 v1
 ·have h2:=hr.2
  rw[← hr.1.len] at h2
  refine List.pairwise_iff_getElem.2 fun i j hi hj hij=>?_
  have:=h2 i j (Nat.zero_le _) hij hj
  unfold ksI keyI at this
  rw[List.getD_eq_getElem?_getD,List.getD_eq_getElem?_getD,List.getElem?_eq_getElem hi,List.getElem?_eq_getElem hj] at this
  exact this
theorem Ig {l:List Claim} (hl:l.length≤sortMost):Rn (BQ big l) fun r=>r.Pairwise (·<·)∧(∀ x,x∈r↔∃ c∈l,c.node=x)∧r.length≤1000:=by
 have hl':=hl
 unfold sortMost at hl'
 unfold BQ
 refine Rn.lt (Rn.bn (P:=fun r=>r=l.map (·.node)) (Rn.iter _ (fun j y=>y=((j:Int),(l.take j).map (·.node))) l.length (by unfold big;omega) rfl fun j y hj hI=>?_) fun r hr=>?_)
 ·subst hI
  refine Rn.lt (Rn.ite (fun hd=>?_) fun hd=>?_)
  ·have hjl:j<l.length:=by
    have:=of_decide_eq_true (p:=((j:Int)<(l.length:Int))) hd
    omega
   refine Rn.bnE (AM hjl) (Rn.chk (by simp[room];omega) (Rn.lt (Rn.lt (Rn.some ⟨hjl,?_⟩))))
   rw[Am (by first|omega|(simp only;omega)) (by first|omega|(simp only;omega)),← List.take_append_getElem hjl,List.map_append]
   rfl
  ·have hjl:j=l.length:=by
    have:=of_decide_eq_false (p:=((j:Int)<(l.length:Int))) hd
    omega
   subst hjl
   exact Rn.some (by show _=_;rw[List.take_length])
 ·subst hr
  refine Rn.bn (Jb (by simpa using hl)) fun v hv=>?_
  obtain⟨h1,h2⟩:=hv
  have hvl:v.length=l.length:=by rw[h1.length_eq,List.length_map]
  have hc:(compL v).length≤v.length:=by
   have:∀ l:List Int,(compL l).length≤l.length:=by
    intro l
    induction l using compL.induct with
    |case1=>simp[compL]
    |case2 a=>simp[compL]
    |case3 b t ih=>simp only[compL,if_true];simp at ih ⊢;omega
    |case4 a b t hne ih=>simp only[compL,if_neg hne];simp at ih ⊢;omega
   exact this v
  refine Rn.chk (by simp[lenB,h1.length_eq]) (Rn.chk (by simp[cmB];omega) (Rn.lt (Rn.chk (by simp[room];omega) (Rn.some ⟨Fq h2,fun x=>?_,by omega⟩))))
  rw[E8,h1.mem_iff,List.mem_map]
def clmP (f:Int→Option (Int×Int)) (s:Int):Prop:=(f s).isSome=true
instance (f:Int→Option (Int×Int)) (s:Int):Decidable (clmP f s):=by unfold clmP;infer_instance
def ownU (f:Int→Option (Int×Int)) (n:Nat) (s:Int):Prop:=∃ i:Nat,i<n∧ownP f (i:Int) s
instance (f:Int→Option (Int×Int)) (n:Nat) (s:Int):Decidable (ownU f n s) :=
 decidable_of_iff (∃ i∈List.range n,ownP f (i:Int) s) ⟨fun ⟨i,h1,h2⟩=>⟨i,List.mem_range.1 h1,h2⟩,fun ⟨i,h1,h2⟩=>⟨i,List.mem_range.2 h1,h2⟩⟩
theorem Gu (f:Int→Option (Int×Int)) (n:Nat) (s:Int):ownU f (n+1) s↔ownU f n s∨ownP f (n:Int) s:=by
 constructor
 ·rintro⟨i,h1,h2⟩
  rcases Nat.lt_or_ge i n with h|h
  ·exact .inl ⟨i,h,h2⟩
  ·have:i=n:=by omega
   subst this
   exact .inr h2
 ·rintro (⟨i,h1,h2⟩|h)
  ·exact⟨i,by omega,h2⟩
  ·exact⟨n,by omega,h⟩
theorem Jc (f:Int→Option (Int×Int)) (n:Nat) (s:Int) (h1:ownU f n s):¬ ownP f (n:Int) s:=by
 obtain⟨i,h2,h3⟩:=h1
 intro h4
 unfold ownP at h3 h4
 rw[h3] at h4
 have:=Option.some.inj h4
 omega
theorem Fd {a:List Claim} (ha:GoodC a) (nd:Int):∀ s,ownP (fC a) nd s→0≤s∧s≤16383:=by
 intro s hs
 unfold ownP at hs
 cases hf:fC a s with
 |none=>rw[hf] at hs;simp at hs
 |some w=>exact (ha.tells s w hf).1
theorem F9 (ns:List Int) (h1:rngH ns):Ca big ns=some true:=by
 refine Rn.eqv ?_
 unfold Ca
 refine Rn.lt (Rn.lt (Rn.ite (fun _=>Rn.bnE FQ (Rn.some rfl)) fun hf=>?_))
 have l1:ns.length≤60:=by
  have:=of_decide_eq_false (p:=(60:Int)<(ns.length:Int)) hf
  omega
 refine Rn.bn (I6 h1 l1) fun a ha=>?_
 have hgood:=ha.good
 have hfew:=ha.few
 refine Rn.bn (P:=fun s=>s.length≤30∧∀ t,inS s t↔clmP (fC a) t) ?_ fun s hs=>?_
 ·refine (Rn.iter (fun r=>r=a.map fun c=>(⟨c.frm,c.to⟩:Span)) (fun j y=>y=((j:Int),(a.take j).map fun c=>(⟨c.frm,c.to⟩:Span))) a.length (by unfold big;omega) rfl fun j y hj hI=>?_).mono fun r hr=>?_
  ·subst hI
   refine Rn.lt (Rn.lt (Rn.ite (fun hd=>?_) fun hd=>?_))
   ·have hjl:j<a.length:=by
     have:=of_decide_eq_true (p:=((j:Int)<(a.length:Int))) hd
     omega
    refine Rn.bnE (AM hjl) (Rn.chk (by simp[room];omega) (Rn.lt (Rn.lt (Rn.some ⟨hjl,?_⟩))))
    rw[Am (by first|omega|(simp only;omega)) (by first|omega|(simp only;omega)),← List.take_append_getElem hjl,List.map_append]
    rfl
   ·have hjl:j=a.length:=by
     have:=of_decide_eq_false (p:=((j:Int)<(a.length:Int))) hd
     omega
    subst hjl
    exact Rn.some (by show _=_;rw[List.take_length])
  ·subst hr
   refine⟨by simpa using hfew,fun t=>?_⟩
   unfold inS clmP
   constructor
   ·rintro⟨_,x,hx,h⟩
    obtain⟨c,hc,rfl⟩:=List.mem_map.1 hx
    rw[(hgood.iff t _).2 ⟨c,hc,h,rfl⟩]
    rfl
   ·intro h
    cases hf:fC a t with
    |none=>rw[hf] at h;simp at h
    |some w =>
     obtain⟨c,hc,h2,_⟩:=(hgood.iff t w).1 hf
     have:=(hgood.tells t w hf).1
     exact⟨by omega,_,List.mem_map_of_mem hc,h2⟩
 obtain⟨hs1,hs2⟩:=hs
 refine Rn.bn (Ig (by unfold sortMost;omega)) fun m hm=>?_
 obtain⟨-,m2,m3⟩:=hm
 refine Rn.bn (P:=fun y=>∃ all,y=.inl ((cntP (ownU (fC a) 8):Nat),all)∧all.length≤30*8∧∀ t,inS all t↔ownU (fC a) 8 t) (Rn.iter _ (fun j y=>∃ all:List Span,y=(((cntP (ownU (fC a) j):Nat):Int),(j:Int),all)∧all.length≤30*j∧∀ t,inS all t↔ownU (fC a) j t) 8 (by unfold big;omega) ⟨[],?_,by simp,fun t=>?_⟩ fun j y hj hI=>?_) fun y hy=>?_
 ·rw[Hb _ (fun s h=>by obtain⟨i,h1,_⟩:=h;omega)]
  rfl
 ·unfold inS ownU
  simp
 ·obtain⟨all,rfl,a1,a2⟩:=hI
  refine Rn.lt (Rn.ite (fun hd=>?_) fun hd=>?_)
  ·have hj8:j<8:=by
    have:=of_decide_eq_true (p:=((j:Int)<8)) hd
    omega
   refine Rn.bn (I7 hgood (by omega)) fun o ho=>?_
   obtain⟨o1,o2⟩:=ho
   refine Rn.bn (P:=fun b=>b=decide ((j:Int)∈m)) (Rn.iter _ (fun i y=>y=(decide ((j:Int)∈m.take i),(i:Int))) m.length (by unfold big;omega) rfl fun i y hi hI=>?_) fun b hb=>?_
   ·subst hI
    refine Rn.lt (Rn.lt (Rn.ite (fun hd=>?_) fun hd=>?_))
    ·have hil:i<m.length:=by
      have:=of_decide_eq_true (p:=((i:Int)<(m.length:Int))) hd
      omega
     have htk:m.take (i+1)=m.take i++[m[i]]:=(List.take_append_getElem hil).symm
     refine Rn.lt (Rn.ite (fun hin=>Rn.lt (Rn.some ⟨hil,?_⟩)) fun hin=>Rn.bnE (AM hil) (Rn.lt (Rn.lt (Rn.some ⟨hil,?_⟩))))
     ·have:=of_decide_eq_true hin
      rw[Am (by first|omega|(simp only;omega)) (by first|omega|(simp only;omega)),htk]
      refine Prod.ext ?_ rfl
      exact (decide_eq_true (List.mem_append_left _ this)).symm
     ·have:=of_decide_eq_false hin
      rw[Am (by first|omega|(simp only;omega)) (by first|omega|(simp only;omega)),htk]
      refine Prod.ext ?_ rfl
      show decide (m[i]=(j:Int))=_
      refine decide_eq_decide.2 ⟨fun h=>by simp[h],fun h=>?_⟩
      rcases List.mem_append.1 h with h|h
      ·exact absurd h this
      ·simp at h
       exact h.symm
    ·have hil:i=m.length:=by
      have:=of_decide_eq_false (p:=((i:Int)<(m.length:Int))) hd
      omega
     subst hil
     exact Rn.some (by show decide _=_;rw[List.take_length])
   ·subst hb
    have hne:(0<o.length)↔(j:Int)∈m:=by
     rw[m2]
     constructor
     ·intro h
      obtain⟨x,hx⟩:=List.exists_mem_of_length_pos h
      have hr:=o1.rng (Fd hgood j) x hx
      have:=(o1.iff x.frm).1 ⟨x,hx,Int.le_refl _,hr.2.1⟩
      unfold ownP at this
      cases hf:fC a x.frm with
      |none=>rw[hf] at this;simp at this
      |some w =>
       rw[hf] at this
       obtain⟨c,hc,_,hv⟩:=(hgood.iff _ w).1 hf
       subst hv
       exact⟨c,hc,by simpa using this⟩
     ·rintro⟨c,hc,hn⟩
      have hr:=hgood.2 c hc
      have hf:=(hgood.iff c.frm _).2 ⟨c,hc,⟨Int.le_refl _,hr.2.1⟩,rfl⟩
      have:ownP (fC a) j c.frm:=by
       unfold ownP
       rw[hf,← hn]
       rfl
      obtain⟨x,hx,_⟩:=(o1.iff _).2 this
      exact List.length_pos_of_mem hx
    refine Rn.bnE (v:=false) ?_ (Rn.lt (Rn.ite (fun h=>by simp at h) fun _=>?_))
    ·refine Rn.eqv (Rn.lt (Rn.lt (Rn.lt (Rn.ite (fun h=>?_) fun _=>Rn.bnE (Hz o1 (Fd hgood j)) (Rn.lt (Rn.some rfl))))))
     exfalso
     have e:gtI (lenI o) 0=decide ((j:Int)∈m):=by
      show decide ((0:Int)<(o.length:Int))=_
      refine decide_eq_decide.2 ?_
      rw[← hne]
      omega
     rw[e] at h
     simp[neB] at h
    ·refine Rn.bn (Hc (by omega)) fun n hn=>Rn.lt (Rn.chk (by simp[room];omega) (Rn.lt (Rn.lt (Rn.some ⟨hj8,all++o,?_,by simp;omega,fun t=>?_⟩))))
     ·subst hn
      have e1:cntP (inS o)=cntP (ownP (fC a) j):=Eb _ _ (o1.inS (Fd hgood j))
      have e2:cntP (ownU (fC a) (j+1))=cntP (ownU (fC a) j)+cntP (ownP (fC a) j):=by
       rw[Eb _ _ (Gu (fC a) j),IM _ _ (Jc (fC a) j)]
      have hle:∀ (p:Int→Prop) [DecidablePred p],cntP p≤16384:=fun p _=>by
       have:=List.countP_le_length (l:=List.range 16384) (p:=fun k:Nat=>decide (p (k:Int)))
       rw[List.length_range] at this
       exact this
      have b1:=hle (ownU (fC a) j)
      have b2:=hle (ownP (fC a) j)
      rw[e1,e2]
      simp only[]
      rw[Am (by omega) (by omega),Am (show -9223372036854775808≤(j:Int)+1 by omega) (by omega)]
      refine Prod.ext ?_ rfl
      simp only
      omega
     ·have hso:=o1.inS (Fd hgood j) t
      rw[Gu,← a2 t,← hso]
      unfold inS
      constructor
      ·rintro⟨h1,x,hx,h2⟩
       rcases List.mem_append.1 hx with hx|hx
       ·exact .inl ⟨h1,x,hx,h2⟩
       ·exact .inr ⟨h1,x,hx,h2⟩
      ·rintro (⟨h1,x,hx,h2⟩|⟨h1,x,hx,h2⟩)
       ·exact⟨h1,x,by simp[hx],h2⟩
       ·exact⟨h1,x,by simp[hx],h2⟩
  ·have hj8:j=8:=by
    have:=of_decide_eq_false (p:=((j:Int)<8)) hd
    omega
   subst hj8
   exact Rn.some ⟨all,rfl,a1,a2⟩
 ·obtain⟨all,rfl,a1,a2⟩:=hy
  rw[EZ]
  have hcl:∀ t,ownU (fC a) 8 t↔clmP (fC a) t:=by
   intro t
   unfold ownU ownP clmP
   cases hf:fC a t with
   |none=>simp
   |some w =>
    have:=hgood.tells t w hf
    have h3:=ha.low t w hf
    simp
    exact⟨w.1.toNat,by omega,by omega⟩
  refine Rn.bn (P:=fun y=>y=true) ?_ fun y hy=>Rn.some hy
  refine Rn.chk (by simp[room];omega) ?_
  rw[normRT,countRT]
  refine Rn.bn (FD (l:=all) (by omega)) fun u hu=>Rn.chk (by simp[room];omega) (Rn.bn (FD (by omega)) fun v hv=>?_)
  have huv:u=v:=hu.1.ext hv.1 fun t=>by rw[a2 t,hcl t,hs2 t]
  subst huv
  refine Rn.bnE (If u (by omega)) (Rn.ite (fun _=>?_) fun h=>by simp at h)
  refine Rn.chk (by simp[room];omega) (Rn.bn (Hc (by omega)) fun n hn=>Rn.lt ?_)
  have:cntP (inS s)=cntP (ownU (fC a) 8):=Eb _ _ fun t=>by rw[hs2 t,hcl t]
  rw[hn,this,eq_t rfl]
  exact Rn.ite (fun _=>Rn.bnE FQ (Rn.some rfl)) fun h=>by simp at h
end Go.Proofs.Ythjenkmbbnjcnaa
namespace Go.Proofs.Ythjenkmbbnjcnaa
open Go Go.RowKit
set_option maxRecDepth 100000
section
variable {P:Program} {n t:Nat} {ts:List T}
theorem WfT.bool (hu:P.underlying t=some .bool) (h:WfT P (n+1) t ts):∃ b,ts=[.v (.bool b)]:=by rw[WfT,hu] at h;exact h
theorem WfT.int {k:IntKind} (hu:P.underlying t=some (.int k)) (h:WfT P (n+1) t ts):∃ i,ts=[.v (.int k i)]∧(Lit.int k i).wf=true:=by rw[WfT,hu] at h;exact h
theorem WfT.slice {e:Nat} (hu:P.underlying t=some (.slice e)) (h:WfT P (n+1) t ts):∃ es,ts=[.sl (P.cellsOf e) es]∧es.length*P.bytesOf e≤reachBytes∧∀ x∈es,WfT P n e x:=by rw[WfT,hu] at h;exact h
theorem WfT.struct {fs:Array Go.Field} (hu:P.underlying t=some (.struct fs)) (h:WfT P (n+1) t ts):∃ ps:List (List T),ts=ps.flatten∧All2 (fun p f=>WfT P n f p) ps (fs.toList.map (·.type)):=by rw[WfT,hu] at h;exact h
end
theorem All2.cons_r {α β:Type} {R:α→β→Prop} {l:List α} {b:β} {bs:List β} (h:All2 R l (b::bs)):∃ x xs,l=x::xs∧R x b∧All2 R xs bs:=by
 cases l with
 |nil=>exact h.elim
 |cons x xs=>exact⟨x,xs,rfl,h⟩
theorem All2.nil_r {α β:Type} {R:α→β→Prop} {l:List α} (h:All2 R l ([]:List β)):l=[]:=by
 cases l with
 |nil=>rfl
 |cons x xs=>exact h.elim
def rngI (i:Int):Prop:=-9223372036854775808≤i∧i≤9223372036854775807
theorem HQ {α:Type} {enc:List α→List (List T)} {R:List T→Prop} {rng:α→Prop} (hn:enc []=[]) (hc:∀ x l,enc (x::l)=enc [x]++enc l) (h1:∀ e,R e→∃ x,enc [x]=[e]∧rng x) :
  ∀ es,(∀ x∈es,R x)→∃ l,es=enc l∧∀ x∈l,rng x
 |[],_=>⟨[],hn.symm,fun x h=>by cases h⟩
 |e::es,h=>by
  obtain⟨x,hx,rx⟩:=h1 e (h e (by simp))
  obtain⟨l,rfl,rl⟩:=HQ hn hc h1 es fun y hy=>h y (by simp[hy])
  refine⟨x::l,by rw[hc,hx];rfl,?_⟩
  intro y hy
  rcases List.mem_cons.1 hy with rfl|hy
  ·exact rx
  ·exact rl y hy
def rngU (i:Int):Prop:=0≤i∧i≤255
def rngField (x:Field):Prop:=True
def rngItem (x:Item):Prop:=(rngI x.kind)∧(x.f.length≤4398046510976∧∀ y∈x.f,rngField y)∧(x.l.length≤8796093021952)∧(rngI x.exp)
def rngPair (x:Pair):Prop:=(rngItem x.item)
def rngEffect (x:Effect):Prop:=(rngItem x.item)
def rngRid (x:Rid):Prop:=(rngI x.node)∧(rngI x.epoch)
def rngFeed (x:Feed):Prop:=(rngRid x.rid)∧(rngI x.off)∧(x.back.length≤1353245080300∧∀ y∈x.back,rngEffect y)∧(rngRid x.prev)∧(rngI x.upto)
def rngClaim (x:Claim):Prop:=(rngI x.frm)∧(rngI x.to)∧(rngI x.node)∧(rngI x.epoch)
def rngMsg (x:Msg):Prop:=(rngI x.kind)∧(rngI x.frm)∧(rngI x.to)∧(rngI x.epoch)∧(x.claims.length≤4398046510976∧∀ y∈x.claims,rngClaim y)∧(x.nodes.length≤17592186043904∧∀ y∈x.nodes,rngI y)∧(rngI x.node)∧(rngI x.slot)∧(rngI x.num)∧(rngRid x.rid)∧(rngRid x.prev)∧(rngI x.off)∧(x.effects.length≤1353245080300∧∀ y∈x.effects,rngEffect y)
end Go.Proofs.Ythjenkmbbnjcnaa
namespace Go.Proofs.Ythjenkmbbnjcnaa
open Go Go.RowKit
open Go.ChangeShapes Go.WideShapes Go.ChangeAt Go.RowKit
theorem Try.own:ownKnob Try.prog.godebug=none:=by kernel_rfl
theorem Try.laidOut:laidOutB Try.prog=true:=by kernel_rfl
end Go.Proofs.Ythjenkmbbnjcnaa
namespace Go.Proofs.Ythjenkmbbnjcnaa
open Go Go.RowKit
set_option maxRecDepth 100000
def rngH1 (i:Int):Prop:=0≤i∧i≤65535
theorem wf_H (n:Nat) (e:List T) (h:WfT Try.prog (n+1) 33 e):∃ x:Int,encIu16 [x]=[e]∧rngH1 x:=by
 obtain⟨f,rfl,h2⟩:=WfT.int (t:=33) Try.underlying33 h
 have h':=(Bool.and_eq_true _ _ ▸ h2:_∧_)
 have h1:=of_decide_eq_true h'.1
 have h2:=of_decide_eq_true h'.2
 exact⟨f,rfl,h1,h2⟩
theorem wf_Hs {n:Nat} {es:List (List T)} (h:∀ x∈es,WfT Try.prog (n+1) 33 x):∃ l:List Int,es=encIu16 l∧∀ x∈l,rngH1 x :=
 HQ (enc:=encIu16) (R:=fun e=>WfT Try.prog (n+1) 33 e) (rng:=rngH1) rfl (fun _ _=>rfl) (@wf_H n) es h
end Go.Proofs.Ythjenkmbbnjcnaa
