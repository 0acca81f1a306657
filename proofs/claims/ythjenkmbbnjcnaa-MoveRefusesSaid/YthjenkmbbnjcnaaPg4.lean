/- Part 4 of the proof. -/
import Derived.Test.YthjenkmbbnjcnaaPg3
set_option linter.unusedVariables false
set_option linter.unusedSimpArgs false
set_option linter.constructorNameAsVariable false
set_option maxRecDepth 8000
set_option maxHeartbeats 8000000
namespace Go.Proofs.Ythjenkmbbnjcnaa
open Go Go.RowKit
def CI (n:Nat) (a0:List Claim) (a1:List Claim):Option (List Claim×List Claim) :=
some (a0,a1)
theorem FZ {n:Nat} {a0:List Claim} {a1:List Claim} {r:List Claim×List Claim} (h:CI n a0 a1=some r):Sound Try.prog 47 [.l (.d false 4 (encClaim a0)),.l (.d false 4 (encClaim a1))] [] (.l (.f 67 [0,1])) [some ⟨24,1,false,none,[.d false 4 (encClaim r.1)]⟩,some ⟨24,1,false,none,[.d false 4 (encClaim r.2)]⟩]:=by
 unfold CI at h
 refine Sound.of_aw (fn:=Try.f47) (c:=_) Try.func47 rfl (by simp[Try.f47]) fun cx hG hnb=>?_
 rw[show Try.f47.ntmps=6 from rfl]
 have hn0:cx.nb=0:=hnb
 simp only[Al,initTm,List.map_cons,List.map_nil]
 apply AW.step
 ·simp
  intros;rfl
 apply AW.step
 ·simp
  intros;rfl
 obtain rfl:=oi h
 refine AW.ret ?_
 refine Left.of (av:=_) (by simp[Try.f47,resV,resC,comp];rfl) ?_
 exact LeftV.mix 0 [some 0,some 1] hn0 rfl (by decide) rfl (by simp[pickOb,Ac,Ae]) (by simp[Ac,Ae])
theorem Fy:Enters Try.prog 47:=enters Try.func47 (by kernel_rfl) rfl
def Cp (n:Nat) (a0:List Claim) (a1:Int):Option (Claim×List Claim) :=
bn (iter n (fun (y1:List Claim) =>
bn (lt (lenI y1) fun v5 =>
lt (gtI v5 0) fun v6 =>
ite' v6 (bn (nth y1 0) fun v7 =>
lt (ltI v7.to a1) fun v8 =>
some (v8)) (some (false))) fun (y4:Bool) =>
lt (y4) fun v9 =>
ite' v9 (bn (segl y1 1) fun v10 =>
some (.inl v10)) (some (.inr y1))) a0) fun (y2:List Claim) =>
bn (bn (lt (lenI y2) fun v14 =>
lt (gtI v14 0) fun v15 =>
ite' v15 (bn (nth y2 0) fun v16 =>
lt (leI v16.frm a1) fun v17 =>
some (v17)) (some (false))) fun (y13:Bool) =>
lt (y13) fun v18 =>
ite' v18 (bn (nth y2 0) fun v19 =>
some ((⟨a1,v19.to,v19.node,v19.epoch⟩:Claim))) (lt (lenI y2) fun v20 =>
lt (gtI v20 0) fun v21 =>
ite' v21 (bn (nth y2 0) fun v22 =>
lt (subI .i64 v22.frm 1) fun v23 =>
some ((⟨a1,v23,0,0⟩:Claim))) (some ((⟨a1,16383,0,0⟩:Claim))))) fun (y12:Claim) =>
some (y12,y2)
theorem EH {n:Nat} {a0:List Claim} {a1:Int} {r:Claim×List Claim} (h:Cp n a0 a1=some r):Sound Try.prog 68 [.l (.d false 4 (encClaim a0)),.l (.s (.int .i64 a1))] [] (.t [(true,[.s (.int .i64 r.1.frm),.s (.int .i64 r.1.to),.s (.int .i64 r.1.node),.s (.int .i64 r.1.epoch)]),(false,[.d false 4 (encClaim r.2)])]) []:=by
 unfold Cp at h
 refine Sound.of_aw (fn:=Try.f68) (c:=_) Try.func68 rfl (by simp[Try.f68]) fun cx hG hnb=>?_
 rw[show Try.f68.ntmps=51 from rfl]
 have hn0:cx.nb=0:=hnb
 simp only[Al,initTm,List.map_cons,List.map_nil]
 apply AW.step
 ·simp
  intros;rfl
 refine AW.seq ?_
 refine AW.block ?_
 replace h:=bnE h;obtain⟨y2,g2,h⟩:=h
 refine AW.iterP g2 (mk:=fun gh ls q=>(⟨[(0,.l (.d false 4 (encClaim q))),(1,.l (.s (.int .i64 a1))),(4,.l (.p 0 0))],[some ⟨41,4,false,none,[.s (.int .i64 0),.s (.int .i64 0),.s (.int .i64 0),.s (.int .i64 0)]⟩],51,gh,ls⟩:St)) (N:=fun gh ls=>(xP 0 (cx:=cx) (fun q=>(⟨[(0,.l (.d false 4 (encClaim q))),(1,.l (.s (.int .i64 a1))),(4,.l (.p 0 0))],[some ⟨41,4,false,none,[.s (.int .i64 0),.s (.int .i64 0),.s (.int .i64 0),.s (.int .i64 0)]⟩],51,gh,ls⟩:St)))) ?_ noX ?_ ?_
 ·refine Weak.mixN [some 0] hn0 (by decide) ?_ ?_ rfl
  all_goals first|(simp[Ac,Ae,pickOb];done)|rfl
 ·clear h;intro y1 y3 h
  refine AW.seq ?_
  replace h:=bnE h;obtain⟨y4,g4,h⟩:=h
  refine AW.flow (p:=fun gh ls=>(nP (cx:=cx) (fun q=>(⟨[(0,.l (.d false 4 (encClaim y1))),(1,.l (.s (.int .i64 a1))),(4,.l (.p 0 0)),(17,.l (.s (.bool q)))],[some ⟨41,4,false,none,[.s (.int .i64 0),.s (.int .i64 0),.s (.int .i64 0),.s (.int .i64 0)]⟩],51,gh,ls⟩:St))) y4) ?_ ?_
  ·replace h:=g4;clear g4
   replace h:=ltE h;obtain⟨v5,e5,h⟩:=h
   replace h:=ltE h;obtain⟨v6,e6,h⟩:=h
   cases v6 with
   |true =>
    replace h:=iteT rfl h
    replace h:=bnE h;obtain⟨v7,e7,h⟩:=h
    replace h:=ltE h;obtain⟨v8,e8,h⟩:=h
    apply AW.last
    ·simp[Aj e5,← e6,(show y1[0]?=some v7 from (Aa e7).2),← e8]
     intros;rfl
    obtain rfl:=oi h
    refine nP_i ?_
    refine Weak.mixN [some 0] hn0 (by decide) ?_ ?_ rfl
    all_goals first|(simp[Ac,Ae,pickOb];done)|rfl
   |false =>
    replace h:=iteF rfl h
    apply AW.last
    ·simp[Aj e5,← e6]
     intros;rfl
    obtain rfl:=oi h
    refine nP_i ?_
    refine Weak.mixN [some 0] hn0 (by decide) ?_ ?_ rfl
    all_goals first|(simp[Ac,Ae,pickOb];done)|rfl
  ·rintro e s hp
   obtain⟨rfl,hw⟩:=hp
   refine⟨_,hw,?_⟩
   try simp only[nm]
   replace h:=ltE h;obtain⟨v9,e9,h⟩:=h
   rw[← e9]
   cases v9 with
   |true =>
    replace h:=iteT rfl h
    refine AW.cond_true (by simp) ?_
    refine AW.skip ?_
    try simp only[nm]
    refine AW.block ?_
    replace h:=bnE h;obtain⟨v10,e10,h⟩:=h
    have f11:=GW e10
    try simp at f11
    apply AW.last
    ·simp[f11]
     intros;rfl
    obtain rfl:=oi h
    refine nP_i ?_
    refine Weak.mixN [some 0] hn0 (by decide) ?_ ?_ rfl
    all_goals first|(simp[Ac,Ae,pickOb];done)|rfl
   |false =>
    replace h:=iteF rfl h
    refine AW.cond_false (by simp) ?_
    refine AW.exit ?_
    try simp only[nm]
    obtain rfl:=oi h
    refine xP_i ?_
    refine Weak.mixN [some 0] hn0 (by decide) ?_ ?_ rfl
    all_goals first|(simp[Ac,Ae,pickOb];done)|rfl
 ·rintro e s hp
  obtain⟨rfl,hw⟩:=hp
  refine⟨_,hw,?_⟩
  try simp only[nm]
  apply AW.step
  ·simp
   intros;rfl
  replace h:=bnE h;obtain⟨y12,g12,h⟩:=h
  refine AW.flow (p:=fun gh ls=>(nP (cx:=cx) (fun q=>(⟨[(0,.l (.d false 4 (encClaim y2))),(4,.l (.p 0 0)),(6,.l (.p 1 0))],[some ⟨41,4,false,none,[.s (.int .i64 0),.s (.int .i64 0),.s (.int .i64 0),.s (.int .i64 0)]⟩,some ⟨41,4,false,none,[.s (.int .i64 q.frm),.s (.int .i64 q.to),.s (.int .i64 q.node),.s (.int .i64 q.epoch)]⟩],51,gh,ls⟩:St))) y12) ?_ ?_
  ·replace h:=g12;clear g12
   refine AW.block ?_
   replace h:=bnE h;obtain⟨y13,g13,h⟩:=h
   refine AW.flow (p:=fun gh ls=>(nP (cx:=cx) (fun q=>(⟨[(0,.l (.d false 4 (encClaim y2))),(1,.l (.s (.int .i64 a1))),(4,.l (.p 0 0)),(6,.l (.p 1 0)),(22,.l (.s (.bool q)))],[some ⟨41,4,false,none,[.s (.int .i64 0),.s (.int .i64 0),.s (.int .i64 0),.s (.int .i64 0)]⟩,some ⟨41,4,false,none,[.s (.int .i64 a1),.s (.int .i64 16383),.s (.int .i64 0),.s (.int .i64 0)]⟩],51,gh,ls⟩:St))) y13) ?_ ?_
   ·replace h:=g13;clear g13
    replace h:=ltE h;obtain⟨v14,e14,h⟩:=h
    replace h:=ltE h;obtain⟨v15,e15,h⟩:=h
    cases v15 with
    |true =>
     replace h:=iteT rfl h
     replace h:=bnE h;obtain⟨v16,e16,h⟩:=h
     replace h:=ltE h;obtain⟨v17,e17,h⟩:=h
     apply AW.last
     ·simp[Aj e14,← e15,(show y2[0]?=some v16 from (Aa e16).2),← e17]
      intros;rfl
     obtain rfl:=oi h
     refine nP_i ?_
     refine Weak.mixN [some 0,some 1] hn0 (by decide) ?_ ?_ rfl
     all_goals first|(simp[Ac,Ae,pickOb];done)|rfl
    |false =>
     replace h:=iteF rfl h
     apply AW.last
     ·simp[Aj e14,← e15]
      intros;rfl
     obtain rfl:=oi h
     refine nP_i ?_
     refine Weak.mixN [some 0,some 1] hn0 (by decide) ?_ ?_ rfl
     all_goals first|(simp[Ac,Ae,pickOb];done)|rfl
   ·rintro e s hp
    obtain⟨rfl,hw⟩:=hp
    refine⟨_,hw,?_⟩
    try simp only[nm]
    replace h:=ltE h;obtain⟨v18,e18,h⟩:=h
    rw[← e18]
    cases v18 with
    |true =>
     replace h:=iteT rfl h
     refine AW.cond_true (by simp) ?_
     replace h:=bnE h;obtain⟨v19,e19,h⟩:=h
     apply AW.step
     ·simp[(show y2[0]?=some v19 from (Aa e19).2)]
      intros;rfl
     apply AW.last
     ·simp
      intros;rfl
     obtain rfl:=oi h
     refine nP_i ?_
     refine Weak.mixN [some 0,some 1] hn0 (by decide) ?_ ?_ rfl
     all_goals first|(simp[Ac,Ae,pickOb];done)|rfl
    |false =>
     replace h:=iteF rfl h
     refine AW.cond_false (by simp) ?_
     replace h:=ltE h;obtain⟨v20,e20,h⟩:=h
     replace h:=ltE h;obtain⟨v21,e21,h⟩:=h
     apply AW.step
     ·simp[Aj e20,← e21]
      intros;rfl
     cases v21 with
     |true =>
      replace h:=iteT rfl h
      refine AW.cond_true (by simp) ?_
      replace h:=bnE h;obtain⟨v22,e22,h⟩:=h
      replace h:=ltE h;obtain⟨v23,e23,h⟩:=h
      apply AW.last
      ·simp[(show y2[0]?=some v22 from (Aa e22).2),← e23]
       intros;rfl
      obtain rfl:=oi h
      refine nP_i ?_
      refine Weak.mixN [some 0,some 1] hn0 (by decide) ?_ ?_ rfl
      all_goals first|(simp[Ac,Ae,pickOb];done)|rfl
     |false =>
      replace h:=iteF rfl h
      refine AW.cond_false (by simp) ?_
      refine AW.skip ?_
      try simp only[nm]
      obtain rfl:=oi h
      refine nP_i ?_
      refine Weak.mixN [some 0,some 1] hn0 (by decide) ?_ ?_ rfl
      all_goals first|(simp[Ac,Ae,pickOb];done)|rfl
  ·rintro e s hp
   obtain⟨rfl,hw⟩:=hp
   refine⟨_,hw,?_⟩
   try simp only[nm]
   apply AW.step
   ·simp
    intros;rfl
   obtain rfl:=oi h
   refine AW.ret ?_
   refine Left.plain hnb (by simp[Try.f68,resV,resC,comp];rfl) rfl rfl ?_
   simp
theorem Eq:Enters Try.prog 68:=enters Try.func68 (by kernel_rfl) rfl
def CU (n:Nat) (a0:Claim) (a1:Claim):Option Bool :=
bn (lt (addI .i64 a0.to 1) fun v2 =>
lt (eqI v2 a1.frm) fun v3 =>
ite' v3 (lt (eqI a0.node a1.node) fun v4 =>
ite' v4 (lt (eqI a0.epoch a1.epoch) fun v5 =>
some (v5)) (some (false))) (some (false))) fun (y1:Bool) =>
some y1
theorem Gk {n:Nat} {a0:Claim} {a1:Claim} {r:Bool} (h:CU n a0 a1=some r):Sound Try.prog 53 [.g [.s (.int .i64 a0.frm),.s (.int .i64 a0.to),.s (.int .i64 a0.node),.s (.int .i64 a0.epoch)],.g [.s (.int .i64 a1.frm),.s (.int .i64 a1.to),.s (.int .i64 a1.node),.s (.int .i64 a1.epoch)]] [] (.l (.s (.bool r))) []:=by
 unfold CU at h
 refine Sound.of_aw (fn:=Try.f53) (c:=_) Try.func53 rfl (by simp[Try.f53]) fun cx hG hnb=>?_
 rw[show Try.f53.ntmps=25 from rfl]
 have hn0:cx.nb=0:=hnb
 simp only[Al,initTm,List.map_cons,List.map_nil]
 apply AW.step
 ·simp
  intros;rfl
 replace h:=bnE h;obtain⟨y1,g1,h⟩:=h
 refine AW.flow (p:=fun gh ls=>(nP (cx:=cx) (fun q=>(⟨[(4,.l (.s (.bool q)))],[],25,gh,ls⟩:St))) y1) ?_ ?_
 ·replace h:=g1;clear g1
  replace h:=ltE h;obtain⟨v2,e2,h⟩:=h
  replace h:=ltE h;obtain⟨v3,e3,h⟩:=h
  cases v3 with
  |true =>
   replace h:=iteT rfl h
   replace h:=ltE h;obtain⟨v4,e4,h⟩:=h
   cases v4 with
   |true =>
    replace h:=iteT rfl h
    replace h:=ltE h;obtain⟨v5,e5,h⟩:=h
    apply AW.last
    ·simp[← e2,← e3,← e4,← e5]
     intros;rfl
    obtain rfl:=oi h
    refine nP_i ?_
    refine Weak.mixN [] hn0 (by decide) ?_ ?_ rfl
    all_goals first|(simp[Ac,Ae,pickOb];done)|rfl
   |false =>
    replace h:=iteF rfl h
    apply AW.last
    ·simp[← e2,← e3,← e4]
     intros;rfl
    obtain rfl:=oi h
    refine nP_i ?_
    refine Weak.mixN [] hn0 (by decide) ?_ ?_ rfl
    all_goals first|(simp[Ac,Ae,pickOb];done)|rfl
  |false =>
   replace h:=iteF rfl h
   apply AW.last
   ·simp[← e2,← e3]
    intros;rfl
   obtain rfl:=oi h
   refine nP_i ?_
   refine Weak.mixN [] hn0 (by decide) ?_ ?_ rfl
   all_goals first|(simp[Ac,Ae,pickOb];done)|rfl
 ·rintro e s hp
  obtain⟨rfl,hw⟩:=hp
  refine⟨_,hw,?_⟩
  try simp only[nm]
  obtain rfl:=oi h
  refine AW.ret ?_
  refine Left.plain hnb (by simp[Try.f53,resV,resC,comp];rfl) rfl rfl ?_
  simp
theorem F0:Enters Try.prog 53:=enters Try.func53 (by kernel_rfl) rfl
def CJ (n:Nat) (a0:List Claim) (a1:Claim):Option (List Claim) :=
bn (lt (lenI a0) fun v2 =>
lt (eqI a1.epoch 0) fun v3 =>
ite' v3 (some (a0)) (bn (lt (gtI v2 0) fun v5 =>
ite' v5 (lt (subI .i64 v2 1) fun v6 =>
bn (nth a0 v6) fun v7 =>
bn (CU n v7 a1) fun v9 =>
some (v9)) (some (false))) fun (y4:Bool) =>
lt (y4) fun v10 =>
ite' v10 (lt (subI .i64 v2 1) fun v11 =>
bn (nth a0 v11) fun v12 =>
lt (a0.set v11.toNat (⟨v12.frm,a1.to,v12.node,v12.epoch⟩:Claim)) fun v14 =>
some (v14)) (chk (room (a0.length+1) 32) <|
lt (a0++[a1]) fun v18 =>
some (v18)))) fun (y1:List Claim) =>
some y1
def DX2t1:List DI:=[⟨[0],[],[(5,none)],false⟩,⟨[0],[0],[(17,some 0)],false⟩,⟨[0],[0,1],[(18,some 1)],false⟩,⟨[0],[0,1,2],[(0,none),(19,some 2)],false⟩,⟨[0],[0,1,2],[(5,none),(19,some 2)],false⟩,⟨[0],[0,1,2,4],[(19,some 2),(21,some 4)],false⟩,⟨[0],[0,1,2,3,4,5],[(19,some 2),(20,some 3),(22,some 5)],false⟩,⟨[0],[0,1,2,3,4,5,6],[(19,some 2),(23,some 6)],false⟩,⟨[0],[0,1,2],[(3,none),(19,some 2)],false⟩,⟨[],[0,1,2,3,4,5,6,7,8],[],false⟩,⟨[],[0,1,2,3,4,5,6,7,8,9],[],false⟩,⟨[],[0,1,2,3,4,5,6,7,8,9,10],[],false⟩]
theorem F1 {n:Nat} {a0:List Claim} {a1:Claim} {r:List Claim} (h:CJ n a0 a1=some r):Sound Try.prog 48 [.l (.r 0 4 0 a0.length),.g [.s (.int .i64 a1.frm),.s (.int .i64 a1.to),.s (.int .i64 a1.node),.s (.int .i64 a1.epoch)]] [⟨41,4,true,none,lvs (encClaim a0)⟩] (.l (.r 0 4 0 r.length)) [some ⟨41,4,true,none,lvs (encClaim r)⟩]:=by
 unfold CJ at h
 refine Sound.of_aw (fn:=Try.f48) (c:=_) Try.func48 rfl (by simp[Try.f48]) fun cx hG hnb=>?_
 rw[show Try.f48.ntmps=36 from rfl]
 have hn0:cx.nb=1:=hnb
 simp only[Al,initTm,List.map_cons,List.map_nil]
 apply AW.step
 ·simp
  intros;rfl
 replace h:=bnE h;obtain⟨y1,g1,h⟩:=h
 refine AW.flow (p:=fun gh ls=>(nP (cx:=cx) (fun q=>(⟨[(0,.l (.r 0 4 0 q.length))],[some ⟨41,4,true,none,lvs (encClaim q)⟩],36,gh,ls⟩:St))) y1) ?_ ?_
 ·replace h:=g1;clear g1
  replace h:=ltE h;obtain⟨v2,e2,h⟩:=h
  apply AW.step
  ·simp[Aj e2]
   intros;rfl
  refine AW.block ?_
  replace h:=ltE h;obtain⟨v3,e3,h⟩:=h
  apply AW.step
  ·simp[← e3]
   intros;rfl
  cases v3 with
  |true =>
   replace h:=iteT rfl h
   refine AW.cond_true (by simp) ?_
   refine AW.skip ?_
   try simp only[nm]
   obtain rfl:=oi h
   refine nP_i ?_
   refine Weak.mixB 1 [some 0] hn0 (by decide) (by decide) ?_ ?_ ?_
   all_goals first|(simp[Ac,Ae,pickOb];done)|rfl
  |false =>
   replace h:=iteF rfl h
   refine AW.cond_false (by simp) ?_
   replace h:=bnE h;obtain⟨y4,g4,h⟩:=h
   refine AW.flow (p:=fun gh ls=>(nP (cx:=cx) (fun q=>(⟨[(0,.l (.r 0 4 0 a0.length)),(3,.l (.p 1 0)),(5,.l (.s (.int .i64 v2))),(16,.l (.s (.bool q)))],[some ⟨41,4,true,none,lvs (encClaim a0)⟩,some ⟨41,4,false,none,[.s (.int .i64 a1.frm),.s (.int .i64 a1.to),.s (.int .i64 a1.node),.s (.int .i64 a1.epoch)]⟩],36,gh,ls⟩:St))) y4) ?_ ?_
   ·replace h:=g4;clear g4
    replace h:=ltE h;obtain⟨v5,e5,h⟩:=h
    cases v5 with
    |true =>
     replace h:=iteT rfl h
     replace h:=ltE h;obtain⟨v6,e6,h⟩:=h
     replace h:=bnE h;obtain⟨v7,e7,h⟩:=h
     have f8:=Ai e7
     try simp[← e5,← e6,Aa e7] at f8
     replace h:=bnE h;obtain⟨v9,e9,h⟩:=h
     apply AW.drawnR (V:=[_,_,_,_,_,_,_,_,_]) mixed DX2t1 9 (by kernel_rfl) (by kernel_rfl)
     ·refine⟨?_,?_,?_,?_,?_,?_,?_,?_,?_,trivial⟩
      iterate 9 (· intro tm hr;simp[AllL,rdV] at hr;simp[hr,← e5,← e6,Aa e7,f8,CB (Aa e7).2 (k:=4) (by decide),Cf (Aa e7).2 (show 4≤4 by decide),lvs1];intros;first|exact KD.mk|exact KD.mkN)
     ·rfl
     ·simp[tmD,putD,← e5,← e6,Aa e7,f8,CB (Aa e7).2 (k:=4) (by decide),Cf (Aa e7).2 (show 4≤4 by decide),lvs1];rfl
     ·simp[← e5,← e6,Aa e7,f8,CB (Aa e7).2 (k:=4) (by decide),Cf (Aa e7).2 (show 4≤4 by decide),lvs1]
      intros
      refine Ag F0 (Gk e9) rfl ⟨.same rfl,.same rfl,trivial⟩ ?_
      try simp[← e5,← e6,Aa e7,f8,CB (Aa e7).2 (k:=4) (by decide),Cf (Aa e7).2 (show 4≤4 by decide),lvs1]
      intros;rfl
     obtain rfl:=oi h
     refine nP_i ?_
     refine Weak.mixB 1 [some 0,some 1] hn0 (by decide) (by decide) ?_ ?_ ?_
     all_goals first|(simp[Ac,Ae,pickOb];done)|rfl
    |false =>
     replace h:=iteF rfl h
     apply AW.drawnR (V:=[_,_,_,_,_,_,_,_,_]) mixed DX2t1 9 (by kernel_rfl) (by kernel_rfl)
     ·refine⟨?_,?_,?_,?_,?_,?_,?_,?_,?_,trivial⟩
      iterate 9 (· intro tm hr;simp[AllL,rdV] at hr;simp[hr,← e5];intros;first|exact KD.mk|exact KD.mkN)
     ·rfl
     ·simp[tmD,putD,← e5];rfl
     ·simp[← e5]
      intros;rfl
     obtain rfl:=oi h
     refine nP_i ?_
     refine Weak.mixB 1 [some 0,some 1] hn0 (by decide) (by decide) ?_ ?_ ?_
     all_goals first|(simp[Ac,Ae,pickOb];done)|rfl
   ·rintro e s hp
    obtain⟨rfl,hw⟩:=hp
    refine⟨_,hw,?_⟩
    try simp only[nm]
    replace h:=ltE h;obtain⟨v10,e10,h⟩:=h
    rw[← e10]
    cases v10 with
    |true =>
     replace h:=iteT rfl h
     refine AW.cond_true (by simp) ?_
     replace h:=ltE h;obtain⟨v11,e11,h⟩:=h
     replace h:=bnE h;obtain⟨v12,e12,h⟩:=h
     have f13:=Ai e12
     try simp[← e11,Aa e12] at f13
     replace h:=ltE h;obtain⟨v14,e14,h⟩:=h
     have f15:=DO (Aa e12).2 e14 (j:=1) (cs:=[.s (.int .i64 a1.to)]) (by simp) rfl
     try simp at f15
     have f16:=f13
     try simp only[Af e14] at f16
     apply AW.last
     ·simp[← e11,Aa e12,f13,Dj (Aa e12).2 (j:=1) (m:=1) (by decide),f15,f16]
      intros;rfl
     obtain rfl:=oi h
     refine nP_i ?_
     refine Weak.mixB 1 [some 0] hn0 (by decide) (by decide) ?_ ?_ ?_
     all_goals first|(simp[Ac,Ae,pickOb,Af e14];done)|rfl
    |false =>
     replace h:=iteF rfl h
     refine AW.cond_false (by simp) ?_
     replace h:=chkE h;obtain⟨e17,h⟩:=h
     replace h:=ltE h;obtain⟨v18,e18,h⟩:=h
     apply AW.last
     ·simp[St.grow,obsBut,← AG,← e18,Ak e18]
      intros
      refine Ar ?_
      try simp[St.grow,obsBut,← AG,← e18,Ak e18]
      intros
      refine GF (acc:=encClaim a0) (ys:=encClaim [a1]) (cap:=none) (k:=1) Fa E9 (by simp) (by simp[encClaim,lvs]) (Bf _) (by simp) (by simp) (by first|(simp;done)|simpa using (Ah e17).1) ?_
      try simp[St.grow,obsBut,← AG,← e18,Ak e18]
      intros;rfl
     obtain rfl:=oi h
     refine nP_i ?_
     refine Weak.mixB 1 [some 0] hn0 (by decide) (by decide) ?_ ?_ ?_
     all_goals first|(simp[Ac,Ae,pickOb,CA];done)|rfl
 ·rintro e s hp
  obtain⟨rfl,hw⟩:=hp
  refine⟨_,hw,?_⟩
  try simp only[nm]
  apply AW.step
  ·simp
   intros;rfl
  obtain rfl:=oi h
  refine AW.ret ?_
  refine Left.of (av:=_) (by simp[Try.f48,resV,resC,comp];rfl) ?_
  exact LeftV.mix 1 [some 0] hn0 rfl (by decide) rfl (by simp[pickOb,Ac,Ae]) (by simp[Ac,Ae])
theorem Fz:Enters Try.prog 48:=enters Try.func48 (by kernel_rfl) rfl
def BM (n:Nat) (a0:List Claim) (a1:Int):Option (Int×Int×Bool) :=
lt (lenI a0) fun v1 =>
bn (iter n (fun (y2:Int) =>
lt (ltI y2 v1) fun v5 =>
ite' v5 (bn (nth a0 y2) fun v6 =>
bn (lt (leI v6.frm a1) fun v8 =>
ite' v8 (lt (leI a1 v6.to) fun v9 =>
some (v9)) (some (false))) fun (y7:Bool) =>
lt (y7) fun v10 =>
ite' v10 (some (.inr (.inr (v6.node,v6.epoch,true)))) (lt (addI .i64 y2 1) fun v11 =>
some (.inl v11))) (some (.inr (.inl ())))) 0) fun (y3:Unit ⊕ (Int×Int×Bool)) =>
sm y3 (fun y12=>some (0,0,false)) (fun y13=>some y13)
theorem H2 {n:Nat} {a0:List Claim} {a1:Int} {r:Int×Int×Bool} (h:BM n a0 a1=some r):Sound Try.prog 20 [.l (.d false 4 (encClaim a0)),.l (.s (.int .i64 a1))] [] (.t [(false,[.s (.int .i64 r.1)]),(false,[.s (.int .i64 r.2.1)]),(false,[.s (.bool r.2.2)])]) []:=by
 unfold BM at h
 refine Sound.of_aw (fn:=Try.f20) (c:=_) Try.func20 rfl (by simp[Try.f20]) fun cx hG hnb=>?_
 rw[show Try.f20.ntmps=30 from rfl]
 have hn0:cx.nb=0:=hnb
 simp only[Al,initTm,List.map_cons,List.map_nil]
 apply AW.step
 ·simp
  intros;rfl
 refine AW.seq ?_
 replace h:=ltE h;obtain⟨v1,e1,h⟩:=h
 apply AW.step
 ·simp[Aj e1]
  intros;rfl
 refine AW.block ?_
 replace h:=bnE h;obtain⟨y3,g3,h⟩:=h
 refine AW.iterP g3 (mk:=fun gh ls q=>(⟨[(1,.l (.s (.int .i64 a1))),(9,.l (.d false 4 (encClaim a0))),(10,.l (.s (.int .i64 v1))),(11,.l (.s (.int .i64 q)))],[],30,gh,ls⟩:St)) (N:=fun gh ls=>(sp (xP 0 (cx:=cx) (fun _=>(⟨[],[],30,gh,ls⟩:St))) (rP (cx:=cx) (P:=Try.prog) Try.f20 (fun q=>.t [(false,[.s (.int .i64 q.1)]),(false,[.s (.int .i64 q.2.1)]),(false,[.s (.bool q.2.2)])]) (fun q=>[])))) ?_ (noS noX noR) ?_ ?_
 ·refine Weak.mixN [] hn0 (by decide) ?_ ?_ rfl
  all_goals first|(simp[Ac,Ae,pickOb];done)|rfl
 ·clear h;intro y2 y4 h
  replace h:=ltE h;obtain⟨v5,e5,h⟩:=h
  apply AW.step
  ·simp[← e5]
   intros;rfl
  refine AW.seq ?_
  cases v5 with
  |true =>
   replace h:=iteT rfl h
   refine AW.cond_true (by simp) ?_
   refine AW.skip ?_
   try simp only[nm]
   refine AW.seq ?_
   refine AW.block ?_
   replace h:=bnE h;obtain⟨v6,e6,h⟩:=h
   apply AW.step
   ·simp[Aa e6]
    intros;rfl
   replace h:=bnE h;obtain⟨y7,g7,h⟩:=h
   refine AW.flow (p:=fun gh ls=>(nP (cx:=cx) (fun q=>(⟨[(1,.l (.s (.int .i64 a1))),(8,.l (.p 0 0)),(9,.l (.d false 4 (encClaim a0))),(10,.l (.s (.int .i64 v1))),(11,.l (.s (.int .i64 y2))),(24,.l (.s (.bool q)))],[some ⟨41,4,false,none,[.s (.int .i64 v6.frm),.s (.int .i64 v6.to),.s (.int .i64 v6.node),.s (.int .i64 v6.epoch)]⟩],30,gh,ls⟩:St))) y7) ?_ ?_
   ·replace h:=g7;clear g7
    replace h:=ltE h;obtain⟨v8,e8,h⟩:=h
    cases v8 with
    |true =>
     replace h:=iteT rfl h
     replace h:=ltE h;obtain⟨v9,e9,h⟩:=h
     apply AW.last
     ·simp[← e8,← e9]
      intros;rfl
     obtain rfl:=oi h
     refine nP_i ?_
     refine Weak.mixN [some 0] hn0 (by decide) ?_ ?_ rfl
     all_goals first|(simp[Ac,Ae,pickOb];done)|rfl
    |false =>
     replace h:=iteF rfl h
     apply AW.last
     ·simp[← e8]
      intros;rfl
     obtain rfl:=oi h
     refine nP_i ?_
     refine Weak.mixN [some 0] hn0 (by decide) ?_ ?_ rfl
     all_goals first|(simp[Ac,Ae,pickOb];done)|rfl
   ·rintro e s hp
    obtain⟨rfl,hw⟩:=hp
    refine⟨_,hw,?_⟩
    try simp only[nm]
    replace h:=ltE h;obtain⟨v10,e10,h⟩:=h
    rw[← e10]
    cases v10 with
    |true =>
     replace h:=iteT rfl h
     refine AW.cond_true (by simp) ?_
     apply AW.drawnP (V:=[_,_,_,_,_]) mixed [⟨[0],[],[(8,none)],false⟩,⟨[0],[0],[(25,some 0)],false⟩,⟨[0],[],[(8,none)],false⟩,⟨[0],[2],[(27,some 2)],false⟩,⟨[0],[0,1],[(26,some 1)],false⟩,⟨[],[0,1,2,3,4],[],false⟩,⟨[],[0,1,2,3,4,5],[],false⟩] 5 (by kernel_rfl) (by kernel_rfl)
     ·refine⟨?_,?_,?_,?_,?_,trivial⟩
      iterate 5 (· intro tm hr;simp[AllL,rdV] at hr;simp[hr];intros;first|exact KD.mk|exact KD.mkN)
     ·rfl
     ·simp[tmD,putD];rfl
     ·simp
      intros;rfl
     obtain rfl:=oi h
     refine AW.ret ?_
     try simp only[nm]
     refine rP_i ?_
     refine Left.plain hnb (by simp[Try.f20,resV,resC,comp];rfl) rfl rfl ?_
     simp
    |false =>
     replace h:=iteF rfl h
     refine AW.cond_false (by simp) ?_
     refine AW.skip ?_
     try simp only[nm]
     replace h:=ltE h;obtain⟨v11,e11,h⟩:=h
     apply AW.last
     ·simp[← e11]
      intros;rfl
     obtain rfl:=oi h
     refine nP_i ?_
     refine Weak.mixN [] hn0 (by decide) ?_ ?_ rfl
     all_goals first|(simp[Ac,Ae,pickOb];done)|rfl
  |false =>
   replace h:=iteF rfl h
   refine AW.cond_false (by simp) ?_
   refine AW.exit ?_
   try simp only[nm]
   obtain rfl:=oi h
   try simp only[sp_l,sp_r]
   refine xP_i ?_
   refine Weak.mixN [] hn0 (by decide) ?_ ?_ rfl
   all_goals first|(simp[Ac,Ae,pickOb];done)|rfl
 ·rintro e s hp
  rcases y3 with y12|y13
  ·replace h:=smL h
   obtain⟨rfl,hw⟩:=hp
   refine⟨_,hw,?_⟩
   try simp only[nm]
   apply AW.step
   ·simp
    intros;rfl
   obtain rfl:=oi h
   refine AW.ret ?_
   refine Left.plain hnb (by simp[Try.f20,resV,resC,comp];rfl) rfl rfl ?_
   simp
  ·replace h:=smR h
   obtain⟨rfl,hl⟩:=hp
   refine⟨_,Weak.refl _,?_⟩
   obtain rfl:=oi h
   exact hl
theorem HF:Enters Try.prog 20:=enters Try.func20 (by kernel_rfl) rfl
end Go.Proofs.Ythjenkmbbnjcnaa
namespace Go.Proofs.Ythjenkmbbnjcnaa
open Go Go.RowKit
def CW (n:Nat) (a0:List Span):Option (List Span) :=
lt (lenI a0) fun v1 =>
bn (iter n (fun (y2:Int×List Span) =>
lt (ltI y2.1 v1) fun v5 =>
ite' v5 (bn (bn (nth a0 y2.1) fun v7 =>
lt (maxI v7.frm 0) fun v8 =>
lt (minI v7.to 16383) fun v9 =>
lt (leI v8 v9) fun v10 =>
ite' v10 (chk (room (y2.2.length+1) 16) <|
lt (y2.2++[(⟨v8,v9⟩:Span)]) fun v12 =>
some (v12)) (some (y2.2))) fun (y6:List Span) =>
lt (addI .i64 y2.1 1) fun v13 =>
some (.inl (v13,y6))) (some (.inr y2.2))) (0,[])) fun (y3:List Span) =>
bn (Bk n y3) fun v14 =>
chk (lenB v14 y3) <|
chk (room v14.length 1) <|
some v14
theorem Gl {n:Nat} {a0:List Span} {r:List Span} (h:CW n a0=some r):Sound Try.prog 69 [.l (.d true 2 (encSpan a0))] [] (.l (.d false 2 (encSpan r))) []:=by
 unfold CW at h
 refine Sound.of_aw (fn:=Try.f69) (c:=_) Try.func69 rfl (by simp[Try.f69]) fun cx hG hnb=>?_
 rw[show Try.f69.ntmps=32 from rfl]
 have hn0:cx.nb=0:=hnb
 simp only[Al,initTm,List.map_cons,List.map_nil]
 apply AW.step
 ·simp
  intros;rfl
 apply AW.step
 ·simp
  intros;rfl
 refine AW.seq ?_
 replace h:=ltE h;obtain⟨v1,e1,h⟩:=h
 apply AW.step
 ·simp[Aj e1]
  intros;rfl
 refine AW.block ?_
 replace h:=bnE h;obtain⟨y3,g3,h⟩:=h
 refine AW.iterP g3 (mk:=fun gh ls q=>(⟨[(3,.l (.r 0 2 0 q.2.length)),(6,.l (.d true 2 (encSpan a0))),(7,.l (.s (.int .i64 v1))),(8,.l (.s (.int .i64 q.1)))],[some ⟨43,2,true,none,lvs (encSpan q.2)⟩],32,gh,ls⟩:St)) (N:=fun gh ls=>(xP 0 (cx:=cx) (fun q=>(⟨[(3,.l (.r 0 2 0 q.length))],[some ⟨43,2,true,none,lvs (encSpan q)⟩],32,gh,ls⟩:St)))) ?_ noX ?_ ?_
 ·refine W.nilRow 3 43 2 0 (by simp) rfl rfl ?_
  refine Weak.mixN [some 0] hn0 (by decide) ?_ ?_ rfl
  all_goals first|(simp[Ac,Ae,pickOb];done)|rfl
 ·clear h;intro y2 y4 h
  replace h:=ltE h;obtain⟨v5,e5,h⟩:=h
  apply AW.step
  ·simp[← e5]
   intros;rfl
  refine AW.seq ?_
  cases v5 with
  |true =>
   replace h:=iteT rfl h
   refine AW.cond_true (by simp) ?_
   refine AW.skip ?_
   try simp only[nm]
   replace h:=bnE h;obtain⟨y6,g6,h⟩:=h
   refine AW.flow (p:=fun gh ls=>(nP (cx:=cx) (fun q=>(⟨[(3,.l (.r 0 2 0 q.length)),(6,.l (.d true 2 (encSpan a0))),(7,.l (.s (.int .i64 v1))),(8,.l (.s (.int .i64 y2.1)))],[some ⟨43,2,true,none,lvs (encSpan q)⟩],32,gh,ls⟩:St))) y6) ?_ ?_
   ·replace h:=g6;clear g6
    refine AW.block ?_
    replace h:=bnE h;obtain⟨v7,e7,h⟩:=h
    apply AW.step
    ·simp[Aa e7]
     intros;rfl
    replace h:=ltE h;obtain⟨v8,e8,h⟩:=h
    replace h:=ltE h;obtain⟨v9,e9,h⟩:=h
    apply AW.step
    ·simp[← e8,← e9]
     intros;rfl
    replace h:=ltE h;obtain⟨v10,e10,h⟩:=h
    apply AW.step
    ·simp[← e10]
     intros;rfl
    cases v10 with
    |true =>
     replace h:=iteT rfl h
     refine AW.cond_true (by simp) ?_
     replace h:=chkE h;obtain⟨e11,h⟩:=h
     replace h:=ltE h;obtain⟨v12,e12,h⟩:=h
     apply AW.last
     ·simp[← Bs,← e12,Ak e12]
      intros
      refine Ar ?_
      try simp[← Bs,← e12,Ak e12]
      intros
      refine AD (acc:=encSpan y2.2) (ys:=encSpan [(⟨v8,v9⟩:Span)]) (cap:=none) (k:=1) Ir Iq (by simp) (by simp[encSpan,lvs]) (CT _) (by simp) (by simp) (by first|(simp;done)|simpa using (Ah e11).1) ?_
      try simp[← Bs,← e12,Ak e12]
      intros;rfl
     obtain rfl:=oi h
     refine nP_i ?_
     refine Weak.mixN [some 3] hn0 (by decide) ?_ ?_ rfl
     all_goals first|(simp[Ac,Ae,pickOb,DP];done)|rfl
    |false =>
     replace h:=iteF rfl h
     refine AW.cond_false (by simp) ?_
     refine AW.skip ?_
     try simp only[nm]
     obtain rfl:=oi h
     refine nP_i ?_
     refine Weak.mixN [some 0] hn0 (by decide) ?_ ?_ rfl
     all_goals first|(simp[Ac,Ae,pickOb];done)|rfl
   ·rintro e s hp
    obtain⟨rfl,hw⟩:=hp
    refine⟨_,hw,?_⟩
    try simp only[nm]
    replace h:=ltE h;obtain⟨v13,e13,h⟩:=h
    apply AW.last
    ·simp[← e13]
     intros;rfl
    obtain rfl:=oi h
    refine nP_i ?_
    refine Weak.mixN [some 0] hn0 (by decide) ?_ ?_ rfl
    all_goals first|(simp[Ac,Ae,pickOb];done)|rfl
  |false =>
   replace h:=iteF rfl h
   refine AW.cond_false (by simp) ?_
   refine AW.exit ?_
   try simp only[nm]
   obtain rfl:=oi h
   refine xP_i ?_
   refine Weak.mixN [some 0] hn0 (by decide) ?_ ?_ rfl
   all_goals first|(simp[Ac,Ae,pickOb];done)|rfl
 ·rintro e s hp
  obtain⟨rfl,hw⟩:=hp
  refine⟨_,hw,?_⟩
  try simp only[nm]
  refine AW.pin 0 (ty:=43) (sz:=2) (cs:=lvs (encSpan y3)) (by simp) hn0 (by omega) rfl ?_
  replace h:=bnE h;obtain⟨v14,e14,h⟩:=h
  replace h:=chkE h;obtain⟨e15,h⟩:=h
  apply AW.step
  ·simp
   intros
   refine Ax [0] Df (Dl e14) (by decide) (by simp[pickOb,Ac,Ae]) rfl rfl (by simp) ⟨.l (.own' (by simp[Ac,Ae]) (by simp)),.l (.s _),trivial⟩ ?_
   try simp
   intros;rfl
  apply AW.step
  ·simp
   intros;rfl
  replace h:=chkE h;obtain⟨e16,h⟩:=h
  refine AW.unpin 0 (ty:=43) (sz:=2) (cs:=lvs (encSpan v14)) (by simp) rfl ?_
  refine AW.frzRow 0 (ty:=43) (cap:=none) (sz:=2) (es:=encSpan v14) (by simp) (by omega) (CT _) (by first|exact (Ah e16).2|simpa using (Ah e16).2|simp) (by simp[Tm.frz,AV.frz,LV.frz,An e15];rfl) (by simp[Ob.frz,LV.frz,An e15];rfl) rfl ?_
  obtain rfl:=oi h
  refine AW.ret ?_
  refine Left.plain hnb (by simp[Try.f69,resV,resC,comp];rfl) rfl rfl ?_
  simp
theorem F2:Enters Try.prog 69:=enters Try.func69 (by kernel_rfl) rfl
def CX (n:Nat) (a0:List Span):Option (List Span) :=
bn (CW n a0) fun v1 =>
lt (lenI v1) fun v2 =>
bn (iter n (fun (y3:Int×List Span) =>
lt (ltI y3.1 v2) fun v6 =>
ite' v6 (bn (bn (nth v1 y3.1) fun v8 =>
lt (lenI y3.2) fun v9 =>
bn (lt (gtI v9 0) fun v11 =>
ite' v11 (lt (subI .i64 v9 1) fun v12 =>
bn (nth y3.2 v12) fun v13 =>
lt (addI .i64 v13.to 1) fun v15 =>
lt (leI v8.frm v15) fun v16 =>
some (v16)) (some (false))) fun (y10:Bool) =>
lt (y10) fun v17 =>
ite' v17 (lt (subI .i64 v9 1) fun v18 =>
bn (nth y3.2 v18) fun v19 =>
lt (maxI v19.to v8.to) fun v21 =>
lt (y3.2.set v18.toNat (⟨v19.frm,v21⟩:Span)) fun v23 =>
some (v23)) (chk (room (y3.2.length+1) 16) <|
lt (y3.2++[v8]) fun v28 =>
some (v28))) fun (y7:List Span) =>
lt (addI .i64 y3.1 1) fun v29 =>
some (.inl (v29,y7))) (some (.inr y3.2))) (0,[])) fun (y4:List Span) =>
chk (room y4.length 1) <|
some y4
def DX3t1:List DI:=[⟨[0],[],[(6,none)],false⟩,⟨[0],[0],[(16,some 0)],false⟩,⟨[0],[0,1],[(17,some 1)],false⟩,⟨[0],[0,1,2],[(5,none),(18,some 2)],false⟩,⟨[0],[0,1,2,3],[(18,some 2),(19,some 3)],false⟩,⟨[0],[0,1,2],[(3,none),(18,some 2)],false⟩,⟨[0],[0,1,2],[(6,none),(18,some 2)],false⟩,⟨[0],[0,1,2,6],[(18,some 2),(22,some 6)],false⟩,⟨[0],[0,1,2,5,6,7],[(18,some 2),(21,some 5),(23,some 7)],false⟩,⟨[0],[0,1,2,5,6,7,8],[(18,some 2),(24,some 8)],false⟩,⟨[0],[0,1,2,5,6,7,8,9],[(18,some 2),(25,some 9)],false⟩,⟨[0],[0,1,2,5,6,7,8,9,10],[(18,some 2),(26,some 10)],false⟩,⟨[],[0,1,2,3,4,5,6,7,8,9,10,11],[],false⟩,⟨[],[0,1,2,3,4,5,6,7,8,9,10,11,12],[],false⟩]
theorem Gm {n:Nat} {a0:List Span} {r:List Span} (h:CX n a0=some r):Sound Try.prog 49 [.l (.d true 2 (encSpan a0))] [] (.l (.d false 2 (encSpan r))) []:=by
 unfold CX at h
 refine Sound.of_aw (fn:=Try.f49) (c:=_) Try.func49 rfl (by simp[Try.f49]) fun cx hG hnb=>?_
 rw[show Try.f49.ntmps=50 from rfl]
 have hn0:cx.nb=0:=hnb
 simp only[Al,initTm,List.map_cons,List.map_nil]
 apply AW.step
 ·simp
  intros;rfl
 apply AW.step
 ·simp
  intros;rfl
 refine AW.seq ?_
 replace h:=bnE h;obtain⟨v1,e1,h⟩:=h
 replace h:=ltE h;obtain⟨v2,e2,h⟩:=h
 apply AW.step
 ·simp[Aj e2]
  intros
  refine Ag F2 (Gl e1) rfl ⟨.d _ _ _,trivial⟩ ?_
  try simp[Aj e2]
  intros;rfl
 refine AW.block ?_
 replace h:=bnE h;obtain⟨y4,g4,h⟩:=h
 refine AW.iterP g4 (mk:=fun gh ls q=>(⟨[(3,.l (.r 0 2 0 q.2.length)),(8,.l (.d false 2 (encSpan v1))),(9,.l (.s (.int .i64 v2))),(10,.l (.s (.int .i64 q.1)))],[some ⟨43,2,true,none,lvs (encSpan q.2)⟩],50,gh,ls⟩:St)) (N:=fun gh ls=>(xP 0 (cx:=cx) (fun q=>(⟨[(3,.l (.r 0 2 0 q.length))],[some ⟨43,2,true,none,lvs (encSpan q)⟩],50,gh,ls⟩:St)))) ?_ noX ?_ ?_
 ·refine W.nilRow 3 43 2 0 (by simp) rfl rfl ?_
  refine Weak.mixN [some 0] hn0 (by decide) ?_ ?_ rfl
  all_goals first|(simp[Ac,Ae,pickOb];done)|rfl
 ·clear h;intro y3 y5 h
  replace h:=ltE h;obtain⟨v6,e6,h⟩:=h
  apply AW.step
  ·simp[← e6]
   intros;rfl
  refine AW.seq ?_
  cases v6 with
  |true =>
   replace h:=iteT rfl h
   refine AW.cond_true (by simp) ?_
   refine AW.skip ?_
   try simp only[nm]
   replace h:=bnE h;obtain⟨y7,g7,h⟩:=h
   refine AW.flow (p:=fun gh ls=>(nP (cx:=cx) (fun q=>(⟨[(3,.l (.r 0 2 0 q.length)),(8,.l (.d false 2 (encSpan v1))),(9,.l (.s (.int .i64 v2))),(10,.l (.s (.int .i64 y3.1)))],[some ⟨43,2,true,none,lvs (encSpan q)⟩],50,gh,ls⟩:St))) y7) ?_ ?_
   ·replace h:=g7;clear g7
    refine AW.block ?_
    replace h:=bnE h;obtain⟨v8,e8,h⟩:=h
    apply AW.step
    ·simp[Aa e8]
     intros;rfl
    refine AW.seq ?_
    replace h:=ltE h;obtain⟨v9,e9,h⟩:=h
    apply AW.step
    ·simp[Aj e9]
     intros;rfl
    replace h:=bnE h;obtain⟨y10,g10,h⟩:=h
    refine AW.flow (p:=fun gh ls=>(nP (cx:=cx) (fun q=>(⟨[(3,.l (.r 0 2 0 y3.2.length)),(5,.l (.p 1 0)),(6,.l (.s (.int .i64 v9))),(8,.l (.d false 2 (encSpan v1))),(9,.l (.s (.int .i64 v2))),(10,.l (.s (.int .i64 y3.1))),(29,.l (.s (.bool q)))],[some ⟨43,2,true,none,lvs (encSpan y3.2)⟩,some ⟨43,2,false,none,[.s (.int .i64 v8.frm),.s (.int .i64 v8.to)]⟩],50,gh,ls⟩:St))) y10) ?_ ?_
    ·replace h:=g10;clear g10
     replace h:=ltE h;obtain⟨v11,e11,h⟩:=h
     cases v11 with
     |true =>
      replace h:=iteT rfl h
      replace h:=ltE h;obtain⟨v12,e12,h⟩:=h
      replace h:=bnE h;obtain⟨v13,e13,h⟩:=h
      have f14:=Ai e13
      try simp[← e11,← e12,Aa e13] at f14
      replace h:=ltE h;obtain⟨v15,e15,h⟩:=h
      replace h:=ltE h;obtain⟨v16,e16,h⟩:=h
      apply AW.drawnR (V:=[_,_,_,_,_,_,_,_,_,_,_,_]) mixed DX3t1 12 (by kernel_rfl) (by kernel_rfl)
      ·refine⟨?_,?_,?_,?_,?_,?_,?_,?_,?_,?_,?_,?_,trivial⟩
       iterate 12 (· intro tm hr;simp[AllL,rdV] at hr;simp[hr,← e11,← e12,Aa e13,f14,Bv (Aa e13).2 (j:=1) (by decide),lvs1,← e15,← e16];intros;first|exact KD.mk|exact KD.mkN)
      ·rfl
      ·simp[tmD,putD,← e11,← e12,Aa e13,f14,Bv (Aa e13).2 (j:=1) (by decide),lvs1,← e15,← e16];rfl
      ·simp[← e11,← e12,Aa e13,f14,Bv (Aa e13).2 (j:=1) (by decide),lvs1,← e15,← e16]
       intros;rfl
      obtain rfl:=oi h
      refine nP_i ?_
      refine Weak.mixN [some 0,some 1] hn0 (by decide) ?_ ?_ rfl
      all_goals first|(simp[Ac,Ae,pickOb];done)|rfl
     |false =>
      replace h:=iteF rfl h
      apply AW.drawnR (V:=[_,_,_,_,_,_,_,_,_,_,_,_]) mixed DX3t1 12 (by kernel_rfl) (by kernel_rfl)
      ·refine⟨?_,?_,?_,?_,?_,?_,?_,?_,?_,?_,?_,?_,trivial⟩
       iterate 12 (· intro tm hr;simp[AllL,rdV] at hr;simp[hr,← e11];intros;first|exact KD.mk|exact KD.mkN)
      ·rfl
      ·simp[tmD,putD,← e11];rfl
      ·simp[← e11]
       intros;rfl
      obtain rfl:=oi h
      refine nP_i ?_
      refine Weak.mixN [some 0,some 1] hn0 (by decide) ?_ ?_ rfl
      all_goals first|(simp[Ac,Ae,pickOb];done)|rfl
    ·rintro e s hp
     obtain⟨rfl,hw⟩:=hp
     refine⟨_,hw,?_⟩
     try simp only[nm]
     replace h:=ltE h;obtain⟨v17,e17,h⟩:=h
     rw[← e17]
     cases v17 with
     |true =>
      replace h:=iteT rfl h
      refine AW.cond_true (by simp) ?_
      replace h:=ltE h;obtain⟨v18,e18,h⟩:=h
      replace h:=bnE h;obtain⟨v19,e19,h⟩:=h
      have f20:=Ai e19
      try simp[← e18,Aa e19] at f20
      replace h:=ltE h;obtain⟨v21,e21,h⟩:=h
      have f22:=Ai e19
      try simp[← e18,Aa e19,f20,Bv (Aa e19).2 (j:=1) (by decide),lvs1,← e21] at f22
      replace h:=ltE h;obtain⟨v23,e23,h⟩:=h
      have f24:=H0 (Aa e19).2 e23 (j:=1) (cs:=[.s (.int .i64 v21)]) (by simp) rfl
      try simp at f24
      have f25:=f20
      try simp only[Af e23] at f25
      have f26:=f22
      try simp only[Af e23] at f26
      apply AW.drawnP (V:=[_,_,_,_,_,_,_,_,_,_,_,_]) mixed [⟨[0],[],[(3,none)],false⟩,⟨[0],[],[(6,none)],false⟩,⟨[0],[1],[(31,some 1)],false⟩,⟨[0],[],[(3,none)],false⟩,⟨[0],[],[(6,none)],false⟩,⟨[0],[4],[(34,some 4)],false⟩,⟨[0],[3,4,5],[(33,some 3),(35,some 5)],false⟩,⟨[0],[3,4,5,6],[(36,some 6)],false⟩,⟨[0],[3,4,5,6,7],[(37,some 7)],false⟩,⟨[0],[],[(5,none)],false⟩,⟨[0],[9],[(39,some 9)],false⟩,⟨[0],[3,4,5,6,7,8,9,10],[(38,some 8),(40,some 10)],false⟩,⟨[],[0,1,2,3,4,5,6,7,8,9,10,11],[],false⟩,⟨[],[0,1,2,3,4,5,6,7,8,9,10,11,12],[],false⟩,⟨[],[0,1,2,3,4,5,6,7,8,9,10,11,12,13],[],false⟩] 12 (by kernel_rfl) (by kernel_rfl)
      ·refine⟨?_,?_,?_,?_,?_,?_,?_,?_,?_,?_,?_,?_,trivial⟩
       iterate 12 (· intro tm hr;simp[AllL,rdV] at hr;simp[hr,← e18,Aa e19,f20,Bv (Aa e19).2 (j:=1) (by decide),lvs1,← e21,f22,DQ (Aa e19).2 (j:=1) (m:=1) (by decide),f24,f25,f26];intros;first|exact KD.mk|exact KD.mkN)
      ·rfl
      ·simp[tmD,putD,← e18,Aa e19,f20,Bv (Aa e19).2 (j:=1) (by decide),lvs1,← e21,f22,DQ (Aa e19).2 (j:=1) (m:=1) (by decide),f24,f25,f26];rfl
      ·simp[← e18,Aa e19,f20,Bv (Aa e19).2 (j:=1) (by decide),lvs1,← e21,f22,DQ (Aa e19).2 (j:=1) (m:=1) (by decide),f24,f25,f26]
       intros;rfl
      refine AW.exit ?_
      try simp only[nm]
      obtain rfl:=oi h
      refine nP_i ?_
      refine Weak.mixN [some 0] hn0 (by decide) ?_ ?_ rfl
      all_goals first|(simp[Ac,Ae,pickOb,Af e23];done)|rfl
     |false =>
      replace h:=iteF rfl h
      refine AW.cond_false (by simp) ?_
      refine AW.skip ?_
      try simp only[nm]
      replace h:=chkE h;obtain⟨e27,h⟩:=h
      replace h:=ltE h;obtain⟨v28,e28,h⟩:=h
      apply AW.last
      ·simp[← Bs,← e28,Ak e28]
       intros
       refine Ar ?_
       try simp[← Bs,← e28,Ak e28]
       intros
       refine AD (acc:=encSpan y3.2) (ys:=encSpan [v8]) (cap:=none) (k:=1) Ir Iq (by simp) (by simp[encSpan,lvs]) (CT _) (by simp) (by simp) (by first|(simp;done)|simpa using (Ah e27).1) ?_
       try simp[← Bs,← e28,Ak e28]
       intros;rfl
      obtain rfl:=oi h
      refine nP_i ?_
      refine Weak.mixN [some 3] hn0 (by decide) ?_ ?_ rfl
      all_goals first|(simp[Ac,Ae,pickOb,DP];done)|rfl
   ·rintro e s hp
    obtain⟨rfl,hw⟩:=hp
    refine⟨_,hw,?_⟩
    try simp only[nm]
    replace h:=ltE h;obtain⟨v29,e29,h⟩:=h
    apply AW.last
    ·simp[← e29]
     intros;rfl
    obtain rfl:=oi h
    refine nP_i ?_
    refine Weak.mixN [some 0] hn0 (by decide) ?_ ?_ rfl
    all_goals first|(simp[Ac,Ae,pickOb];done)|rfl
  |false =>
   replace h:=iteF rfl h
   refine AW.cond_false (by simp) ?_
   refine AW.exit ?_
   try simp only[nm]
   obtain rfl:=oi h
   refine xP_i ?_
   refine Weak.mixN [some 0] hn0 (by decide) ?_ ?_ rfl
   all_goals first|(simp[Ac,Ae,pickOb];done)|rfl
 ·rintro e s hp
  obtain⟨rfl,hw⟩:=hp
  refine⟨_,hw,?_⟩
  try simp only[nm]
  apply AW.step
  ·simp
   intros;rfl
  replace h:=chkE h;obtain⟨e30,h⟩:=h
  refine AW.frzRow 0 (ty:=43) (cap:=none) (sz:=2) (es:=encSpan y4) (by simp) (by omega) (CT _) (by first|exact (Ah e30).2|simpa using (Ah e30).2|simp) (by simp[Tm.frz,AV.frz,LV.frz];rfl) (by simp[Ob.frz,LV.frz];rfl) rfl ?_
  obtain rfl:=oi h
  refine AW.ret ?_
  refine Left.plain hnb (by simp[Try.f49,resV,resC,comp];rfl) rfl rfl ?_
  simp
theorem F3:Enters Try.prog 49:=enters Try.func49 (by kernel_rfl) rfl
def B7 (n:Nat) (a0:List Claim) (a1:List Span) (a2:Int) (a3:Int):Option (List Claim) :=
bn (CX n a1) fun v1 =>
lt (lenI v1) fun v2 =>
bn (iter n (fun (y3:Int×List Claim) =>
lt (ltI y3.1 v2) fun v6 =>
ite' v6 (bn (nth v1 y3.1) fun v7 =>
chk (room (y3.2.length+1) 32) <|
lt (y3.2++[(⟨v7.frm,v7.to,a2,a3⟩:Claim)]) fun v9 =>
lt (addI .i64 y3.1 1) fun v10 =>
some (.inl (v10,v9))) (some (.inr y3.2))) (0,[])) fun (y4:List Claim) =>
bn (chk (room y4.length 1) <|
bn (CI n a0 y4) fun v13 =>
bn (iter n (fun (y14:Int×List Claim×List Claim×ClaimsPiece×List Claim) =>
lt (leI y14.1 16383) fun v17 =>
ite' v17 (bn (Cp n y14.2.1 y14.1) fun v18 =>
bn (Cp n y14.2.2.1 y14.1) fun v19 =>
lt (minI v18.1.to v19.1.to) fun v20 =>
bn (lt (gtI v19.1.epoch 0) fun v22 =>
ite' v22 (some ((⟨(⟨v19.1.frm,v20,v19.1.node,v19.1.epoch⟩:Claim),(⟨v19.1.frm,v20,v19.1.node,v19.1.epoch⟩:Claim)⟩:ClaimsPiece))) (some ((⟨(⟨v18.1.frm,v20,v18.1.node,v18.1.epoch⟩:Claim),(⟨v19.1.frm,v20,v19.1.node,v19.1.epoch⟩:Claim)⟩:ClaimsPiece)))) fun (y21:ClaimsPiece) =>
bn (CJ n y14.2.2.2.2 y21.a) fun v23 =>
lt (addI .i64 v20 1) fun v24 =>
some (.inl (v24,v18.2,v19.2,(⟨(⟨v18.1.frm,v20,v18.1.node,v18.1.epoch⟩:Claim),(⟨v19.1.frm,v20,v19.1.node,v19.1.epoch⟩:Claim)⟩:ClaimsPiece),v23))) (some (.inr (y14.2.1,y14.2.2.1,y14.2.2.2.2)))) (0,v13.1,v13.2,(⟨(⟨0,0,0,0⟩:Claim),(⟨0,0,0,0⟩:Claim)⟩:ClaimsPiece),[])) fun (y15:List Claim×List Claim×List Claim) =>
some (y15.2.2)) fun (y11:List Claim) =>
chk (room y11.length 1) <|
some y11
theorem E2 {n:Nat} {a0:List Claim} {a1:List Span} {a2:Int} {a3:Int} {r:List Claim} (h:B7 n a0 a1 a2 a3=some r):Sound Try.prog 19 [.l (.d false 4 (encClaim a0)),.l (.d true 2 (encSpan a1)),.l (.s (.int .i64 a2)),.l (.s (.int .i64 a3))] [] (.l (.d false 4 (encClaim r))) []:=by
 unfold B7 at h
 refine Sound.of_aw (fn:=Try.f19) (c:=_) Try.func19 rfl (by simp[Try.f19]) fun cx hG hnb=>?_
 rw[show Try.f19.ntmps=48 from rfl]
 have hn0:cx.nb=0:=hnb
 simp only[Al,initTm,List.map_cons,List.map_nil]
 apply AW.step
 ·simp
  intros;rfl
 apply AW.step
 ·simp
  intros;rfl
 refine AW.seq ?_
 replace h:=bnE h;obtain⟨v1,e1,h⟩:=h
 replace h:=ltE h;obtain⟨v2,e2,h⟩:=h
 apply AW.step
 ·simp[Aj e2]
  intros
  refine Ag F3 (Gm e1) rfl ⟨.d _ _ _,trivial⟩ ?_
  try simp[Aj e2]
  intros;rfl
 refine AW.block ?_
 replace h:=bnE h;obtain⟨y4,g4,h⟩:=h
 refine AW.iterP g4 (mk:=fun gh ls q=>(⟨[(0,.l (.d false 4 (encClaim a0))),(2,.l (.s (.int .i64 a2))),(3,.l (.s (.int .i64 a3))),(9,.l (.r 0 4 0 q.2.length)),(10,.l (.p 1 0)),(15,.l (.d false 2 (encSpan v1))),(16,.l (.s (.int .i64 v2))),(17,.l (.s (.int .i64 q.1)))],[some ⟨41,4,true,none,lvs (encClaim q.2)⟩,some ⟨24,1,false,none,[.s (.slice none 0 0)]⟩],48,gh,ls⟩:St)) (N:=fun gh ls=>(xP 0 (cx:=cx) (fun q=>(⟨[(0,.l (.d false 4 (encClaim a0))),(9,.l (.r 0 4 0 q.length)),(10,.l (.p 1 0))],[some ⟨41,4,true,none,lvs (encClaim q)⟩,some ⟨24,1,false,none,[.s (.slice none 0 0)]⟩],48,gh,ls⟩:St)))) ?_ noX ?_ ?_
 ·refine W.nilRow 9 41 4 1 (by simp) rfl rfl ?_
  refine Weak.mixN [some 1,some 0] hn0 (by decide) ?_ ?_ rfl
  all_goals first|(simp[Ac,Ae,pickOb];done)|rfl
 ·clear h;intro y3 y5 h
  replace h:=ltE h;obtain⟨v6,e6,h⟩:=h
  apply AW.step
  ·simp[← e6]
   intros;rfl
  refine AW.seq ?_
  cases v6 with
  |true =>
   replace h:=iteT rfl h
   refine AW.cond_true (by simp) ?_
   refine AW.skip ?_
   try simp only[nm]
   refine AW.seq ?_
   refine AW.block ?_
   replace h:=bnE h;obtain⟨v7,e7,h⟩:=h
   apply AW.step
   ·simp[Aa e7]
    intros;rfl
   replace h:=chkE h;obtain⟨e8,h⟩:=h
   replace h:=ltE h;obtain⟨v9,e9,h⟩:=h
   apply AW.last
   ·simp[← AG,← e9,Ak e9]
    intros
    refine Ar ?_
    try simp[← AG,← e9,Ak e9]
    intros
    refine AD (acc:=encClaim y3.2) (ys:=encClaim [(⟨v7.frm,v7.to,a2,a3⟩:Claim)]) (cap:=none) (k:=1) Fa E9 (by simp) (by simp[encClaim,lvs]) (Bf _) (by simp) (by simp) (by first|(simp;done)|simpa using (Ah e8).1) ?_
    try simp[← AG,← e9,Ak e9]
    intros;rfl
   try simp only[nm]
   replace h:=ltE h;obtain⟨v10,e10,h⟩:=h
   apply AW.last
   ·simp[← e10]
    intros;rfl
   obtain rfl:=oi h
   refine nP_i ?_
   refine Weak.mixN [some 4,some 1] hn0 (by decide) ?_ ?_ rfl
   all_goals first|(simp[Ac,Ae,pickOb,CA];done)|rfl
  |false =>
   replace h:=iteF rfl h
   refine AW.cond_false (by simp) ?_
   refine AW.exit ?_
   try simp only[nm]
   obtain rfl:=oi h
   refine xP_i ?_
   refine Weak.mixN [some 0,some 1] hn0 (by decide) ?_ ?_ rfl
   all_goals first|(simp[Ac,Ae,pickOb];done)|rfl
 ·rintro e s hp
  obtain⟨rfl,hw⟩:=hp
  refine⟨_,hw,?_⟩
  try simp only[nm]
  replace h:=bnE h;obtain⟨y11,g11,h⟩:=h
  refine AW.flow (p:=fun gh ls=>(nP (cx:=cx) (fun q=>(⟨[(10,.l (.p 0 0))],[some ⟨24,1,false,none,[.r 1 4 0 q.length]⟩,some ⟨41,4,true,none,lvs (encClaim q)⟩],48,gh,ls⟩:St))) y11) ?_ ?_
  ·replace h:=g11;clear g11
   replace h:=chkE h;obtain⟨e12,h⟩:=h
   refine AW.frzRow 0 (ty:=41) (cap:=none) (sz:=4) (es:=encClaim y4) (by simp) (by omega) (Bf _) (by first|exact (Ah e12).2|simpa using (Ah e12).2|simp) (by simp[Tm.frz,AV.frz,LV.frz];rfl) (by simp[Ob.frz,LV.frz];rfl) rfl ?_
   replace h:=bnE h;obtain⟨v13,e13,h⟩:=h
   apply AW.step
   ·simp
    intros
    refine Aw Fy (FZ e13) rfl (by simp) ⟨.same rfl,.same rfl,trivial⟩ ?_
    try simp
    intros;rfl
   refine AW.block ?_
   refine AW.weak (Weak.keep [(10,.l (.p 1 0)),(34,.l (.f 67 [2,3]))] (by simp)) ?_
   refine AW.rangeG rfl Try.func67 (by kernel_rfl) rfl (by decide) rfl rfl fun cxI1 yl1 hnI1 hY1=>?_
   have hnJ1:cxI1.nb=0:=hnI1.trans hn0
   simp only[initTm,List.map_cons,List.map_nil]
   apply AW.step
   ·simp
    intros;rfl
   apply AW.step
   ·simp
    intros;rfl
   refine AW.block ?_
   replace h:=bnE h;obtain⟨y15,g15,h⟩:=h
   refine AW.iterP g15 (mk:=fun gh ls q=>(⟨[(0,.l (.s (.func (.yield yl1) #[] #[]))),(1,.l (.p 2 0)),(2,.l (.p 3 0)),(4,.l (.p 4 0)),(5,.l (.s (.int .i64 q.1)))],[none,some ⟨24,1,false,none,[.r 5 4 0 q.2.2.2.2.length]⟩,some ⟨24,1,false,none,[.d false 4 (encClaim q.2.1)]⟩,some ⟨24,1,false,none,[.d false 4 (encClaim q.2.2.1)]⟩,some ⟨95,8,false,none,[.s (.int .i64 q.2.2.2.1.a.frm),.s (.int .i64 q.2.2.2.1.a.to),.s (.int .i64 q.2.2.2.1.a.node),.s (.int .i64 q.2.2.2.1.a.epoch),.s (.int .i64 q.2.2.2.1.b.frm),.s (.int .i64 q.2.2.2.1.b.to),.s (.int .i64 q.2.2.2.1.b.node),.s (.int .i64 q.2.2.2.1.b.epoch)]⟩,some ⟨41,4,true,none,lvs (encClaim q.2.2.2.2)⟩],44,gh,ls⟩:St)) (N:=fun gh ls=>(xP 0 (cx:=cxI1) (fun q=>(⟨[],[none,some ⟨24,1,false,none,[.r 4 4 0 q.2.2.length]⟩,some ⟨24,1,false,none,[.d false 4 (encClaim q.1)]⟩,some ⟨24,1,false,none,[.d false 4 (encClaim q.2.1)]⟩,some ⟨41,4,true,none,lvs (encClaim q.2.2)⟩],44,gh,ls⟩:St)))) ?_ noX ?_ ?_
   ·refine W.nilCell 1 0 41 4 5 rfl rfl rfl rfl rfl ?_
    refine Weak.mixB 0 [some 0,some 1,some 2,some 3,some 4,some 5] hnJ1 (by decide) (by decide) ?_ ?_ ?_
    all_goals first|(simp[Ac,Ae,pickOb];done)|rfl
   ·clear h;intro y14 y16 h
    refine AW.seq ?_
    replace h:=ltE h;obtain⟨v17,e17,h⟩:=h
    apply AW.step
    ·simp[← e17]
     intros;rfl
    cases v17 with
    |true =>
     replace h:=iteT rfl h
     refine AW.cond_true (by simp) ?_
     refine AW.skip ?_
     try simp only[nm]
     refine AW.seq ?_
     refine AW.block ?_
     replace h:=bnE h;obtain⟨v18,e18,h⟩:=h
     apply AW.step
     ·simp
      intros
      refine Ag Eq (EH e18) rfl ⟨.same rfl,.same rfl,trivial⟩ ?_
      try simp
      intros;rfl
     replace h:=bnE h;obtain⟨v19,e19,h⟩:=h
     apply AW.step
     ·simp
      intros
      refine Ag Eq (EH e19) rfl ⟨.same rfl,.same rfl,trivial⟩ ?_
      try simp
      intros;rfl
     replace h:=ltE h;obtain⟨v20,e20,h⟩:=h
     apply AW.step
     ·simp[← e20]
      intros;rfl
     apply AW.step
     ·simp
      intros;rfl
     refine AW.stepYK ?_
     apply xopsY.yield hY1 0 2 rfl rfl rfl (by decide)
     ·simp
      intros;rfl
     ·rfl
     ·first|trivial|simp
     ·rfl
     ·rfl
     ·simp[puts];rfl
     intro cxR1 hnR1
     have hnS1:cxR1.nb=0:=hnR1.trans hnJ1
     apply AW.last
     ·simp
      intros;rfl
     refine⟨rfl,?_⟩
     refine AW.block ?_
     replace h:=bnE h;obtain⟨y21,g21,h⟩:=h
     refine AW.flow (p:=fun gh ls=>(nP (cx:=cxR1) (fun q=>(⟨[(10,.l (.p 1 0)),(13,.l (.p 6 0))],[none,some ⟨24,1,false,none,[.r 5 4 0 y14.2.2.2.2.length]⟩,some ⟨24,1,false,none,[.d false 4 (encClaim v18.2)]⟩,some ⟨24,1,false,none,[.d false 4 (encClaim v19.2)]⟩,some ⟨95,8,false,none,[.s (.int .i64 v18.1.frm),.s (.int .i64 v20),.s (.int .i64 v18.1.node),.s (.int .i64 v18.1.epoch),.s (.int .i64 v19.1.frm),.s (.int .i64 v20),.s (.int .i64 v19.1.node),.s (.int .i64 v19.1.epoch)]⟩,some ⟨41,4,true,none,lvs (encClaim y14.2.2.2.2)⟩,some ⟨95,8,false,none,[.s (.int .i64 q.a.frm),.s (.int .i64 q.a.to),.s (.int .i64 q.a.node),.s (.int .i64 q.a.epoch),.s (.int .i64 q.b.frm),.s (.int .i64 q.b.to),.s (.int .i64 q.b.node),.s (.int .i64 q.b.epoch)]⟩],48,gh,ls⟩:St))) y21) ?_ ?_
     ·replace h:=g21;clear g21
      replace h:=ltE h;obtain⟨v22,e22,h⟩:=h
      apply AW.step
      ·simp[← e22]
       intros;rfl
      cases v22 with
      |true =>
       replace h:=iteT rfl h
       refine AW.cond_true (by simp) ?_
       apply AW.last
       ·simp
        intros;rfl
       obtain rfl:=oi h
       refine nP_i ?_
       refine Weak.mixB 0 [some 0,some 1,some 2,some 3,some 4,some 5,some 6] hnS1 (by decide) (by decide) ?_ ?_ ?_
       all_goals first|(simp[Ac,Ae,pickOb];done)|rfl
      |false =>
       replace h:=iteF rfl h
       refine AW.cond_false (by simp) ?_
       refine AW.skip ?_
       try simp only[nm]
       obtain rfl:=oi h
       refine nP_i ?_
       refine Weak.mixB 0 [some 0,some 1,some 2,some 3,some 4,some 5,some 6] hnS1 (by decide) (by decide) ?_ ?_ ?_
       all_goals first|(simp[Ac,Ae,pickOb];done)|rfl
     ·rintro e s hp
      obtain⟨rfl,hw⟩:=hp
      refine⟨_,hw,?_⟩
      try simp only[nm]
      replace h:=bnE h;obtain⟨v23,e23,h⟩:=h
      apply AW.last
      ·simp[obAfter,outR,keptR,Ac,Ae]
       intros
       refine Ax [5] Fz (F1 e23) (by decide) (by simp[pickOb,Ac,Ae]) rfl rfl (by simp) ⟨.l (.own' (by simp[Ac,Ae]) (by simp)),.g ⟨.s _,.s _,.s _,.s _,trivial⟩,trivial⟩ ?_
       try simp[obAfter,outR,keptR,Ac,Ae]
       intros;rfl
      refine⟨_,_,rfl,?_⟩
      refine DK _ _ _ rfl ?_
      simp[puts]
      try intros
      unfold KK
      refine AW.cond_false (by simp) ?_
      refine AW.skip ?_
      try simp only[nm]
      replace h:=ltE h;obtain⟨v24,e24,h⟩:=h
      apply AW.last
      ·simp[← e24]
       intros;rfl
      obtain rfl:=oi h
      refine nP_i ?_
      refine Weak.mixB 0 [some 0,some 1,some 2,some 3,some 4,some 5] hnJ1 (by decide) (by decide) ?_ ?_ ?_
      all_goals first|(simp[Ac,Ae,pickOb];done)|rfl
    |false =>
     replace h:=iteF rfl h
     refine AW.cond_false (by simp) ?_
     refine AW.exit ?_
     try simp only[nm]
     obtain rfl:=oi h
     refine xP_i ?_
     refine Weak.mixB 0 [some 0,some 1,some 2,some 3,some 5] hnJ1 (by decide) (by decide) ?_ ?_ ?_
     all_goals first|(simp[Ac,Ae,pickOb];done)|rfl
   ·rintro e s hp
    obtain⟨rfl,hw⟩:=hp
    refine⟨_,hw,?_⟩
    try simp only[nm]
    refine⟨_,_,rfl,?_⟩
    try simp only[]
    try simp only[nm]
    obtain rfl:=oi h
    refine nP_i ?_
    refine Weak.mixN [some 1,some 4] hn0 (by decide) ?_ ?_ rfl
    all_goals first|(simp[Ac,Ae,pickOb];done)|rfl
  ·rintro e s hp
   obtain⟨rfl,hw⟩:=hp
   refine⟨_,hw,?_⟩
   try simp only[nm]
   apply AW.step
   ·simp
    intros;rfl
   replace h:=chkE h;obtain⟨e25,h⟩:=h
   refine AW.frzRow 1 (ty:=41) (cap:=none) (sz:=4) (es:=encClaim y11) (by simp) (by omega) (Bf _) (by first|exact (Ah e25).2|simpa using (Ah e25).2|simp) (by simp[Tm.frz,AV.frz,LV.frz];rfl) (by simp[Ob.frz,LV.frz];rfl) rfl ?_
   obtain rfl:=oi h
   refine AW.ret ?_
   refine Left.plain hnb (by simp[Try.f19,resV,resC,comp];rfl) rfl rfl ?_
   simp
theorem EL:Enters Try.prog 19:=enters Try.func19 (by kernel_rfl) rfl
end Go.Proofs.Ythjenkmbbnjcnaa
namespace Go.Proofs.Ythjenkmbbnjcnaa
open Go Go.RowKit
end Go.Proofs.Ythjenkmbbnjcnaa
namespace Go.Proofs.Ythjenkmbbnjcnaa
open Go Go.RowKit
variable {P:Program} {R:Option Nat} {cx:Cx} {Q:Post} {c:Code} {tm:Tm} {ob ob':List (Option Ob)} {nt:Nat} {gh:List Tm} {ls:Option Code}
@[simp] theorem inv_gap (o:Nat) (r:List (Option Nat)):inv (none::r) o=(inv r o).map (·+1):=by
 unfold inv
 rw[List.findIdx?_cons]
 rfl
theorem AW.recell (o:Nat) {x x':Ob} (hz:ob[o]?=some (some x)) (e:x=x') (h:ob.set o (some x')=ob') (k:AW P R cx c Q ⟨tm,ob',nt,gh,ls⟩):AW P R cx c Q ⟨tm,ob,nt,gh,ls⟩:=by
 subst e h
 have:ob.set o (some x)=ob:=by
  apply List.ext_getElem?
  intro i
  rw[List.getElem?_set]
  split
  ·rename_i h
   subst h
   split
   ·exact hz.symm
   ·rename_i h2
    rw[List.getElem?_eq_none (by omega)]
  ·rfl
 rwa [this] at k
end Go.Proofs.Ythjenkmbbnjcnaa
namespace Go.Proofs.Ythjenkmbbnjcnaa
open Go Go.RowKit
def CY (n:Nat) (a0:Int):Option Watch :=
lt (minI a0 8) fun v1 =>
lt (maxI 0 v1) fun v2 =>
chk (mkB v2 8) <|
lt (List.replicate v2.toNat 0) fun v4 =>
chk (mkB v2 24) <|
lt (List.replicate v2.toNat []) fun v6 =>
chk (room v4.length 1) <|
some (⟨v4,v6⟩:Watch)
theorem Gn {n:Nat} {a0:Int} {r:Watch} (h:CY n a0=some r):Sound Try.prog 72 [.l (.s (.int .i64 a0))] [] (.g [.d false 1 (encI r.heard),.d false 1 (encLI r.says)]) []:=by
 unfold CY at h
 refine Sound.of_aw (fn:=Try.f72) (c:=_) Try.func72 rfl (by simp[Try.f72]) fun cx hG hnb=>?_
 rw[show Try.f72.ntmps=12 from rfl]
 have hn0:cx.nb=0:=hnb
 simp only[Al,initTm,List.map_cons,List.map_nil]
 apply AW.step
 ·simp
  intros;rfl
 replace h:=ltE h;obtain⟨v1,e1,h⟩:=h
 replace h:=ltE h;obtain⟨v2,e2,h⟩:=h
 apply AW.step
 ·simp[← e1,← e2]
  intros;rfl
 replace h:=chkE h;obtain⟨e3,h⟩:=h
 replace h:=ltE h;obtain⟨v4,e4,h⟩:=h
 replace h:=chkE h;obtain⟨e5,h⟩:=h
 replace h:=ltE h;obtain⟨v6,e6,h⟩:=h
 apply AW.drawnE (V:=[_,_,_,_]) (M:=[[some ⟨67,2,false,none,[.s (.slice none 0 0),.s (.slice none 0 0)]⟩],[some ⟨67,2,false,none,[.s (.slice none 0 0),.s (.slice none 0 0)]⟩,some ⟨3,1,true,none,lvs (encI v4)⟩]]) mixed [⟨[0],[],[(3,none)],false⟩,⟨[0],[0],[(7,some 0)],true⟩,⟨[0,1],[],[(3,none)],false⟩,⟨[0,1],[2],[(9,some 2)],false⟩,⟨[],[0,1,2,3],[],false⟩,⟨[],[0,1,2,3,4],[],false⟩] 4 1 (by kernel_rfl) (by kernel_rfl)
 ·rfl
 ·refine⟨?_,?_,⟨?_,?_⟩,⟨?_,?_⟩,trivial⟩
  ·intro tm hr;simp[AllL,rdV] at hr;simp[hr];intros;first|exact KD.mk|exact KD.mkN
  ·intro tm hr
   simp[AllL,rdV] at hr
   simp[hr]
   intros
   refine Kk (enc:=encI) (fun _=>rfl) e4 Is Jk ⟨rfl,rfl,by decide⟩ (IW e3) rfl ?_
   try simp[]
   intros;first|exact KD.mk|exact KD.mkN
  iterate 2 (· intro tm hr;simp[AllL,rdV] at hr;simp[hr];intros;first|exact KD.mk|exact KD.mkN)
  ·intro tm hr
   simp[AllL,rdV] at hr
   simp[hr]
   intros
   refine Hz (enc:=encLI) (fun _=>rfl) e6 Gi Gh ⟨rfl,rfl,by decide⟩ (IW e5) (by simp[All2,lvs]) rfl ?_
   try simp[]
   intros;first|exact KD.mk|exact KD.mkN
  ·intro tm hr
   simp[AllL,rdV] at hr
   simp[hr]
   intros
   refine Hz (enc:=encLI) (fun _=>rfl) e6 Gi Gh ⟨rfl,rfl,by decide⟩ (IW e5) (by simp[All2,lvs]) rfl ?_
   try simp[]
   intros;first|exact KD.mk|exact KD.mkN
 ·rfl
 ·simp[tmD,putD];rfl
 ·simp
  intros;rfl
 replace h:=chkE h;obtain⟨e7,h⟩:=h
 refine AW.frzRow 1 (ty:=3) (cap:=none) (sz:=1) (es:=encI v4) (by simp) (by omega) (DD _) (by first|exact (Ah e7).2|simpa using (Ah e7).2|simp) (by simp[Tm.frz,AV.frz,LV.frz];rfl) (by simp[Ob.frz,LV.frz];rfl) rfl ?_
 obtain rfl:=oi h
 refine AW.ret ?_
 refine Left.plain hnb (by simp[Try.f72,resV,resC,comp];rfl) rfl rfl ?_
 simp
theorem F4:Enters Try.prog 72:=enters Try.func72 (by kernel_rfl) rfl
def Dz (n:Nat) (a0:Int) (a1:Int) (a2:Int):Option Node :=
lt (minI a0 8) fun v1 =>
lt (maxI 1 v1) fun v2 =>
lt (minI a2 v2) fun v3 =>
lt (maxI 1 v3) fun v4 =>
lt (subI .i64 v2 1) fun v5 =>
lt (minI a1 v5) fun v6 =>
lt (maxI 0 v6) fun v7 =>
bn (CY n v2) fun v8 =>
bn (lt (geI v7 v4) fun v10 =>
ite' v10 (bn (remI .i64 v7 v4) fun v11 =>
some (v11)) (some (-1))) fun (y9:Int) =>
bn (lt (geI y9 0) fun v13 =>
ite' v13 (some (y9)) (some (v7))) fun (y12:Int) =>
bn (iter n (fun (y14:Int×List Claim) =>
lt (ltI y14.1 v4) fun v17 =>
ite' v17 (lt (mulI .i64 y14.1 16384) fun v18 =>
bn (quoI .i64 v18 v4) fun v19 =>
lt (addI .i64 y14.1 1) fun v20 =>
lt (mulI .i64 v20 16384) fun v21 =>
bn (quoI .i64 v21 v4) fun v22 =>
lt (subI .i64 v22 1) fun v23 =>
chk (room (y14.2.length+1) 32) <|
lt (y14.2++[(⟨v19,v23,y14.1,1⟩:Claim)]) fun v25 =>
some (.inl (v20,v25))) (some (.inr y14.2))) (0,[])) fun (y15:List Claim) =>
chk (room y15.length 1) <|
some (⟨v2,v7,y9,1,0,y15,[],[],0,[],(⟨(⟨y12,0⟩:Rid),0,[],(⟨0,0⟩:Rid),0⟩:Feed),v8,0,[],0⟩:Node)
theorem GN {n:Nat} {a0:Int} {a1:Int} {a2:Int} {r:Node} (h:Dz n a0 a1 a2=some r):Sound Try.prog 57 [.l (.s (.int .i64 a0)),.l (.s (.int .i64 a1)),.l (.s (.int .i64 a2))] [] (.g [.s (.int .i64 r.count),.s (.int .i64 r.id),.s (.int .i64 r.master),.s (.int .i64 r.epoch),.s (.int .i64 r.voted),.d false 4 (encClaim r.claims),.d false 6 (encPair r.db),.d false 4 (encMove r.moves),.s (.int .i64 r.last),.d false 3 (encSeen r.seen),.s (.int .i64 r.feed.rid.node),.s (.int .i64 r.feed.rid.epoch),.s (.int .i64 r.feed.off),.d false 7 (encEffect r.feed.back),.s (.int .i64 r.feed.prev.node),.s (.int .i64 r.feed.prev.epoch),.s (.int .i64 r.feed.upto),.d false 1 (encI r.watch.heard),.d false 1 (encLI r.watch.says),.s (.int .i64 r.asked),.d false 1 (encI r.votes),.s (.int .i64 r.wait)]) []:=by
 unfold Dz at h
 refine Sound.of_aw (fn:=Try.f57) (c:=_) Try.func57 rfl (by simp[Try.f57]) fun cx hG hnb=>?_
 rw[show Try.f57.ntmps=72 from rfl]
 have hn0:cx.nb=0:=hnb
 simp only[Al,initTm,List.map_cons,List.map_nil]
 apply AW.step
 ·simp
  intros;rfl
 replace h:=ltE h;obtain⟨v1,e1,h⟩:=h
 replace h:=ltE h;obtain⟨v2,e2,h⟩:=h
 apply AW.step
 ·simp[← e1,← e2]
  intros;rfl
 replace h:=ltE h;obtain⟨v3,e3,h⟩:=h
 replace h:=ltE h;obtain⟨v4,e4,h⟩:=h
 apply AW.step
 ·simp[← e3,← e4]
  intros;rfl
 replace h:=ltE h;obtain⟨v5,e5,h⟩:=h
 replace h:=ltE h;obtain⟨v6,e6,h⟩:=h
 replace h:=ltE h;obtain⟨v7,e7,h⟩:=h
 replace h:=bnE h;obtain⟨v8,e8,h⟩:=h
 apply AW.step
 ·simp[← e5,← e6,← e7]
  intros
  refine Ag F4 (Gn e8) rfl ⟨.same rfl,trivial⟩ ?_
  try simp[← e5,← e6,← e7]
  intros;rfl
 replace h:=bnE h;obtain⟨y9,g9,h⟩:=h
 refine AW.flow (p:=fun gh ls=>(nP (cx:=cx) (fun q=>(⟨[(6,.l (.p 0 0)),(8,.l (.s (.int .i64 v4))),(9,.l (.p 1 0))],[some ⟨69,22,false,none,[.s (.int .i64 0),.s (.int .i64 0),.s (.int .i64 0),.s (.int .i64 0),.s (.int .i64 0),.s (.slice none 0 0),.s (.slice none 0 0),.s (.slice none 0 0),.s (.int .i64 0),.s (.slice none 0 0),.s (.int .i64 0),.s (.int .i64 0),.s (.int .i64 0),.s (.slice none 0 0),.s (.int .i64 0),.s (.int .i64 0),.s (.int .i64 0),.s (.slice none 0 0),.s (.slice none 0 0),.s (.int .i64 0),.s (.slice none 0 0),.s (.int .i64 0)]⟩,some ⟨69,22,false,none,[.s (.int .i64 v2),.s (.int .i64 v7),.s (.int .i64 q),.s (.int .i64 1),.s (.int .i64 0),.s (.slice none 0 0),.s (.slice none 0 0),.s (.slice none 0 0),.s (.int .i64 0),.s (.slice none 0 0),.s (.int .i64 0),.s (.int .i64 0),.s (.int .i64 0),.s (.slice none 0 0),.s (.int .i64 0),.s (.int .i64 0),.s (.int .i64 0),.d false 1 (encI v8.heard),.d false 1 (encLI v8.says),.s (.int .i64 0),.s (.slice none 0 0),.s (.int .i64 0)]⟩],72,gh,ls⟩:St))) y9) ?_ ?_
 ·replace h:=g9;clear g9
  replace h:=ltE h;obtain⟨v10,e10,h⟩:=h
  apply AW.step
  ·simp[← e10]
   intros;rfl
  cases v10 with
  |true =>
   replace h:=iteT rfl h
   refine AW.cond_true (by simp) ?_
   replace h:=bnE h;obtain⟨v11,e11,h⟩:=h
   apply AW.last
   ·simp[e11]
    intros;rfl
   obtain rfl:=oi h
   refine nP_i ?_
   refine Weak.mixN [some 0,some 1] hn0 (by decide) ?_ ?_ rfl
   all_goals first|(simp[Ac,Ae,pickOb];done)|rfl
  |false =>
   replace h:=iteF rfl h
   refine AW.cond_false (by simp) ?_
   refine AW.skip ?_
   try simp only[nm]
   obtain rfl:=oi h
   refine nP_i ?_
   refine Weak.mixN [some 0,some 1] hn0 (by decide) ?_ ?_ rfl
   all_goals first|(simp[Ac,Ae,pickOb];done)|rfl
 ·rintro e s hp
  obtain⟨rfl,hw⟩:=hp
  refine⟨_,hw,?_⟩
  try simp only[nm]
  apply AW.step
  ·simp
   intros;rfl
  replace h:=bnE h;obtain⟨y12,g12,h⟩:=h
  refine AW.flow (p:=fun gh ls=>(nP (cx:=cx) (fun q=>(⟨[(6,.l (.p 0 0)),(8,.l (.s (.int .i64 v4))),(9,.l (.p 1 0))],[some ⟨69,22,false,none,[.s (.int .i64 0),.s (.int .i64 0),.s (.int .i64 0),.s (.int .i64 0),.s (.int .i64 0),.s (.slice none 0 0),.s (.slice none 0 0),.s (.slice none 0 0),.s (.int .i64 0),.s (.slice none 0 0),.s (.int .i64 0),.s (.int .i64 0),.s (.int .i64 0),.s (.slice none 0 0),.s (.int .i64 0),.s (.int .i64 0),.s (.int .i64 0),.s (.slice none 0 0),.s (.slice none 0 0),.s (.int .i64 0),.s (.slice none 0 0),.s (.int .i64 0)]⟩,some ⟨69,22,false,none,[.s (.int .i64 v2),.s (.int .i64 v7),.s (.int .i64 y9),.s (.int .i64 1),.s (.int .i64 0),.s (.slice none 0 0),.s (.slice none 0 0),.s (.slice none 0 0),.s (.int .i64 0),.s (.slice none 0 0),.s (.int .i64 q),.s (.int .i64 0),.s (.int .i64 0),.s (.slice none 0 0),.s (.int .i64 0),.s (.int .i64 0),.s (.int .i64 0),.d false 1 (encI v8.heard),.d false 1 (encLI v8.says),.s (.int .i64 0),.s (.slice none 0 0),.s (.int .i64 0)]⟩],72,gh,ls⟩:St))) y12) ?_ ?_
  ·replace h:=g12;clear g12
   replace h:=ltE h;obtain⟨v13,e13,h⟩:=h
   apply AW.step
   ·simp[← e13]
    intros;rfl
   cases v13 with
   |true =>
    replace h:=iteT rfl h
    refine AW.cond_true (by simp) ?_
    apply AW.last
    ·simp
     intros;rfl
    obtain rfl:=oi h
    refine nP_i ?_
    refine Weak.mixN [some 0,some 1] hn0 (by decide) ?_ ?_ rfl
    all_goals first|(simp[Ac,Ae,pickOb];done)|rfl
   |false =>
    replace h:=iteF rfl h
    refine AW.cond_false (by simp) ?_
    refine AW.skip ?_
    try simp only[nm]
    obtain rfl:=oi h
    refine nP_i ?_
    refine Weak.mixN [some 0,some 1] hn0 (by decide) ?_ ?_ rfl
    all_goals first|(simp[Ac,Ae,pickOb];done)|rfl
  ·rintro e s hp
   obtain⟨rfl,hw⟩:=hp
   refine⟨_,hw,?_⟩
   try simp only[nm]
   refine AW.seq ?_
   apply AW.step
   ·simp
    intros;rfl
   refine AW.block ?_
   replace h:=bnE h;obtain⟨y15,g15,h⟩:=h
   refine AW.iterP g15 (mk:=fun gh ls q=>(⟨[(6,.l (.p 0 0)),(8,.l (.s (.int .i64 v4))),(9,.l (.p 1 0)),(10,.l (.s (.int .i64 q.1)))],[some ⟨69,22,false,none,[.s (.int .i64 0),.s (.int .i64 0),.s (.int .i64 0),.s (.int .i64 0),.s (.int .i64 0),.s (.slice none 0 0),.s (.slice none 0 0),.s (.slice none 0 0),.s (.int .i64 0),.s (.slice none 0 0),.s (.int .i64 0),.s (.int .i64 0),.s (.int .i64 0),.s (.slice none 0 0),.s (.int .i64 0),.s (.int .i64 0),.s (.int .i64 0),.s (.slice none 0 0),.s (.slice none 0 0),.s (.int .i64 0),.s (.slice none 0 0),.s (.int .i64 0)]⟩,some ⟨69,22,false,none,[.s (.int .i64 v2),.s (.int .i64 v7),.s (.int .i64 y9),.s (.int .i64 1),.s (.int .i64 0),.r 2 4 0 q.2.length,.s (.slice none 0 0),.s (.slice none 0 0),.s (.int .i64 0),.s (.slice none 0 0),.s (.int .i64 y12),.s (.int .i64 0),.s (.int .i64 0),.s (.slice none 0 0),.s (.int .i64 0),.s (.int .i64 0),.s (.int .i64 0),.d false 1 (encI v8.heard),.d false 1 (encLI v8.says),.s (.int .i64 0),.s (.slice none 0 0),.s (.int .i64 0)]⟩,some ⟨41,4,true,none,lvs (encClaim q.2)⟩],72,gh,ls⟩:St)) (N:=fun gh ls=>(xP 0 (cx:=cx) (fun q=>(⟨[(6,.l (.p 0 0)),(9,.l (.p 1 0))],[some ⟨69,22,false,none,[.s (.int .i64 0),.s (.int .i64 0),.s (.int .i64 0),.s (.int .i64 0),.s (.int .i64 0),.s (.slice none 0 0),.s (.slice none 0 0),.s (.slice none 0 0),.s (.int .i64 0),.s (.slice none 0 0),.s (.int .i64 0),.s (.int .i64 0),.s (.int .i64 0),.s (.slice none 0 0),.s (.int .i64 0),.s (.int .i64 0),.s (.int .i64 0),.s (.slice none 0 0),.s (.slice none 0 0),.s (.int .i64 0),.s (.slice none 0 0),.s (.int .i64 0)]⟩,some ⟨69,22,false,none,[.s (.int .i64 v2),.s (.int .i64 v7),.s (.int .i64 y9),.s (.int .i64 1),.s (.int .i64 0),.r 2 4 0 q.length,.s (.slice none 0 0),.s (.slice none 0 0),.s (.int .i64 0),.s (.slice none 0 0),.s (.int .i64 y12),.s (.int .i64 0),.s (.int .i64 0),.s (.slice none 0 0),.s (.int .i64 0),.s (.int .i64 0),.s (.int .i64 0),.d false 1 (encI v8.heard),.d false 1 (encLI v8.says),.s (.int .i64 0),.s (.slice none 0 0),.s (.int .i64 0)]⟩,some ⟨41,4,true,none,lvs (encClaim q)⟩],72,gh,ls⟩:St)))) ?_ noX ?_ ?_
   ·refine W.nilCell 1 5 41 4 2 rfl rfl rfl rfl rfl ?_
    refine Weak.mixN [some 0,some 1,some 2] hn0 (by decide) ?_ ?_ rfl
    all_goals first|(simp[Ac,Ae,pickOb];done)|rfl
   ·clear h;intro y14 y16 h
    refine AW.seq ?_
    replace h:=ltE h;obtain⟨v17,e17,h⟩:=h
    apply AW.step
    ·simp[← e17]
     intros;rfl
    cases v17 with
    |true =>
     replace h:=iteT rfl h
     refine AW.cond_true (by simp) ?_
     refine AW.skip ?_
     try simp only[nm]
     refine AW.seq ?_
     refine AW.block ?_
     replace h:=ltE h;obtain⟨v18,e18,h⟩:=h
     replace h:=bnE h;obtain⟨v19,e19,h⟩:=h
     replace h:=ltE h;obtain⟨v20,e20,h⟩:=h
     replace h:=ltE h;obtain⟨v21,e21,h⟩:=h
     replace h:=bnE h;obtain⟨v22,e22,h⟩:=h
     replace h:=ltE h;obtain⟨v23,e23,h⟩:=h
     replace h:=chkE h;obtain⟨e24,h⟩:=h
     replace h:=ltE h;obtain⟨v25,e25,h⟩:=h
     apply AW.drawnF (V:=[_,_,_,_,_,_,_,_,_,_,_,_,_,_,_]) (M:=[[some ⟨69,22,false,none,[.s (.int .i64 0),.s (.int .i64 0),.s (.int .i64 0),.s (.int .i64 0),.s (.int .i64 0),.s (.slice none 0 0),.s (.slice none 0 0),.s (.slice none 0 0),.s (.int .i64 0),.s (.slice none 0 0),.s (.int .i64 0),.s (.int .i64 0),.s (.int .i64 0),.s (.slice none 0 0),.s (.int .i64 0),.s (.int .i64 0),.s (.int .i64 0),.s (.slice none 0 0),.s (.slice none 0 0),.s (.int .i64 0),.s (.slice none 0 0),.s (.int .i64 0)]⟩,some ⟨69,22,false,none,[.s (.int .i64 v2),.s (.int .i64 v7),.s (.int .i64 y9),.s (.int .i64 1),.s (.int .i64 0),.r 2 4 0 y14.2.length,.s (.slice none 0 0),.s (.slice none 0 0),.s (.int .i64 0),.s (.slice none 0 0),.s (.int .i64 y12),.s (.int .i64 0),.s (.int .i64 0),.s (.slice none 0 0),.s (.int .i64 0),.s (.int .i64 0),.s (.int .i64 0),.d false 1 (encI v8.heard),.d false 1 (encLI v8.says),.s (.int .i64 0),.s (.slice none 0 0),.s (.int .i64 0)]⟩,some ⟨41,4,true,none,lvs (encClaim y14.2)⟩],[some ⟨69,22,false,none,[.s (.int .i64 0),.s (.int .i64 0),.s (.int .i64 0),.s (.int .i64 0),.s (.int .i64 0),.s (.slice none 0 0),.s (.slice none 0 0),.s (.slice none 0 0),.s (.int .i64 0),.s (.slice none 0 0),.s (.int .i64 0),.s (.int .i64 0),.s (.int .i64 0),.s (.slice none 0 0),.s (.int .i64 0),.s (.int .i64 0),.s (.int .i64 0),.s (.slice none 0 0),.s (.slice none 0 0),.s (.int .i64 0),.s (.slice none 0 0),.s (.int .i64 0)]⟩,some ⟨69,22,false,none,[.s (.int .i64 v2),.s (.int .i64 v7),.s (.int .i64 y9),.s (.int .i64 1),.s (.int .i64 0),.r 2 4 0 y14.2.length,.s (.slice none 0 0),.s (.slice none 0 0),.s (.int .i64 0),.s (.slice none 0 0),.s (.int .i64 y12),.s (.int .i64 0),.s (.int .i64 0),.s (.slice none 0 0),.s (.int .i64 0),.s (.int .i64 0),.s (.int .i64 0),.d false 1 (encI v8.heard),.d false 1 (encLI v8.says),.s (.int .i64 0),.s (.slice none 0 0),.s (.int .i64 0)]⟩,some ⟨41,4,true,none,lvs (encClaim y14.2)⟩,some ⟨41,4,true,none,[.s (.int .i64 v19),.s (.int .i64 v23),.s (.int .i64 y14.1),.s (.int .i64 1)]⟩]]) mixed [⟨[0,1],[],[(9,none)],false⟩,⟨[0,1],[0],[(54,some 0)],false⟩,⟨[0],[],[(10,none)],false⟩,⟨[0],[2],[(56,some 2)],false⟩,⟨[0],[],[(8,none)],false⟩,⟨[0],[2,3,4],[(57,some 3),(58,some 4)],false⟩,⟨[0],[],[(10,none)],false⟩,⟨[0],[6],[(60,some 6)],false⟩,⟨[0],[6,7],[(61,some 7)],false⟩,⟨[0],[],[(8,none)],false⟩,⟨[0],[6,7,8,9],[(62,some 8),(63,some 9)],false⟩,⟨[0],[6,7,8,9,10],[(64,some 10)],false⟩,⟨[0],[],[(10,none)],false⟩,⟨[0],[2,3,4,5,6,7,8,9,10,11,12],[(59,some 5),(65,some 11),(66,some 12)],false⟩,⟨[0],[2,3,4,5,6,7,8,9,10,11,12,13],[(67,some 13)],true⟩,⟨[],[0,1,2,3,4,5,6,7,8,9,10,11,12,13,14],[],false⟩,⟨[],[0,1,2,3,4,5,6,7,8,9,10,11,12,13,14,15],[],false⟩,⟨[],[0,1,2,3,4,5,6,7,8,9,10,11,12,13,14,15,16],[],false⟩] 15 1 (by kernel_rfl) (by kernel_rfl)
     ·rfl
     ·refine⟨⟨?_,?_⟩,⟨?_,?_⟩,?_,?_,?_,?_,?_,?_,?_,?_,?_,?_,?_,?_,?_,trivial⟩
      iterate 16 (· intro tm hr;simp[AllL,rdV] at hr;simp[hr,← e18,e19,← e20,← e21,e22,← e23,← AG,← e25,Ak e25];intros;first|exact KD.mk|exact KD.mkN)
      ·intro tm hr
       simp[AllL,rdV] at hr
       simp[hr,← e18,e19,← e20,← e21,e22,← e23,← AG,← e25,Ak e25]
       intros
       refine Ar ?_
       try simp[← e18,e19,← e20,← e21,e22,← e23,← AG,← e25,Ak e25]
       intros;first|exact KD.mk|exact KD.mkN
     ·rfl
     ·simp[tmD,putD,← e18,e19,← e20,← e21,e22,← e23,← AG,← e25,Ak e25];rfl
     ·simp[← e18,e19,← e20,← e21,e22,← e23,← AG,← e25,Ak e25]
      intros
      refine AD (acc:=encClaim y14.2) (ys:=encClaim [(⟨v19,v23,y14.1,1⟩:Claim)]) (cap:=none) (k:=1) Fa E9 (by simp) (by simp[encClaim,lvs]) (Bf _) (by simp) (by simp) (by first|(simp;done)|simpa using (Ah e24).1) ?_
      try simp[← e18,e19,← e20,← e21,e22,← e23,← AG,← e25,Ak e25]
      intros;rfl
     try simp only[nm]
     apply AW.last
     ·simp[← e20]
      intros;rfl
     obtain rfl:=oi h
     refine nP_i ?_
     refine Weak.mixN [some 0,some 1,some 4] hn0 (by decide) ?_ ?_ rfl
     all_goals first|(simp[Ac,Ae,pickOb,CA];done)|rfl
    |false =>
     replace h:=iteF rfl h
     refine AW.cond_false (by simp) ?_
     refine AW.exit ?_
     try simp only[nm]
     obtain rfl:=oi h
     refine xP_i ?_
     refine Weak.mixN [some 0,some 1,some 2] hn0 (by decide) ?_ ?_ rfl
     all_goals first|(simp[Ac,Ae,pickOb];done)|rfl
   ·rintro e s hp
    obtain⟨rfl,hw⟩:=hp
    refine⟨_,hw,?_⟩
    try simp only[nm]
    apply AW.step
    ·simp
     intros;rfl
    replace h:=chkE h;obtain⟨e26,h⟩:=h
    refine AW.frzRow 2 (ty:=41) (cap:=none) (sz:=4) (es:=encClaim y15) (by simp) (by omega) (Bf _) (by first|exact (Ah e26).2|simpa using (Ah e26).2|simp) (by simp[Tm.frz,AV.frz,LV.frz];rfl) (by simp[Ob.frz,LV.frz];rfl) rfl ?_
    refine AW.nilCellD 0 6 6 rfl rfl rfl rfl ?_
    refine AW.nilCellD 0 7 4 rfl rfl rfl rfl ?_
    refine AW.nilCellD 0 9 3 rfl rfl rfl rfl ?_
    refine AW.nilCellD 0 13 7 rfl rfl rfl rfl ?_
    refine AW.nilCellD 0 20 1 rfl rfl rfl rfl ?_
    obtain rfl:=oi h
    refine AW.ret ?_
    refine Left.plain hnb (by simp[Try.f57,resV,resC,comp];rfl) rfl rfl ?_
    simp
theorem F5:Enters Try.prog 57:=enters Try.func57 (by kernel_rfl) rfl
def BN (n:Nat) (a0:Int):Option ByteArray :=
lt (cvI .u64 a0) fun v1 =>
bn (lt (ltI a0 0) fun v3 =>
ite' v3 (lt (negI .u64 v1) fun v4 =>
some (v4)) (some (v1))) fun (y2:Int) =>
bn (iter n (fun (y5:Int×ByteArray) =>
lt (geI y5.1 10) fun v8 =>
ite' v8 (bn (remI .u64 y5.1 10) fun v9 =>
lt (addI .u64 48 v9) fun v10 =>
lt (cvI .u8 v10) fun v11 =>
lt (strL [v11]) fun v12 =>
bn (catS v12 y5.2) fun v14 =>
bn (quoI .u64 y5.1 10) fun v15 =>
some (.inl (v15,v14))) (some (.inr (y5.1,y5.2)))) (y2,⟨#[]⟩)) fun (y6:Int×ByteArray) =>
lt (addI .u64 48 y6.1) fun v16 =>
lt (cvI .u8 v16) fun v17 =>
lt (strL [v17]) fun v18 =>
bn (catS v18 y6.2) fun v20 =>
lt (ltI a0 0) fun v21 =>
ite' v21 (bn (catS ⟨#[45]⟩ v20) fun v22 =>
some v22) (some v20)
theorem B3 {n:Nat} {a0:Int} {r:ByteArray} (h:BN n a0=some r):Sound Try.prog 128 [.l (.s (.int .i64 a0))] [] (.l (.s (.string r))) []:=by
 unfold BN at h
 refine Sound.of_aw (fn:=Try.f128) (c:=_) Try.func128 rfl (by simp[Try.f128]) fun cx hG hnb=>?_
 rw[show Try.f128.ntmps=35 from rfl]
 have hn0:cx.nb=0:=hnb
 simp only[Al,initTm,List.map_cons,List.map_nil]
 apply AW.step
 ·simp
  intros;rfl
 replace h:=ltE h;obtain⟨v1,e1,h⟩:=h
 apply AW.step
 ·simp[← e1]
  intros;rfl
 replace h:=bnE h;obtain⟨y2,g2,h⟩:=h
 refine AW.flow (p:=fun gh ls=>(nP (cx:=cx) (fun q=>(⟨[(0,.l (.s (.int .i64 a0))),(3,.l (.s (.int .u64 q))),(4,.l (.s (.string ⟨#[]⟩)))],[],35,gh,ls⟩:St))) y2) ?_ ?_
 ·replace h:=g2;clear g2
  replace h:=ltE h;obtain⟨v3,e3,h⟩:=h
  apply AW.step
  ·simp[← e3]
   intros;rfl
  cases v3 with
  |true =>
   replace h:=iteT rfl h
   refine AW.cond_true (by simp) ?_
   replace h:=ltE h;obtain⟨v4,e4,h⟩:=h
   apply AW.last
   ·simp[← e4]
    intros;rfl
   obtain rfl:=oi h
   refine nP_i ?_
   refine Weak.mixN [] hn0 (by decide) ?_ ?_ rfl
   all_goals first|(simp[Ac,Ae,pickOb];done)|rfl
  |false =>
   replace h:=iteF rfl h
   refine AW.cond_false (by simp) ?_
   refine AW.skip ?_
   try simp only[nm]
   obtain rfl:=oi h
   refine nP_i ?_
   refine Weak.mixN [] hn0 (by decide) ?_ ?_ rfl
   all_goals first|(simp[Ac,Ae,pickOb];done)|rfl
 ·rintro e s hp
  obtain⟨rfl,hw⟩:=hp
  refine⟨_,hw,?_⟩
  try simp only[nm]
  refine AW.seq ?_
  refine AW.block ?_
  replace h:=bnE h;obtain⟨y6,g6,h⟩:=h
  refine AW.iterP g6 (mk:=fun gh ls q=>(⟨[(0,.l (.s (.int .i64 a0))),(3,.l (.s (.int .u64 q.1))),(4,.l (.s (.string q.2)))],[],35,gh,ls⟩:St)) (N:=fun gh ls=>(xP 0 (cx:=cx) (fun q=>(⟨[(0,.l (.s (.int .i64 a0))),(3,.l (.s (.int .u64 q.1))),(4,.l (.s (.string q.2)))],[],35,gh,ls⟩:St)))) ?_ noX ?_ ?_
  ·refine Weak.mixN [] hn0 (by decide) ?_ ?_ rfl
   all_goals first|(simp[Ac,Ae,pickOb];done)|rfl
  ·clear h;intro y5 y7 h
   refine AW.seq ?_
   replace h:=ltE h;obtain⟨v8,e8,h⟩:=h
   apply AW.step
   ·simp[← e8]
    intros;rfl
   cases v8 with
   |true =>
    replace h:=iteT rfl h
    refine AW.cond_true (by simp) ?_
    refine AW.skip ?_
    try simp only[nm]
    refine AW.block ?_
    replace h:=bnE h;obtain⟨v9,e9,h⟩:=h
    replace h:=ltE h;obtain⟨v10,e10,h⟩:=h
    replace h:=ltE h;obtain⟨v11,e11,h⟩:=h
    replace h:=ltE h;obtain⟨v12,e12,h⟩:=h
    have f13:(⟨#[UInt8.ofNat (v11).toNat]⟩:ByteArray)=v12:=e12.symm
    replace h:=bnE h;obtain⟨v14,e14,h⟩:=h
    apply AW.step
    ·simp[e9,← e10,← e11,f13,e14]
     intros
     refine Ar ?_
     try simp[e9,← e10,← e11,f13,e14]
     intros;rfl
    replace h:=bnE h;obtain⟨v15,e15,h⟩:=h
    apply AW.last
    ·simp[e15]
     intros;rfl
    obtain rfl:=oi h
    refine nP_i ?_
    refine Weak.mixN [] hn0 (by decide) ?_ ?_ rfl
    all_goals first|(simp[Ac,Ae,pickOb,Dd];done)|rfl
   |false =>
    replace h:=iteF rfl h
    refine AW.cond_false (by simp) ?_
    refine AW.exit ?_
    try simp only[nm]
    obtain rfl:=oi h
    refine xP_i ?_
    refine Weak.mixN [] hn0 (by decide) ?_ ?_ rfl
    all_goals first|(simp[Ac,Ae,pickOb];done)|rfl
  ·rintro e s hp
   obtain⟨rfl,hw⟩:=hp
   refine⟨_,hw,?_⟩
   try simp only[nm]
   replace h:=ltE h;obtain⟨v16,e16,h⟩:=h
   replace h:=ltE h;obtain⟨v17,e17,h⟩:=h
   replace h:=ltE h;obtain⟨v18,e18,h⟩:=h
   have f19:(⟨#[UInt8.ofNat (v17).toNat]⟩:ByteArray)=v18:=e18.symm
   replace h:=bnE h;obtain⟨v20,e20,h⟩:=h
   apply AW.step
   ·simp[← e16,← e17,f19,e20]
    intros
    refine Ar ?_
    try simp[← e16,← e17,f19,e20]
    intros;rfl
   refine AW.seq ?_
   replace h:=ltE h;obtain⟨v21,e21,h⟩:=h
   apply AW.step
   ·simp[← e21]
    intros;rfl
   cases v21 with
   |true =>
    replace h:=iteT rfl h
    refine AW.cond_true (by simp) ?_
    replace h:=bnE h;obtain⟨v22,e22,h⟩:=h
    apply AW.step
    ·simp[e22]
     intros;rfl
    obtain rfl:=oi h
    refine AW.ret ?_
    refine Left.plain hnb (by simp[Try.f128,resV,resC,comp];rfl) rfl rfl ?_
    simp
   |false =>
    replace h:=iteF rfl h
    refine AW.cond_false (by simp) ?_
    refine AW.skip ?_
    try simp only[nm]
    apply AW.step
    ·simp
     intros;rfl
    obtain rfl:=oi h
    refine AW.ret ?_
    refine Left.plain hnb (by simp[Try.f128,resV,resC,comp];rfl) rfl rfl ?_
    simp
theorem BO:Enters Try.prog 128:=enters Try.func128 (by kernel_rfl) rfl
def Ey (n:Nat) (a0:Int):Option ByteArray :=
bn (remI .u8 a0 4) fun v1 =>
lt (addI .u8 97 v1) fun v2 =>
lt (strL [v2]) fun v3 =>
bn (catS ⟨#[123]⟩ v3) fun v5 =>
bn (catS v5 ⟨#[125]⟩) fun v6 =>
lt (cvI .i64 a0) fun v7 =>
bn (quoI .i64 v7 4) fun v8 =>
bn (remI .i64 v8 5) fun v9 =>
bn (BN n v9) fun v10 =>
bn (catS v6 v10) fun v11 =>
some v11
theorem GO {n:Nat} {a0:Int} {r:ByteArray} (h:Ey n a0=some r):Sound Try.prog 108 [.l (.s (.int .u8 a0))] [] (.l (.s (.string r))) []:=by
 unfold Ey at h
 refine Sound.of_aw (fn:=Try.f108) (c:=_) Try.func108 rfl (by simp[Try.f108]) fun cx hG hnb=>?_
 rw[show Try.f108.ntmps=16 from rfl]
 have hn0:cx.nb=0:=hnb
 simp only[Al,initTm,List.map_cons,List.map_nil]
 apply AW.step
 ·simp
  intros;rfl
 replace h:=bnE h;obtain⟨v1,e1,h⟩:=h
 replace h:=ltE h;obtain⟨v2,e2,h⟩:=h
 replace h:=ltE h;obtain⟨v3,e3,h⟩:=h
 have f4:(⟨#[UInt8.ofNat (v2).toNat]⟩:ByteArray)=v3:=e3.symm
 replace h:=bnE h;obtain⟨v5,e5,h⟩:=h
 replace h:=bnE h;obtain⟨v6,e6,h⟩:=h
 replace h:=ltE h;obtain⟨v7,e7,h⟩:=h
 replace h:=bnE h;obtain⟨v8,e8,h⟩:=h
 replace h:=bnE h;obtain⟨v9,e9,h⟩:=h
 replace h:=bnE h;obtain⟨v10,e10,h⟩:=h
 replace h:=bnE h;obtain⟨v11,e11,h⟩:=h
 apply AW.drawnE (V:=[_,_,_,_,_,_,_,_,_,_,_,_]) (M:=[[],[some ⟨5,1,true,none,[.s (.int .u8 v2)]⟩]]) mixed [⟨[0],[],[(0,none)],false⟩,⟨[0],[0],[(3,some 0)],false⟩,⟨[0],[0,1],[(4,some 1)],false⟩,⟨[0],[0,1,2],[(5,some 2)],true⟩,⟨[1],[0,1,2,3],[(6,some 3)],false⟩,⟨[1],[0,1,2,3,4],[(7,some 4)],false⟩,⟨[1],[0,1,2,3,4,5],[(8,some 5)],false⟩,⟨[0,1],[],[(0,none)],false⟩,⟨[0,1],[7],[(10,some 7)],false⟩,⟨[0,1],[7,8],[(11,some 8)],false⟩,⟨[0,1],[7,8,9],[(12,some 9)],false⟩,⟨[0,1],[7,8,9,10],[(13,some 10)],false⟩,⟨[],[0,1,2,3,4,5,6,7,8,9,10,11],[],false⟩,⟨[],[0,1,2,3,4,5,6,7,8,9,10,11,12],[],false⟩] 12 1 (by kernel_rfl) (by kernel_rfl)
 ·rfl
 ·refine⟨?_,?_,?_,?_,?_,?_,?_,⟨?_,?_⟩,⟨?_,?_⟩,⟨?_,?_⟩,⟨?_,?_⟩,⟨?_,?_⟩,trivial⟩
  iterate 3 (· intro tm hr;simp[AllL,rdV] at hr;simp[hr,e1,← e2,f4,e5,e6,← e7,e8,e9,e11];intros;first|exact KD.mk|exact KD.mkN)
  ·intro tm hr
   simp[AllL,rdV] at hr
   simp[hr,e1,← e2,f4,e5,e6,← e7,e8,e9,e11]
   intros
   refine Ar ?_
   try simp[e1,← e2,f4,e5,e6,← e7,e8,e9,e11]
   intros;first|exact KD.mk|exact KD.mkN
  iterate 11 (· intro tm hr;simp[AllL,rdV] at hr;simp[hr,e1,← e2,f4,e5,e6,← e7,e8,e9,e11];intros;first|exact KD.mk|exact KD.mkN)
  ·intro tm hr
   simp[AllL,rdV] at hr
   simp[hr,e1,← e2,f4,e5,e6,← e7,e8,e9,e11]
   intros
   refine Ag BO (B3 e10) rfl ⟨.same rfl,trivial⟩ ?_
   try simp[e1,← e2,f4,e5,e6,← e7,e8,e9,e11]
   intros;first|exact KD.mk|exact KD.mkN
  ·intro tm hr
   simp[AllL,rdV] at hr
   simp[hr,e1,← e2,f4,e5,e6,← e7,e8,e9,e11]
   intros
   refine Ag BO (B3 e10) rfl ⟨.same rfl,trivial⟩ ?_
   try simp[e1,← e2,f4,e5,e6,← e7,e8,e9,e11]
   intros;first|exact KD.mk|exact KD.mkN
 ·rfl
 ·simp[tmD,putD,e1,← e2,f4,e5,e6,← e7,e8,e9,e11];rfl
 ·simp[e1,← e2,f4,e5,e6,← e7,e8,e9,e11]
  intros;rfl
 obtain rfl:=oi h
 refine AW.ret ?_
 refine Left.plain hnb (by simp[Try.f108,resV,resC,comp];rfl) rfl rfl ?_
 simp
theorem F6:Enters Try.prog 108:=enters Try.func108 (by kernel_rfl) rfl
def Ez (n:Nat) (a0:List Field) (a1:ByteArray) (a2:ByteArray):Option (List Field) :=
bn (iter n (fun (y1:Bool×Int×List Field) =>
lt (lenI a0) fun v4 =>
lt (ltI y1.2.1 v4) fun v5 =>
ite' v5 (bn (bn (bn (lt (notB y1.1) fun v9 =>
ite' v9 (bn (nth a0 y1.2.1) fun v10 =>
lt (geS v10.name a1) fun v11 =>
some (v11)) (some (false))) fun (y8:Bool) =>
lt (y8) fun v12 =>
ite' v12 (chk (room (y1.2.2.length+1) 32) <|
lt (y1.2.2++[(⟨a1,a2⟩:Field)]) fun v14 =>
some ((true,v14))) (some ((y1.1,y1.2.2)))) fun (y7:Bool×List Field) =>
bn (nth a0 y1.2.1) fun v15 =>
lt (neS v15.name a1) fun v16 =>
ite' v16 (chk (room (y7.2.length+1) 32) <|
lt (y7.2++[v15]) fun v18 =>
some ((y7.1,v18))) (some ((y7.1,y7.2)))) fun (y6:Bool×List Field) =>
lt (addI .i64 y1.2.1 1) fun v19 =>
some (.inl (y6.1,v19,y6.2))) (some (.inr (y1.1,y1.2.2)))) (false,0,[])) fun (y2:Bool×List Field) =>
bn (lt (notB y2.1) fun v21 =>
ite' v21 (chk (room (y2.2.length+1) 32) <|
lt (y2.2++[(⟨a1,a2⟩:Field)]) fun v23 =>
some (v23)) (some (y2.2))) fun (y20:List Field) =>
chk (room y20.length 1) <|
some y20
theorem Jy {n:Nat} {a0:List Field} {a1:ByteArray} {a2:ByteArray} {r:List Field} (h:Ez n a0 a1 a2=some r):Sound Try.prog 129 [.l (.d false 2 (encField a0)),.l (.s (.string a1)),.l (.s (.string a2))] [] (.l (.d false 2 (encField r))) []:=by
 unfold Ez at h
 refine Sound.of_aw (fn:=Try.f129) (c:=_) Try.func129 rfl (by simp[Try.f129]) fun cx hG hnb=>?_
 rw[show Try.f129.ntmps=56 from rfl]
 have hn0:cx.nb=0:=hnb
 simp only[Al,initTm,List.map_cons,List.map_nil]
 apply AW.step
 ·simp
  intros;rfl
 apply AW.step
 ·simp
  intros;rfl
 apply AW.step
 ·simp
  intros;rfl
 refine AW.seq ?_
 apply AW.step
 ·simp
  intros;rfl
 refine AW.block ?_
 replace h:=bnE h;obtain⟨y2,g2,h⟩:=h
 refine AW.iterP g2 (mk:=fun gh ls q=>(⟨[(0,.l (.d false 2 (encField a0))),(1,.l (.s (.string a1))),(2,.l (.s (.string a2))),(7,.l (.r 0 2 0 q.2.2.length)),(8,.l (.s (.bool q.1))),(9,.l (.s (.int .i64 q.2.1)))],[some ⟨179,2,true,none,lvs (encField q.2.2)⟩],56,gh,ls⟩:St)) (N:=fun gh ls=>(xP 0 (cx:=cx) (fun q=>(⟨[(1,.l (.s (.string a1))),(2,.l (.s (.string a2))),(7,.l (.r 0 2 0 q.2.length)),(8,.l (.s (.bool q.1)))],[some ⟨179,2,true,none,lvs (encField q.2)⟩],56,gh,ls⟩:St)))) ?_ noX ?_ ?_
 ·refine W.nilRow 7 179 2 0 (by simp) rfl rfl ?_
  refine Weak.mixN [some 0] hn0 (by decide) ?_ ?_ rfl
  all_goals first|(simp[Ac,Ae,pickOb];done)|rfl
 ·clear h;intro y1 y3 h
  refine AW.seq ?_
  replace h:=ltE h;obtain⟨v4,e4,h⟩:=h
  replace h:=ltE h;obtain⟨v5,e5,h⟩:=h
  apply AW.step
  ·simp[Aj e4,← e5]
   intros;rfl
  cases v5 with
  |true =>
   replace h:=iteT rfl h
   refine AW.cond_true (by simp) ?_
   refine AW.skip ?_
   try simp only[nm]
   replace h:=bnE h;obtain⟨y6,g6,h⟩:=h
   refine AW.flow (p:=fun gh ls=>(nP (cx:=cx) (fun q=>(⟨[(0,.l (.d false 2 (encField a0))),(1,.l (.s (.string a1))),(2,.l (.s (.string a2))),(7,.l (.r 0 2 0 q.2.length)),(8,.l (.s (.bool q.1))),(9,.l (.s (.int .i64 y1.2.1)))],[some ⟨179,2,true,none,lvs (encField q.2)⟩],56,gh,ls⟩:St))) y6) ?_ ?_
   ·replace h:=g6;clear g6
    refine AW.block ?_
    replace h:=bnE h;obtain⟨y7,g7,h⟩:=h
    refine AW.flow (p:=fun gh ls=>(nP (cx:=cx) (fun q=>(⟨[(0,.l (.d false 2 (encField a0))),(1,.l (.s (.string a1))),(2,.l (.s (.string a2))),(7,.l (.r 0 2 0 q.2.length)),(8,.l (.s (.bool q.1))),(9,.l (.s (.int .i64 y1.2.1)))],[some ⟨179,2,true,none,lvs (encField q.2)⟩],56,gh,ls⟩:St))) y7) ?_ ?_
    ·replace h:=g7;clear g7
     replace h:=bnE h;obtain⟨y8,g8,h⟩:=h
     refine AW.flow (p:=fun gh ls=>(nP (cx:=cx) (fun q=>(⟨[(0,.l (.d false 2 (encField a0))),(1,.l (.s (.string a1))),(2,.l (.s (.string a2))),(7,.l (.r 0 2 0 y1.2.2.length)),(8,.l (.s (.bool y1.1))),(9,.l (.s (.int .i64 y1.2.1))),(26,.l (.s (.bool q)))],[some ⟨179,2,true,none,lvs (encField y1.2.2)⟩],56,gh,ls⟩:St))) y8) ?_ ?_
     ·replace h:=g8;clear g8
      replace h:=ltE h;obtain⟨v9,e9,h⟩:=h
      cases v9 with
      |true =>
       replace h:=iteT rfl h
       replace h:=bnE h;obtain⟨v10,e10,h⟩:=h
       replace h:=ltE h;obtain⟨v11,e11,h⟩:=h
       apply AW.last
       ·simp[← e9,Aa e10,← e11]
        intros;rfl
       obtain rfl:=oi h
       refine nP_i ?_
       refine Weak.mixN [some 0] hn0 (by decide) ?_ ?_ rfl
       all_goals first|(simp[Ac,Ae,pickOb];done)|rfl
      |false =>
       replace h:=iteF rfl h
       apply AW.last
       ·simp[← e9]
        intros;rfl
       obtain rfl:=oi h
       refine nP_i ?_
       refine Weak.mixN [some 0] hn0 (by decide) ?_ ?_ rfl
       all_goals first|(simp[Ac,Ae,pickOb];done)|rfl
     ·rintro e s hp
      obtain⟨rfl,hw⟩:=hp
      refine⟨_,hw,?_⟩
      try simp only[nm]
      replace h:=ltE h;obtain⟨v12,e12,h⟩:=h
      rw[← e12]
      cases v12 with
      |true =>
       replace h:=iteT rfl h
       refine AW.cond_true (by simp) ?_
       replace h:=chkE h;obtain⟨e13,h⟩:=h
       replace h:=ltE h;obtain⟨v14,e14,h⟩:=h
       apply AW.step
       ·simp[← A0,← e14,Ak e14]
        intros
        refine Ar ?_
        try simp[← A0,← e14,Ak e14]
        intros
        refine AD (acc:=encField y1.2.2) (ys:=encField [(⟨a1,a2⟩:Field)]) (cap:=none) (k:=1) Ex Ew (by simp) (by simp[encField,lvs]) (B1 _) (by simp) (by simp) (by first|(simp;done)|simpa using (Ah e13).1) ?_
        try simp[← A0,← e14,Ak e14]
        intros;rfl
       apply AW.last
       ·simp
        intros;rfl
       obtain rfl:=oi h
       refine nP_i ?_
       refine Weak.mixN [some 2] hn0 (by decide) ?_ ?_ rfl
       all_goals first|(simp[Ac,Ae,pickOb,Di];done)|rfl
      |false =>
       replace h:=iteF rfl h
       refine AW.cond_false (by simp) ?_
       refine AW.skip ?_
       try simp only[nm]
       obtain rfl:=oi h
       refine nP_i ?_
       refine Weak.mixN [some 0] hn0 (by decide) ?_ ?_ rfl
       all_goals first|(simp[Ac,Ae,pickOb];done)|rfl
    ·rintro e s hp
     obtain⟨rfl,hw⟩:=hp
     refine⟨_,hw,?_⟩
     try simp only[nm]
     replace h:=bnE h;obtain⟨v15,e15,h⟩:=h
     replace h:=ltE h;obtain⟨v16,e16,h⟩:=h
     apply AW.step
     ·simp[Aa e15,← e16]
      intros;rfl
     cases v16 with
     |true =>
      replace h:=iteT rfl h
      refine AW.cond_true (by simp) ?_
      replace h:=chkE h;obtain⟨e17,h⟩:=h
      replace h:=ltE h;obtain⟨v18,e18,h⟩:=h
      apply AW.last
      ·simp[Aa e15,← A0,← e18,Ak e18]
       intros
       refine Ar ?_
       try simp[Aa e15,← A0,← e18,Ak e18]
       intros
       refine AD (acc:=encField y7.2) (ys:=encField [v15]) (cap:=none) (k:=1) Ex Ew (by simp) (by simp[encField,lvs]) (B1 _) (by simp) (by simp) (by first|(simp;done)|simpa using (Ah e17).1) ?_
       try simp[Aa e15,← A0,← e18,Ak e18]
       intros;rfl
      obtain rfl:=oi h
      refine nP_i ?_
      refine Weak.mixN [some 2] hn0 (by decide) ?_ ?_ rfl
      all_goals first|(simp[Ac,Ae,pickOb,Di];done)|rfl
     |false =>
      replace h:=iteF rfl h
      refine AW.cond_false (by simp) ?_
      refine AW.skip ?_
      try simp only[nm]
      obtain rfl:=oi h
      refine nP_i ?_
      refine Weak.mixN [some 0] hn0 (by decide) ?_ ?_ rfl
      all_goals first|(simp[Ac,Ae,pickOb];done)|rfl
   ·rintro e s hp
    obtain⟨rfl,hw⟩:=hp
    refine⟨_,hw,?_⟩
    try simp only[nm]
    replace h:=ltE h;obtain⟨v19,e19,h⟩:=h
    apply AW.last
    ·simp[← e19]
     intros;rfl
    obtain rfl:=oi h
    refine nP_i ?_
    refine Weak.mixN [some 0] hn0 (by decide) ?_ ?_ rfl
    all_goals first|(simp[Ac,Ae,pickOb];done)|rfl
  |false =>
   replace h:=iteF rfl h
   refine AW.cond_false (by simp) ?_
   refine AW.exit ?_
   try simp only[nm]
   obtain rfl:=oi h
   refine xP_i ?_
   refine Weak.mixN [some 0] hn0 (by decide) ?_ ?_ rfl
   all_goals first|(simp[Ac,Ae,pickOb];done)|rfl
 ·rintro e s hp
  obtain⟨rfl,hw⟩:=hp
  refine⟨_,hw,?_⟩
  try simp only[nm]
  replace h:=bnE h;obtain⟨y20,g20,h⟩:=h
  refine AW.flow (p:=fun gh ls=>(nP (cx:=cx) (fun q=>(⟨[(7,.l (.r 0 2 0 q.length))],[some ⟨179,2,true,none,lvs (encField q)⟩],56,gh,ls⟩:St))) y20) ?_ ?_
  ·replace h:=g20;clear g20
   replace h:=ltE h;obtain⟨v21,e21,h⟩:=h
   apply AW.step
   ·simp[← e21]
    intros;rfl
   cases v21 with
   |true =>
    replace h:=iteT rfl h
    refine AW.cond_true (by simp) ?_
    replace h:=chkE h;obtain⟨e22,h⟩:=h
    replace h:=ltE h;obtain⟨v23,e23,h⟩:=h
    apply AW.last
    ·simp[← A0,← e23,Ak e23]
     intros
     refine Ar ?_
     try simp[← A0,← e23,Ak e23]
     intros
     refine AD (acc:=encField y2.2) (ys:=encField [(⟨a1,a2⟩:Field)]) (cap:=none) (k:=1) Ex Ew (by simp) (by simp[encField,lvs]) (B1 _) (by simp) (by simp) (by first|(simp;done)|simpa using (Ah e22).1) ?_
     try simp[← A0,← e23,Ak e23]
     intros;rfl
    obtain rfl:=oi h
    refine nP_i ?_
    refine Weak.mixN [some 2] hn0 (by decide) ?_ ?_ rfl
    all_goals first|(simp[Ac,Ae,pickOb,Di];done)|rfl
   |false =>
    replace h:=iteF rfl h
    refine AW.cond_false (by simp) ?_
    refine AW.skip ?_
    try simp only[nm]
    obtain rfl:=oi h
    refine nP_i ?_
    refine Weak.mixN [some 0] hn0 (by decide) ?_ ?_ rfl
    all_goals first|(simp[Ac,Ae,pickOb];done)|rfl
  ·rintro e s hp
   obtain⟨rfl,hw⟩:=hp
   refine⟨_,hw,?_⟩
   try simp only[nm]
   apply AW.step
   ·simp
    intros;rfl
   replace h:=chkE h;obtain⟨e24,h⟩:=h
   refine AW.frzRow 0 (ty:=179) (cap:=none) (sz:=2) (es:=encField y20) (by simp) (by omega) (B1 _) (by first|exact (Ah e24).2|simpa using (Ah e24).2|simp) (by simp[Tm.frz,AV.frz,LV.frz];rfl) (by simp[Ob.frz,LV.frz];rfl) rfl ?_
   obtain rfl:=oi h
   refine AW.ret ?_
   refine Left.plain hnb (by simp[Try.f129,resV,resC,comp];rfl) rfl rfl ?_
   simp
theorem I0:Enters Try.prog 129:=enters Try.func129 (by kernel_rfl) rfl
def Dm (n:Nat) (a0:List ByteArray) (a1:ByteArray):Option Bool :=
bn (iter n (fun (y1:Int) =>
lt (lenI a0) fun v4 =>
lt (ltI y1 v4) fun v5 =>
ite' v5 (bn (nth a0 y1) fun v6 =>
lt (eqS v6 a1) fun v7 =>
ite' v7 (some (.inr (.inr true))) (lt (addI .i64 y1 1) fun v8 =>
some (.inl v8))) (some (.inr (.inl ())))) 0) fun (y2:Unit ⊕ Bool) =>
sm y2 (fun y9=>some false) (fun y10=>some y10)
theorem HG {n:Nat} {a0:List ByteArray} {a1:ByteArray} {r:Bool} (h:Dm n a0 a1=some r):Sound Try.prog 151 [.l (.d true 1 (encS a0)),.l (.s (.string a1))] [] (.l (.s (.bool r))) []:=by
 unfold Dm at h
 refine Sound.of_aw (fn:=Try.f151) (c:=_) Try.func151 rfl (by simp[Try.f151]) fun cx hG hnb=>?_
 rw[show Try.f151.ntmps=18 from rfl]
 have hn0:cx.nb=0:=hnb
 simp only[Al,initTm,List.map_cons,List.map_nil]
 apply AW.step
 ·simp
  intros;rfl
 refine AW.seq ?_
 apply AW.step
 ·simp
  intros;rfl
 refine AW.block ?_
 replace h:=bnE h;obtain⟨y2,g2,h⟩:=h
 refine AW.iterP g2 (mk:=fun gh ls q=>(⟨[(0,.l (.d true 1 (encS a0))),(1,.l (.s (.string a1))),(5,.l (.s (.int .i64 q)))],[],18,gh,ls⟩:St)) (N:=fun gh ls=>(sp (xP 0 (cx:=cx) (fun _=>(⟨[],[],18,gh,ls⟩:St))) (rP (cx:=cx) (P:=Try.prog) Try.f151 (fun q=>.l (.s (.bool q))) (fun q=>[])))) ?_ (noS noX noR) ?_ ?_
 ·refine Weak.mixN [] hn0 (by decide) ?_ ?_ rfl
  all_goals first|(simp[Ac,Ae,pickOb];done)|rfl
 ·clear h;intro y1 y3 h
  refine AW.seq ?_
  replace h:=ltE h;obtain⟨v4,e4,h⟩:=h
  replace h:=ltE h;obtain⟨v5,e5,h⟩:=h
  apply AW.step
  ·simp[Aj e4,← e5]
   intros;rfl
  cases v5 with
  |true =>
   replace h:=iteT rfl h
   refine AW.cond_true (by simp) ?_
   refine AW.skip ?_
   try simp only[nm]
   refine AW.seq ?_
   refine AW.block ?_
   replace h:=bnE h;obtain⟨v6,e6,h⟩:=h
   replace h:=ltE h;obtain⟨v7,e7,h⟩:=h
   apply AW.step
   ·simp[Aa e6,← e7]
    intros;rfl
   cases v7 with
   |true =>
    replace h:=iteT rfl h
    refine AW.cond_true (by simp) ?_
    apply AW.step
    ·simp
     intros;rfl
    obtain rfl:=oi h
    refine AW.ret ?_
    try simp only[nm]
    refine rP_i ?_
    refine Left.plain hnb (by simp[Try.f151,resV,resC,comp];rfl) rfl rfl ?_
    simp
   |false =>
    replace h:=iteF rfl h
    refine AW.cond_false (by simp) ?_
    refine AW.skip ?_
    try simp only[nm]
    replace h:=ltE h;obtain⟨v8,e8,h⟩:=h
    apply AW.last
    ·simp[← e8]
     intros;rfl
    obtain rfl:=oi h
    refine nP_i ?_
    refine Weak.mixN [] hn0 (by decide) ?_ ?_ rfl
    all_goals first|(simp[Ac,Ae,pickOb];done)|rfl
  |false =>
   replace h:=iteF rfl h
   refine AW.cond_false (by simp) ?_
   refine AW.exit ?_
   try simp only[nm]
   obtain rfl:=oi h
   try simp only[sp_l,sp_r]
   refine xP_i ?_
   refine Weak.mixN [] hn0 (by decide) ?_ ?_ rfl
   all_goals first|(simp[Ac,Ae,pickOb];done)|rfl
 ·rintro e s hp
  rcases y2 with y9|y10
  ·replace h:=smL h
   obtain⟨rfl,hw⟩:=hp
   refine⟨_,hw,?_⟩
   try simp only[nm]
   apply AW.step
   ·simp
    intros;rfl
   obtain rfl:=oi h
   refine AW.ret ?_
   refine Left.plain hnb (by simp[Try.f151,resV,resC,comp];rfl) rfl rfl ?_
   simp
  ·replace h:=smR h
   obtain⟨rfl,hl⟩:=hp
   refine⟨_,Weak.refl _,?_⟩
   obtain rfl:=oi h
   exact hl
theorem G0:Enters Try.prog 151:=enters Try.func151 (by kernel_rfl) rfl
def Dn (n:Nat) (a0:List ByteArray) (a1:ByteArray):Option (List ByteArray) :=
bn (Dm n a0 a1) fun v1 =>
ite' v1 (chk (room a0.length 16) <|
some a0) (bn (iter n (fun (y3:Int) =>
bn (lt (lenI a0) fun v7 =>
lt (ltI y3 v7) fun v8 =>
ite' v8 (bn (nth a0 y3) fun v9 =>
lt (ltS v9 a1) fun v10 =>
some (v10)) (some (false))) fun (y6:Bool) =>
lt (y6) fun v11 =>
ite' v11 (lt (addI .i64 y3 1) fun v12 =>
some (.inl v12)) (some (.inr y3))) 0) fun (y4:Int) =>
bn (segh a0 y4) fun v13 =>
chk (room v13.length 16) <|
chk (room (v13.length+1) 16) <|
lt (v13++[a1]) fun v17 =>
bn (segl a0 y4) fun v18 =>
chk (room (v17.length+v18.length) 16) <|
lt (v17++v18) fun v21 =>
some v21)
theorem HH {n:Nat} {a0:List ByteArray} {a1:ByteArray} {r:List ByteArray} (h:Dn n a0 a1=some r):Sound Try.prog 130 [.l (.d true 1 (encS a0)),.l (.s (.string a1))] [] (.l (.r 0 1 0 r.length)) [some ⟨9,1,true,none,lvs (encS r)⟩]:=by
 unfold Dn at h
 refine Sound.of_aw (fn:=Try.f130) (c:=_) Try.func130 rfl (by simp[Try.f130]) fun cx hG hnb=>?_
 rw[show Try.f130.ntmps=41 from rfl]
 have hn0:cx.nb=0:=hnb
 simp only[Al,initTm,List.map_cons,List.map_nil]
 apply AW.step
 ·simp
  intros;rfl
 refine AW.seq ?_
 replace h:=bnE h;obtain⟨v1,e1,h⟩:=h
 apply AW.step
 ·simp
  intros
  refine Ag G0 (HG e1) rfl ⟨.d _ _ _,.same rfl,trivial⟩ ?_
  try simp
  intros;rfl
 cases v1 with
 |true =>
  replace h:=iteT rfl h
  refine AW.cond_true (by simp) ?_
  replace h:=chkE h;obtain⟨e2,h⟩:=h
  apply AW.step
  ·simp
   intros
   refine Ar ?_
   try simp
   intros
   refine AD (acc:=[]) (ys:=encS a0) (cap:=none) (k:=a0.length) CF DL (by simp) (by rw[Hy,D9];simp) (by simp) (by simp) (by simp) (by first|(simp;done)|simpa using (Ah e2).1) ?_
   try simp
   intros;rfl
  obtain rfl:=oi h
  refine AW.ret ?_
  refine Left.of (av:=_) (by simp[Try.f130,resV,resC,comp];rfl) ?_
  exact LeftV.mix 0 [some 1] hn0 rfl (by decide) rfl (by simp[pickOb,Ac,Ae]) (by simp[Ac,Ae])
 |false =>
  replace h:=iteF rfl h
  refine AW.cond_false (by simp) ?_
  refine AW.skip ?_
  try simp only[nm]
  apply AW.step
  ·simp
   intros;rfl
  refine AW.seq ?_
  refine AW.block ?_
  replace h:=bnE h;obtain⟨y4,g4,h⟩:=h
  refine AW.iterP g4 (mk:=fun gh ls q=>(⟨[(0,.l (.d true 1 (encS a0))),(1,.l (.s (.string a1))),(5,.l (.s (.int .i64 q)))],[],41,gh,ls⟩:St)) (N:=fun gh ls=>(xP 0 (cx:=cx) (fun q=>(⟨[(0,.l (.d true 1 (encS a0))),(1,.l (.s (.string a1))),(5,.l (.s (.int .i64 q)))],[],41,gh,ls⟩:St)))) ?_ noX ?_ ?_
  ·refine Weak.mixN [] hn0 (by decide) ?_ ?_ rfl
   all_goals first|(simp[Ac,Ae,pickOb];done)|rfl
  ·clear h;intro y3 y5 h
   refine AW.seq ?_
   replace h:=bnE h;obtain⟨y6,g6,h⟩:=h
   refine AW.flow (p:=fun gh ls=>(nP (cx:=cx) (fun q=>(⟨[(0,.l (.d true 1 (encS a0))),(1,.l (.s (.string a1))),(5,.l (.s (.int .i64 y3))),(24,.l (.s (.bool q)))],[],41,gh,ls⟩:St))) y6) ?_ ?_
   ·replace h:=g6;clear g6
    replace h:=ltE h;obtain⟨v7,e7,h⟩:=h
    replace h:=ltE h;obtain⟨v8,e8,h⟩:=h
    cases v8 with
    |true =>
     replace h:=iteT rfl h
     replace h:=bnE h;obtain⟨v9,e9,h⟩:=h
     replace h:=ltE h;obtain⟨v10,e10,h⟩:=h
     apply AW.last
     ·simp[Aj e7,← e8,Aa e9,← e10]
      intros;rfl
     obtain rfl:=oi h
     refine nP_i ?_
     refine Weak.mixN [] hn0 (by decide) ?_ ?_ rfl
     all_goals first|(simp[Ac,Ae,pickOb];done)|rfl
    |false =>
     replace h:=iteF rfl h
     apply AW.last
     ·simp[Aj e7,← e8]
      intros;rfl
     obtain rfl:=oi h
     refine nP_i ?_
     refine Weak.mixN [] hn0 (by decide) ?_ ?_ rfl
     all_goals first|(simp[Ac,Ae,pickOb];done)|rfl
   ·rintro e s hp
    obtain⟨rfl,hw⟩:=hp
    refine⟨_,hw,?_⟩
    try simp only[nm]
    replace h:=ltE h;obtain⟨v11,e11,h⟩:=h
    rw[← e11]
    cases v11 with
    |true =>
     replace h:=iteT rfl h
     refine AW.cond_true (by simp) ?_
     refine AW.skip ?_
     try simp only[nm]
     refine AW.block ?_
     replace h:=ltE h;obtain⟨v12,e12,h⟩:=h
     apply AW.last
     ·simp[← e12]
      intros;rfl
     obtain rfl:=oi h
     refine nP_i ?_
     refine Weak.mixN [] hn0 (by decide) ?_ ?_ rfl
     all_goals first|(simp[Ac,Ae,pickOb];done)|rfl
    |false =>
     replace h:=iteF rfl h
     refine AW.cond_false (by simp) ?_
     refine AW.exit ?_
     try simp only[nm]
     obtain rfl:=oi h
     refine xP_i ?_
     refine Weak.mixN [] hn0 (by decide) ?_ ?_ rfl
     all_goals first|(simp[Ac,Ae,pickOb];done)|rfl
  ·rintro e s hp
   obtain⟨rfl,hw⟩:=hp
   refine⟨_,hw,?_⟩
   try simp only[nm]
   replace h:=bnE h;obtain⟨v13,e13,h⟩:=h
   have f14:=Jt e13
   try simp at f14
   replace h:=chkE h;obtain⟨e15,h⟩:=h
   apply AW.step
   ·simp[f14]
    intros
    refine Ar ?_
    try simp[f14]
    intros
    refine AD (acc:=[]) (ys:=encS v13) (cap:=none) (k:=v13.length) CF DL (by simp) (by rw[Hy,D9];simp) (by simp) (by simp) (by simp) (by first|(simp;done)|simpa using (Ah e15).1) ?_
    try simp[f14]
    intros;rfl
   replace h:=chkE h;obtain⟨e16,h⟩:=h
   replace h:=ltE h;obtain⟨v17,e17,h⟩:=h
   apply AW.step
   ·simp[← A8,← e17,Ak e17]
    intros
    refine Ar ?_
    try simp[← A8,← e17,Ak e17]
    intros
    refine AD (acc:=encS v13) (ys:=encS [a1]) (cap:=none) (k:=1) CF DL (by simp) (by simp[encS,lvs]) (Cm _) (by simp) (by simp) (by first|(simp;done)|simpa using (Ah e16).1) ?_
    try simp[← A8,← e17,Ak e17]
    intros;rfl
   replace h:=bnE h;obtain⟨v18,e18,h⟩:=h
   have f19:=Js e18
   try simp at f19
   replace h:=chkE h;obtain⟨e20,h⟩:=h
   replace h:=ltE h;obtain⟨v21,e21,h⟩:=h
   apply AW.step
   ·simp[f19,← A8,← e21,Iy e21]
    intros
    refine AD (acc:=encS v17) (ys:=encS v18) (cap:=none) (k:=v18.length) CF DL (by simp) (by rw[Hy,D9];simp) (Cm _) (by simp) (by simp) (by first|(simp;done)|simpa using (Ah e20).1) ?_
    try simp[f19,← A8,← e21,Iy e21]
    intros;rfl
   obtain rfl:=oi h
   refine AW.ret ?_
   refine Left.of (av:=_) (by simp[Try.f130,resV,resC,comp];rfl) ?_
   exact LeftV.mix 0 [some 4] hn0 rfl (by decide) rfl (by simp[pickOb,Ac,Ae,D8]) (by simp[Ac,Ae,D8])
theorem G1:Enters Try.prog 130:=enters Try.func130 (by kernel_rfl) rfl
def EA (n:Nat) (a0:List Int) (a1:Int):Option Item :=
lt (lenI a0) fun v1 =>
lt (eqI v1 0) fun v2 =>
ite' v2 (some (⟨1,⟨#[]⟩,[],[],0⟩:Item)) (bn (nth a0 0) fun v3 =>
lt (cvI .i64 v3) fun v4 =>
bn (remI .i64 v4 4) fun v5 =>
lt (addI .i64 1 v5) fun v6 =>
bn (bn (remI .u8 a1 3) fun v8 =>
lt (eqI v8 0) fun v9 =>
ite' v9 (lt (cvI .i64 a1) fun v10 =>
some (v10)) (some (0))) fun (y7:Int) =>
bn (iter n (fun (y11:Int×ByteArray×List Field×List ByteArray) =>
bn (lt (lenI a0) fun v15 =>
lt (ltI y11.1 v15) fun v16 =>
ite' v16 (lt (ltI y11.1 9) fun v17 =>
some (v17)) (some (false))) fun (y14:Bool) =>
lt (y14) fun v18 =>
ite' v18 (bn (bn (nth a0 y11.1) fun v20 =>
bn (remI .u8 v20 5) fun v21 =>
lt (addI .u8 97 v21) fun v22 =>
lt (strL [v22]) fun v23 =>
lt (cvI .i64 v20) fun v25 =>
bn (remI .i64 v25 3) fun v26 =>
bn (BN n v26) fun v27 =>
bn (catS v23 v27) fun v28 =>
lt (eqI v6 1) fun v29 =>
ite' v29 (bn (catS y11.2.1 v28) fun v30 =>
some ((v30,y11.2.2.1,y11.2.2.2))) (lt (eqI v6 2) fun v31 =>
ite' v31 (lt (subI .i64 v25 100) fun v32 =>
bn (BN n v32) fun v33 =>
bn (Ez n y11.2.2.1 v28 v33) fun v34 =>
some ((y11.2.1,v34,y11.2.2.2))) (lt (eqI v6 3) fun v35 =>
ite' v35 (chk (room (y11.2.2.2.length+1) 16) <|
lt (y11.2.2.2++[v28]) fun v37 =>
some ((y11.2.1,y11.2.2.1,v37))) (chk (room y11.2.2.2.length 1) <|
bn (Dn n y11.2.2.2 v28) fun v39 =>
some ((y11.2.1,y11.2.2.1,v39)))))) fun (y19:ByteArray×List Field×List ByteArray) =>
lt (addI .i64 y11.1 1) fun v40 =>
some (.inl (v40,y19.1,y19.2.1,y19.2.2))) (some (.inr (y11.2.1,y11.2.2.1,y11.2.2.2)))) (1,⟨#[]⟩,[],[])) fun (y12:ByteArray×List Field×List ByteArray) =>
bn (lt (lenI a0) fun v42 =>
lt (eqI v42 1) fun v43 =>
ite' v43 (lt (neI v6 1) fun v44 =>
some (v44)) (some (false))) fun (y41:Bool) =>
lt (y41) fun v45 =>
ite' v45 (bn (nth a0 0) fun v46 =>
lt (cvI .i64 v46) fun v47 =>
bn (BN n v47) fun v48 =>
some (⟨1,v48,[],[],y7⟩:Item)) (chk (room y12.2.2.length 1) <|
some (⟨v6,y12.1,y12.2.1,y12.2.2,y7⟩:Item)))
theorem Jz {n:Nat} {a0:List Int} {a1:Int} {r:Item} (h:EA n a0 a1=some r):Sound Try.prog 109 [.l (.d false 1 (encU a0)),.l (.s (.int .u8 a1))] [] (.g [.s (.int .i64 r.kind),.s (.string r.s),.d false 2 (encField r.f),.d false 1 (encS r.l),.s (.int .i64 r.exp)]) []:=by
 unfold EA at h
 refine Sound.of_aw (fn:=Try.f109) (c:=_) Try.func109 rfl (by simp[Try.f109]) fun cx hG hnb=>?_
 rw[show Try.f109.ntmps=104 from rfl]
 have hn0:cx.nb=0:=hnb
 simp only[Al,initTm,List.map_cons,List.map_nil]
 apply AW.step
 ·simp
  intros;rfl
 refine AW.seq ?_
 replace h:=ltE h;obtain⟨v1,e1,h⟩:=h
 replace h:=ltE h;obtain⟨v2,e2,h⟩:=h
 apply AW.step
 ·simp[Aj e1,← e2]
  intros;rfl
 cases v2 with
 |true =>
  replace h:=iteT rfl h
  refine AW.cond_true (by simp) ?_
  apply AW.step
  ·simp
   intros;rfl
  refine AW.nilCellD 0 2 2 rfl rfl rfl rfl ?_
  refine AW.nilCellD 0 3 1 rfl rfl rfl rfl ?_
  obtain rfl:=oi h
  refine AW.ret ?_
  refine Left.plain hnb (by simp[Try.f109,resV,resC,comp];rfl) rfl rfl ?_
  simp
 |false =>
  replace h:=iteF rfl h
  refine AW.cond_false (by simp) ?_
  refine AW.skip ?_
  try simp only[nm]
  replace h:=bnE h;obtain⟨v3,e3,h⟩:=h
  replace h:=ltE h;obtain⟨v4,e4,h⟩:=h
  replace h:=bnE h;obtain⟨v5,e5,h⟩:=h
  replace h:=ltE h;obtain⟨v6,e6,h⟩:=h
  apply AW.step
  ·simp[(show a0[0]?=some v3 from (Aa e3).2),← e4,e5,← e6]
   intros;rfl
  replace h:=bnE h;obtain⟨y7,g7,h⟩:=h
  refine AW.flow (p:=fun gh ls=>(nP (cx:=cx) (fun q=>(⟨[(0,.l (.d false 1 (encU a0))),(4,.l (.p 0 0)),(5,.l (.p 1 0))],[some ⟨136,5,false,none,[.s (.int .i64 0),.s (.string ⟨#[]⟩),.s (.slice none 0 0),.s (.slice none 0 0),.s (.int .i64 0)]⟩,some ⟨136,5,false,none,[.s (.int .i64 v6),.s (.string ⟨#[]⟩),.s (.slice none 0 0),.s (.slice none 0 0),.s (.int .i64 q)]⟩],104,gh,ls⟩:St))) y7) ?_ ?_
  ·replace h:=g7;clear g7
   replace h:=bnE h;obtain⟨v8,e8,h⟩:=h
   replace h:=ltE h;obtain⟨v9,e9,h⟩:=h
   apply AW.step
   ·simp[e8,← e9]
    intros;rfl
   cases v9 with
   |true =>
    replace h:=iteT rfl h
    refine AW.cond_true (by simp) ?_
    replace h:=ltE h;obtain⟨v10,e10,h⟩:=h
    apply AW.last
    ·simp[← e10]
     intros;rfl
    obtain rfl:=oi h
    refine nP_i ?_
    refine Weak.mixN [some 0,some 1] hn0 (by decide) ?_ ?_ rfl
    all_goals first|(simp[Ac,Ae,pickOb];done)|rfl
   |false =>
    replace h:=iteF rfl h
    refine AW.cond_false (by simp) ?_
    refine AW.skip ?_
    try simp only[nm]
    obtain rfl:=oi h
    refine nP_i ?_
    refine Weak.mixN [some 0,some 1] hn0 (by decide) ?_ ?_ rfl
    all_goals first|(simp[Ac,Ae,pickOb];done)|rfl
  ·rintro e s hp
   obtain⟨rfl,hw⟩:=hp
   refine⟨_,hw,?_⟩
   try simp only[nm]
   refine AW.seq ?_
   apply AW.step
   ·simp
    intros;rfl
   refine AW.block ?_
   replace h:=bnE h;obtain⟨y12,g12,h⟩:=h
   refine AW.iterP g12 (mk:=fun gh ls q=>(⟨[(0,.l (.d false 1 (encU a0))),(4,.l (.p 0 0)),(5,.l (.p 1 0)),(6,.l (.s (.int .i64 q.1)))],[some ⟨136,5,false,none,[.s (.int .i64 0),.s (.string ⟨#[]⟩),.s (.slice none 0 0),.s (.slice none 0 0),.s (.int .i64 0)]⟩,some ⟨136,5,false,none,[.s (.int .i64 v6),.s (.string q.2.1),.d false 2 (encField q.2.2.1),.r 2 1 0 q.2.2.2.length,.s (.int .i64 y7)]⟩,some ⟨9,1,true,none,lvs (encS q.2.2.2)⟩],104,gh,ls⟩:St)) (N:=fun gh ls=>(xP 0 (cx:=cx) (fun q=>(⟨[(0,.l (.d false 1 (encU a0))),(4,.l (.p 0 0)),(5,.l (.p 1 0))],[some ⟨136,5,false,none,[.s (.int .i64 0),.s (.string ⟨#[]⟩),.s (.slice none 0 0),.s (.slice none 0 0),.s (.int .i64 0)]⟩,some ⟨136,5,false,none,[.s (.int .i64 v6),.s (.string q.1),.d false 2 (encField q.2.1),.r 2 1 0 q.2.2.length,.s (.int .i64 y7)]⟩,some ⟨9,1,true,none,lvs (encS q.2.2)⟩],104,gh,ls⟩:St)))) ?_ noX ?_ ?_
   ·refine W.nilCellD 1 2 2 rfl rfl rfl rfl ?_
    refine W.nilCell 1 3 9 1 2 rfl rfl rfl rfl rfl ?_
    refine Weak.mixN [some 0,some 1,some 2] hn0 (by decide) ?_ ?_ rfl
    all_goals first|(simp[Ac,Ae,pickOb];done)|rfl
   ·clear h;intro y11 y13 h
    refine AW.seq ?_
    replace h:=bnE h;obtain⟨y14,g14,h⟩:=h
    refine AW.flow (p:=fun gh ls=>(nP (cx:=cx) (fun q=>(⟨[(0,.l (.d false 1 (encU a0))),(4,.l (.p 0 0)),(5,.l (.p 1 0)),(6,.l (.s (.int .i64 y11.1))),(32,.l (.s (.bool q)))],[some ⟨136,5,false,none,[.s (.int .i64 0),.s (.string ⟨#[]⟩),.s (.slice none 0 0),.s (.slice none 0 0),.s (.int .i64 0)]⟩,some ⟨136,5,false,none,[.s (.int .i64 v6),.s (.string y11.2.1),.d false 2 (encField y11.2.2.1),.r 2 1 0 y11.2.2.2.length,.s (.int .i64 y7)]⟩,some ⟨9,1,true,none,lvs (encS y11.2.2.2)⟩],104,gh,ls⟩:St))) y14) ?_ ?_
    ·replace h:=g14;clear g14
     replace h:=ltE h;obtain⟨v15,e15,h⟩:=h
     replace h:=ltE h;obtain⟨v16,e16,h⟩:=h
     cases v16 with
     |true =>
      replace h:=iteT rfl h
      replace h:=ltE h;obtain⟨v17,e17,h⟩:=h
      apply AW.last
      ·simp[Aj e15,← e16,← e17]
       intros;rfl
      obtain rfl:=oi h
      refine nP_i ?_
      refine Weak.mixN [some 0,some 1,some 2] hn0 (by decide) ?_ ?_ rfl
      all_goals first|(simp[Ac,Ae,pickOb];done)|rfl
     |false =>
      replace h:=iteF rfl h
      apply AW.last
      ·simp[Aj e15,← e16]
       intros;rfl
      obtain rfl:=oi h
      refine nP_i ?_
      refine Weak.mixN [some 0,some 1,some 2] hn0 (by decide) ?_ ?_ rfl
      all_goals first|(simp[Ac,Ae,pickOb];done)|rfl
    ·rintro e s hp
     obtain⟨rfl,hw⟩:=hp
     refine⟨_,hw,?_⟩
     try simp only[nm]
     replace h:=ltE h;obtain⟨v18,e18,h⟩:=h
     rw[← e18]
     cases v18 with
     |true =>
      replace h:=iteT rfl h
      refine AW.cond_true (by simp) ?_
      refine AW.skip ?_
      try simp only[nm]
      replace h:=bnE h;obtain⟨y19,g19,h⟩:=h
      refine AW.flow (p:=fun gh ls=>(nP (cx:=cx) (fun q=>(⟨[(0,.l (.d false 1 (encU a0))),(4,.l (.p 0 0)),(5,.l (.p 1 0)),(6,.l (.s (.int .i64 y11.1)))],[some ⟨136,5,false,none,[.s (.int .i64 0),.s (.string ⟨#[]⟩),.s (.slice none 0 0),.s (.slice none 0 0),.s (.int .i64 0)]⟩,some ⟨136,5,false,none,[.s (.int .i64 v6),.s (.string q.1),.d false 2 (encField q.2.1),.r 2 1 0 q.2.2.length,.s (.int .i64 y7)]⟩,some ⟨9,1,true,none,lvs (encS q.2.2)⟩],104,gh,ls⟩:St))) y19) ?_ ?_
      ·replace h:=g19;clear g19
       refine AW.block ?_
       replace h:=bnE h;obtain⟨v20,e20,h⟩:=h
       replace h:=bnE h;obtain⟨v21,e21,h⟩:=h
       replace h:=ltE h;obtain⟨v22,e22,h⟩:=h
       replace h:=ltE h;obtain⟨v23,e23,h⟩:=h
       have f24:(⟨#[UInt8.ofNat (v22).toNat]⟩:ByteArray)=v23:=e23.symm
       replace h:=ltE h;obtain⟨v25,e25,h⟩:=h
       replace h:=bnE h;obtain⟨v26,e26,h⟩:=h
       replace h:=bnE h;obtain⟨v27,e27,h⟩:=h
       replace h:=bnE h;obtain⟨v28,e28,h⟩:=h
       apply AW.drawnE (V:=[_,_,_,_,_,_,_,_,_,_,_,_,_,_,_]) (M:=[[some ⟨136,5,false,none,[.s (.int .i64 0),.s (.string ⟨#[]⟩),.s (.slice none 0 0),.s (.slice none 0 0),.s (.int .i64 0)]⟩,some ⟨136,5,false,none,[.s (.int .i64 v6),.s (.string y11.2.1),.d false 2 (encField y11.2.2.1),.r 2 1 0 y11.2.2.2.length,.s (.int .i64 y7)]⟩,some ⟨9,1,true,none,lvs (encS y11.2.2.2)⟩],[some ⟨136,5,false,none,[.s (.int .i64 0),.s (.string ⟨#[]⟩),.s (.slice none 0 0),.s (.slice none 0 0),.s (.int .i64 0)]⟩,some ⟨136,5,false,none,[.s (.int .i64 v6),.s (.string y11.2.1),.d false 2 (encField y11.2.2.1),.r 2 1 0 y11.2.2.2.length,.s (.int .i64 y7)]⟩,some ⟨9,1,true,none,lvs (encS y11.2.2.2)⟩,some ⟨5,1,true,none,[.s (.int .u8 v22)]⟩]]) mixed [⟨[0],[],[(0,none)],false⟩,⟨[0],[],[(6,none)],false⟩,⟨[0],[0,1],[(35,some 0),(36,some 1)],false⟩,⟨[0],[0,1,2],[(37,some 2)],false⟩,⟨[0],[0,1,2,3],[(38,some 3)],false⟩,⟨[0],[0,1,2,3,4],[(39,some 4)],false⟩,⟨[0],[0,1,2,3,4,5],[(40,some 5)],true⟩,⟨[1],[0,1,2,3,4,5,6],[(41,some 6)],false⟩,⟨[0,1],[],[(0,none)],false⟩,⟨[0,1],[],[(6,none)],false⟩,⟨[0,1],[8,9],[(43,some 8),(44,some 9)],false⟩,⟨[0,1],[8,9,10],[(45,some 10)],false⟩,⟨[0,1],[8,9,10,11],[(46,some 11)],false⟩,⟨[0,1],[8,9,10,11,12],[(47,some 12)],false⟩,⟨[0,1],[8,9,10,11,12,13],[(48,some 13)],false⟩,⟨[],[0,1,2,3,4,5,6,7,8,9,10,11,12,13,14],[],false⟩,⟨[],[0,1,2,3,4,5,6,7,8,9,10,11,12,13,14,15],[],false⟩] 15 1 (by kernel_rfl) (by kernel_rfl)
       ·rfl
       ·refine⟨?_,?_,?_,?_,?_,?_,?_,?_,⟨?_,?_⟩,⟨?_,?_⟩,⟨?_,?_⟩,⟨?_,?_⟩,⟨?_,?_⟩,⟨?_,?_⟩,⟨?_,?_⟩,trivial⟩
        iterate 6 (· intro tm hr;simp[AllL,rdV] at hr;simp[hr,Aa e20,e21,← e22,f24,← e25,e26,e28];intros;first|exact KD.mk|exact KD.mkN)
        ·intro tm hr
         simp[AllL,rdV] at hr
         simp[hr,Aa e20,e21,← e22,f24,← e25,e26,e28]
         intros
         refine Ar ?_
         try simp[Aa e20,e21,← e22,f24,← e25,e26,e28]
         intros;first|exact KD.mk|exact KD.mkN
        iterate 13 (· intro tm hr;simp[AllL,rdV] at hr;simp[hr,Aa e20,e21,← e22,f24,← e25,e26,e28];intros;first|exact KD.mk|exact KD.mkN)
        ·intro tm hr
         simp[AllL,rdV] at hr
         simp[hr,Aa e20,e21,← e22,f24,← e25,e26,e28]
         intros
         refine Ag BO (B3 e27) rfl ⟨.same rfl,trivial⟩ ?_
         try simp[Aa e20,e21,← e22,f24,← e25,e26,e28]
         intros;first|exact KD.mk|exact KD.mkN
        ·intro tm hr
         simp[AllL,rdV] at hr
         simp[hr,Aa e20,e21,← e22,f24,← e25,e26,e28]
         intros
         refine Ag BO (B3 e27) rfl ⟨.same rfl,trivial⟩ ?_
         try simp[Aa e20,e21,← e22,f24,← e25,e26,e28]
         intros;first|exact KD.mk|exact KD.mkN
       ·rfl
       ·simp[tmD,putD,Aa e20,e21,← e22,f24,← e25,e26,e28];rfl
       ·simp[Aa e20,e21,← e22,f24,← e25,e26,e28]
        intros;rfl
       apply AW.step
       ·simp
        intros;rfl
       refine AW.block ?_
       replace h:=ltE h;obtain⟨v29,e29,h⟩:=h
       apply AW.step
       ·simp[← e29]
        intros;rfl
       cases v29 with
       |true =>
        replace h:=iteT rfl h
        refine AW.cond_true (by simp) ?_
        replace h:=bnE h;obtain⟨v30,e30,h⟩:=h
        apply AW.last
        ·simp[e30]
         intros;rfl
        obtain rfl:=oi h
        refine nP_i ?_
        refine Weak.mixN [some 0,some 1,some 2] hn0 (by decide) ?_ ?_ rfl
        all_goals first|(simp[Ac,Ae,pickOb,Dd];done)|rfl
       |false =>
        replace h:=iteF rfl h
        refine AW.cond_false (by simp) ?_
        replace h:=ltE h;obtain⟨v31,e31,h⟩:=h
        apply AW.step
        ·simp[← e31]
         intros;rfl
        cases v31 with
        |true =>
         replace h:=iteT rfl h
         refine AW.cond_true (by simp) ?_
         replace h:=ltE h;obtain⟨v32,e32,h⟩:=h
         replace h:=bnE h;obtain⟨v33,e33,h⟩:=h
         replace h:=bnE h;obtain⟨v34,e34,h⟩:=h
         apply AW.drawnR (V:=[_,_,_,_,_,_,_,_,_,_]) mixed [⟨[0],[],[(5,none)],false⟩,⟨[0],[0],[(67,some 0)],false⟩,⟨[0],[],[(7,none)],false⟩,⟨[0],[],[(0,none)],false⟩,⟨[0],[],[(6,none)],false⟩,⟨[0],[3,4],[(70,some 3),(71,some 4)],false⟩,⟨[0],[3,4,5],[(72,some 5)],false⟩,⟨[0],[3,4,5,6],[(73,some 6)],false⟩,⟨[0],[3,4,5,6,7],[(74,some 7)],false⟩,⟨[0],[3,4,5,6,7,8],[(75,some 8)],false⟩,⟨[],[0,1,2,3,4,5,6,7,8,9],[],false⟩,⟨[],[0,1,2,3,4,5,6,7,8,9,10],[],false⟩,⟨[],[0,1,2,3,4,5,6,7,8,9,10,11],[],false⟩] 10 (by kernel_rfl) (by kernel_rfl)
         ·refine⟨?_,?_,?_,?_,?_,?_,?_,?_,?_,?_,trivial⟩
          iterate 9 (· intro tm hr;simp[AllL,rdV] at hr;simp[hr,Aa e20,← e25,← e32];intros;first|exact KD.mk|exact KD.mkN)
          ·intro tm hr
           simp[AllL,rdV] at hr
           simp[hr,Aa e20,← e25,← e32]
           intros
           refine Ag BO (B3 e33) rfl ⟨.same rfl,trivial⟩ ?_
           try simp[Aa e20,← e25,← e32]
           intros;first|exact KD.mk|exact KD.mkN
         ·rfl
         ·simp[tmD,putD,Aa e20,← e25,← e32];rfl
         ·simp[Aa e20,← e25,← e32]
          intros
          refine Ag I0 (Jy e34) rfl ⟨.same rfl,.same rfl,.same rfl,trivial⟩ ?_
          try simp[Aa e20,← e25,← e32]
          intros;rfl
         obtain rfl:=oi h
         refine nP_i ?_
         refine Weak.mixN [some 0,some 1,some 2] hn0 (by decide) ?_ ?_ rfl
         all_goals first|(simp[Ac,Ae,pickOb,Dd];done)|rfl
        |false =>
         replace h:=iteF rfl h
         refine AW.cond_false (by simp) ?_
         replace h:=ltE h;obtain⟨v35,e35,h⟩:=h
         apply AW.step
         ·simp[← e35]
          intros;rfl
         cases v35 with
         |true =>
          replace h:=iteT rfl h
          refine AW.cond_true (by simp) ?_
          replace h:=chkE h;obtain⟨e36,h⟩:=h
          replace h:=ltE h;obtain⟨v37,e37,h⟩:=h
          apply AW.last
          ·simp[← A8,← e37,Ak e37]
           intros
           refine Ar ?_
           try simp[← A8,← e37,Ak e37]
           intros
           refine AD (acc:=encS y11.2.2.2) (ys:=encS [v28]) (cap:=none) (k:=1) CF DL (by simp) (by simp[encS,lvs]) (Cm _) (by simp) (by simp) (by first|(simp;done)|simpa using (Ah e36).1) ?_
           try simp[← A8,← e37,Ak e37]
           intros;rfl
          obtain rfl:=oi h
          refine nP_i ?_
          refine Weak.mixN [some 0,some 1,some 5] hn0 (by decide) ?_ ?_ rfl
          all_goals first|(simp[Ac,Ae,pickOb,D8,Dd];done)|rfl
         |false =>
          replace h:=iteF rfl h
          refine AW.cond_false (by simp) ?_
          replace h:=chkE h;obtain⟨e38,h⟩:=h
          replace h:=bnE h;obtain⟨v39,e39,h⟩:=h
          apply AW.last
          ·simp[outR]
           intros
           refine Aw G1 (HH e39) rfl (by simp) ⟨.rowd (by simp) rfl (by omega) (Cm _) (by simp) (by first|exact (Ah e38).2|simpa using (Ah e38).2|simp),.same rfl,trivial⟩ ?_
           try simp[outR]
           intros;rfl
          obtain rfl:=oi h
          refine nP_i ?_
          refine Weak.mixN [some 0,some 1,some 4] hn0 (by decide) ?_ ?_ rfl
          all_goals first|(simp[Ac,Ae,pickOb,Dd];done)|rfl
      ·rintro e s hp
       obtain⟨rfl,hw⟩:=hp
       refine⟨_,hw,?_⟩
       try simp only[nm]
       replace h:=ltE h;obtain⟨v40,e40,h⟩:=h
       apply AW.last
       ·simp[← e40]
        intros;rfl
       obtain rfl:=oi h
       refine nP_i ?_
       refine Weak.mixN [some 0,some 1,some 2] hn0 (by decide) ?_ ?_ rfl
       all_goals first|(simp[Ac,Ae,pickOb];done)|rfl
     |false =>
      replace h:=iteF rfl h
      refine AW.cond_false (by simp) ?_
      refine AW.exit ?_
      try simp only[nm]
      obtain rfl:=oi h
      refine xP_i ?_
      refine Weak.mixN [some 0,some 1,some 2] hn0 (by decide) ?_ ?_ rfl
      all_goals first|(simp[Ac,Ae,pickOb];done)|rfl
   ·rintro e s hp
    obtain⟨rfl,hw⟩:=hp
    refine⟨_,hw,?_⟩
    try simp only[nm]
    refine AW.seq ?_
    replace h:=bnE h;obtain⟨y41,g41,h⟩:=h
    refine AW.flow (p:=fun gh ls=>(nP (cx:=cx) (fun q=>(⟨[(0,.l (.d false 1 (encU a0))),(4,.l (.p 0 0)),(5,.l (.p 1 0)),(94,.l (.s (.bool q)))],[some ⟨136,5,false,none,[.s (.int .i64 0),.s (.string ⟨#[]⟩),.s (.slice none 0 0),.s (.slice none 0 0),.s (.int .i64 0)]⟩,some ⟨136,5,false,none,[.s (.int .i64 v6),.s (.string y12.1),.d false 2 (encField y12.2.1),.r 2 1 0 y12.2.2.length,.s (.int .i64 y7)]⟩,some ⟨9,1,true,none,lvs (encS y12.2.2)⟩],104,gh,ls⟩:St))) y41) ?_ ?_
    ·replace h:=g41;clear g41
     replace h:=ltE h;obtain⟨v42,e42,h⟩:=h
     replace h:=ltE h;obtain⟨v43,e43,h⟩:=h
     cases v43 with
     |true =>
      replace h:=iteT rfl h
      replace h:=ltE h;obtain⟨v44,e44,h⟩:=h
      apply AW.last
      ·simp[Aj e42,← e43,← e44]
       intros;rfl
      obtain rfl:=oi h
      refine nP_i ?_
      refine Weak.mixN [some 0,some 1,some 2] hn0 (by decide) ?_ ?_ rfl
      all_goals first|(simp[Ac,Ae,pickOb];done)|rfl
     |false =>
      replace h:=iteF rfl h
      apply AW.last
      ·simp[Aj e42,← e43]
       intros;rfl
      obtain rfl:=oi h
      refine nP_i ?_
      refine Weak.mixN [some 0,some 1,some 2] hn0 (by decide) ?_ ?_ rfl
      all_goals first|(simp[Ac,Ae,pickOb];done)|rfl
    ·rintro e s hp
     obtain⟨rfl,hw⟩:=hp
     refine⟨_,hw,?_⟩
     try simp only[nm]
     replace h:=ltE h;obtain⟨v45,e45,h⟩:=h
     rw[← e45]
     cases v45 with
     |true =>
      replace h:=iteT rfl h
      refine AW.cond_true (by simp) ?_
      replace h:=bnE h;obtain⟨v46,e46,h⟩:=h
      replace h:=ltE h;obtain⟨v47,e47,h⟩:=h
      replace h:=bnE h;obtain⟨v48,e48,h⟩:=h
      apply AW.drawnP (V:=[_,_,_,_,_,_,_]) mixed [⟨[0],[],[(0,none)],false⟩,⟨[0],[0],[(95,some 0)],false⟩,⟨[0],[0,1],[(96,some 1)],false⟩,⟨[0],[0,1,2],[(97,some 2)],false⟩,⟨[0],[0,1,2,3],[(98,some 3)],false⟩,⟨[0],[],[(5,none)],false⟩,⟨[0],[5],[(100,some 5)],false⟩,⟨[],[0,1,2,3,4,5,6],[],false⟩,⟨[],[0,1,2,3,4,5,6,7],[],false⟩] 7 (by kernel_rfl) (by kernel_rfl)
      ·refine⟨?_,?_,?_,?_,?_,?_,?_,trivial⟩
       iterate 4 (· intro tm hr;simp[AllL,rdV] at hr;simp[hr,(show a0[0]?=some v46 from (Aa e46).2),← e47];intros;first|exact KD.mk|exact KD.mkN)
       ·intro tm hr
        simp[AllL,rdV] at hr
        simp[hr,(show a0[0]?=some v46 from (Aa e46).2),← e47]
        intros
        refine Ag BO (B3 e48) rfl ⟨.same rfl,trivial⟩ ?_
        try simp[(show a0[0]?=some v46 from (Aa e46).2),← e47]
        intros;first|exact KD.mk|exact KD.mkN
       iterate 2 (· intro tm hr;simp[AllL,rdV] at hr;simp[hr,(show a0[0]?=some v46 from (Aa e46).2),← e47];intros;first|exact KD.mk|exact KD.mkN)
      ·rfl
      ·simp[tmD,putD,(show a0[0]?=some v46 from (Aa e46).2),← e47];rfl
      ·simp[(show a0[0]?=some v46 from (Aa e46).2),← e47]
       intros;rfl
      refine AW.nilCellD 0 2 2 rfl rfl rfl rfl ?_
      refine AW.nilCellD 0 3 1 rfl rfl rfl rfl ?_
      obtain rfl:=oi h
      refine AW.ret ?_
      refine Left.plain hnb (by simp[Try.f109,resV,resC,comp];rfl) rfl rfl ?_
      simp
     |false =>
      replace h:=iteF rfl h
      refine AW.cond_false (by simp) ?_
      refine AW.skip ?_
      try simp only[nm]
      apply AW.step
      ·simp
       intros;rfl
      replace h:=chkE h;obtain⟨e49,h⟩:=h
      refine AW.frzRow 2 (ty:=9) (cap:=none) (sz:=1) (es:=encS y12.2.2) (by simp) (by omega) (Cm _) (by first|exact (Ah e49).2|simpa using (Ah e49).2|simp) (by simp[Tm.frz,AV.frz,LV.frz];rfl) (by simp[Ob.frz,LV.frz];rfl) rfl ?_
      obtain rfl:=oi h
      refine AW.ret ?_
      refine Left.plain hnb (by simp[Try.f109,resV,resC,comp];rfl) rfl rfl ?_
      simp
theorem I1:Enters Try.prog 109:=enters Try.func109 (by kernel_rfl) rfl
def C7 (n:Nat) (a0:List Int):Option (List Effect) :=
bn (iter n (fun (y1:Int×List Effect) =>
bn (lt (addI .i64 y1.1 3) fun v5 =>
lt (lenI a0) fun v6 =>
lt (ltI v5 v6) fun v7 =>
ite' v7 (lt (lenI y1.2) fun v8 =>
lt (ltI v8 40) fun v9 =>
some (v9)) (some (false))) fun (y4:Bool) =>
lt (y4) fun v10 =>
ite' v10 (bn (nth a0 y1.1) fun v11 =>
bn (Ey n v11) fun v12 =>
lt (addI .i64 y1.1 1) fun v13 =>
bn (nth a0 v13) fun v14 =>
bn (remI .u8 v14 4) fun v15 =>
lt (eqI v15 0) fun v16 =>
bn (lt (notB v16) fun v18 =>
ite' v18 (lt (addI .i64 y1.1 4) fun v19 =>
bn (seglh a0 v13 v19) fun v20 =>
lt (addI .i64 y1.1 2) fun v22 =>
bn (nth a0 v22) fun v23 =>
bn (EA n v20 v23) fun v24 =>
some ((⟨v12,v16,v24⟩:Effect))) (some ((⟨v12,v16,(⟨0,⟨#[]⟩,[],[],0⟩:Item)⟩:Effect)))) fun (y17:Effect) =>
chk (room (y1.2.length+1) 104) <|
lt (y1.2++[y17]) fun v26 =>
lt (addI .i64 y1.1 4) fun v27 =>
some (.inl (v27,v26))) (some (.inr y1.2))) (0,[])) fun (y2:List Effect) =>
chk (room y2.length 1) <|
some y2
theorem G2 {n:Nat} {a0:List Int} {r:List Effect} (h:C7 n a0=some r):Sound Try.prog 74 [.l (.d false 1 (encU a0))] [] (.l (.d false 7 (encEffect r))) []:=by
 unfold C7 at h
 refine Sound.of_aw (fn:=Try.f74) (c:=_) Try.func74 rfl (by simp[Try.f74]) fun cx hG hnb=>?_
 rw[show Try.f74.ntmps=52 from rfl]
 have hn0:cx.nb=0:=hnb
 simp only[Al,initTm,List.map_cons,List.map_nil]
 apply AW.step
 ·simp
  intros;rfl
 apply AW.step
 ·simp
  intros;rfl
 refine AW.seq ?_
 apply AW.step
 ·simp
  intros;rfl
 refine AW.block ?_
 replace h:=bnE h;obtain⟨y2,g2,h⟩:=h
 refine AW.iterP g2 (mk:=fun gh ls q=>(⟨[(0,.l (.d false 1 (encU a0))),(3,.l (.r 0 7 0 q.2.length)),(4,.l (.s (.int .i64 q.1)))],[some ⟨141,7,true,none,lvs (encEffect q.2)⟩],52,gh,ls⟩:St)) (N:=fun gh ls=>(xP 0 (cx:=cx) (fun q=>(⟨[(3,.l (.r 0 7 0 q.length))],[some ⟨141,7,true,none,lvs (encEffect q)⟩],52,gh,ls⟩:St)))) ?_ noX ?_ ?_
 ·refine W.nilRow 3 141 7 0 (by simp) rfl rfl ?_
  refine Weak.mixN [some 0] hn0 (by decide) ?_ ?_ rfl
  all_goals first|(simp[Ac,Ae,pickOb];done)|rfl
 ·clear h;intro y1 y3 h
  refine AW.seq ?_
  replace h:=bnE h;obtain⟨y4,g4,h⟩:=h
  refine AW.flow (p:=fun gh ls=>(nP (cx:=cx) (fun q=>(⟨[(0,.l (.d false 1 (encU a0))),(3,.l (.r 0 7 0 y1.2.length)),(4,.l (.s (.int .i64 y1.1))),(15,.l (.s (.bool q)))],[some ⟨141,7,true,none,lvs (encEffect y1.2)⟩],52,gh,ls⟩:St))) y4) ?_ ?_
  ·replace h:=g4;clear g4
   replace h:=ltE h;obtain⟨v5,e5,h⟩:=h
   replace h:=ltE h;obtain⟨v6,e6,h⟩:=h
   replace h:=ltE h;obtain⟨v7,e7,h⟩:=h
   cases v7 with
   |true =>
    replace h:=iteT rfl h
    replace h:=ltE h;obtain⟨v8,e8,h⟩:=h
    replace h:=ltE h;obtain⟨v9,e9,h⟩:=h
    apply AW.last
    ·simp[← e5,Aj e6,← e7,Aj e8,← e9]
     intros;rfl
    obtain rfl:=oi h
    refine nP_i ?_
    refine Weak.mixN [some 0] hn0 (by decide) ?_ ?_ rfl
    all_goals first|(simp[Ac,Ae,pickOb];done)|rfl
   |false =>
    replace h:=iteF rfl h
    apply AW.last
    ·simp[← e5,Aj e6,← e7]
     intros;rfl
    obtain rfl:=oi h
    refine nP_i ?_
    refine Weak.mixN [some 0] hn0 (by decide) ?_ ?_ rfl
    all_goals first|(simp[Ac,Ae,pickOb];done)|rfl
  ·rintro e s hp
   obtain⟨rfl,hw⟩:=hp
   refine⟨_,hw,?_⟩
   try simp only[nm]
   replace h:=ltE h;obtain⟨v10,e10,h⟩:=h
   rw[← e10]
   cases v10 with
   |true =>
    replace h:=iteT rfl h
    refine AW.cond_true (by simp) ?_
    refine AW.skip ?_
    try simp only[nm]
    refine AW.seq ?_
    refine AW.block ?_
    replace h:=bnE h;obtain⟨v11,e11,h⟩:=h
    replace h:=bnE h;obtain⟨v12,e12,h⟩:=h
    replace h:=ltE h;obtain⟨v13,e13,h⟩:=h
    replace h:=bnE h;obtain⟨v14,e14,h⟩:=h
    replace h:=bnE h;obtain⟨v15,e15,h⟩:=h
    replace h:=ltE h;obtain⟨v16,e16,h⟩:=h
    apply AW.drawnE (V:=[_,_,_,_,_,_,_,_,_,_,_,_,_,_]) (M:=[[some ⟨141,7,true,none,lvs (encEffect y1.2)⟩],[some ⟨141,7,true,none,lvs (encEffect y1.2)⟩,some ⟨141,7,false,none,[.s (.string ⟨#[]⟩),.s (.bool false),.s (.int .i64 0),.s (.string ⟨#[]⟩),.s (.slice none 0 0),.s (.slice none 0 0),.s (.int .i64 0)]⟩]]) mixed [⟨[0,1],[],[(0,none)],false⟩,⟨[0,1],[],[(4,none)],false⟩,⟨[0,1],[0,1],[(18,some 0),(19,some 1)],false⟩,⟨[0,1],[0,1,2],[(20,some 2)],false⟩,⟨[0,1],[0,1,2,3],[(21,some 3)],false⟩,⟨[0,1],[],[(0,none)],false⟩,⟨[0,1],[],[(4,none)],false⟩,⟨[0,1],[6],[(24,some 6)],false⟩,⟨[0,1],[5,6,7],[(23,some 5),(25,some 7)],false⟩,⟨[0,1],[5,6,7,8],[(26,some 8)],false⟩,⟨[0,1],[5,6,7,8,9],[(27,some 9)],false⟩,⟨[0,1],[5,6,7,8,9,10],[(28,some 10)],false⟩,⟨[0,1],[0,1,2,3,4,5,6,7,8,9,10,11],[(22,some 4),(29,some 11)],false⟩,⟨[0],[],[],true⟩,⟨[],[0,1,2,3,4,5,6,7,8,9,10,11,12,13],[],false⟩] 14 1 (by kernel_rfl) (by kernel_rfl)
    ·rfl
    ·refine⟨⟨?_,?_⟩,⟨?_,?_⟩,⟨?_,?_⟩,⟨?_,?_⟩,⟨?_,?_⟩,⟨?_,?_⟩,⟨?_,?_⟩,⟨?_,?_⟩,⟨?_,?_⟩,⟨?_,?_⟩,⟨?_,?_⟩,⟨?_,?_⟩,⟨?_,?_⟩,?_,trivial⟩
     iterate 8 (· intro tm hr;simp[AllL,rdV] at hr;simp[hr,Aa e11,← e13,Aa e14,e15,← e16];intros;first|exact KD.mk|exact KD.mkN)
     ·intro tm hr
      simp[AllL,rdV] at hr
      simp[hr,Aa e11,← e13,Aa e14,e15,← e16]
      intros
      refine Ag F6 (GO e12) rfl ⟨.same rfl,trivial⟩ ?_
      try simp[Aa e11,← e13,Aa e14,e15,← e16]
      intros;first|exact KD.mk|exact KD.mkN
     ·intro tm hr
      simp[AllL,rdV] at hr
      simp[hr,Aa e11,← e13,Aa e14,e15,← e16]
      intros
      refine Ag F6 (GO e12) rfl ⟨.same rfl,trivial⟩ ?_
      try simp[Aa e11,← e13,Aa e14,e15,← e16]
      intros;first|exact KD.mk|exact KD.mkN
     iterate 17 (· intro tm hr;simp[AllL,rdV] at hr;simp[hr,Aa e11,← e13,Aa e14,e15,← e16];intros;first|exact KD.mk|exact KD.mkN)
    ·rfl
    ·simp[tmD,putD,Aa e11,← e13,Aa e14,e15,← e16];rfl
    ·simp[Aa e11,← e13,Aa e14,e15,← e16]
     intros;rfl
    replace h:=bnE h;obtain⟨y17,g17,h⟩:=h
    refine AW.flow (p:=fun gh ls=>(nP (cx:=cx) (fun q=>(⟨[(0,.l (.d false 1 (encU a0))),(3,.l (.r 0 7 0 y1.2.length)),(4,.l (.s (.int .i64 y1.1))),(5,.l (.p 1 0))],[some ⟨141,7,true,none,lvs (encEffect y1.2)⟩,some ⟨141,7,false,none,[.s (.string q.key),.s (.bool q.gone),.s (.int .i64 q.item.kind),.s (.string q.item.s),.d false 2 (encField q.item.f),.d false 1 (encS q.item.l),.s (.int .i64 q.item.exp)]⟩],52,gh,ls⟩:St))) y17) ?_ ?_
    ·replace h:=g17;clear g17
     replace h:=ltE h;obtain⟨v18,e18,h⟩:=h
     apply AW.step
     ·simp[← e18]
      intros;rfl
     cases v18 with
     |true =>
      replace h:=iteT rfl h
      refine AW.cond_true (by simp) ?_
      replace h:=ltE h;obtain⟨v19,e19,h⟩:=h
      replace h:=bnE h;obtain⟨v20,e20,h⟩:=h
      have f21:=IX e20
      try simp[← e13,← e19] at f21
      replace h:=ltE h;obtain⟨v22,e22,h⟩:=h
      replace h:=bnE h;obtain⟨v23,e23,h⟩:=h
      replace h:=bnE h;obtain⟨v24,e24,h⟩:=h
      apply AW.drawnR (V:=[_,_,_,_,_,_,_,_,_,_,_]) mixed [⟨[0],[],[(0,none)],false⟩,⟨[0],[],[(4,none)],false⟩,⟨[0],[1],[(35,some 1)],false⟩,⟨[0],[],[(4,none)],false⟩,⟨[0],[3],[(37,some 3)],false⟩,⟨[0],[0,1,2,3,4],[(34,some 0),(36,some 2),(38,some 4)],false⟩,⟨[0],[],[(0,none)],false⟩,⟨[0],[],[(4,none)],false⟩,⟨[0],[7],[(41,some 7)],false⟩,⟨[0],[6,7,8],[(40,some 6),(42,some 8)],false⟩,⟨[0],[6,7,8,9],[(43,some 9)],false⟩,⟨[],[0,1,2,3,4,5,6,7,8,9,10],[],false⟩,⟨[],[0,1,2,3,4,5,6,7,8,9,10,11],[],false⟩,⟨[],[0,1,2,3,4,5,6,7,8,9,10,11,12],[],false⟩] 11 (by kernel_rfl) (by kernel_rfl)
      ·refine⟨?_,?_,?_,?_,?_,?_,?_,?_,?_,?_,?_,trivial⟩
       iterate 11 (· intro tm hr;simp[AllL,rdV] at hr;simp[hr,← e13,← e19,f21,← e22,Aa e23];intros;first|exact KD.mk|exact KD.mkN)
      ·rfl
      ·simp[tmD,putD,← e13,← e19,f21,← e22,Aa e23];rfl
      ·simp[← e13,← e19,f21,← e22,Aa e23]
       intros
       refine Ag I1 (Jz e24) rfl ⟨.same rfl,.same rfl,trivial⟩ ?_
       try simp[← e13,← e19,f21,← e22,Aa e23]
       intros;rfl
      obtain rfl:=oi h
      refine nP_i ?_
      refine Weak.mixN [some 0,some 1] hn0 (by decide) ?_ ?_ rfl
      all_goals first|(simp[Ac,Ae,pickOb];done)|rfl
     |false =>
      replace h:=iteF rfl h
      refine AW.cond_false (by simp) ?_
      refine AW.skip ?_
      try simp only[nm]
      obtain rfl:=oi h
      refine nP_i ?_
      refine W.nilCellD 1 4 2 rfl rfl rfl rfl ?_
      refine W.nilCellD 1 5 1 rfl rfl rfl rfl ?_
      refine Weak.mixN [some 0,some 1] hn0 (by decide) ?_ ?_ rfl
      all_goals first|(simp[Ac,Ae,pickOb];done)|rfl
    ·rintro e s hp
     obtain⟨rfl,hw⟩:=hp
     refine⟨_,hw,?_⟩
     try simp only[nm]
     replace h:=chkE h;obtain⟨e25,h⟩:=h
     replace h:=ltE h;obtain⟨v26,e26,h⟩:=h
     apply AW.last
     ·simp[← CG,← e26,Ak e26]
      intros
      refine Ar ?_
      try simp[← CG,← e26,Ak e26]
      intros
      refine AD (acc:=encEffect y1.2) (ys:=encEffect [y17]) (cap:=none) (k:=1) It Hu (by simp) (by simp[encEffect,lvs]) (Ce _) (by simp) (by simp) (by first|(simp;done)|simpa using (Ah e25).1) ?_
      try simp[← CG,← e26,Ak e26]
      intros;rfl
     try simp only[nm]
     replace h:=ltE h;obtain⟨v27,e27,h⟩:=h
     apply AW.last
     ·simp[← e27]
      intros;rfl
     obtain rfl:=oi h
     refine nP_i ?_
     refine Weak.mixN [some 3] hn0 (by decide) ?_ ?_ rfl
     all_goals first|(simp[Ac,Ae,pickOb,Ep];done)|rfl
   |false =>
    replace h:=iteF rfl h
    refine AW.cond_false (by simp) ?_
    refine AW.exit ?_
    try simp only[nm]
    obtain rfl:=oi h
    refine xP_i ?_
    refine Weak.mixN [some 0] hn0 (by decide) ?_ ?_ rfl
    all_goals first|(simp[Ac,Ae,pickOb];done)|rfl
 ·rintro e s hp
  obtain⟨rfl,hw⟩:=hp
  refine⟨_,hw,?_⟩
  try simp only[nm]
  apply AW.step
  ·simp
   intros;rfl
  replace h:=chkE h;obtain⟨e28,h⟩:=h
  refine AW.frzRow 0 (ty:=141) (cap:=none) (sz:=7) (es:=encEffect y2) (by simp) (by omega) (Ce _) (by first|exact (Ah e28).2|simpa using (Ah e28).2|simp) (by simp[Tm.frz,AV.frz,LV.frz];rfl) (by simp[Ob.frz,LV.frz];rfl) rfl ?_
  obtain rfl:=oi h
  refine AW.ret ?_
  refine Left.plain hnb (by simp[Try.f74,resV,resC,comp];rfl) rfl rfl ?_
  simp
theorem Gp:Enters Try.prog 74:=enters Try.func74 (by kernel_rfl) rfl
def Ee (n:Nat) (a0:List Pair) (a1:Effect):Option (List Pair) :=
bn (iter n (fun (y1:Bool×Int×List Pair) =>
lt (lenI a0) fun v4 =>
lt (ltI y1.2.1 v4) fun v5 =>
ite' v5 (bn (bn (bn (lt (notB y1.1) fun v9 =>
ite' v9 (bn (nth a0 y1.2.1) fun v10 =>
lt (geS v10.key a1.key) fun v11 =>
some (v11)) (some (false))) fun (y8:Bool) =>
lt (y8) fun v12 =>
ite' v12 (chk (room (y1.2.2.length+1) 96) <|
lt (y1.2.2++[(⟨a1.key,a1.item⟩:Pair)]) fun v14 =>
some ((true,v14))) (some ((y1.1,y1.2.2)))) fun (y7:Bool×List Pair) =>
bn (nth a0 y1.2.1) fun v15 =>
lt (neS v15.key a1.key) fun v16 =>
ite' v16 (chk (room (y7.2.length+1) 96) <|
lt (y7.2++[v15]) fun v18 =>
some ((y7.1,v18))) (some ((y7.1,y7.2)))) fun (y6:Bool×List Pair) =>
lt (addI .i64 y1.2.1 1) fun v19 =>
some (.inl (y6.1,v19,y6.2))) (some (.inr (y1.1,y1.2.2)))) (a1.gone,0,[])) fun (y2:Bool×List Pair) =>
bn (lt (notB y2.1) fun v21 =>
ite' v21 (chk (room (y2.2.length+1) 96) <|
lt (y2.2++[(⟨a1.key,a1.item⟩:Pair)]) fun v23 =>
some (v23)) (some (y2.2))) fun (y20:List Pair) =>
chk (room y20.length 1) <|
some y20
def DZ1t1:List DI:=[⟨[0],[],[(6,none)],false⟩,⟨[0],[0],[(16,some 0)],false⟩,⟨[0],[0,1],[(17,some 1)],false⟩,⟨[0],[0,1,2],[(0,none),(18,some 2)],false⟩,⟨[0],[0,1,2],[(7,none),(18,some 2)],false⟩,⟨[0],[0,1,2,3,4],[(18,some 2),(19,some 3),(20,some 4)],false⟩,⟨[0],[0,1,2,3,4,5],[(18,some 2),(21,some 5)],false⟩,⟨[0],[0,1,2,3,4,5,6],[(18,some 2),(22,some 6)],false⟩,⟨[0],[0,1,2],[(3,none),(18,some 2)],false⟩,⟨[0],[0,1,2,8],[(18,some 2),(24,some 8)],false⟩,⟨[],[0,1,2,3,4,5,6,7,8,9],[],false⟩,⟨[],[0,1,2,3,4,5,6,7,8,9,10],[],false⟩]
theorem I2 {n:Nat} {a0:List Pair} {a1:Effect} {r:List Pair} (h:Ee n a0 a1=some r):Sound Try.prog 107 [.l (.d false 6 (encPair a0)),.g [.s (.string a1.key),.s (.bool a1.gone),.s (.int .i64 a1.item.kind),.s (.string a1.item.s),.d false 2 (encField a1.item.f),.d false 1 (encS a1.item.l),.s (.int .i64 a1.item.exp)]] [] (.l (.d false 6 (encPair r))) []:=by
 unfold Ee at h
 refine Sound.of_aw (fn:=Try.f107) (c:=_) Try.func107 rfl (by simp[Try.f107]) fun cx hG hnb=>?_
 rw[show Try.f107.ntmps=62 from rfl]
 have hn0:cx.nb=0:=hnb
 simp only[Al,initTm,List.map_cons,List.map_nil]
 apply AW.step
 ·simp
  intros;rfl
 apply AW.step
 ·simp
  intros;rfl
 apply AW.step
 ·simp
  intros;rfl
 refine AW.seq ?_
 apply AW.step
 ·simp
  intros;rfl
 refine AW.block ?_
 replace h:=bnE h;obtain⟨y2,g2,h⟩:=h
 refine AW.iterP g2 (mk:=fun gh ls q=>(⟨[(0,.l (.d false 6 (encPair a0))),(3,.l (.p 0 0)),(5,.l (.r 1 6 0 q.2.2.length)),(6,.l (.s (.bool q.1))),(7,.l (.s (.int .i64 q.2.1)))],[some ⟨141,7,false,none,[.s (.string a1.key),.s (.bool a1.gone),.s (.int .i64 a1.item.kind),.s (.string a1.item.s),.d false 2 (encField a1.item.f),.d false 1 (encS a1.item.l),.s (.int .i64 a1.item.exp)]⟩,some ⟨138,6,true,none,lvs (encPair q.2.2)⟩],62,gh,ls⟩:St)) (N:=fun gh ls=>(xP 0 (cx:=cx) (fun q=>(⟨[(3,.l (.p 0 0)),(5,.l (.r 1 6 0 q.2.length)),(6,.l (.s (.bool q.1)))],[some ⟨141,7,false,none,[.s (.string a1.key),.s (.bool a1.gone),.s (.int .i64 a1.item.kind),.s (.string a1.item.s),.d false 2 (encField a1.item.f),.d false 1 (encS a1.item.l),.s (.int .i64 a1.item.exp)]⟩,some ⟨138,6,true,none,lvs (encPair q.2)⟩],62,gh,ls⟩:St)))) ?_ noX ?_ ?_
 ·refine W.nilRow 5 138 6 1 (by simp) rfl rfl ?_
  refine Weak.mixN [some 0,some 1] hn0 (by decide) ?_ ?_ rfl
  all_goals first|(simp[Ac,Ae,pickOb];done)|rfl
 ·clear h;intro y1 y3 h
  refine AW.seq ?_
  replace h:=ltE h;obtain⟨v4,e4,h⟩:=h
  replace h:=ltE h;obtain⟨v5,e5,h⟩:=h
  apply AW.step
  ·simp[Aj e4,← e5]
   intros;rfl
  cases v5 with
  |true =>
   replace h:=iteT rfl h
   refine AW.cond_true (by simp) ?_
   refine AW.skip ?_
   try simp only[nm]
   replace h:=bnE h;obtain⟨y6,g6,h⟩:=h
   refine AW.flow (p:=fun gh ls=>(nP (cx:=cx) (fun q=>(⟨[(0,.l (.d false 6 (encPair a0))),(3,.l (.p 0 0)),(5,.l (.r 1 6 0 q.2.length)),(6,.l (.s (.bool q.1))),(7,.l (.s (.int .i64 y1.2.1)))],[some ⟨141,7,false,none,[.s (.string a1.key),.s (.bool a1.gone),.s (.int .i64 a1.item.kind),.s (.string a1.item.s),.d false 2 (encField a1.item.f),.d false 1 (encS a1.item.l),.s (.int .i64 a1.item.exp)]⟩,some ⟨138,6,true,none,lvs (encPair q.2)⟩],62,gh,ls⟩:St))) y6) ?_ ?_
   ·replace h:=g6;clear g6
    refine AW.block ?_
    replace h:=bnE h;obtain⟨y7,g7,h⟩:=h
    refine AW.flow (p:=fun gh ls=>(nP (cx:=cx) (fun q=>(⟨[(0,.l (.d false 6 (encPair a0))),(3,.l (.p 0 0)),(5,.l (.r 1 6 0 q.2.length)),(6,.l (.s (.bool q.1))),(7,.l (.s (.int .i64 y1.2.1)))],[some ⟨141,7,false,none,[.s (.string a1.key),.s (.bool a1.gone),.s (.int .i64 a1.item.kind),.s (.string a1.item.s),.d false 2 (encField a1.item.f),.d false 1 (encS a1.item.l),.s (.int .i64 a1.item.exp)]⟩,some ⟨138,6,true,none,lvs (encPair q.2)⟩],62,gh,ls⟩:St))) y7) ?_ ?_
    ·replace h:=g7;clear g7
     replace h:=bnE h;obtain⟨y8,g8,h⟩:=h
     refine AW.flow (p:=fun gh ls=>(nP (cx:=cx) (fun q=>(⟨[(0,.l (.d false 6 (encPair a0))),(3,.l (.p 0 0)),(5,.l (.r 1 6 0 y1.2.2.length)),(6,.l (.s (.bool y1.1))),(7,.l (.s (.int .i64 y1.2.1))),(27,.l (.s (.bool q)))],[some ⟨141,7,false,none,[.s (.string a1.key),.s (.bool a1.gone),.s (.int .i64 a1.item.kind),.s (.string a1.item.s),.d false 2 (encField a1.item.f),.d false 1 (encS a1.item.l),.s (.int .i64 a1.item.exp)]⟩,some ⟨138,6,true,none,lvs (encPair y1.2.2)⟩],62,gh,ls⟩:St))) y8) ?_ ?_
     ·replace h:=g8;clear g8
      replace h:=ltE h;obtain⟨v9,e9,h⟩:=h
      cases v9 with
      |true =>
       replace h:=iteT rfl h
       replace h:=bnE h;obtain⟨v10,e10,h⟩:=h
       replace h:=ltE h;obtain⟨v11,e11,h⟩:=h
       apply AW.drawnR (V:=[_,_,_,_,_,_,_,_,_,_]) mixed DZ1t1 10 (by kernel_rfl) (by kernel_rfl)
       ·refine⟨?_,?_,?_,?_,?_,?_,?_,?_,?_,?_,trivial⟩
        iterate 10 (· intro tm hr;simp[AllL,rdV] at hr;simp[hr,← e9,Aa e10,← e11];intros;first|exact KD.mk|exact KD.mkN)
       ·rfl
       ·simp[tmD,putD,← e9,Aa e10,← e11];rfl
       ·simp[← e9,Aa e10,← e11]
        intros;rfl
       obtain rfl:=oi h
       refine nP_i ?_
       refine Weak.mixN [some 0,some 1] hn0 (by decide) ?_ ?_ rfl
       all_goals first|(simp[Ac,Ae,pickOb];done)|rfl
      |false =>
       replace h:=iteF rfl h
       apply AW.drawnR (V:=[_,_,_,_,_,_,_,_,_,_]) mixed DZ1t1 10 (by kernel_rfl) (by kernel_rfl)
       ·refine⟨?_,?_,?_,?_,?_,?_,?_,?_,?_,?_,trivial⟩
        iterate 10 (· intro tm hr;simp[AllL,rdV] at hr;simp[hr,← e9];intros;first|exact KD.mk|exact KD.mkN)
       ·rfl
       ·simp[tmD,putD,← e9];rfl
       ·simp[← e9]
        intros;rfl
       obtain rfl:=oi h
       refine nP_i ?_
       refine Weak.mixN [some 0,some 1] hn0 (by decide) ?_ ?_ rfl
       all_goals first|(simp[Ac,Ae,pickOb];done)|rfl
     ·rintro e s hp
      obtain⟨rfl,hw⟩:=hp
      refine⟨_,hw,?_⟩
      try simp only[nm]
      replace h:=ltE h;obtain⟨v12,e12,h⟩:=h
      rw[← e12]
      cases v12 with
      |true =>
       replace h:=iteT rfl h
       refine AW.cond_true (by simp) ?_
       replace h:=chkE h;obtain⟨e13,h⟩:=h
       replace h:=ltE h;obtain⟨v14,e14,h⟩:=h
       apply AW.step
       ·simp[← A5,← e14,Ak e14]
        intros
        refine Ar ?_
        try simp[← A5,← e14,Ak e14]
        intros
        refine AD (acc:=encPair y1.2.2) (ys:=encPair [(⟨a1.key,a1.item⟩:Pair)]) (cap:=none) (k:=1) Eo DM (by simp) (by simp[encPair,lvs]) (BU _) (by simp) (by simp) (by first|(simp;done)|simpa using (Ah e13).1) ?_
        try simp[← A5,← e14,Ak e14]
        intros;rfl
       apply AW.last
       ·simp
        intros;rfl
       obtain rfl:=oi h
       refine nP_i ?_
       refine Weak.mixN [some 0,some 3] hn0 (by decide) ?_ ?_ rfl
       all_goals first|(simp[Ac,Ae,pickOb,DN];done)|rfl
      |false =>
       replace h:=iteF rfl h
       refine AW.cond_false (by simp) ?_
       refine AW.skip ?_
       try simp only[nm]
       obtain rfl:=oi h
       refine nP_i ?_
       refine Weak.mixN [some 0,some 1] hn0 (by decide) ?_ ?_ rfl
       all_goals first|(simp[Ac,Ae,pickOb];done)|rfl
    ·rintro e s hp
     obtain⟨rfl,hw⟩:=hp
     refine⟨_,hw,?_⟩
     try simp only[nm]
     replace h:=bnE h;obtain⟨v15,e15,h⟩:=h
     replace h:=ltE h;obtain⟨v16,e16,h⟩:=h
     apply AW.drawnP (V:=[_,_,_,_,_,_,_]) mixed [⟨[0],[],[(0,none)],false⟩,⟨[0],[],[(7,none)],false⟩,⟨[0],[0,1],[(36,some 0),(37,some 1)],false⟩,⟨[0],[0,1,2],[(38,some 2)],false⟩,⟨[0],[0,1,2,3],[(39,some 3)],false⟩,⟨[0],[],[(3,none)],false⟩,⟨[0],[5],[(41,some 5)],false⟩,⟨[],[0,1,2,3,4,5,6],[],false⟩] 7 (by kernel_rfl) (by kernel_rfl)
     ·refine⟨?_,?_,?_,?_,?_,?_,?_,trivial⟩
      iterate 7 (· intro tm hr;simp[AllL,rdV] at hr;simp[hr,Aa e15,← e16];intros;first|exact KD.mk|exact KD.mkN)
     ·rfl
     ·simp[tmD,putD,Aa e15,← e16];rfl
     ·simp[Aa e15,← e16]
      intros;rfl
     cases v16 with
     |true =>
      replace h:=iteT rfl h
      refine AW.cond_true (by simp) ?_
      replace h:=chkE h;obtain⟨e17,h⟩:=h
      replace h:=ltE h;obtain⟨v18,e18,h⟩:=h
      apply AW.last
      ·simp[Aa e15,← A5,← e18,Ak e18]
       intros
       refine Ar ?_
       try simp[Aa e15,← A5,← e18,Ak e18]
       intros
       refine AD (acc:=encPair y7.2) (ys:=encPair [v15]) (cap:=none) (k:=1) Eo DM (by simp) (by simp[encPair,lvs]) (BU _) (by simp) (by simp) (by first|(simp;done)|simpa using (Ah e17).1) ?_
       try simp[Aa e15,← A5,← e18,Ak e18]
       intros;rfl
      obtain rfl:=oi h
      refine nP_i ?_
      refine Weak.mixN [some 0,some 3] hn0 (by decide) ?_ ?_ rfl
      all_goals first|(simp[Ac,Ae,pickOb,DN];done)|rfl
     |false =>
      replace h:=iteF rfl h
      refine AW.cond_false (by simp) ?_
      refine AW.skip ?_
      try simp only[nm]
      obtain rfl:=oi h
      refine nP_i ?_
      refine Weak.mixN [some 0,some 1] hn0 (by decide) ?_ ?_ rfl
      all_goals first|(simp[Ac,Ae,pickOb];done)|rfl
   ·rintro e s hp
    obtain⟨rfl,hw⟩:=hp
    refine⟨_,hw,?_⟩
    try simp only[nm]
    replace h:=ltE h;obtain⟨v19,e19,h⟩:=h
    apply AW.last
    ·simp[← e19]
     intros;rfl
    obtain rfl:=oi h
    refine nP_i ?_
    refine Weak.mixN [some 0,some 1] hn0 (by decide) ?_ ?_ rfl
    all_goals first|(simp[Ac,Ae,pickOb];done)|rfl
  |false =>
   replace h:=iteF rfl h
   refine AW.cond_false (by simp) ?_
   refine AW.exit ?_
   try simp only[nm]
   obtain rfl:=oi h
   refine xP_i ?_
   refine Weak.mixN [some 0,some 1] hn0 (by decide) ?_ ?_ rfl
   all_goals first|(simp[Ac,Ae,pickOb];done)|rfl
 ·rintro e s hp
  obtain⟨rfl,hw⟩:=hp
  refine⟨_,hw,?_⟩
  try simp only[nm]
  replace h:=bnE h;obtain⟨y20,g20,h⟩:=h
  refine AW.flow (p:=fun gh ls=>(nP (cx:=cx) (fun q=>(⟨[(5,.l (.r 0 6 0 q.length))],[some ⟨138,6,true,none,lvs (encPair q)⟩],62,gh,ls⟩:St))) y20) ?_ ?_
  ·replace h:=g20;clear g20
   replace h:=ltE h;obtain⟨v21,e21,h⟩:=h
   apply AW.step
   ·simp[← e21]
    intros;rfl
   cases v21 with
   |true =>
    replace h:=iteT rfl h
    refine AW.cond_true (by simp) ?_
    replace h:=chkE h;obtain⟨e22,h⟩:=h
    replace h:=ltE h;obtain⟨v23,e23,h⟩:=h
    apply AW.last
    ·simp[← A5,← e23,Ak e23]
     intros
     refine Ar ?_
     try simp[← A5,← e23,Ak e23]
     intros
     refine AD (acc:=encPair y2.2) (ys:=encPair [(⟨a1.key,a1.item⟩:Pair)]) (cap:=none) (k:=1) Eo DM (by simp) (by simp[encPair,lvs]) (BU _) (by simp) (by simp) (by first|(simp;done)|simpa using (Ah e22).1) ?_
     try simp[← A5,← e23,Ak e23]
     intros;rfl
    obtain rfl:=oi h
    refine nP_i ?_
    refine Weak.mixN [some 3] hn0 (by decide) ?_ ?_ rfl
    all_goals first|(simp[Ac,Ae,pickOb,DN];done)|rfl
   |false =>
    replace h:=iteF rfl h
    refine AW.cond_false (by simp) ?_
    refine AW.skip ?_
    try simp only[nm]
    obtain rfl:=oi h
    refine nP_i ?_
    refine Weak.mixN [some 1] hn0 (by decide) ?_ ?_ rfl
    all_goals first|(simp[Ac,Ae,pickOb];done)|rfl
  ·rintro e s hp
   obtain⟨rfl,hw⟩:=hp
   refine⟨_,hw,?_⟩
   try simp only[nm]
   apply AW.step
   ·simp
    intros;rfl
   replace h:=chkE h;obtain⟨e24,h⟩:=h
   refine AW.frzRow 0 (ty:=138) (cap:=none) (sz:=6) (es:=encPair y20) (by simp) (by omega) (BU _) (by first|exact (Ah e24).2|simpa using (Ah e24).2|simp) (by simp[Tm.frz,AV.frz,LV.frz];rfl) (by simp[Ob.frz,LV.frz];rfl) rfl ?_
   obtain rfl:=oi h
   refine AW.ret ?_
   refine Left.plain hnb (by simp[Try.f107,resV,resC,comp];rfl) rfl rfl ?_
   simp
theorem H3:Enters Try.prog 107:=enters Try.func107 (by kernel_rfl) rfl
def Ef (n:Nat) (a0:List Pair) (a1:List Effect):Option (List Pair) :=
chk (room a0.length 96) <|
chk (room a0.length 1) <|
bn (iter n (fun (y2:List Pair×Int) =>
lt (lenI a1) fun v6 =>
lt (ltI y2.2 v6) fun v7 =>
ite' v7 (bn (nth a1 y2.2) fun v8 =>
bn (Ee n y2.1 v8) fun v9 =>
lt (addI .i64 y2.2 1) fun v10 =>
some (.inl (v9,v10))) (some (.inr y2.1))) (a0,0)) fun (y3:List Pair) =>
some y3
theorem I3 {n:Nat} {a0:List Pair} {a1:List Effect} {r:List Pair} (h:Ef n a0 a1=some r):Sound Try.prog 73 [.l (.d false 6 (encPair a0)),.l (.d false 7 (encEffect a1))] [] (.l (.d false 6 (encPair r))) []:=by
 unfold Ef at h
 refine Sound.of_aw (fn:=Try.f73) (c:=_) Try.func73 rfl (by simp[Try.f73]) fun cx hG hnb=>?_
 rw[show Try.f73.ntmps=23 from rfl]
 have hn0:cx.nb=0:=hnb
 simp only[Al,initTm,List.map_cons,List.map_nil]
 apply AW.step
 ·simp
  intros;rfl
 replace h:=chkE h;obtain⟨e1,h⟩:=h
 apply AW.step
 ·simp
  intros
  refine Ar ?_
  try simp
  intros
  refine AD (acc:=[]) (ys:=encPair a0) (cap:=none) (k:=a0.length) Eo DM (by simp) (by rw[src_d];simp) (by simp) (by simp) (by simp) (by first|(simp;done)|simpa using (Ah e1).1) ?_
  try simp
  intros;rfl
 refine AW.seq ?_
 apply AW.step
 ·simp
  intros;rfl
 refine AW.block ?_
 replace h:=chkE h;obtain⟨e4,h⟩:=h
 replace h:=bnE h;obtain⟨y3,g3,h⟩:=h
 refine AW.iterP g3 (mk:=fun gh ls q=>(⟨[(1,.l (.d false 7 (encEffect a1))),(5,.l (.d false 6 (encPair q.1))),(6,.l (.s (.int .i64 q.2)))],[],23,gh,ls⟩:St)) (N:=fun gh ls=>(xP 0 (cx:=cx) (fun q=>(⟨[(5,.l (.d false 6 (encPair q)))],[],23,gh,ls⟩:St)))) ?_ noX ?_ ?_
 ·refine W.frzRow 1 (ty:=138) (cap:=none) (sz:=6) (es:=encPair a0) (by simp) (by omega) (BU _) (by first|exact (Ah e4).2|simpa using (Ah e4).2|simp) (by simp[Tm.frz,AV.frz,LV.frz];rfl) (by simp[Ob.frz,LV.frz];rfl) rfl ?_
  refine Weak.mixN [] hn0 (by decide) ?_ ?_ rfl
  all_goals first|(simp[Ac,Ae,pickOb];done)|rfl
 ·clear h;intro y2 y5 h
  refine AW.seq ?_
  replace h:=ltE h;obtain⟨v6,e6,h⟩:=h
  replace h:=ltE h;obtain⟨v7,e7,h⟩:=h
  apply AW.step
  ·simp[Aj e6,← e7]
   intros;rfl
  cases v7 with
  |true =>
   replace h:=iteT rfl h
   refine AW.cond_true (by simp) ?_
   refine AW.skip ?_
   try simp only[nm]
   refine AW.seq ?_
   refine AW.block ?_
   replace h:=bnE h;obtain⟨v8,e8,h⟩:=h
   replace h:=bnE h;obtain⟨v9,e9,h⟩:=h
   apply AW.last
   ·simp[Aa e8]
    intros
    refine Ag H3 (I2 e9) rfl ⟨.same rfl,.same rfl,trivial⟩ ?_
    try simp[Aa e8]
    intros;rfl
   try simp only[nm]
   replace h:=ltE h;obtain⟨v10,e10,h⟩:=h
   apply AW.last
   ·simp[← e10]
    intros;rfl
   obtain rfl:=oi h
   refine nP_i ?_
   refine Weak.mixN [] hn0 (by decide) ?_ ?_ rfl
   all_goals first|(simp[Ac,Ae,pickOb];done)|rfl
  |false =>
   replace h:=iteF rfl h
   refine AW.cond_false (by simp) ?_
   refine AW.exit ?_
   try simp only[nm]
   obtain rfl:=oi h
   refine xP_i ?_
   refine Weak.mixN [] hn0 (by decide) ?_ ?_ rfl
   all_goals first|(simp[Ac,Ae,pickOb];done)|rfl
 ·rintro e s hp
  obtain⟨rfl,hw⟩:=hp
  refine⟨_,hw,?_⟩
  try simp only[nm]
  apply AW.step
  ·simp
   intros;rfl
  obtain rfl:=oi h
  refine AW.ret ?_
  refine Left.plain hnb (by simp[Try.f73,resV,resC,comp];rfl) rfl rfl ?_
  simp
theorem H4:Enters Try.prog 73:=enters Try.func73 (by kernel_rfl) rfl
def Db (n:Nat) (a0:List Int):Option (List Pair) :=
bn (C7 n a0) fun v1 =>
bn (Ef n [] v1) fun v2 =>
some v2
theorem F7 {n:Nat} {a0:List Int} {r:List Pair} (h:Db n a0=some r):Sound Try.prog 58 [.l (.d false 1 (encU a0))] [] (.l (.d false 6 (encPair r))) []:=by
 unfold Db at h
 refine Sound.of_aw (fn:=Try.f58) (c:=_) Try.func58 rfl (by simp[Try.f58]) fun cx hG hnb=>?_
 rw[show Try.f58.ntmps=6 from rfl]
 have hn0:cx.nb=0:=hnb
 simp only[Al,initTm,List.map_cons,List.map_nil]
 apply AW.step
 ·simp
  intros;rfl
 replace h:=bnE h;obtain⟨v1,e1,h⟩:=h
 replace h:=bnE h;obtain⟨v2,e2,h⟩:=h
 apply AW.step
 ·simp
  intros
  refine Ag Gp (G2 e1) rfl ⟨.same rfl,trivial⟩ ?_
  try simp
  intros
  refine Ag H4 (I3 e2) rfl ⟨.nil _ _,.same rfl,trivial⟩ ?_
  try simp
  intros;rfl
 obtain rfl:=oi h
 refine AW.ret ?_
 refine Left.plain hnb (by simp[Try.f58,resV,resC,comp];rfl) rfl rfl ?_
 simp
theorem Fq:Enters Try.prog 58:=enters Try.func58 (by kernel_rfl) rfl
def Eg (n:Nat) (a0:Int) (a1:List Int):Option Node :=
lt (cvI .i64 a0) fun v1 =>
bn (remI .i64 v1 4) fun v2 =>
bn (Dz n 4 v2 4) fun v3 =>
bn (Db n a1) fun v4 =>
chk (room 1 1) <|
some (⟨v3.count,v3.id,v3.master,v3.epoch,v3.voted,[(⟨0,16383,v3.id,1⟩:Claim)],v4,v3.moves,v3.last,v3.seen,v3.feed,v3.watch,v3.asked,v3.votes,v3.wait⟩:Node)
theorem I4 {n:Nat} {a0:Int} {a1:List Int} {r:Node} (h:Eg n a0 a1=some r):Sound Try.prog 37 [.l (.s (.int .u8 a0)),.l (.d false 1 (encU a1))] [] (.g [.s (.int .i64 r.count),.s (.int .i64 r.id),.s (.int .i64 r.master),.s (.int .i64 r.epoch),.s (.int .i64 r.voted),.d false 4 (encClaim r.claims),.d false 6 (encPair r.db),.d false 4 (encMove r.moves),.s (.int .i64 r.last),.d false 3 (encSeen r.seen),.s (.int .i64 r.feed.rid.node),.s (.int .i64 r.feed.rid.epoch),.s (.int .i64 r.feed.off),.d false 7 (encEffect r.feed.back),.s (.int .i64 r.feed.prev.node),.s (.int .i64 r.feed.prev.epoch),.s (.int .i64 r.feed.upto),.d false 1 (encI r.watch.heard),.d false 1 (encLI r.watch.says),.s (.int .i64 r.asked),.d false 1 (encI r.votes),.s (.int .i64 r.wait)]) []:=by
 unfold Eg at h
 refine Sound.of_aw (fn:=Try.f37) (c:=_) Try.func37 rfl (by simp[Try.f37]) fun cx hG hnb=>?_
 rw[show Try.f37.ntmps=19 from rfl]
 have hn0:cx.nb=0:=hnb
 simp only[Al,initTm,List.map_cons,List.map_nil]
 apply AW.step
 ·simp
  intros;rfl
 replace h:=ltE h;obtain⟨v1,e1,h⟩:=h
 replace h:=bnE h;obtain⟨v2,e2,h⟩:=h
 replace h:=bnE h;obtain⟨v3,e3,h⟩:=h
 apply AW.step
 ·simp[← e1,e2]
  intros
  refine Ag F5 (GN e3) rfl ⟨.same rfl,.same rfl,.same rfl,trivial⟩ ?_
  try simp[← e1,e2]
  intros;rfl
 apply AW.step
 ·simp
  intros
  refine Ar ?_
  try simp
  intros;rfl
 replace h:=bnE h;obtain⟨v4,e4,h⟩:=h
 apply AW.step
 ·simp
  intros
  refine Ag Fq (F7 e4) rfl ⟨.same rfl,trivial⟩ ?_
  try simp
  intros;rfl
 apply AW.step
 ·simp
  intros;rfl
 replace h:=chkE h;obtain⟨e5,h⟩:=h
 refine AW.frzRow 2 (ty:=41) (cap:=none) (sz:=4) (es:=encClaim [(⟨0,16383,v3.id,1⟩:Claim)]) (by simp[CA]) (by omega) (Bf _) (by first|exact (Ah e5).2|simpa using (Ah e5).2|simp) (by simp[Tm.frz,AV.frz,LV.frz,(show List.take 1 (encClaim [(⟨0,16383,v3.id,1⟩:Claim)])=encClaim [(⟨0,16383,v3.id,1⟩:Claim)] from rfl)];rfl) (by simp[Ob.frz,LV.frz,(show List.take 1 (encClaim [(⟨0,16383,v3.id,1⟩:Claim)])=encClaim [(⟨0,16383,v3.id,1⟩:Claim)] from rfl)];rfl) rfl ?_
 obtain rfl:=oi h
 refine AW.ret ?_
 refine Left.plain hnb (by simp[Try.f37,resV,resC,comp];rfl) rfl rfl ?_
 simp
theorem H5:Enters Try.prog 37:=enters Try.func37 (by kernel_rfl) rfl
def Do (n:Nat) (a0:List Pair) (a1:Int):Option (List Pair×Int) :=
some (a0,a1)
theorem HI {n:Nat} {a0:List Pair} {a1:Int} {r:List Pair×Int} (h:Do n a0 a1=some r):Sound Try.prog 116 [.l (.d false 6 (encPair a0)),.l (.s (.int .i64 a1))] [] (.l (.f 134 [0,1])) [some ⟨57,1,false,none,[.d false 6 (encPair r.1)]⟩,some ⟨3,1,false,none,[.s (.int .i64 r.2)]⟩]:=by
 unfold Do at h
 refine Sound.of_aw (fn:=Try.f116) (c:=_) Try.func116 rfl (by simp[Try.f116]) fun cx hG hnb=>?_
 rw[show Try.f116.ntmps=6 from rfl]
 have hn0:cx.nb=0:=hnb
 simp only[Al,initTm,List.map_cons,List.map_nil]
 apply AW.step
 ·simp
  intros;rfl
 apply AW.step
 ·simp
  intros;rfl
 obtain rfl:=oi h
 refine AW.ret ?_
 refine Left.of (av:=_) (by simp[Try.f116,resV,resC,comp];rfl) ?_
 exact LeftV.mix 0 [some 0,some 1] hn0 rfl (by decide) rfl (by simp[pickOb,Ac,Ae]) (by simp[Ac,Ae])
theorem G3:Enters Try.prog 116:=enters Try.func116 (by kernel_rfl) rfl
def Bg (n:Nat) (a0:ByteArray) (a1:Int):Option Int :=
lt (idxB a0 a1) fun v1 =>
some v1
theorem Cq {n:Nat} {a0:ByteArray} {a1:Int} {r:Int} (h:Bg n a0 a1=some r):Sound Try.prog 167 [.l (.s (.string a0)),.l (.s (.int .u8 a1))] [] (.l (.s (.int .i64 r))) []:=by
 unfold Bg at h
 refine Sound.of_aw (fn:=Try.f167) (c:=_) Try.func167 rfl (by simp[Try.f167]) fun cx hG hnb=>?_
 rw[show Try.f167.ntmps=8 from rfl]
 have hn0:cx.nb=0:=hnb
 simp only[Al,initTm,List.map_cons,List.map_nil]
 apply AW.step
 ·simp
  intros;rfl
 replace h:=ltE h;obtain⟨v1,e1,h⟩:=h
 apply AW.step
 ·simp[← e1]
  intros
  refine IZ Try.func171 (by kernel_rfl) (by kernel_rfl) (by kernel_rfl) (by kernel_rfl) ?_
  try simp[← e1]
  intros;rfl
 obtain rfl:=oi h
 refine AW.ret ?_
 refine Left.plain hnb (by simp[Try.f167,resV,resC,comp];rfl) rfl rfl ?_
 simp
theorem Ch:Enters Try.prog 167:=enters Try.func167 (by kernel_rfl) rfl
def BW (n:Nat) (a0:ByteArray):Option Int :=
lt (eqS ⟨#[123]⟩ a0) fun v1 =>
ite' v1 (some 0) (bn (Bg n a0 123) fun v2 =>
some v2)
theorem EM {n:Nat} {a0:ByteArray} {r:Int} (h:BW n a0=some r):Sound Try.prog 166 [.l (.s (.string a0)),.l (.s (.string ⟨#[123]⟩))] [] (.l (.s (.int .i64 r))) []:=by
 unfold BW at h
 refine Sound.of_aw (fn:=Try.f166) (c:=_) Try.func166 rfl (by simp[Try.f166]) fun cx hG hnb=>?_
 rw[show Try.f166.ntmps=143 from rfl]
 have hn0:cx.nb=0:=hnb
 simp only[Al,initTm,List.map_cons,List.map_nil]
 apply AW.step
 ·simp
  intros;rfl
 apply AW.step
 ·simp[(show lenS ⟨#[123]⟩=1 from rfl)]
  intros;rfl
 refine AW.seq ?_
 refine AW.block ?_
 replace h:=ltE h;obtain⟨v1,e1,h⟩:=h
 apply AW.step
 ·simp[(show eqI 1 0=false from rfl),← e1]
  intros;rfl
 cases v1 with
 |true =>
  replace h:=iteT rfl h
  refine AW.cond_true (by simp) ?_
  apply AW.step
  ·simp
   intros;rfl
  obtain rfl:=oi h
  refine AW.ret ?_
  refine Left.plain hnb (by simp[Try.f166,resV,resC,comp];rfl) rfl rfl ?_
  simp
 |false =>
  replace h:=iteF rfl h
  refine AW.cond_false (by simp) ?_
  apply AW.step
  ·simp[(show eqI 1 1=true from rfl)]
   intros;rfl
  refine AW.cond_true (by simp) ?_
  replace h:=bnE h;obtain⟨v2,e2,h⟩:=h
  apply AW.step
  ·simp[(show (0:Nat)<ByteArray.size ⟨#[123]⟩ by decide),(show bAt ⟨#[123]⟩ 0=123 from rfl)]
   intros
   refine Ag Ch (Cq e2) rfl ⟨.same rfl,.same rfl,trivial⟩ ?_
   try simp[(show (0:Nat)<ByteArray.size ⟨#[123]⟩ by decide),(show bAt ⟨#[123]⟩ 0=123 from rfl)]
   intros;rfl
  obtain rfl:=oi h
  refine AW.ret ?_
  refine Left.plain hnb (by simp[Try.f166,resV,resC,comp];rfl) rfl rfl ?_
  simp
theorem EB:Enters Try.prog 166:=enters Try.func166 (by kernel_rfl) rfl
def Ci (n:Nat) (a0:ByteArray):Option (ByteArray×ByteArray×Bool) :=
bn (BW n a0) fun v1 =>
lt (geI v1 0) fun v2 =>
ite' v2 (bn (segSh a0 v1) fun v3 =>
lt (addI .i64 v1 1) fun v5 =>
bn (segSl a0 v5) fun v6 =>
some (v3,v6,true)) (some (a0,⟨#[]⟩,false))
def DZ1t2:List DI:=[⟨[0],[],[(0,none)],false⟩,⟨[0],[],[(7,none)],false⟩,⟨[0],[0,1],[(13,some 0),(14,some 1)],false⟩,⟨[0],[],[(0,none)],false⟩,⟨[0],[],[(7,none)],false⟩,⟨[0],[],[(1,none)],false⟩,⟨[0],[5],[(18,some 5)],false⟩,⟨[0],[4,5,6],[(17,some 4),(19,some 6)],false⟩,⟨[0],[3,4,5,6,7],[(16,some 3),(20,some 7)],false⟩,⟨[0],[0,1,2],[(15,some 2)],false⟩,⟨[],[0,1,2,3,4,5,6,7,8,9],[],false⟩,⟨[],[0,1,2,3,4,5,6,7,8,9,10],[],false⟩]
theorem Fb {n:Nat} {a0:ByteArray} {r:ByteArray×ByteArray×Bool} (h:Ci n a0=some r):Sound Try.prog 164 [.l (.s (.string a0)),.l (.s (.string ⟨#[123]⟩))] [] (.t [(false,[.s (.string r.1)]),(false,[.s (.string r.2.1)]),(false,[.s (.bool r.2.2)])]) []:=by
 unfold Ci at h
 refine Sound.of_aw (fn:=Try.f164) (c:=_) Try.func164 rfl (by simp[Try.f164]) fun cx hG hnb=>?_
 rw[show Try.f164.ntmps=23 from rfl]
 have hn0:cx.nb=0:=hnb
 simp only[Al,initTm,List.map_cons,List.map_nil]
 apply AW.step
 ·simp
  intros;rfl
 refine AW.seq ?_
 replace h:=bnE h;obtain⟨v1,e1,h⟩:=h
 apply AW.step
 ·simp
  intros
  refine Ag EB (EM e1) rfl ⟨.same rfl,.same rfl,trivial⟩ ?_
  try simp
  intros;rfl
 replace h:=ltE h;obtain⟨v2,e2,h⟩:=h
 apply AW.step
 ·simp[← e2]
  intros;rfl
 cases v2 with
 |true =>
  replace h:=iteT rfl h
  refine AW.cond_true (by simp) ?_
  replace h:=bnE h;obtain⟨v3,e3,h⟩:=h
  have f4:=Ix e3
  try simp at f4
  replace h:=ltE h;obtain⟨v5,e5,h⟩:=h
  replace h:=bnE h;obtain⟨v6,e6,h⟩:=h
  have f7:=Iw e6
  try simp[f4,(show lenS ⟨#[123]⟩=1 from rfl),← e5] at f7
  apply AW.drawnP (V:=[_,_,_,_,_,_,_,_,_,_]) mixed DZ1t2 10 (by kernel_rfl) (by kernel_rfl)
  ·refine⟨?_,?_,?_,?_,?_,?_,?_,?_,?_,?_,trivial⟩
   iterate 10 (· intro tm hr;simp[AllL,rdV] at hr;simp[hr,f4,(show lenS ⟨#[123]⟩=1 from rfl),← e5,f7];intros;first|exact KD.mk|exact KD.mkN)
  ·rfl
  ·simp[tmD,putD,f4,(show lenS ⟨#[123]⟩=1 from rfl),← e5,f7];rfl
  ·simp[f4,(show lenS ⟨#[123]⟩=1 from rfl),← e5,f7]
   intros;rfl
  obtain rfl:=oi h
  refine AW.ret ?_
  refine Left.plain hnb (by simp[Try.f164,resV,resC,comp];rfl) rfl rfl ?_
  simp
 |false =>
  replace h:=iteF rfl h
  refine AW.cond_false (by simp) ?_
  refine AW.skip ?_
  try simp only[nm]
  apply AW.step
  ·simp
   intros;rfl
  obtain rfl:=oi h
  refine AW.ret ?_
  refine Left.plain hnb (by simp[Try.f164,resV,resC,comp];rfl) rfl rfl ?_
  simp
theorem E3:Enters Try.prog 164:=enters Try.func164 (by kernel_rfl) rfl
def C8 (n:Nat) (a0:ByteArray):Option (ByteArray×ByteArray×Bool) :=
bn (Ci n a0) fun v1 =>
some (v1.1,v1.2.1,v1.2.2)
theorem G4 {n:Nat} {a0:ByteArray} {r:ByteArray×ByteArray×Bool} (h:C8 n a0=some r):Sound Try.prog 161 [.l (.s (.string a0)),.l (.s (.string ⟨#[123]⟩))] [] (.t [(false,[.s (.string r.1)]),(false,[.s (.string r.2.1)]),(false,[.s (.bool r.2.2)])]) []:=by
 unfold C8 at h
 refine Sound.of_aw (fn:=Try.f161) (c:=_) Try.func161 rfl (by simp[Try.f161]) fun cx hG hnb=>?_
 rw[show Try.f161.ntmps=13 from rfl]
 have hn0:cx.nb=0:=hnb
 simp only[Al,initTm,List.map_cons,List.map_nil]
 apply AW.step
 ·simp
  intros;rfl
 replace h:=bnE h;obtain⟨v1,e1,h⟩:=h
 apply AW.step
 ·simp
  intros
  refine Ag E3 (Fb e1) rfl ⟨.same rfl,.same rfl,trivial⟩ ?_
  try simp
  intros;rfl
 obtain rfl:=oi h
 refine AW.ret ?_
 refine Left.plain hnb (by simp[Try.f161,resV,resC,comp];rfl) rfl rfl ?_
 simp
theorem Gq:Enters Try.prog 161:=enters Try.func161 (by kernel_rfl) rfl
def BD (n:Nat) (a0:ByteArray):Option Int :=
lt (eqS ⟨#[125]⟩ a0) fun v1 =>
ite' v1 (some 0) (bn (Bg n a0 125) fun v2 =>
some v2)
theorem Eh {n:Nat} {a0:ByteArray} {r:Int} (h:BD n a0=some r):Sound Try.prog 166 [.l (.s (.string a0)),.l (.s (.string ⟨#[125]⟩))] [] (.l (.s (.int .i64 r))) []:=by
 unfold BD at h
 refine Sound.of_aw (fn:=Try.f166) (c:=_) Try.func166 rfl (by simp[Try.f166]) fun cx hG hnb=>?_
 rw[show Try.f166.ntmps=143 from rfl]
 have hn0:cx.nb=0:=hnb
 simp only[Al,initTm,List.map_cons,List.map_nil]
 apply AW.step
 ·simp
  intros;rfl
 apply AW.step
 ·simp[(show lenS ⟨#[125]⟩=1 from rfl)]
  intros;rfl
 refine AW.seq ?_
 refine AW.block ?_
 replace h:=ltE h;obtain⟨v1,e1,h⟩:=h
 apply AW.step
 ·simp[(show eqI 1 0=false from rfl),← e1]
  intros;rfl
 cases v1 with
 |true =>
  replace h:=iteT rfl h
  refine AW.cond_true (by simp) ?_
  apply AW.step
  ·simp
   intros;rfl
  obtain rfl:=oi h
  refine AW.ret ?_
  refine Left.plain hnb (by simp[Try.f166,resV,resC,comp];rfl) rfl rfl ?_
  simp
 |false =>
  replace h:=iteF rfl h
  refine AW.cond_false (by simp) ?_
  apply AW.step
  ·simp[(show eqI 1 1=true from rfl)]
   intros;rfl
  refine AW.cond_true (by simp) ?_
  replace h:=bnE h;obtain⟨v2,e2,h⟩:=h
  apply AW.step
  ·simp[(show (0:Nat)<ByteArray.size ⟨#[125]⟩ by decide),(show bAt ⟨#[125]⟩ 0=125 from rfl)]
   intros
   refine Ag Ch (Cq e2) rfl ⟨.same rfl,.same rfl,trivial⟩ ?_
   try simp[(show (0:Nat)<ByteArray.size ⟨#[125]⟩ by decide),(show bAt ⟨#[125]⟩ 0=125 from rfl)]
   intros;rfl
  obtain rfl:=oi h
  refine AW.ret ?_
  refine Left.plain hnb (by simp[Try.f166,resV,resC,comp];rfl) rfl rfl ?_
  simp
theorem D3:Enters Try.prog 166:=enters Try.func166 (by kernel_rfl) rfl
def BP (n:Nat) (a0:ByteArray):Option (ByteArray×ByteArray×Bool) :=
bn (BD n a0) fun v1 =>
lt (geI v1 0) fun v2 =>
ite' v2 (bn (segSh a0 v1) fun v3 =>
lt (addI .i64 v1 1) fun v5 =>
bn (segSl a0 v5) fun v6 =>
some (v3,v6,true)) (some (a0,⟨#[]⟩,false))
theorem EC {n:Nat} {a0:ByteArray} {r:ByteArray×ByteArray×Bool} (h:BP n a0=some r):Sound Try.prog 164 [.l (.s (.string a0)),.l (.s (.string ⟨#[125]⟩))] [] (.t [(false,[.s (.string r.1)]),(false,[.s (.string r.2.1)]),(false,[.s (.bool r.2.2)])]) []:=by
 unfold BP at h
 refine Sound.of_aw (fn:=Try.f164) (c:=_) Try.func164 rfl (by simp[Try.f164]) fun cx hG hnb=>?_
 rw[show Try.f164.ntmps=23 from rfl]
 have hn0:cx.nb=0:=hnb
 simp only[Al,initTm,List.map_cons,List.map_nil]
 apply AW.step
 ·simp
  intros;rfl
 refine AW.seq ?_
 replace h:=bnE h;obtain⟨v1,e1,h⟩:=h
 apply AW.step
 ·simp
  intros
  refine Ag D3 (Eh e1) rfl ⟨.same rfl,.same rfl,trivial⟩ ?_
  try simp
  intros;rfl
 replace h:=ltE h;obtain⟨v2,e2,h⟩:=h
 apply AW.step
 ·simp[← e2]
  intros;rfl
 cases v2 with
 |true =>
  replace h:=iteT rfl h
  refine AW.cond_true (by simp) ?_
  replace h:=bnE h;obtain⟨v3,e3,h⟩:=h
  have f4:=Ix e3
  try simp at f4
  replace h:=ltE h;obtain⟨v5,e5,h⟩:=h
  replace h:=bnE h;obtain⟨v6,e6,h⟩:=h
  have f7:=Iw e6
  try simp[f4,(show lenS ⟨#[125]⟩=1 from rfl),← e5] at f7
  apply AW.drawnP (V:=[_,_,_,_,_,_,_,_,_,_]) mixed DZ1t2 10 (by kernel_rfl) (by kernel_rfl)
  ·refine⟨?_,?_,?_,?_,?_,?_,?_,?_,?_,?_,trivial⟩
   iterate 10 (· intro tm hr;simp[AllL,rdV] at hr;simp[hr,f4,(show lenS ⟨#[125]⟩=1 from rfl),← e5,f7];intros;first|exact KD.mk|exact KD.mkN)
  ·rfl
  ·simp[tmD,putD,f4,(show lenS ⟨#[125]⟩=1 from rfl),← e5,f7];rfl
  ·simp[f4,(show lenS ⟨#[125]⟩=1 from rfl),← e5,f7]
   intros;rfl
  obtain rfl:=oi h
  refine AW.ret ?_
  refine Left.plain hnb (by simp[Try.f164,resV,resC,comp];rfl) rfl rfl ?_
  simp
 |false =>
  replace h:=iteF rfl h
  refine AW.cond_false (by simp) ?_
  refine AW.skip ?_
  try simp only[nm]
  apply AW.step
  ·simp
   intros;rfl
  obtain rfl:=oi h
  refine AW.ret ?_
  refine Left.plain hnb (by simp[Try.f164,resV,resC,comp];rfl) rfl rfl ?_
  simp
theorem Er:Enters Try.prog 164:=enters Try.func164 (by kernel_rfl) rfl
def Ct (n:Nat) (a0:ByteArray):Option (ByteArray×ByteArray×Bool) :=
bn (BP n a0) fun v1 =>
some (v1.1,v1.2.1,v1.2.2)
theorem FA {n:Nat} {a0:ByteArray} {r:ByteArray×ByteArray×Bool} (h:Ct n a0=some r):Sound Try.prog 161 [.l (.s (.string a0)),.l (.s (.string ⟨#[125]⟩))] [] (.t [(false,[.s (.string r.1)]),(false,[.s (.string r.2.1)]),(false,[.s (.bool r.2.2)])]) []:=by
 unfold Ct at h
 refine Sound.of_aw (fn:=Try.f161) (c:=_) Try.func161 rfl (by simp[Try.f161]) fun cx hG hnb=>?_
 rw[show Try.f161.ntmps=13 from rfl]
 have hn0:cx.nb=0:=hnb
 simp only[Al,initTm,List.map_cons,List.map_nil]
 apply AW.step
 ·simp
  intros;rfl
 replace h:=bnE h;obtain⟨v1,e1,h⟩:=h
 apply AW.step
 ·simp
  intros
  refine Ag Er (EC e1) rfl ⟨.same rfl,.same rfl,trivial⟩ ?_
  try simp
  intros;rfl
 obtain rfl:=oi h
 refine AW.ret ?_
 refine Left.plain hnb (by simp[Try.f161,resV,resC,comp];rfl) rfl rfl ?_
 simp
theorem Fc:Enters Try.prog 161:=enters Try.func161 (by kernel_rfl) rfl
def Ei (n:Nat) (a0:ByteArray):Option ByteArray :=
bn (C8 n a0) fun v1 =>
bn (Ct n v1.2.1) fun v2 =>
bn (lt (v1.2.2) fun v4 =>
ite' v4 (lt (v2.2.2) fun v5 =>
ite' v5 (lt (neS v2.1 ⟨#[]⟩) fun v6 =>
some (v6)) (some (false))) (some (false))) fun (y3:Bool) =>
lt (y3) fun v7 =>
ite' v7 (some v2.1) (some a0)
theorem I5 {n:Nat} {a0:ByteArray} {r:ByteArray} (h:Ei n a0=some r):Sound Try.prog 153 [.l (.s (.string a0))] [] (.l (.s (.string r))) []:=by
 unfold Ei at h
 refine Sound.of_aw (fn:=Try.f153) (c:=_) Try.func153 rfl (by simp[Try.f153]) fun cx hG hnb=>?_
 rw[show Try.f153.ntmps=31 from rfl]
 have hn0:cx.nb=0:=hnb
 simp only[Al,initTm,List.map_cons,List.map_nil]
 apply AW.step
 ·simp
  intros;rfl
 replace h:=bnE h;obtain⟨v1,e1,h⟩:=h
 apply AW.step
 ·simp
  intros
  refine Ag Gq (G4 e1) rfl ⟨.same rfl,.same rfl,trivial⟩ ?_
  try simp
  intros;rfl
 replace h:=bnE h;obtain⟨v2,e2,h⟩:=h
 apply AW.step
 ·simp
  intros
  refine Ag Fc (FA e2) rfl ⟨.same rfl,.same rfl,trivial⟩ ?_
  try simp
  intros;rfl
 refine AW.seq ?_
 replace h:=bnE h;obtain⟨y3,g3,h⟩:=h
 refine AW.flow (p:=fun gh ls=>(nP (cx:=cx) (fun q=>(⟨[(0,.l (.s (.string a0))),(6,.l (.s (.string v2.1))),(28,.l (.s (.bool q)))],[],31,gh,ls⟩:St))) y3) ?_ ?_
 ·replace h:=g3;clear g3
  replace h:=ltE h;obtain⟨v4,e4,h⟩:=h
  cases v4 with
  |true =>
   replace h:=iteT rfl h
   replace h:=ltE h;obtain⟨v5,e5,h⟩:=h
   cases v5 with
   |true =>
    replace h:=iteT rfl h
    replace h:=ltE h;obtain⟨v6,e6,h⟩:=h
    apply AW.last
    ·simp[← e4,← e5,← e6]
     intros;rfl
    obtain rfl:=oi h
    refine nP_i ?_
    refine Weak.mixN [] hn0 (by decide) ?_ ?_ rfl
    all_goals first|(simp[Ac,Ae,pickOb];done)|rfl
   |false =>
    replace h:=iteF rfl h
    apply AW.last
    ·simp[← e4,← e5]
     intros;rfl
    obtain rfl:=oi h
    refine nP_i ?_
    refine Weak.mixN [] hn0 (by decide) ?_ ?_ rfl
    all_goals first|(simp[Ac,Ae,pickOb];done)|rfl
  |false =>
   replace h:=iteF rfl h
   apply AW.last
   ·simp[← e4]
    intros;rfl
   obtain rfl:=oi h
   refine nP_i ?_
   refine Weak.mixN [] hn0 (by decide) ?_ ?_ rfl
   all_goals first|(simp[Ac,Ae,pickOb];done)|rfl
 ·rintro e s hp
  obtain⟨rfl,hw⟩:=hp
  refine⟨_,hw,?_⟩
  try simp only[nm]
  replace h:=ltE h;obtain⟨v7,e7,h⟩:=h
  rw[← e7]
  cases v7 with
  |true =>
   replace h:=iteT rfl h
   refine AW.cond_true (by simp) ?_
   apply AW.step
   ·simp
    intros;rfl
   obtain rfl:=oi h
   refine AW.ret ?_
   refine Left.plain hnb (by simp[Try.f153,resV,resC,comp];rfl) rfl rfl ?_
   simp
  |false =>
   replace h:=iteF rfl h
   refine AW.cond_false (by simp) ?_
   refine AW.skip ?_
   try simp only[nm]
   apply AW.step
   ·simp
    intros;rfl
   obtain rfl:=oi h
   refine AW.ret ?_
   refine Left.plain hnb (by simp[Try.f153,resV,resC,comp];rfl) rfl rfl ?_
   simp
theorem H6:Enters Try.prog 153:=enters Try.func153 (by kernel_rfl) rfl
def Ej (n:Nat) (a0:List Int):Option Int :=
lt (lenI a0) fun v1 =>
bn (iter n (fun (y2:Int×Int) =>
lt (ltI y2.2 v1) fun v5 =>
ite' v5 (bn (nth a0 y2.2) fun v6 =>
lt (cvI .u16 v6) fun v7 =>
bn (shlI .u16 v7 8) fun v8 =>
lt (xorI .u16 y2.1 v8) fun v9 =>
bn (iter n (fun (y10:Int×Int) =>
lt (ltI y10.2 8) fun v13 =>
ite' v13 (bn (shrI .u16 y10.1 15) fun v14 =>
bn (shlI .u16 y10.1 1) fun v15 =>
lt (mulI .u16 4129 v14) fun v16 =>
lt (xorI .u16 v15 v16) fun v17 =>
lt (addI .i64 y10.2 1) fun v18 =>
some (.inl (v17,v18))) (some (.inr y10.1))) (v9,0)) fun (y11:Int) =>
lt (addI .i64 y2.2 1) fun v19 =>
some (.inl (y11,v19))) (some (.inr y2.1))) (0,0)) fun (y3:Int) =>
lt (cvI .i64 y3) fun v20 =>
some v20
theorem I6 {n:Nat} {a0:List Int} {r:Int} (h:Ej n a0=some r):Sound Try.prog 152 [.l (.d false 1 (encU a0))] [] (.l (.s (.int .i64 r))) []:=by
 unfold Ej at h
 refine Sound.of_aw (fn:=Try.f152) (c:=_) Try.func152 rfl (by simp[Try.f152]) fun cx hG hnb=>?_
 rw[show Try.f152.ntmps=31 from rfl]
 have hn0:cx.nb=0:=hnb
 simp only[Al,initTm,List.map_cons,List.map_nil]
 apply AW.step
 ·simp
  intros;rfl
 apply AW.step
 ·simp
  intros;rfl
 refine AW.seq ?_
 replace h:=ltE h;obtain⟨v1,e1,h⟩:=h
 apply AW.step
 ·simp[Aj e1]
  intros;rfl
 refine AW.block ?_
 replace h:=bnE h;obtain⟨y3,g3,h⟩:=h
 refine AW.iterP g3 (mk:=fun gh ls q=>(⟨[(3,.l (.s (.int .u16 q.1))),(7,.l (.d false 1 (encU a0))),(8,.l (.s (.int .i64 v1))),(9,.l (.s (.int .i64 q.2)))],[],31,gh,ls⟩:St)) (N:=fun gh ls=>(xP 0 (cx:=cx) (fun q=>(⟨[(3,.l (.s (.int .u16 q)))],[],31,gh,ls⟩:St)))) ?_ noX ?_ ?_
 ·refine Weak.mixN [] hn0 (by decide) ?_ ?_ rfl
  all_goals first|(simp[Ac,Ae,pickOb];done)|rfl
 ·clear h;intro y2 y4 h
  replace h:=ltE h;obtain⟨v5,e5,h⟩:=h
  apply AW.step
  ·simp[← e5]
   intros;rfl
  refine AW.seq ?_
  cases v5 with
  |true =>
   replace h:=iteT rfl h
   refine AW.cond_true (by simp) ?_
   refine AW.skip ?_
   try simp only[nm]
   refine AW.seq ?_
   refine AW.block ?_
   replace h:=bnE h;obtain⟨v6,e6,h⟩:=h
   apply AW.step
   ·simp[Aa e6]
    intros;rfl
   replace h:=ltE h;obtain⟨v7,e7,h⟩:=h
   replace h:=bnE h;obtain⟨v8,e8,h⟩:=h
   replace h:=ltE h;obtain⟨v9,e9,h⟩:=h
   apply AW.step
   ·simp[← e7,e8,← e9]
    intros;rfl
   apply AW.step
   ·simp
    intros;rfl
   refine AW.block ?_
   replace h:=bnE h;obtain⟨y11,g11,h⟩:=h
   refine AW.iterP g11 (mk:=fun gh ls q=>(⟨[(3,.l (.s (.int .u16 q.1))),(7,.l (.d false 1 (encU a0))),(8,.l (.s (.int .i64 v1))),(9,.l (.s (.int .i64 y2.2))),(18,.l (.s (.int .i64 q.2)))],[],31,gh,ls⟩:St)) (N:=fun gh ls=>(xP 2 (cx:=cx) (fun q=>(⟨[(3,.l (.s (.int .u16 q))),(7,.l (.d false 1 (encU a0))),(8,.l (.s (.int .i64 v1))),(9,.l (.s (.int .i64 y2.2)))],[],31,gh,ls⟩:St)))) ?_ noX ?_ ?_
   ·refine Weak.mixN [] hn0 (by decide) ?_ ?_ rfl
    all_goals first|(simp[Ac,Ae,pickOb];done)|rfl
   ·clear h;intro y10 y12 h
    replace h:=ltE h;obtain⟨v13,e13,h⟩:=h
    apply AW.step
    ·simp[← e13]
     intros;rfl
    refine AW.seq ?_
    cases v13 with
    |true =>
     replace h:=iteT rfl h
     refine AW.cond_true (by simp) ?_
     refine AW.skip ?_
     try simp only[nm]
     refine AW.seq ?_
     refine AW.block ?_
     replace h:=bnE h;obtain⟨v14,e14,h⟩:=h
     apply AW.step
     ·simp[e14]
      intros;rfl
     replace h:=bnE h;obtain⟨v15,e15,h⟩:=h
     replace h:=ltE h;obtain⟨v16,e16,h⟩:=h
     replace h:=ltE h;obtain⟨v17,e17,h⟩:=h
     apply AW.last
     ·simp[e15,← e16,← e17]
      intros;rfl
     try simp only[nm]
     replace h:=ltE h;obtain⟨v18,e18,h⟩:=h
     apply AW.last
     ·simp[← e18]
      intros;rfl
     obtain rfl:=oi h
     refine nP_i ?_
     refine Weak.mixN [] hn0 (by decide) ?_ ?_ rfl
     all_goals first|(simp[Ac,Ae,pickOb];done)|rfl
    |false =>
     replace h:=iteF rfl h
     refine AW.cond_false (by simp) ?_
     refine AW.exit ?_
     try simp only[nm]
     obtain rfl:=oi h
     refine xP_i ?_
     refine Weak.mixN [] hn0 (by decide) ?_ ?_ rfl
     all_goals first|(simp[Ac,Ae,pickOb];done)|rfl
   ·rintro e s hp
    obtain⟨rfl,hw⟩:=hp
    refine⟨_,hw,?_⟩
    try simp only[nm]
    replace h:=ltE h;obtain⟨v19,e19,h⟩:=h
    apply AW.last
    ·simp[← e19]
     intros;rfl
    obtain rfl:=oi h
    refine nP_i ?_
    refine Weak.mixN [] hn0 (by decide) ?_ ?_ rfl
    all_goals first|(simp[Ac,Ae,pickOb];done)|rfl
  |false =>
   replace h:=iteF rfl h
   refine AW.cond_false (by simp) ?_
   refine AW.exit ?_
   try simp only[nm]
   obtain rfl:=oi h
   refine xP_i ?_
   refine Weak.mixN [] hn0 (by decide) ?_ ?_ rfl
   all_goals first|(simp[Ac,Ae,pickOb];done)|rfl
 ·rintro e s hp
  obtain⟨rfl,hw⟩:=hp
  refine⟨_,hw,?_⟩
  try simp only[nm]
  replace h:=ltE h;obtain⟨v20,e20,h⟩:=h
  apply AW.step
  ·simp[← e20]
   intros;rfl
  obtain rfl:=oi h
  refine AW.ret ?_
  refine Left.plain hnb (by simp[Try.f152,resV,resC,comp];rfl) rfl rfl ?_
  simp
theorem H7:Enters Try.prog 152:=enters Try.func152 (by kernel_rfl) rfl
def ED (n:Nat) (a0:ByteArray):Option Int :=
bn (Ei n a0) fun v1 =>
chk (room v1.size 1) <|
lt (bytesI v1) fun v3 =>
bn (Ej n v3) fun v4 =>
bn (remI .i64 v4 16384) fun v5 =>
some v5
theorem GP {n:Nat} {a0:ByteArray} {r:Int} (h:ED n a0=some r):Sound Try.prog 135 [.l (.s (.string a0))] [] (.l (.s (.int .i64 r))) []:=by
 unfold ED at h
 refine Sound.of_aw (fn:=Try.f135) (c:=_) Try.func135 rfl (by simp[Try.f135]) fun cx hG hnb=>?_
 rw[show Try.f135.ntmps=8 from rfl]
 have hn0:cx.nb=0:=hnb
 simp only[Al,initTm,List.map_cons,List.map_nil]
 apply AW.step
 ·simp
  intros;rfl
 replace h:=bnE h;obtain⟨v1,e1,h⟩:=h
 replace h:=chkE h;obtain⟨e2,h⟩:=h
 replace h:=ltE h;obtain⟨v3,e3,h⟩:=h
 replace h:=bnE h;obtain⟨v4,e4,h⟩:=h
 replace h:=bnE h;obtain⟨v5,e5,h⟩:=h
 apply AW.step
 ·simp[(Ah e2).2,← e3,e5]
  intros
  refine Ag H6 (I5 e1) rfl ⟨.same rfl,trivial⟩ ?_
  try simp[(Ah e2).2,← e3,e5]
  intros
  refine Ag H7 (I6 e4) rfl ⟨.same rfl,trivial⟩ ?_
  try simp[(Ah e2).2,← e3,e5]
  intros;rfl
 obtain rfl:=oi h
 refine AW.ret ?_
 refine Left.plain hnb (by simp[Try.f135,resV,resC,comp];rfl) rfl rfl ?_
 simp
theorem F8:Enters Try.prog 135:=enters Try.func135 (by kernel_rfl) rfl
def Bl (n:Nat) (b1_0:List Pair) (b1_1:Int):Option (List ByteArray) :=
bn (lt (lenI b1_0) fun v2 =>
bn (iter n (fun (y3:Int×List ByteArray) =>
lt (ltI y3.1 v2) fun v6 =>
ite' v6 (bn (nth b1_0 y3.1) fun v7 =>
bn (ED n v7.key) fun v8 =>
lt (eqI v8 b1_1) fun v9 =>
ite' v9 (chk (room (y3.2.length+1) 16) <|
lt (y3.2++[v7.key]) fun v11 =>
lt (addI .i64 y3.1 1) fun v12 =>
some (.inl (v12,v11))) (lt (addI .i64 y3.1 1) fun v13 =>
some (.inl (v13,y3.2)))) (some (.inr y3.2))) (0,[])) fun (y4:List ByteArray) =>
some (y4)) fun (y1:List ByteArray) =>
chk (room y1.length 1) <|
some y1
def DZ1t3:List DI:=[⟨[0],[],[(5,none)],false⟩,⟨[0],[0],[(12,some 0)],false⟩,⟨[0],[0,1],[(13,some 1)],false⟩,⟨[0],[],[(2,none)],false⟩,⟨[0],[0,1,2,3],[(14,some 2),(15,some 3)],false⟩,⟨[0],[0,1,2,3,4],[(16,some 4)],false⟩,⟨[0],[0,1,2,3,4,5],[(0,none),(17,some 5)],false⟩,⟨[0],[0,1,2,3,4,5],[(5,none),(17,some 5)],false⟩,⟨[0],[0,1,2,3,4,5,7],[(17,some 5),(19,some 7)],false⟩,⟨[],[0,1,2,3,4,5,6,7,8],[],false⟩,⟨[],[0,1,2,3,4,5,6,7,8,9],[],false⟩,⟨[],[0,1,2,3,4,5,6,7,8,9,10],[],false⟩]
theorem DA {n:Nat} {b1_0:List Pair} {b1_1:Int} {r:List ByteArray} (h:Bl n b1_0 b1_1=some r):Sound Try.prog 133 [.l (.s (.slice none 0 0)),.l (.f 134 [0,1])] [⟨57,1,false,none,[.d false 6 (encPair b1_0)]⟩,⟨3,1,false,none,[.s (.int .i64 b1_1)]⟩] (.l (.d false 1 (encS r))) [some ⟨57,1,false,none,[.d false 6 (encPair b1_0)]⟩,some ⟨3,1,false,none,[.s (.int .i64 b1_1)]⟩]:=by
 unfold Bl at h
 refine Sound.of_aw (fn:=Try.f133) (c:=_) Try.func133 rfl (by simp[Try.f133]) fun cx hG hnb=>?_
 rw[show Try.f133.ntmps=13 from rfl]
 have hn0:cx.nb=2:=hnb
 simp only[Al,initTm,List.map_cons,List.map_nil]
 apply AW.step
 ·simp
  intros;rfl
 replace h:=bnE h;obtain⟨y1,g1,h⟩:=h
 refine AW.flow (p:=fun gh ls=>(nP (cx:=cx) (fun q=>(⟨[(2,.l (.p 2 0))],[some ⟨57,1,false,none,[.d false 6 (encPair b1_0)]⟩,some ⟨3,1,false,none,[.s (.int .i64 b1_1)]⟩,some ⟨134,1,false,none,[.r 3 1 0 q.length]⟩,some ⟨9,1,true,none,lvs (encS q)⟩],13,gh,ls⟩:St))) y1) ?_ ?_
 ·replace h:=g1;clear g1
  apply AW.step
  ·simp
   intros;rfl
  refine AW.block ?_
  refine AW.weak (Weak.keep [(2,.l (.p 2 0)),(6,.l (.f 134 [0,1]))] (by simp)) ?_
  refine AW.rangeG rfl Try.func134 (by kernel_rfl) rfl (by decide) rfl rfl fun cxI1 yl1 hnI1 hY1=>?_
  have hnJ1:cxI1.nb=2:=hnI1.trans hn0
  simp only[initTm,List.map_cons,List.map_nil]
  replace h:=ltE h;obtain⟨v2,e2,h⟩:=h
  apply AW.step
  ·simp[Aj e2]
   intros;rfl
  refine AW.block ?_
  replace h:=bnE h;obtain⟨y4,g4,h⟩:=h
  refine AW.iterP g4 (mk:=fun gh ls q=>(⟨[(0,.l (.s (.func (.yield yl1) #[] #[]))),(2,.l (.p 1 0)),(6,.l (.d false 6 (encPair b1_0))),(7,.l (.s (.int .i64 v2))),(8,.l (.s (.int .i64 q.1)))],[some ⟨57,1,false,none,[.d false 6 (encPair b1_0)]⟩,some ⟨3,1,false,none,[.s (.int .i64 b1_1)]⟩,some ⟨134,1,false,none,[.r 3 1 0 q.2.length]⟩,some ⟨9,1,true,none,lvs (encS q.2)⟩],25,gh,ls⟩:St)) (N:=fun gh ls=>(xP 0 (cx:=cxI1) (fun q=>(⟨[],[some ⟨57,1,false,none,[.d false 6 (encPair b1_0)]⟩,some ⟨3,1,false,none,[.s (.int .i64 b1_1)]⟩,some ⟨134,1,false,none,[.r 3 1 0 q.length]⟩,some ⟨9,1,true,none,lvs (encS q)⟩],25,gh,ls⟩:St)))) ?_ noX ?_ ?_
  ·refine W.nilCell 2 0 9 1 3 rfl rfl rfl rfl rfl ?_
   refine Weak.mixB 2 [some 0,some 1,some 2,some 3] hnJ1 (by decide) (by decide) ?_ ?_ ?_
   all_goals first|(simp[Ac,Ae,pickOb];done)|rfl
  ·clear h;intro y3 y5 h
   replace h:=ltE h;obtain⟨v6,e6,h⟩:=h
   apply AW.step
   ·simp[← e6]
    intros;rfl
   refine AW.seq ?_
   cases v6 with
   |true =>
    replace h:=iteT rfl h
    refine AW.cond_true (by simp) ?_
    refine AW.skip ?_
    try simp only[nm]
    refine AW.seq ?_
    refine AW.block ?_
    replace h:=bnE h;obtain⟨v7,e7,h⟩:=h
    apply AW.step
    ·simp[Aa e7]
     intros;rfl
    replace h:=bnE h;obtain⟨v8,e8,h⟩:=h
    replace h:=ltE h;obtain⟨v9,e9,h⟩:=h
    cases v9 with
    |true =>
     replace h:=iteT rfl h
     apply AW.drawnYP (V:=[_,_,_,_,_,_,_,_,_]) mixed DZ1t3 9 (by kernel_rfl) (by kernel_rfl)
     ·refine⟨?_,?_,?_,?_,?_,?_,?_,?_,?_,trivial⟩
      iterate 2 (· intro tm hr;simp[AllL,rdV] at hr;simp[hr,← e9];intros;first|exact KD.mk|exact KD.mkN)
      ·intro tm hr
       simp[AllL,rdV] at hr
       simp[hr,← e9]
       intros
       refine Ag F8 (GP e8) rfl ⟨.same rfl,trivial⟩ ?_
       try simp[← e9]
       intros;first|exact KD.mk|exact KD.mkN
      iterate 6 (· intro tm hr;simp[AllL,rdV] at hr;simp[hr,← e9];intros;first|exact KD.mk|exact KD.mkN)
     ·rfl
     ·simp[tmD,putD,← e9];rfl
     apply xopsY.yield hY1 9 9 rfl rfl rfl (by decide)
     ·simp[← e9]
      intros;rfl
     ·rfl
     ·first|trivial|simp[← e9]
     ·rfl
     ·rfl
     ·simp[puts,← e9];rfl
     intro cxR1 hnR1
     have hnS1:cxR1.nb=2:=hnR1.trans hnJ1
     apply AW.last
     ·simp
      intros;rfl
     refine⟨rfl,?_⟩
     refine AW.block ?_
     replace h:=chkE h;obtain⟨e10,h⟩:=h
     replace h:=ltE h;obtain⟨v11,e11,h⟩:=h
     apply AW.last
     ·simp[← A8,← e11,Ak e11]
      intros
      refine Ar ?_
      try simp[← A8,← e11,Ak e11]
      intros
      refine AD (acc:=encS y3.2) (ys:=encS [v7.key]) (cap:=none) (k:=1) CF DL (by simp) (by simp[encS,lvs]) (Cm _) (by simp) (by simp) (by first|(simp;done)|simpa using (Ah e10).1) ?_
      try simp[← A8,← e11,Ak e11]
      intros;rfl
     refine⟨_,_,rfl,?_⟩
     refine DK _ _ _ rfl ?_
     simp[puts,← e9]
     try intros
     unfold KK
     refine AW.cond_false (by simp) ?_
     refine AW.skip ?_
     try simp only[nm]
     replace h:=ltE h;obtain⟨v12,e12,h⟩:=h
     apply AW.last
     ·simp[← e12]
      intros;rfl
     obtain rfl:=oi h
     refine nP_i ?_
     refine Weak.mixB 2 [some 0,some 1,some 2,some 6] hnJ1 (by decide) (by decide) ?_ ?_ ?_
     all_goals first|(simp[Ac,Ae,pickOb,D8];done)|rfl
    |false =>
     replace h:=iteF rfl h
     apply AW.drawnP (V:=[_,_,_,_,_,_,_,_,_]) mixed DZ1t3 9 (by kernel_rfl) (by kernel_rfl)
     ·refine⟨?_,?_,?_,?_,?_,?_,?_,?_,?_,trivial⟩
      iterate 2 (· intro tm hr;simp[AllL,rdV] at hr;simp[hr,← e9];intros;first|exact KD.mk|exact KD.mkN)
      ·intro tm hr
       simp[AllL,rdV] at hr
       simp[hr,← e9]
       intros
       refine Ag F8 (GP e8) rfl ⟨.same rfl,trivial⟩ ?_
       try simp[← e9]
       intros;first|exact KD.mk|exact KD.mkN
      iterate 6 (· intro tm hr;simp[AllL,rdV] at hr;simp[hr,← e9];intros;first|exact KD.mk|exact KD.mkN)
     ·rfl
     ·simp[tmD,putD,← e9];rfl
     ·simp[← e9]
      intros;rfl
     refine AW.cond_false (by simp) ?_
     refine AW.skip ?_
     try simp only[nm]
     replace h:=ltE h;obtain⟨v13,e13,h⟩:=h
     apply AW.last
     ·simp[← e13]
      intros;rfl
     obtain rfl:=oi h
     refine nP_i ?_
     refine Weak.mixB 2 [some 0,some 1,some 2,some 3] hnJ1 (by decide) (by decide) ?_ ?_ ?_
     all_goals first|(simp[Ac,Ae,pickOb];done)|rfl
   |false =>
    replace h:=iteF rfl h
    refine AW.cond_false (by simp) ?_
    refine AW.exit ?_
    try simp only[nm]
    obtain rfl:=oi h
    refine xP_i ?_
    refine Weak.mixB 2 [some 0,some 1,some 2,some 3] hnJ1 (by decide) (by decide) ?_ ?_ ?_
    all_goals first|(simp[Ac,Ae,pickOb];done)|rfl
  ·rintro e s hp
   obtain⟨rfl,hw⟩:=hp
   refine⟨_,hw,?_⟩
   try simp only[nm]
   refine⟨_,_,rfl,?_⟩
   try simp only[]
   try simp only[nm]
   obtain rfl:=oi h
   refine nP_i ?_
   refine Weak.mixB 2 [some 0,some 1,some 2,some 3] hn0 (by decide) (by decide) ?_ ?_ ?_
   all_goals first|(simp[Ac,Ae,pickOb];done)|rfl
 ·rintro e s hp
  obtain⟨rfl,hw⟩:=hp
  refine⟨_,hw,?_⟩
  try simp only[nm]
  apply AW.step
  ·simp
   intros;rfl
  replace h:=chkE h;obtain⟨e14,h⟩:=h
  refine AW.frzRow 3 (ty:=9) (cap:=none) (sz:=1) (es:=encS y1) (by simp) (by omega) (Cm _) (by first|exact (Ah e14).2|simpa using (Ah e14).2|simp) (by simp[Tm.frz,AV.frz,LV.frz];rfl) (by simp[Ob.frz,LV.frz];rfl) rfl ?_
  obtain rfl:=oi h
  refine AW.ret ?_
  refine Left.of (av:=_) (by simp[Try.f133,resV,resC,comp];rfl) ?_
  exact LeftV.mix 2 [some 0,some 1] hn0 rfl (by decide) rfl (by simp[pickOb,Ac,Ae]) (by simp[Ac,Ae])
theorem Dp:Enters Try.prog 133:=enters Try.func133 (by kernel_rfl) rfl
def By (n:Nat) (b0_0:List Pair) (b0_1:Int):Option (List ByteArray) :=
bn (Bl n b0_0 b0_1) fun v1 =>
some v1
theorem D4 {n:Nat} {b0_0:List Pair} {b0_1:Int} {r:List ByteArray} (h:By n b0_0 b0_1=some r):Sound Try.prog 115 [.l (.f 134 [0,1])] [⟨57,1,false,none,[.d false 6 (encPair b0_0)]⟩,⟨3,1,false,none,[.s (.int .i64 b0_1)]⟩] (.l (.d false 1 (encS r))) [some ⟨57,1,false,none,[.d false 6 (encPair b0_0)]⟩,some ⟨3,1,false,none,[.s (.int .i64 b0_1)]⟩]:=by
 unfold By at h
 refine Sound.of_aw (fn:=Try.f115) (c:=_) Try.func115 rfl (by simp[Try.f115]) fun cx hG hnb=>?_
 rw[show Try.f115.ntmps=5 from rfl]
 have hn0:cx.nb=2:=hnb
 simp only[Al,initTm,List.map_cons,List.map_nil]
 apply AW.step
 ·simp
  intros;rfl
 replace h:=bnE h;obtain⟨v1,e1,h⟩:=h
 apply AW.step
 ·simp
  intros
  refine Ax [0,1] Dp (DA e1) (by decide) (by simp[pickOb,Ac,Ae]) rfl rfl (by simp) ⟨.l (.s _),.l (.fn (by simp)),trivial⟩ ?_
  try simp
  intros;rfl
 obtain rfl:=oi h
 refine AW.ret ?_
 refine Left.of (av:=_) (by simp[Try.f115,resV,resC,comp];rfl) ?_
 exact LeftV.mix 2 [some 0,some 1] hn0 rfl (by decide) rfl (by simp[pickOb,Ac,Ae]) (by simp[Ac,Ae])
theorem DU:Enters Try.prog 115:=enters Try.func115 (by kernel_rfl) rfl
def Ek (n:Nat) (a0:List Pair) (a1:Int):Option (List ByteArray) :=
bn (Do n a0 a1) fun v1 =>
bn (By n v1.1 v1.2) fun v2 =>
some v2
theorem I7 {n:Nat} {a0:List Pair} {a1:Int} {r:List ByteArray} (h:Ek n a0 a1=some r):Sound Try.prog 87 [.l (.d false 6 (encPair a0)),.l (.s (.int .i64 a1))] [] (.l (.d false 1 (encS r))) []:=by
 unfold Ek at h
 refine Sound.of_aw (fn:=Try.f87) (c:=_) Try.func87 rfl (by simp[Try.f87]) fun cx hG hnb=>?_
 rw[show Try.f87.ntmps=9 from rfl]
 have hn0:cx.nb=0:=hnb
 simp only[Al,initTm,List.map_cons,List.map_nil]
 apply AW.step
 ·simp
  intros;rfl
 replace h:=bnE h;obtain⟨v1,e1,h⟩:=h
 replace h:=bnE h;obtain⟨v2,e2,h⟩:=h
 apply AW.step
 ·simp
  intros
  refine Aw G3 (HI e1) rfl (by simp) ⟨.same rfl,.same rfl,trivial⟩ ?_
  try simp
  intros
  refine Ax [0,1] DU (D4 e2) (by decide) (by simp[pickOb,Ac,Ae]) rfl rfl (by simp) ⟨.l (.fn (by simp)),trivial⟩ ?_
  try simp
  intros;rfl
 obtain rfl:=oi h
 refine AW.ret ?_
 refine Left.plain hnb (by simp[Try.f87,resV,resC,comp];rfl) rfl rfl ?_
 simp
theorem H8:Enters Try.prog 87:=enters Try.func87 (by kernel_rfl) rfl
def B8 (n:Nat) (a0:Pair) (a1:ByteArray):Option Int :=
lt (cmpB a0.key a1) fun v1 =>
some v1
theorem Es {n:Nat} {a0:Pair} {a1:ByteArray} {r:Int} (h:B8 n a0 a1=some r):Sound Try.prog 155 [.g [.s (.string a0.key),.s (.int .i64 a0.item.kind),.s (.string a0.item.s),.d false 2 (encField a0.item.f),.d false 1 (encS a0.item.l),.s (.int .i64 a0.item.exp)],.l (.s (.string a1))] [] (.l (.s (.int .i64 r))) []:=by
 unfold B8 at h
 refine Sound.of_aw (fn:=Try.f155) (c:=_) Try.func155 rfl (by simp[Try.f155]) fun cx hG hnb=>?_
 rw[show Try.f155.ntmps=9 from rfl]
 have hn0:cx.nb=0:=hnb
 simp only[Al,initTm,List.map_cons,List.map_nil]
 apply AW.step
 ·simp
  intros;rfl
 replace h:=ltE h;obtain⟨v1,e1,h⟩:=h
 apply AW.step
 ·simp[← e1]
  intros
  refine Ag GU (Hv a0.key a1) rfl ⟨.same rfl,.same rfl,trivial⟩ ?_
  try simp[← e1]
  intros;rfl
 obtain rfl:=oi h
 refine AW.ret ?_
 refine Left.plain hnb (by simp[Try.f155,resV,resC,comp];rfl) rfl rfl ?_
 simp
theorem Eb:Enters Try.prog 155:=enters Try.func155 (by kernel_rfl) rfl
def Ba (n:Nat) (a0:List Pair) (a1:ByteArray):Option (Int×Bool) :=
lt (lenI a0) fun v1 =>
bn (iter n (fun (y2:Int×Int) =>
lt (ltI y2.1 y2.2) fun v5 =>
ite' v5 (lt (addI .i64 y2.1 y2.2) fun v6 =>
lt (cvI .u64 v6) fun v7 =>
bn (shrI .u64 v7 1) fun v8 =>
lt (cvI .i64 v8) fun v9 =>
bn (nth a0 v9) fun v10 =>
bn (B8 n v10 a1) fun v11 =>
lt (ltI v11 0) fun v12 =>
ite' v12 (lt (addI .i64 v9 1) fun v13 =>
some (.inl (v13,y2.2))) (some (.inl (y2.1,v9)))) (some (.inr y2.1))) (0,v1)) fun (y3:Int) =>
bn (lt (ltI y3 v1) fun v15 =>
ite' v15 (bn (nth a0 y3) fun v16 =>
bn (B8 n v16 a1) fun v17 =>
lt (eqI v17 0) fun v18 =>
some (v18)) (some (false))) fun (y14:Bool) =>
some (y3,y14)
theorem CK {n:Nat} {a0:List Pair} {a1:ByteArray} {r:Int×Bool} (h:Ba n a0 a1=some r):Sound Try.prog 154 [.l (.d false 6 (encPair a0)),.l (.s (.string a1)),.l (.s (.func (.func 155) #[] #[]))] [] (.t [(false,[.s (.int .i64 r.1)]),(false,[.s (.bool r.2)])]) []:=by
 unfold Ba at h
 refine Sound.of_aw (fn:=Try.f154) (c:=_) Try.func154 rfl (by simp[Try.f154]) fun cx hG hnb=>?_
 rw[show Try.f154.ntmps=49 from rfl]
 have hn0:cx.nb=0:=hnb
 simp only[Al,initTm,List.map_cons,List.map_nil]
 apply AW.step
 ·simp
  intros;rfl
 replace h:=ltE h;obtain⟨v1,e1,h⟩:=h
 apply AW.step
 ·simp[Aj e1]
  intros;rfl
 apply AW.step
 ·simp
  intros;rfl
 refine AW.seq ?_
 refine AW.block ?_
 replace h:=bnE h;obtain⟨y3,g3,h⟩:=h
 refine AW.iterP g3 (mk:=fun gh ls q=>(⟨[(0,.l (.d false 6 (encPair a0))),(1,.l (.s (.string a1))),(2,.l (.s (.func (.func 155) #[] #[]))),(8,.l (.s (.int .i64 v1))),(9,.l (.s (.int .i64 q.1))),(10,.l (.s (.int .i64 q.2)))],[],49,gh,ls⟩:St)) (N:=fun gh ls=>(xP 0 (cx:=cx) (fun q=>(⟨[(0,.l (.d false 6 (encPair a0))),(1,.l (.s (.string a1))),(2,.l (.s (.func (.func 155) #[] #[]))),(8,.l (.s (.int .i64 v1))),(9,.l (.s (.int .i64 q)))],[],49,gh,ls⟩:St)))) ?_ noX ?_ ?_
 ·refine Weak.mixN [] hn0 (by decide) ?_ ?_ rfl
  all_goals first|(simp[Ac,Ae,pickOb];done)|rfl
 ·clear h;intro y2 y4 h
  refine AW.seq ?_
  replace h:=ltE h;obtain⟨v5,e5,h⟩:=h
  apply AW.step
  ·simp[← e5]
   intros;rfl
  cases v5 with
  |true =>
   replace h:=iteT rfl h
   refine AW.cond_true (by simp) ?_
   refine AW.skip ?_
   try simp only[nm]
   refine AW.block ?_
   replace h:=ltE h;obtain⟨v6,e6,h⟩:=h
   replace h:=ltE h;obtain⟨v7,e7,h⟩:=h
   replace h:=bnE h;obtain⟨v8,e8,h⟩:=h
   replace h:=ltE h;obtain⟨v9,e9,h⟩:=h
   apply AW.step
   ·simp[← e6,← e7,e8,← e9]
    intros;rfl
   replace h:=bnE h;obtain⟨v10,e10,h⟩:=h
   replace h:=bnE h;obtain⟨v11,e11,h⟩:=h
   replace h:=ltE h;obtain⟨v12,e12,h⟩:=h
   apply AW.step
   ·simp[Aa e10,← e12]
    intros
    refine Ag Eb (Es e11) rfl ⟨.same rfl,.same rfl,trivial⟩ ?_
    try simp[Aa e10,← e12]
    intros;rfl
   cases v12 with
   |true =>
    replace h:=iteT rfl h
    refine AW.cond_true (by simp) ?_
    replace h:=ltE h;obtain⟨v13,e13,h⟩:=h
    apply AW.last
    ·simp[← e13]
     intros;rfl
    obtain rfl:=oi h
    refine nP_i ?_
    refine Weak.mixN [] hn0 (by decide) ?_ ?_ rfl
    all_goals first|(simp[Ac,Ae,pickOb];done)|rfl
   |false =>
    replace h:=iteF rfl h
    refine AW.cond_false (by simp) ?_
    apply AW.last
    ·simp
     intros;rfl
    obtain rfl:=oi h
    refine nP_i ?_
    refine Weak.mixN [] hn0 (by decide) ?_ ?_ rfl
    all_goals first|(simp[Ac,Ae,pickOb];done)|rfl
  |false =>
   replace h:=iteF rfl h
   refine AW.cond_false (by simp) ?_
   refine AW.exit ?_
   try simp only[nm]
   obtain rfl:=oi h
   refine xP_i ?_
   refine Weak.mixN [] hn0 (by decide) ?_ ?_ rfl
   all_goals first|(simp[Ac,Ae,pickOb];done)|rfl
 ·rintro e s hp
  obtain⟨rfl,hw⟩:=hp
  refine⟨_,hw,?_⟩
  try simp only[nm]
  replace h:=bnE h;obtain⟨y14,g14,h⟩:=h
  refine AW.flow (p:=fun gh ls=>(nP (cx:=cx) (fun q=>(⟨[(6,.l (.s (.int .i64 y3))),(7,.l (.s (.bool q)))],[],49,gh,ls⟩:St))) y14) ?_ ?_
  ·replace h:=g14;clear g14
   replace h:=ltE h;obtain⟨v15,e15,h⟩:=h
   cases v15 with
   |true =>
    replace h:=iteT rfl h
    replace h:=bnE h;obtain⟨v16,e16,h⟩:=h
    replace h:=bnE h;obtain⟨v17,e17,h⟩:=h
    replace h:=ltE h;obtain⟨v18,e18,h⟩:=h
    apply AW.last
    ·simp[← e15,Aa e16,← e18]
     intros
     refine Ag Eb (Es e17) rfl ⟨.same rfl,.same rfl,trivial⟩ ?_
     try simp[← e15,Aa e16,← e18]
     intros;rfl
    obtain rfl:=oi h
    refine nP_i ?_
    refine Weak.mixN [] hn0 (by decide) ?_ ?_ rfl
    all_goals first|(simp[Ac,Ae,pickOb];done)|rfl
   |false =>
    replace h:=iteF rfl h
    apply AW.last
    ·simp[← e15]
     intros;rfl
    obtain rfl:=oi h
    refine nP_i ?_
    refine Weak.mixN [] hn0 (by decide) ?_ ?_ rfl
    all_goals first|(simp[Ac,Ae,pickOb];done)|rfl
  ·rintro e s hp
   obtain⟨rfl,hw⟩:=hp
   refine⟨_,hw,?_⟩
   try simp only[nm]
   obtain rfl:=oi h
   refine AW.ret ?_
   refine Left.plain hnb (by simp[Try.f154,resV,resC,comp];rfl) rfl rfl ?_
   simp
theorem Cy:Enters Try.prog 154:=enters Try.func154 (by kernel_rfl) rfl
def Dq (n:Nat) (a0:List Pair) (a1:ByteArray):Option (Int×Bool) :=
bn (Ba n a0 a1) fun v1 =>
some (v1.1,v1.2)
theorem HJ {n:Nat} {a0:List Pair} {a1:ByteArray} {r:Int×Bool} (h:Dq n a0 a1=some r):Sound Try.prog 136 [.l (.d false 6 (encPair a0)),.l (.s (.string a1))] [] (.t [(false,[.s (.int .i64 r.1)]),(false,[.s (.bool r.2)])]) []:=by
 unfold Dq at h
 refine Sound.of_aw (fn:=Try.f136) (c:=_) Try.func136 rfl (by simp[Try.f136]) fun cx hG hnb=>?_
 rw[show Try.f136.ntmps=11 from rfl]
 have hn0:cx.nb=0:=hnb
 simp only[Al,initTm,List.map_cons,List.map_nil]
 apply AW.step
 ·simp
  intros;rfl
 replace h:=bnE h;obtain⟨v1,e1,h⟩:=h
 apply AW.step
 ·simp
  intros
  refine Ag Cy (CK e1) rfl ⟨.same rfl,.same rfl,.same rfl,trivial⟩ ?_
  try simp
  intros;rfl
 obtain rfl:=oi h
 refine AW.ret ?_
 refine Left.plain hnb (by simp[Try.f136,resV,resC,comp];rfl) rfl rfl ?_
 simp
theorem G5:Enters Try.prog 136:=enters Try.func136 (by kernel_rfl) rfl
def DV (n:Nat) (a0:Item):Option Item :=
chk (small 32 a0.f) <|
chk (small 16 a0.l) <|
chk (room a0.f.length 1) <|
chk (room a0.l.length 1) <|
some a0
theorem H9 {n:Nat} {a0:Item} {r:Item} (h:DV n a0=some r):Sound Try.prog 137 [.g [.s (.int .i64 a0.kind),.s (.string a0.s),.d false 2 (encField a0.f),.d false 1 (encS a0.l),.s (.int .i64 a0.exp)]] [] (.g [.s (.int .i64 r.kind),.s (.string r.s),.d false 2 (encField r.f),.d false 1 (encS r.l),.s (.int .i64 r.exp)]) []:=by
 unfold DV at h
 refine Sound.of_aw (fn:=Try.f137) (c:=_) Try.func137 rfl (by simp[Try.f137]) fun cx hG hnb=>?_
 rw[show Try.f137.ntmps=12 from rfl]
 have hn0:cx.nb=0:=hnb
 simp only[Al,initTm,List.map_cons,List.map_nil]
 apply AW.step
 ·simp
  intros;rfl
 replace h:=chkE h;obtain⟨e1,h⟩:=h
 replace h:=chkE h;obtain⟨e2,h⟩:=h
 apply AW.drawnE (V:=[_,_,_,_,_,_,_]) (M:=[[some ⟨136,5,false,none,[.s (.int .i64 a0.kind),.s (.string a0.s),.d false 2 (encField a0.f),.d false 1 (encS a0.l),.s (.int .i64 a0.exp)]⟩,some ⟨136,5,false,none,[.s (.int .i64 0),.s (.string ⟨#[]⟩),.s (.slice none 0 0),.s (.slice none 0 0),.s (.int .i64 0)]⟩],[some ⟨136,5,false,none,[.s (.int .i64 a0.kind),.s (.string a0.s),.d false 2 (encField a0.f),.d false 1 (encS a0.l),.s (.int .i64 a0.exp)]⟩,some ⟨136,5,false,none,[.s (.int .i64 0),.s (.string ⟨#[]⟩),.s (.slice none 0 0),.s (.slice none 0 0),.s (.int .i64 0)]⟩,some ⟨179,2,true,none,lvs (encField a0.f)⟩],[some ⟨136,5,false,none,[.s (.int .i64 a0.kind),.s (.string a0.s),.d false 2 (encField a0.f),.d false 1 (encS a0.l),.s (.int .i64 a0.exp)]⟩,some ⟨136,5,false,none,[.s (.int .i64 0),.s (.string ⟨#[]⟩),.s (.slice none 0 0),.s (.slice none 0 0),.s (.int .i64 0)]⟩,some ⟨179,2,true,none,lvs (encField a0.f)⟩,some ⟨9,1,true,none,lvs (encS a0.l)⟩]]) mixed [⟨[0],[],[(1,none)],false⟩,⟨[0],[0],[(3,some 0)],false⟩,⟨[0],[0,1],[(4,some 1)],true⟩,⟨[0,1],[],[(1,none)],false⟩,⟨[0,1],[3],[(6,some 3)],false⟩,⟨[1],[0,1,2,3,4],[(7,some 4)],true⟩,⟨[1,2],[0,1,2,3,4],[(1,none)],false⟩,⟨[],[0,1,2,3,4,5,6],[],false⟩,⟨[],[0,1,2,3,4,5,6,7],[],false⟩,⟨[],[0,1,2,3,4,5,6,7,8],[],false⟩] 7 2 (by kernel_rfl) (by kernel_rfl)
 ·rfl
 ·refine⟨?_,?_,?_,⟨?_,?_⟩,⟨?_,?_⟩,?_,⟨?_,?_⟩,trivial⟩
  iterate 2 (· intro tm hr;simp[AllL,rdV] at hr;simp[hr,outR];intros;first|exact KD.mk|exact KD.mkN)
  ·intro tm hr
   simp[AllL,rdV] at hr
   simp[hr,outR]
   intros
   refine Aw Fn (FU a0.f (AP e1)) rfl (by simp) ⟨.d _ _ _,trivial⟩ ?_
   try simp[outR]
   intros;first|exact KD.mk|exact KD.mkN
  iterate 4 (· intro tm hr;simp[AllL,rdV] at hr;simp[hr,outR];intros;first|exact KD.mk|exact KD.mkN)
  ·intro tm hr
   simp[AllL,rdV] at hr
   simp[hr,outR]
   intros
   refine Aw ID (Jw a0.l (AP e2)) rfl (by simp) ⟨.d _ _ _,trivial⟩ ?_
   try simp[outR]
   intros;first|exact KD.mk|exact KD.mkN
  iterate 2 (· intro tm hr;simp[AllL,rdV] at hr;simp[hr,outR];intros;first|exact KD.mk|exact KD.mkN)
 ·rfl
 ·simp[tmD,putD,outR];rfl
 ·simp[outR]
  intros;rfl
 apply AW.step
 ·simp
  intros;rfl
 replace h:=chkE h;obtain⟨e3,h⟩:=h
 refine AW.frzRow 2 (ty:=179) (cap:=none) (sz:=2) (es:=encField a0.f) (by simp) (by omega) (B1 _) (by first|exact (Ah e3).2|simpa using (Ah e3).2|simp) (by simp[Tm.frz,AV.frz,LV.frz];rfl) (by simp[Ob.frz,LV.frz];rfl) rfl ?_
 replace h:=chkE h;obtain⟨e4,h⟩:=h
 refine AW.frzRow 3 (ty:=9) (cap:=none) (sz:=1) (es:=encS a0.l) (by simp) (by omega) (Cm _) (by first|exact (Ah e4).2|simpa using (Ah e4).2|simp) (by simp[Tm.frz,AV.frz,LV.frz];rfl) (by simp[Ob.frz,LV.frz];rfl) rfl ?_
 obtain rfl:=oi h
 refine AW.ret ?_
 refine Left.plain hnb (by simp[Try.f137,resV,resC,comp];rfl) rfl rfl ?_
 simp
theorem HK:Enters Try.prog 137:=enters Try.func137 (by kernel_rfl) rfl
def DW (n:Nat) (a0:List Pair) (a1:ByteArray):Option (Item×Bool) :=
bn (Dq n a0 a1) fun v1 =>
lt (notB v1.2) fun v2 =>
ite' v2 (some ((⟨0,⟨#[]⟩,[],[],0⟩:Item),false)) (bn (nth a0 v1.1) fun v3 =>
bn (DV n v3.item) fun v4 =>
some (v4,true))
theorem Ia {n:Nat} {a0:List Pair} {a1:ByteArray} {r:Item×Bool} (h:DW n a0 a1=some r):Sound Try.prog 117 [.l (.d false 6 (encPair a0)),.l (.s (.string a1))] [] (.t [(true,[.s (.int .i64 r.1.kind),.s (.string r.1.s),.d false 2 (encField r.1.f),.d false 1 (encS r.1.l),.s (.int .i64 r.1.exp)]),(false,[.s (.bool r.2)])]) []:=by
 unfold DW at h
 refine Sound.of_aw (fn:=Try.f117) (c:=_) Try.func117 rfl (by simp[Try.f117]) fun cx hG hnb=>?_
 rw[show Try.f117.ntmps=23 from rfl]
 have hn0:cx.nb=0:=hnb
 simp only[Al,initTm,List.map_cons,List.map_nil]
 apply AW.step
 ·simp
  intros;rfl
 replace h:=bnE h;obtain⟨v1,e1,h⟩:=h
 apply AW.step
 ·simp
  intros
  refine Ag G5 (HJ e1) rfl ⟨.same rfl,.same rfl,trivial⟩ ?_
  try simp
  intros;rfl
 refine AW.seq ?_
 replace h:=ltE h;obtain⟨v2,e2,h⟩:=h
 apply AW.step
 ·simp[← e2]
  intros;rfl
 cases v2 with
 |true =>
  replace h:=iteT rfl h
  refine AW.cond_true (by simp) ?_
  apply AW.step
  ·simp
   intros;rfl
  refine AW.nilCellD 0 2 2 rfl rfl rfl rfl ?_
  refine AW.nilCellD 0 3 1 rfl rfl rfl rfl ?_
  obtain rfl:=oi h
  refine AW.ret ?_
  refine Left.plain hnb (by simp[Try.f117,resV,resC,comp];rfl) rfl rfl ?_
  simp
 |false =>
  replace h:=iteF rfl h
  refine AW.cond_false (by simp) ?_
  refine AW.skip ?_
  try simp only[nm]
  replace h:=bnE h;obtain⟨v3,e3,h⟩:=h
  replace h:=bnE h;obtain⟨v4,e4,h⟩:=h
  apply AW.step
  ·simp[Aa e3]
   intros
   refine Ag HK (H9 e4) rfl ⟨.same rfl,trivial⟩ ?_
   try simp[Aa e3]
   intros;rfl
  obtain rfl:=oi h
  refine AW.ret ?_
  refine Left.plain hnb (by simp[Try.f117,resV,resC,comp];rfl) rfl rfl ?_
  simp
theorem HL:Enters Try.prog 117:=enters Try.func117 (by kernel_rfl) rfl
end Go.Proofs.Ythjenkmbbnjcnaa
