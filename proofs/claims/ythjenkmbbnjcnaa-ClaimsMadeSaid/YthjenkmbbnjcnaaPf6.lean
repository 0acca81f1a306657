/- Part 6 of the proof. -/
import Derived.Test.YthjenkmbbnjcnaaPf5
set_option linter.unusedVariables false
set_option linter.unusedSimpArgs false
set_option linter.constructorNameAsVariable false
set_option maxRecDepth 8000
set_option maxHeartbeats 8000000
namespace Go.Proofs.Ythjenkmbbnjcnaa
open Go Go.RowKit
def AM (n:Nat) (a0:Int) (a1:Int):Option Bool :=
bn (bn (BB n a0) fun v2 =>
ite' v2 (bn (BB n a1) fun v3 =>
lt (notB v3) fun v4 =>
ite' v4 (some (true)) (lt (ltI a0 a1) fun v5 =>
some (v5))) (lt (ltI a0 a1) fun v6 =>
some (v6))) fun (y1:Bool) =>
some y1
theorem A7 {n:Nat} {a0:Int} {a1:Int} {r:Bool} (h:AM n a0 a1=some r):Sound Try.prog 102 [.l (.s (.int .i64 a0)),.l (.s (.int .i64 a1))] [] (.l (.s (.bool r))) []:=by
 unfold AM at h
 refine Sound.of_aw (fn:=Try.f102) (c:=_) Try.func102 rfl (by simp[Try.f102]) fun cx hG hnb=>?_
 rw[show Try.f102.ntmps=17 from rfl]
 have hn0:cx.nb=0:=hnb
 simp only[As,initTm,List.map_cons,List.map_nil]
 apply AW.step
 ·simp
  intros;rfl
 replace h:=bnE h;obtain⟨y1,g1,h⟩:=h
 refine AW.flow (p:=fun gh ls=>(nP (cx:=cx) (fun q=>(⟨[(4,.l (.s (.bool q)))],[],17,gh,ls⟩:St))) y1) ?_ ?_
 ·replace h:=g1;clear g1
  replace h:=bnE h;obtain⟨v2,e2,h⟩:=h
  cases v2 with
  |true =>
   replace h:=iteT rfl h
   replace h:=bnE h;obtain⟨v3,e3,h⟩:=h
   replace h:=ltE h;obtain⟨v4,e4,h⟩:=h
   cases v4 with
   |true =>
    replace h:=iteT rfl h
    apply AW.last
    ·simp[← e4]
     intros
     refine Ah BN (BR e2) rfl ⟨.same rfl,trivial⟩ ?_
     try simp[← e4]
     intros
     refine Ah BN (BR e3) rfl ⟨.same rfl,trivial⟩ ?_
     try simp[← e4]
     intros;rfl
    obtain rfl:=oi h
    refine nP_i ?_
    refine Weak.mixN [] hn0 (by decide) ?_ ?_ rfl
    all_goals first|(simp[Ab,Ac,pickOb];done)|rfl
   |false =>
    replace h:=iteF rfl h
    replace h:=ltE h;obtain⟨v5,e5,h⟩:=h
    apply AW.last
    ·simp[← e4,← e5]
     intros
     refine Ah BN (BR e2) rfl ⟨.same rfl,trivial⟩ ?_
     try simp[← e4,← e5]
     intros
     refine Ah BN (BR e3) rfl ⟨.same rfl,trivial⟩ ?_
     try simp[← e4,← e5]
     intros;rfl
    obtain rfl:=oi h
    refine nP_i ?_
    refine Weak.mixN [] hn0 (by decide) ?_ ?_ rfl
    all_goals first|(simp[Ab,Ac,pickOb];done)|rfl
  |false =>
   replace h:=iteF rfl h
   replace h:=ltE h;obtain⟨v6,e6,h⟩:=h
   apply AW.last
   ·simp[← e6]
    intros
    refine Ah BN (BR e2) rfl ⟨.same rfl,trivial⟩ ?_
    try simp[← e6]
    intros;rfl
   obtain rfl:=oi h
   refine nP_i ?_
   refine Weak.mixN [] hn0 (by decide) ?_ ?_ rfl
   all_goals first|(simp[Ab,Ac,pickOb];done)|rfl
 ·rintro e s hp
  obtain⟨rfl,hw⟩:=hp
  refine⟨_,hw,?_⟩
  try simp only[nm]
  obtain rfl:=oi h
  refine AW.ret ?_
  refine Left.plain hnb (by simp[Try.f102,resV,resC,comp];rfl) rfl rfl ?_
  simp
theorem A2:Enters Try.prog 102:=enters Try.func102 (by kernel_rfl) rfl
def Be (n:Nat) (a0:List Int) (a1:Int) (a2:Int):Option (List Int) :=
lt (addI .i64 a1 1) fun v1 =>
bn (iter n (fun (y2:Int×List Int) =>
lt (ltI y2.1 a2) fun v5 =>
ite' v5 (bn (iter n (fun (y6:Int×List Int) =>
bn (lt (gtI y6.1 a1) fun v10 =>
ite' v10 (bn (nth y6.2 y6.1) fun v11 =>
lt (subI .i64 y6.1 1) fun v13 =>
bn (nth y6.2 v13) fun v14 =>
bn (AM n v11 v14) fun v16 =>
some (v16)) (some (false))) fun (y9:Bool) =>
lt (y9) fun v17 =>
ite' v17 (lt (subI .i64 y6.1 1) fun v18 =>
bn (nth y6.2 v18) fun v19 =>
bn (nth y6.2 y6.1) fun v21 =>
lt (y6.2.set y6.1.toNat v19) fun v24 =>
bn (nth v24 v18) fun v29 =>
lt (v24.set v18.toNat v21) fun v31 =>
some (.inl (v18,v31))) (some (.inr y6.2))) (y2.1,y2.2)) fun (y7:List Int) =>
lt (addI .i64 y2.1 1) fun v40 =>
some (.inl (v40,y7))) (some (.inr y2.2))) (v1,a0)) fun (y3:List Int) =>
some y3
def DX21t1:List DI:=[⟨[0],[],[(7,none)],false⟩,⟨[0],[],[(1,none)],false⟩,⟨[0],[0,1],[(16,some 0),(17,some 1)],false⟩,⟨[0],[0,1,2],[(18,some 2)],false⟩,⟨[0],[0,1,2,3],[(0,none),(19,some 3)],false⟩,⟨[0],[0,1,2,3],[(7,none),(19,some 3)],false⟩,⟨[0],[0,1,2,3,4,5],[(19,some 3),(20,some 4),(21,some 5)],false⟩,⟨[0],[0,1,2,3,4,5,6],[(19,some 3),(22,some 6)],false⟩,⟨[0],[0,1,2,3],[(0,none),(19,some 3)],false⟩,⟨[0],[0,1,2,3],[(7,none),(19,some 3)],false⟩,⟨[0],[0,1,2,3,9],[(19,some 3),(25,some 9)],false⟩,⟨[0],[0,1,2,3,8,9,10],[(19,some 3),(24,some 8),(26,some 10)],false⟩,⟨[0],[0,1,2,3,8,9,10,11],[(19,some 3),(27,some 11)],false⟩,⟨[],[0,1,2,3,4,5,6,7,8,9,10,11,12],[],false⟩,⟨[],[0,1,2,3,4,5,6,7,8,9,10,11,12,13],[],false⟩]
theorem DD {n:Nat} {a0:List Int} {a1:Int} {a2:Int} {r:List Int} (h:Be n a0 a1 a2=some r):Sound Try.prog 96 [.l (.r 0 1 0 a0.length),.l (.s (.int .i64 a1)),.l (.s (.int .i64 a2))] [⟨3,1,false,some 0,lvs (encI a0)⟩] (.t []) [some ⟨3,1,false,some 0,lvs (encI r)⟩]:=by
 unfold Be at h
 refine Sound.of_aw (fn:=Try.f96) (c:=_) Try.func96 rfl (by simp[Try.f96]) fun cx hG hnb=>?_
 rw[show Try.f96.ntmps=49 from rfl]
 have hn0:cx.nb=1:=hnb
 simp only[As,initTm,List.map_cons,List.map_nil]
 replace h:=ltE h;obtain⟨v1,e1,h⟩:=h
 apply AW.step
 ·simp[← e1]
  intros;rfl
 refine AW.block ?_
 replace h:=bnE h;obtain⟨y3,g3,h⟩:=h
 refine AW.iterP g3 (mk:=fun gh ls q=>(⟨[(0,.l (.r 0 1 0 q.2.length)),(1,.l (.s (.int .i64 a1))),(2,.l (.s (.int .i64 a2))),(6,.l (.s (.int .i64 q.1)))],[some ⟨3,1,false,some 0,lvs (encI q.2)⟩],49,gh,ls⟩:St)) (N:=fun gh ls=>(xP 0 (cx:=cx) (fun q=>(⟨[],[some ⟨3,1,false,some 0,lvs (encI q)⟩],49,gh,ls⟩:St)))) ?_ noX ?_ ?_
 ·refine Weak.mixB 1 [some 0] hn0 (by decide) (by decide) ?_ ?_ ?_
  all_goals first|(simp[Ab,Ac,pickOb];done)|rfl
 ·clear h;intro y2 y4 h
  refine AW.seq ?_
  replace h:=ltE h;obtain⟨v5,e5,h⟩:=h
  apply AW.step
  ·simp[← e5]
   intros;rfl
  cases v5 with
  |true =>
   replace h:=iteT rfl h
   refine AW.cond_true (by simp) ?_
   refine AW.skip ?_
   try simp only[nm]
   refine AW.seq ?_
   refine AW.block ?_
   apply AW.step
   ·simp
    intros;rfl
   refine AW.block ?_
   replace h:=bnE h;obtain⟨y7,g7,h⟩:=h
   refine AW.iterP g7 (mk:=fun gh ls q=>(⟨[(0,.l (.r 0 1 0 q.2.length)),(1,.l (.s (.int .i64 a1))),(2,.l (.s (.int .i64 a2))),(6,.l (.s (.int .i64 y2.1))),(7,.l (.s (.int .i64 q.1)))],[some ⟨3,1,false,some 0,lvs (encI q.2)⟩],49,gh,ls⟩:St)) (N:=fun gh ls=>(xP 2 (cx:=cx) (fun q=>(⟨[(0,.l (.r 0 1 0 q.length)),(1,.l (.s (.int .i64 a1))),(2,.l (.s (.int .i64 a2))),(6,.l (.s (.int .i64 y2.1)))],[some ⟨3,1,false,some 0,lvs (encI q)⟩],49,gh,ls⟩:St)))) ?_ noX ?_ ?_
   ·refine Weak.mixB 1 [some 0] hn0 (by decide) (by decide) ?_ ?_ ?_
    all_goals first|(simp[Ab,Ac,pickOb];done)|rfl
   ·clear h;intro y6 y8 h
    refine AW.seq ?_
    replace h:=bnE h;obtain⟨y9,g9,h⟩:=h
    refine AW.flow (p:=fun gh ls=>(nP (cx:=cx) (fun q=>(⟨[(0,.l (.r 0 1 0 y6.2.length)),(1,.l (.s (.int .i64 a1))),(2,.l (.s (.int .i64 a2))),(6,.l (.s (.int .i64 y2.1))),(7,.l (.s (.int .i64 y6.1))),(30,.l (.s (.bool q)))],[some ⟨3,1,false,some 0,lvs (encI y6.2)⟩],49,gh,ls⟩:St))) y9) ?_ ?_
    ·replace h:=g9;clear g9
     replace h:=ltE h;obtain⟨v10,e10,h⟩:=h
     cases v10 with
     |true =>
      replace h:=iteT rfl h
      replace h:=bnE h;obtain⟨v11,e11,h⟩:=h
      have f12:=Ai e11
      try simp[← e10,Aa e11] at f12
      replace h:=ltE h;obtain⟨v13,e13,h⟩:=h
      replace h:=bnE h;obtain⟨v14,e14,h⟩:=h
      have f15:=Ai e14
      try simp[← e10,Aa e11,f12,Ag (Aa e11).2,lvs1,← e13,Aa e14] at f15
      replace h:=bnE h;obtain⟨v16,e16,h⟩:=h
      apply AW.drawnR (V:=[_,_,_,_,_,_,_,_,_,_,_,_,_]) mixed DX21t1 13 (by kernel_rfl) (by kernel_rfl)
      ·refine⟨?_,?_,?_,?_,?_,?_,?_,?_,?_,?_,?_,?_,?_,trivial⟩
       iterate 13 (· intro tm hr;simp[AllL,rdV] at hr;simp[hr,← e10,Aa e11,f12,Ag (Aa e11).2,lvs1,← e13,Aa e14,f15,Ag (Aa e14).2];intros;first|exact KD.mk|exact KD.mkN)
      ·rfl
      ·simp[tmD,putD,← e10,Aa e11,f12,Ag (Aa e11).2,lvs1,← e13,Aa e14,f15,Ag (Aa e14).2];rfl
      ·simp[← e10,Aa e11,f12,Ag (Aa e11).2,lvs1,← e13,Aa e14,f15,Ag (Aa e14).2]
       intros
       refine Ah A2 (A7 e16) rfl ⟨.same rfl,.same rfl,trivial⟩ ?_
       try simp[← e10,Aa e11,f12,Ag (Aa e11).2,lvs1,← e13,Aa e14,f15,Ag (Aa e14).2]
       intros;rfl
      obtain rfl:=oi h
      refine nP_i ?_
      refine Weak.mixB 1 [some 0] hn0 (by decide) (by decide) ?_ ?_ ?_
      all_goals first|(simp[Ab,Ac,pickOb];done)|rfl
     |false =>
      replace h:=iteF rfl h
      apply AW.drawnR (V:=[_,_,_,_,_,_,_,_,_,_,_,_,_]) mixed DX21t1 13 (by kernel_rfl) (by kernel_rfl)
      ·refine⟨?_,?_,?_,?_,?_,?_,?_,?_,?_,?_,?_,?_,?_,trivial⟩
       iterate 13 (· intro tm hr;simp[AllL,rdV] at hr;simp[hr,← e10];intros;first|exact KD.mk|exact KD.mkN)
      ·rfl
      ·simp[tmD,putD,← e10];rfl
      ·simp[← e10]
       intros;rfl
      obtain rfl:=oi h
      refine nP_i ?_
      refine Weak.mixB 1 [some 0] hn0 (by decide) (by decide) ?_ ?_ ?_
      all_goals first|(simp[Ab,Ac,pickOb];done)|rfl
    ·rintro e s hp
     obtain⟨rfl,hw⟩:=hp
     refine⟨_,hw,?_⟩
     try simp only[nm]
     replace h:=ltE h;obtain⟨v17,e17,h⟩:=h
     rw[← e17]
     cases v17 with
     |true =>
      replace h:=iteT rfl h
      refine AW.cond_true (by simp) ?_
      refine AW.skip ?_
      try simp only[nm]
      refine AW.seq ?_
      refine AW.block ?_
      replace h:=ltE h;obtain⟨v18,e18,h⟩:=h
      replace h:=bnE h;obtain⟨v19,e19,h⟩:=h
      have f20:=Ai e19
      try simp[← e18,Aa e19] at f20
      replace h:=bnE h;obtain⟨v21,e21,h⟩:=h
      have f22:=Ai e21
      try simp[← e18,Aa e19,f20,Ag (Aa e19).2,lvs1,Aa e21] at f22
      have f23:=Ai e21
      try simp[← e18,Aa e19,f20,Ag (Aa e19).2,lvs1,Aa e21,f22,Ag (Aa e21).2] at f23
      replace h:=ltE h;obtain⟨v24,e24,h⟩:=h
      have f25:=AJ (Aa e21).2 e24 (cs:=[.s (.int .i64 v19)]) (by simp) rfl
      try simp at f25
      have f26:=f20
      try simp only[Af e24] at f26
      have f27:=f22
      try simp only[Af e24] at f27
      have f28:=f23
      try simp only[Af e24] at f28
      replace h:=bnE h;obtain⟨v29,e29,h⟩:=h
      have f30:=Ai e29
      try simp[← e18,Aa e19,f20,Ag (Aa e19).2,lvs1,Aa e21,f22,Ag (Aa e21).2,f23,Aj (Aa e21).2 (show 1≤1 by decide),f25,f26,f27,f28,Aa e29] at f30
      replace h:=ltE h;obtain⟨v31,e31,h⟩:=h
      have f32:=AJ (Aa e29).2 e31 (cs:=[.s (.int .i64 v21)]) (by simp) rfl
      try simp at f32
      have f33:=f20
      try simp only[Af e31] at f33
      have f34:=f22
      try simp only[Af e31] at f34
      have f35:=f23
      try simp only[Af e31] at f35
      have f36:=f26
      try simp only[Af e31] at f36
      have f37:=f27
      try simp only[Af e31] at f37
      have f38:=f28
      try simp only[Af e31] at f38
      have f39:=f30
      try simp only[Af e31] at f39
      apply AW.drawnF (V:=[_,_,_,_,_,_,_,_,_,_,_,_,_,_,_,_]) (M:=[[some ⟨3,1,false,some 0,lvs (encI y6.2)⟩],[some ⟨3,1,false,some 0,lvs (encI v24)⟩]]) mixed [⟨[0],[],[(0,none)],false⟩,⟨[0],[],[(7,none)],false⟩,⟨[0,1],[],[(0,none)],false⟩,⟨[0,1],[],[(7,none)],false⟩,⟨[0,1],[3],[(36,some 3)],false⟩,⟨[0],[],[(0,none)],false⟩,⟨[0],[],[(7,none)],false⟩,⟨[0],[6],[(39,some 6)],false⟩,⟨[0],[5,6,7],[(38,some 5),(40,some 7)],false⟩,⟨[0],[5,6,7,8],[(41,some 8)],false⟩,⟨[0],[],[(0,none)],false⟩,⟨[0],[],[(7,none)],false⟩,⟨[0],[10,11],[(43,some 10),(44,some 11)],false⟩,⟨[0],[10,11,12],[(45,some 12)],false⟩,⟨[0],[0,1,5,6,7,8,9,10,11,12,13],[(33,some 0),(34,some 1)],false⟩,⟨[0],[0,1,5,6,7,8,9,10,11,12,13,14],[(42,some 9),(47,some 14)],true⟩,⟨[],[0,1,2,3,4,5,6,7,8,9,10,11,12,13,14,15],[],false⟩,⟨[],[0,1,2,3,4,5,6,7,8,9,10,11,12,13,14,15,16],[],false⟩] 16 1 (by kernel_rfl) (by kernel_rfl)
      ·rfl
      ·refine⟨?_,?_,⟨?_,?_⟩,⟨?_,?_⟩,⟨?_,?_⟩,?_,?_,?_,?_,?_,?_,?_,?_,?_,?_,?_,trivial⟩
       iterate 19 (· intro tm hr;simp[AllL,rdV] at hr;simp[hr,← e18,Aa e19,f20,Ag (Aa e19).2,lvs1,Aa e21,f22,Ag (Aa e21).2,f23,Aj (Aa e21).2 (show 1≤1 by decide),f25,f26,f27,f28,Aa e29,f30,Af e24,Aj (Aa e29).2 (show 1≤1 by decide),f32,f33,f34,f35,f36,f37,f38,f39];intros;first|exact KD.mk|exact KD.mkN)
      ·rfl
      ·simp[tmD,putD,← e18,Aa e19,f20,Ag (Aa e19).2,lvs1,Aa e21,f22,Ag (Aa e21).2,f23,Aj (Aa e21).2 (show 1≤1 by decide),f25,f26,f27,f28,Aa e29,f30,Af e24,Aj (Aa e29).2 (show 1≤1 by decide),f32,f33,f34,f35,f36,f37,f38,f39];rfl
      ·simp[← e18,Aa e19,f20,Ag (Aa e19).2,lvs1,Aa e21,f22,Ag (Aa e21).2,f23,Aj (Aa e21).2 (show 1≤1 by decide),f25,f26,f27,f28,Aa e29,f30,Af e24,Aj (Aa e29).2 (show 1≤1 by decide),f32,f33,f34,f35,f36,f37,f38,f39]
       intros;rfl
      try simp only[nm]
      apply AW.last
      ·simp[← e18]
       intros;rfl
      obtain rfl:=oi h
      refine nP_i ?_
      refine Weak.mixB 1 [some 0] hn0 (by decide) (by decide) ?_ ?_ ?_
      all_goals first|(simp[Ab,Ac,pickOb,Af e24,Af e31];done)|rfl
     |false =>
      replace h:=iteF rfl h
      refine AW.cond_false (by simp) ?_
      refine AW.exit ?_
      try simp only[nm]
      obtain rfl:=oi h
      refine xP_i ?_
      refine Weak.mixB 1 [some 0] hn0 (by decide) (by decide) ?_ ?_ ?_
      all_goals first|(simp[Ab,Ac,pickOb];done)|rfl
   ·rintro e s hp
    obtain⟨rfl,hw⟩:=hp
    refine⟨_,hw,?_⟩
    try simp only[nm]
    replace h:=ltE h;obtain⟨v40,e40,h⟩:=h
    apply AW.last
    ·simp[← e40]
     intros;rfl
    obtain rfl:=oi h
    refine nP_i ?_
    refine Weak.mixB 1 [some 0] hn0 (by decide) (by decide) ?_ ?_ ?_
    all_goals first|(simp[Ab,Ac,pickOb];done)|rfl
  |false =>
   replace h:=iteF rfl h
   refine AW.cond_false (by simp) ?_
   refine AW.exit ?_
   try simp only[nm]
   obtain rfl:=oi h
   refine xP_i ?_
   refine Weak.mixB 1 [some 0] hn0 (by decide) (by decide) ?_ ?_ ?_
   all_goals first|(simp[Ab,Ac,pickOb];done)|rfl
 ·rintro e s hp
  obtain⟨rfl,hw⟩:=hp
  refine⟨_,hw,?_⟩
  try simp only[nm]
  obtain rfl:=oi h
  refine Left.of (av:=_) (by simp[Try.f96,resV,resC,comp];rfl) ?_
  exact LeftV.mix 1 [some 0] hn0 rfl (by decide) rfl (by simp[pickOb,Ab,Ac]) (by simp[Ab,Ac])
theorem Dv:Enters Try.prog 96:=enters Try.func96 (by kernel_rfl) rfl
def Bg (n:Nat) (a0:List Int) (a1:Int) (a2:Int) (a3:Int):Option (List Int) :=
bn (iter n (fun (y1:Int×List Int) =>
lt (mulI .i64 2 y1.1) fun v4 =>
lt (addI .i64 v4 1) fun v5 =>
lt (geI v5 a2) fun v6 =>
ite' v6 (some (.inr (.inl y1.2))) (bn (bn (lt (addI .i64 v5 1) fun v9 =>
lt (ltI v9 a2) fun v10 =>
ite' v10 (lt (addI .i64 a3 v5) fun v11 =>
bn (nth y1.2 v11) fun v12 =>
lt (addI .i64 v11 1) fun v14 =>
bn (nth y1.2 v14) fun v15 =>
bn (AM n v12 v15) fun v17 =>
some (v17)) (some (false))) fun (y8:Bool) =>
lt (y8) fun v18 =>
ite' v18 (lt (addI .i64 v5 1) fun v19 =>
some (v19)) (some (v5))) fun (y7:Int) =>
lt (addI .i64 a3 y1.1) fun v20 =>
bn (nth y1.2 v20) fun v21 =>
lt (addI .i64 a3 y7) fun v23 =>
bn (nth y1.2 v23) fun v24 =>
bn (AM n v21 v24) fun v26 =>
lt (notB v26) fun v27 =>
ite' v27 (some (.inr (.inr y1.2))) (lt (y1.2.set v20.toNat v24) fun v31 =>
bn (nth v31 v23) fun v36 =>
lt (v31.set v23.toNat v21) fun v38 =>
some (.inl (y7,v38))))) (a1,a0)) fun (y2:(List Int) ⊕ (List Int)) =>
sm y2 (fun y47=>some y47) (fun y48=>some y48)
def DX21t2:List DI:=[⟨[0],[],[(9,none)],false⟩,⟨[0],[0],[(17,some 0)],false⟩,⟨[0],[],[(2,none)],false⟩,⟨[0],[0,1,2],[(18,some 1),(19,some 2)],false⟩,⟨[0],[0,1,2,3],[(20,some 3)],false⟩,⟨[0],[0,1,2,3,4],[(0,none),(21,some 4)],false⟩,⟨[0],[0,1,2,3,4],[(3,none),(21,some 4)],false⟩,⟨[0],[0,1,2,3,4],[(9,none),(21,some 4)],false⟩,⟨[0],[0,1,2,3,4,6,7],[(21,some 4),(23,some 6),(24,some 7)],false⟩,⟨[0],[0,1,2,3,4,5,6,7,8],[(21,some 4),(22,some 5),(25,some 8)],false⟩,⟨[0],[0,1,2,3,4,5,6,7,8,9],[(21,some 4),(26,some 9)],false⟩,⟨[0],[0,1,2,3,4],[(0,none),(21,some 4)],false⟩,⟨[0],[0,1,2,3,4],[(3,none),(21,some 4)],false⟩,⟨[0],[0,1,2,3,4],[(9,none),(21,some 4)],false⟩,⟨[0],[0,1,2,3,4,12,13],[(21,some 4),(29,some 12),(30,some 13)],false⟩,⟨[0],[0,1,2,3,4,12,13,14],[(21,some 4),(31,some 14)],false⟩,⟨[0],[0,1,2,3,4,11,12,13,14,15],[(21,some 4),(28,some 11),(32,some 15)],false⟩,⟨[0],[0,1,2,3,4,11,12,13,14,15,16],[(21,some 4),(33,some 16)],false⟩,⟨[],[0,1,2,3,4,5,6,7,8,9,10,11,12,13,14,15,16,17],[],false⟩,⟨[],[0,1,2,3,4,5,6,7,8,9,10,11,12,13,14,15,16,17,18],[],false⟩]
theorem CE {n:Nat} {a0:List Int} {a1:Int} {a2:Int} {a3:Int} {r:List Int} (h:Bg n a0 a1 a2 a3=some r):Sound Try.prog 123 [.l (.r 0 1 0 a0.length),.l (.s (.int .i64 a1)),.l (.s (.int .i64 a2)),.l (.s (.int .i64 a3))] [⟨3,1,false,some 0,lvs (encI a0)⟩] (.t []) [some ⟨3,1,false,some 0,lvs (encI r)⟩]:=by
 unfold Bg at h
 refine Sound.of_aw (fn:=Try.f123) (c:=_) Try.func123 rfl (by simp[Try.f123]) fun cx hG hnb=>?_
 rw[show Try.f123.ntmps=76 from rfl]
 have hn0:cx.nb=1:=hnb
 simp only[As,initTm,List.map_cons,List.map_nil]
 apply AW.step
 ·simp
  intros;rfl
 refine AW.block ?_
 replace h:=bnE h;obtain⟨y2,g2,h⟩:=h
 refine AW.iterP g2 (mk:=fun gh ls q=>(⟨[(0,.l (.r 0 1 0 q.2.length)),(2,.l (.s (.int .i64 a2))),(3,.l (.s (.int .i64 a3))),(8,.l (.s (.int .i64 q.1)))],[some ⟨3,1,false,some 0,lvs (encI q.2)⟩],76,gh,ls⟩:St)) (N:=fun gh ls=>(sp (xP 0 (cx:=cx) (fun q=>(⟨[],[some ⟨3,1,false,some 0,lvs (encI q)⟩],76,gh,ls⟩:St))) (rP (cx:=cx) (P:=Try.prog) Try.f123 (fun q=>.t []) (fun q=>[some ⟨3,1,false,some 0,lvs (encI q)⟩])))) ?_ (noS noX noR) ?_ ?_
 ·refine Weak.mixB 1 [some 0] hn0 (by decide) (by decide) ?_ ?_ ?_
  all_goals first|(simp[Ab,Ac,pickOb];done)|rfl
 ·clear h;intro y1 y3 h
  refine AW.block ?_
  replace h:=ltE h;obtain⟨v4,e4,h⟩:=h
  replace h:=ltE h;obtain⟨v5,e5,h⟩:=h
  apply AW.step
  ·simp[← e4,← e5]
   intros;rfl
  refine AW.seq ?_
  replace h:=ltE h;obtain⟨v6,e6,h⟩:=h
  apply AW.step
  ·simp[← e6]
   intros;rfl
  cases v6 with
  |true =>
   replace h:=iteT rfl h
   refine AW.cond_true (by simp) ?_
   refine AW.exit ?_
   try simp only[nm]
   obtain rfl:=oi h
   try simp only[sp_l,sp_r]
   refine xP_i ?_
   refine Weak.mixB 1 [some 0] hn0 (by decide) (by decide) ?_ ?_ ?_
   all_goals first|(simp[Ab,Ac,pickOb];done)|rfl
  |false =>
   replace h:=iteF rfl h
   refine AW.cond_false (by simp) ?_
   refine AW.skip ?_
   try simp only[nm]
   replace h:=bnE h;obtain⟨y7,g7,h⟩:=h
   refine AW.flow (p:=fun gh ls=>(nP (cx:=cx) (fun q=>(⟨[(0,.l (.r 0 1 0 y1.2.length)),(2,.l (.s (.int .i64 a2))),(3,.l (.s (.int .i64 a3))),(8,.l (.s (.int .i64 y1.1))),(9,.l (.s (.int .i64 q)))],[some ⟨3,1,false,some 0,lvs (encI y1.2)⟩],76,gh,ls⟩:St))) y7) ?_ ?_
   ·replace h:=g7;clear g7
    replace h:=bnE h;obtain⟨y8,g8,h⟩:=h
    refine AW.flow (p:=fun gh ls=>(nP (cx:=cx) (fun q=>(⟨[(0,.l (.r 0 1 0 y1.2.length)),(2,.l (.s (.int .i64 a2))),(3,.l (.s (.int .i64 a3))),(8,.l (.s (.int .i64 y1.1))),(9,.l (.s (.int .i64 v5))),(36,.l (.s (.bool q)))],[some ⟨3,1,false,some 0,lvs (encI y1.2)⟩],76,gh,ls⟩:St))) y8) ?_ ?_
    ·replace h:=g8;clear g8
     replace h:=ltE h;obtain⟨v9,e9,h⟩:=h
     replace h:=ltE h;obtain⟨v10,e10,h⟩:=h
     cases v10 with
     |true =>
      replace h:=iteT rfl h
      replace h:=ltE h;obtain⟨v11,e11,h⟩:=h
      replace h:=bnE h;obtain⟨v12,e12,h⟩:=h
      have f13:=Ai e12
      try simp[← e9,← e10,← e11,Aa e12] at f13
      replace h:=ltE h;obtain⟨v14,e14,h⟩:=h
      replace h:=bnE h;obtain⟨v15,e15,h⟩:=h
      have f16:=Ai e15
      try simp[← e9,← e10,← e11,Aa e12,f13,Ag (Aa e12).2,lvs1,← e14,Aa e15] at f16
      replace h:=bnE h;obtain⟨v17,e17,h⟩:=h
      apply AW.drawnR (V:=[_,_,_,_,_,_,_,_,_,_,_,_,_,_,_,_,_,_]) mixed DX21t2 18 (by kernel_rfl) (by kernel_rfl)
      ·refine⟨?_,?_,?_,?_,?_,?_,?_,?_,?_,?_,?_,?_,?_,?_,?_,?_,?_,?_,trivial⟩
       iterate 18 (· intro tm hr;simp[AllL,rdV] at hr;simp[hr,← e9,← e10,← e11,Aa e12,f13,Ag (Aa e12).2,lvs1,← e14,Aa e15,f16,Ag (Aa e15).2];intros;first|exact KD.mk|exact KD.mkN)
      ·rfl
      ·simp[tmD,putD,← e9,← e10,← e11,Aa e12,f13,Ag (Aa e12).2,lvs1,← e14,Aa e15,f16,Ag (Aa e15).2];rfl
      ·simp[← e9,← e10,← e11,Aa e12,f13,Ag (Aa e12).2,lvs1,← e14,Aa e15,f16,Ag (Aa e15).2]
       intros
       refine Ah A2 (A7 e17) rfl ⟨.same rfl,.same rfl,trivial⟩ ?_
       try simp[← e9,← e10,← e11,Aa e12,f13,Ag (Aa e12).2,lvs1,← e14,Aa e15,f16,Ag (Aa e15).2]
       intros;rfl
      obtain rfl:=oi h
      refine nP_i ?_
      refine Weak.mixB 1 [some 0] hn0 (by decide) (by decide) ?_ ?_ ?_
      all_goals first|(simp[Ab,Ac,pickOb];done)|rfl
     |false =>
      replace h:=iteF rfl h
      apply AW.drawnR (V:=[_,_,_,_,_,_,_,_,_,_,_,_,_,_,_,_,_,_]) mixed DX21t2 18 (by kernel_rfl) (by kernel_rfl)
      ·refine⟨?_,?_,?_,?_,?_,?_,?_,?_,?_,?_,?_,?_,?_,?_,?_,?_,?_,?_,trivial⟩
       iterate 18 (· intro tm hr;simp[AllL,rdV] at hr;simp[hr,← e9,← e10];intros;first|exact KD.mk|exact KD.mkN)
      ·rfl
      ·simp[tmD,putD,← e9,← e10];rfl
      ·simp[← e9,← e10]
       intros;rfl
      obtain rfl:=oi h
      refine nP_i ?_
      refine Weak.mixB 1 [some 0] hn0 (by decide) (by decide) ?_ ?_ ?_
      all_goals first|(simp[Ab,Ac,pickOb];done)|rfl
    ·rintro e s hp
     obtain⟨rfl,hw⟩:=hp
     refine⟨_,hw,?_⟩
     try simp only[nm]
     replace h:=ltE h;obtain⟨v18,e18,h⟩:=h
     rw[← e18]
     cases v18 with
     |true =>
      replace h:=iteT rfl h
      refine AW.cond_true (by simp) ?_
      replace h:=ltE h;obtain⟨v19,e19,h⟩:=h
      apply AW.last
      ·simp[← e19]
       intros;rfl
      obtain rfl:=oi h
      refine nP_i ?_
      refine Weak.mixB 1 [some 0] hn0 (by decide) (by decide) ?_ ?_ ?_
      all_goals first|(simp[Ab,Ac,pickOb];done)|rfl
     |false =>
      replace h:=iteF rfl h
      refine AW.cond_false (by simp) ?_
      refine AW.skip ?_
      try simp only[nm]
      obtain rfl:=oi h
      refine nP_i ?_
      refine Weak.mixB 1 [some 0] hn0 (by decide) (by decide) ?_ ?_ ?_
      all_goals first|(simp[Ab,Ac,pickOb];done)|rfl
   ·rintro e s hp
    obtain⟨rfl,hw⟩:=hp
    refine⟨_,hw,?_⟩
    try simp only[nm]
    refine AW.seq ?_
    replace h:=ltE h;obtain⟨v20,e20,h⟩:=h
    replace h:=bnE h;obtain⟨v21,e21,h⟩:=h
    have f22:=Ai e21
    try simp[← e20,Aa e21] at f22
    replace h:=ltE h;obtain⟨v23,e23,h⟩:=h
    replace h:=bnE h;obtain⟨v24,e24,h⟩:=h
    have f25:=Ai e24
    try simp[← e20,Aa e21,f22,Ag (Aa e21).2,lvs1,← e23,Aa e24] at f25
    replace h:=bnE h;obtain⟨v26,e26,h⟩:=h
    replace h:=ltE h;obtain⟨v27,e27,h⟩:=h
    apply AW.drawnP (V:=[_,_,_,_,_,_,_,_,_,_,_,_]) mixed [⟨[0],[],[(0,none)],false⟩,⟨[0],[],[(3,none)],false⟩,⟨[0],[],[(8,none)],false⟩,⟨[0],[1,2],[(40,some 1),(41,some 2)],false⟩,⟨[0],[0,1,2,3],[(39,some 0),(42,some 3)],false⟩,⟨[0],[0,1,2,3,4],[(43,some 4)],false⟩,⟨[0],[],[(0,none)],false⟩,⟨[0],[],[(3,none)],false⟩,⟨[0],[],[(9,none)],false⟩,⟨[0],[7,8],[(46,some 7),(47,some 8)],false⟩,⟨[0],[6,7,8,9],[(45,some 6),(48,some 9)],false⟩,⟨[0],[6,7,8,9,10],[(49,some 10)],false⟩,⟨[],[0,1,2,3,4,5,6,7,8,9,10,11],[],false⟩,⟨[],[0,1,2,3,4,5,6,7,8,9,10,11,12],[],false⟩] 12 (by kernel_rfl) (by kernel_rfl)
    ·refine⟨?_,?_,?_,?_,?_,?_,?_,?_,?_,?_,?_,?_,trivial⟩
     iterate 12 (· intro tm hr;simp[AllL,rdV] at hr;simp[hr,← e20,Aa e21,f22,Ag (Aa e21).2,lvs1,← e23,Aa e24,f25,Ag (Aa e24).2,← e27];intros;first|exact KD.mk|exact KD.mkN)
    ·rfl
    ·simp[tmD,putD,← e20,Aa e21,f22,Ag (Aa e21).2,lvs1,← e23,Aa e24,f25,Ag (Aa e24).2,← e27];rfl
    ·simp[← e20,Aa e21,f22,Ag (Aa e21).2,lvs1,← e23,Aa e24,f25,Ag (Aa e24).2,← e27]
     intros
     refine Ah A2 (A7 e26) rfl ⟨.same rfl,.same rfl,trivial⟩ ?_
     try simp[← e20,Aa e21,f22,Ag (Aa e21).2,lvs1,← e23,Aa e24,f25,Ag (Aa e24).2,← e27]
     intros;rfl
    cases v27 with
    |true =>
     replace h:=iteT rfl h
     refine AW.cond_true (by simp) ?_
     obtain rfl:=oi h
     refine AW.ret ?_
     try simp only[nm]
     refine rP_i ?_
     refine Left.of (av:=_) (by simp[Try.f123,resV,resC,comp];rfl) ?_
     exact LeftV.mix 1 [some 0] hn0 rfl (by decide) rfl (by simp[pickOb,Ab,Ac]) (by simp[Ab,Ac])
    |false =>
     replace h:=iteF rfl h
     refine AW.cond_false (by simp) ?_
     refine AW.skip ?_
     try simp only[nm]
     have f28:=Ai e24
     try simp[← e20,← e23,Aa e24] at f28
     have f29:=Ai e21
     try simp[← e20,← e23,Aa e24,f28,Ag (Aa e24).2,lvs1,Aa e21] at f29
     have f30:=Ai e21
     try simp[← e20,← e23,Aa e24,f28,Ag (Aa e24).2,lvs1,Aa e21,f29,Ag (Aa e21).2] at f30
     replace h:=ltE h;obtain⟨v31,e31,h⟩:=h
     have f32:=AJ (Aa e21).2 e31 (cs:=[.s (.int .i64 v24)]) (by simp) rfl
     try simp at f32
     have f33:=f28
     try simp only[Af e31] at f33
     have f34:=f29
     try simp only[Af e31] at f34
     have f35:=f30
     try simp only[Af e31] at f35
     replace h:=bnE h;obtain⟨v36,e36,h⟩:=h
     have f37:=Ai e36
     try simp[← e20,← e23,Aa e24,f28,Ag (Aa e24).2,lvs1,Aa e21,f29,Ag (Aa e21).2,f30,Aj (Aa e21).2 (show 1≤1 by decide),f32,f33,f34,f35,Aa e36] at f37
     replace h:=ltE h;obtain⟨v38,e38,h⟩:=h
     have f39:=AJ (Aa e36).2 e38 (cs:=[.s (.int .i64 v21)]) (by simp) rfl
     try simp at f39
     have f40:=f28
     try simp only[Af e38] at f40
     have f41:=f29
     try simp only[Af e38] at f41
     have f42:=f30
     try simp only[Af e38] at f42
     have f43:=f33
     try simp only[Af e38] at f43
     have f44:=f34
     try simp only[Af e38] at f44
     have f45:=f35
     try simp only[Af e38] at f45
     have f46:=f37
     try simp only[Af e38] at f46
     apply AW.drawnE (V:=[_,_,_,_,_,_,_,_,_,_,_,_,_,_,_,_,_,_,_,_,_,_]) (M:=[[some ⟨3,1,false,some 0,lvs (encI y1.2)⟩],[some ⟨3,1,false,some 0,lvs (encI v31)⟩]]) mixed [⟨[0],[],[(0,none)],false⟩,⟨[0],[],[(3,none)],false⟩,⟨[0],[],[(8,none)],false⟩,⟨[0],[1,2],[(54,some 1),(55,some 2)],false⟩,⟨[0,1],[],[(0,none)],false⟩,⟨[0,1],[],[(3,none)],false⟩,⟨[0,1],[],[(9,none)],false⟩,⟨[0,1],[5,6],[(58,some 5),(59,some 6)],false⟩,⟨[0],[],[(0,none)],false⟩,⟨[0],[],[(3,none)],false⟩,⟨[0],[],[(9,none)],false⟩,⟨[0],[9,10],[(62,some 9),(63,some 10)],false⟩,⟨[0],[8,9,10,11],[(61,some 8),(64,some 11)],false⟩,⟨[0],[8,9,10,11,12],[(65,some 12)],false⟩,⟨[0],[],[(0,none)],false⟩,⟨[0],[],[(3,none)],false⟩,⟨[0],[],[(8,none)],false⟩,⟨[0],[15,16],[(68,some 15),(69,some 16)],false⟩,⟨[0],[14,15,16,17],[(67,some 14),(70,some 17)],false⟩,⟨[0],[14,15,16,17,18],[(71,some 18)],false⟩,⟨[0],[0,1,2,3,8,9,10,11,12,13,14,15,16,17,18,19],[(53,some 0),(56,some 3)],false⟩,⟨[0],[0,1,2,3,8,9,10,11,12,13,14,15,16,17,18,19,20],[(66,some 13),(73,some 20)],true⟩,⟨[],[0,1,2,3,4,5,6,7,8,9,10,11,12,13,14,15,16,17,18,19,20,21],[],false⟩,⟨[],[0,1,2,3,4,5,6,7,8,9,10,11,12,13,14,15,16,17,18,19,20,21,22],[],false⟩] 22 1 (by kernel_rfl) (by kernel_rfl)
     ·rfl
     ·refine⟨?_,?_,?_,?_,⟨?_,?_⟩,⟨?_,?_⟩,⟨?_,?_⟩,⟨?_,?_⟩,?_,?_,?_,?_,?_,?_,?_,?_,?_,?_,?_,?_,?_,?_,trivial⟩
      iterate 26 (· intro tm hr;simp[AllL,rdV] at hr;simp[hr,← e20,← e23,Aa e24,f28,Ag (Aa e24).2,lvs1,Aa e21,f29,Ag (Aa e21).2,f30,Aj (Aa e21).2 (show 1≤1 by decide),f32,f33,f34,f35,Aa e36,f37,Af e31,Aj (Aa e36).2 (show 1≤1 by decide),f39,f40,f41,f42,f43,f44,f45,f46];intros;first|exact KD.mk|exact KD.mkN)
     ·rfl
     ·simp[tmD,putD,← e20,← e23,Aa e24,f28,Ag (Aa e24).2,lvs1,Aa e21,f29,Ag (Aa e21).2,f30,Aj (Aa e21).2 (show 1≤1 by decide),f32,f33,f34,f35,Aa e36,f37,Af e31,Aj (Aa e36).2 (show 1≤1 by decide),f39,f40,f41,f42,f43,f44,f45,f46];rfl
     ·simp[← e20,← e23,Aa e24,f28,Ag (Aa e24).2,lvs1,Aa e21,f29,Ag (Aa e21).2,f30,Aj (Aa e21).2 (show 1≤1 by decide),f32,f33,f34,f35,Aa e36,f37,Af e31,Aj (Aa e36).2 (show 1≤1 by decide),f39,f40,f41,f42,f43,f44,f45,f46]
      intros;rfl
     apply AW.last
     ·simp
      intros;rfl
     obtain rfl:=oi h
     refine nP_i ?_
     refine Weak.mixB 1 [some 0] hn0 (by decide) (by decide) ?_ ?_ ?_
     all_goals first|(simp[Ab,Ac,pickOb,Af e31,Af e38];done)|rfl
 ·rintro e s hp
  rcases y2 with y47|y48
  ·replace h:=smL h
   obtain⟨rfl,hw⟩:=hp
   refine⟨_,hw,?_⟩
   try simp only[nm]
   obtain rfl:=oi h
   refine Left.of (av:=_) (by simp[Try.f123,resV,resC,comp];rfl) ?_
   exact LeftV.mix 1 [some 0] hn0 rfl (by decide) rfl (by simp[pickOb,Ab,Ac]) (by simp[Ab,Ac])
  ·replace h:=smR h
   obtain⟨rfl,hl⟩:=hp
   refine⟨_,Weak.refl _,?_⟩
   obtain rfl:=oi h
   exact hl
theorem CA:Enters Try.prog 123:=enters Try.func123 (by kernel_rfl) rfl
def Bs (n:Nat) (a0:List Int) (a1:Int) (a2:Int):Option (List Int) :=
lt (subI .i64 a2 a1) fun v1 =>
lt (subI .i64 v1 1) fun v2 =>
bn (quoI .i64 v2 2) fun v3 =>
bn (iter n (fun (y4:Int×List Int) =>
lt (geI y4.1 0) fun v7 =>
ite' v7 (bn (Bg n y4.2 y4.1 v1 a1) fun v8 =>
chk (lenB v8 y4.2) <|
lt (subI .i64 y4.1 1) fun v10 =>
some (.inl (v10,v8))) (some (.inr y4.2))) (v3,a0)) fun (y5:List Int) =>
lt (subI .i64 v1 1) fun v11 =>
bn (iter n (fun (y12:Int×List Int) =>
lt (geI y12.1 0) fun v15 =>
ite' v15 (lt (addI .i64 a1 y12.1) fun v16 =>
bn (nth y12.2 v16) fun v17 =>
bn (nth y12.2 a1) fun v19 =>
lt (y12.2.set a1.toNat v17) fun v22 =>
bn (nth v22 v16) fun v27 =>
lt (v22.set v16.toNat v19) fun v29 =>
bn (Bg n v29 0 y12.1 a1) fun v38 =>
chk (lenB v38 v29) <|
lt (subI .i64 y12.1 1) fun v40 =>
some (.inl (v40,v38))) (some (.inr y12.2))) (v11,y5)) fun (y13:List Int) =>
some y13
theorem D9 {n:Nat} {a0:List Int} {a1:Int} {a2:Int} {r:List Int} (h:Bs n a0 a1 a2=some r):Sound Try.prog 97 [.l (.r 0 1 0 a0.length),.l (.s (.int .i64 a1)),.l (.s (.int .i64 a2))] [⟨3,1,false,some 0,lvs (encI a0)⟩] (.t []) [some ⟨3,1,false,some 0,lvs (encI r)⟩]:=by
 unfold Bs at h
 refine Sound.of_aw (fn:=Try.f97) (c:=_) Try.func97 rfl (by simp[Try.f97]) fun cx hG hnb=>?_
 rw[show Try.f97.ntmps=56 from rfl]
 have hn0:cx.nb=1:=hnb
 simp only[As,initTm,List.map_cons,List.map_nil]
 apply AW.step
 ·simp
  intros;rfl
 apply AW.step
 ·simp
  intros;rfl
 replace h:=ltE h;obtain⟨v1,e1,h⟩:=h
 apply AW.step
 ·simp[← e1]
  intros;rfl
 refine AW.seq ?_
 replace h:=ltE h;obtain⟨v2,e2,h⟩:=h
 replace h:=bnE h;obtain⟨v3,e3,h⟩:=h
 apply AW.step
 ·simp[← e2,e3]
  intros;rfl
 refine AW.block ?_
 replace h:=bnE h;obtain⟨y5,g5,h⟩:=h
 refine AW.iterP g5 (mk:=fun gh ls q=>(⟨[(0,.l (.r 0 1 0 q.2.length)),(6,.l (.s (.int .i64 a1))),(7,.l (.s (.int .i64 0))),(8,.l (.s (.int .i64 v1))),(9,.l (.s (.int .i64 q.1)))],[some ⟨3,1,false,some 0,lvs (encI q.2)⟩],56,gh,ls⟩:St)) (N:=fun gh ls=>(xP 0 (cx:=cx) (fun q=>(⟨[(0,.l (.r 0 1 0 q.length)),(6,.l (.s (.int .i64 a1))),(7,.l (.s (.int .i64 0))),(8,.l (.s (.int .i64 v1)))],[some ⟨3,1,false,some 0,lvs (encI q)⟩],56,gh,ls⟩:St)))) ?_ noX ?_ ?_
 ·refine Weak.mixB 1 [some 0] hn0 (by decide) (by decide) ?_ ?_ ?_
  all_goals first|(simp[Ab,Ac,pickOb];done)|rfl
 ·clear h;intro y4 y6 h
  refine AW.seq ?_
  replace h:=ltE h;obtain⟨v7,e7,h⟩:=h
  apply AW.step
  ·simp[← e7]
   intros;rfl
  cases v7 with
  |true =>
   replace h:=iteT rfl h
   refine AW.cond_true (by simp) ?_
   refine AW.skip ?_
   try simp only[nm]
   refine AW.seq ?_
   refine AW.block ?_
   replace h:=bnE h;obtain⟨v8,e8,h⟩:=h
   replace h:=chkE h;obtain⟨e9,h⟩:=h
   apply AW.last
   ·simp
    intros
    refine Aq [0] CA (CE e8) (by decide) (by simp[pickOb,Ab,Ac]) rfl rfl (by simp) ⟨.l (.own' (by simp[Ab,Ac]) (by simp)),.l (.s _),.l (.s _),.l (.s _),trivial⟩ ?_
    try simp
    intros;rfl
   try simp only[nm]
   replace h:=ltE h;obtain⟨v10,e10,h⟩:=h
   apply AW.last
   ·simp[← e10]
    intros;rfl
   obtain rfl:=oi h
   refine nP_i ?_
   refine Weak.mixB 1 [some 0] hn0 (by decide) (by decide) ?_ ?_ ?_
   all_goals first|(simp[Ab,Ac,pickOb,Al e9];done)|rfl
  |false =>
   replace h:=iteF rfl h
   refine AW.cond_false (by simp) ?_
   refine AW.exit ?_
   try simp only[nm]
   obtain rfl:=oi h
   refine xP_i ?_
   refine Weak.mixB 1 [some 0] hn0 (by decide) (by decide) ?_ ?_ ?_
   all_goals first|(simp[Ab,Ac,pickOb];done)|rfl
 ·rintro e s hp
  obtain⟨rfl,hw⟩:=hp
  refine⟨_,hw,?_⟩
  try simp only[nm]
  replace h:=ltE h;obtain⟨v11,e11,h⟩:=h
  apply AW.step
  ·simp[← e11]
   intros;rfl
  refine AW.block ?_
  replace h:=bnE h;obtain⟨y13,g13,h⟩:=h
  refine AW.iterP g13 (mk:=fun gh ls q=>(⟨[(0,.l (.r 0 1 0 q.2.length)),(6,.l (.s (.int .i64 a1))),(7,.l (.s (.int .i64 0))),(10,.l (.s (.int .i64 q.1)))],[some ⟨3,1,false,some 0,lvs (encI q.2)⟩],56,gh,ls⟩:St)) (N:=fun gh ls=>(xP 2 (cx:=cx) (fun q=>(⟨[],[some ⟨3,1,false,some 0,lvs (encI q)⟩],56,gh,ls⟩:St)))) ?_ noX ?_ ?_
  ·refine Weak.mixB 1 [some 0] hn0 (by decide) (by decide) ?_ ?_ ?_
   all_goals first|(simp[Ab,Ac,pickOb];done)|rfl
  ·clear h;intro y12 y14 h
   refine AW.seq ?_
   replace h:=ltE h;obtain⟨v15,e15,h⟩:=h
   apply AW.step
   ·simp[← e15]
    intros;rfl
   cases v15 with
   |true =>
    replace h:=iteT rfl h
    refine AW.cond_true (by simp) ?_
    refine AW.skip ?_
    try simp only[nm]
    refine AW.seq ?_
    refine AW.block ?_
    replace h:=ltE h;obtain⟨v16,e16,h⟩:=h
    replace h:=bnE h;obtain⟨v17,e17,h⟩:=h
    have f18:=Ai e17
    try simp[← e16,Aa e17] at f18
    replace h:=bnE h;obtain⟨v19,e19,h⟩:=h
    have f20:=Ai e19
    try simp[← e16,Aa e17,f18,Ag (Aa e17).2,lvs1,Aa e19] at f20
    have f21:=Ai e19
    try simp[← e16,Aa e17,f18,Ag (Aa e17).2,lvs1,Aa e19,f20,Ag (Aa e19).2] at f21
    replace h:=ltE h;obtain⟨v22,e22,h⟩:=h
    have f23:=AJ (Aa e19).2 e22 (cs:=[.s (.int .i64 v17)]) (by simp) rfl
    try simp at f23
    have f24:=f18
    try simp only[Af e22] at f24
    have f25:=f20
    try simp only[Af e22] at f25
    have f26:=f21
    try simp only[Af e22] at f26
    replace h:=bnE h;obtain⟨v27,e27,h⟩:=h
    have f28:=Ai e27
    try simp[← e16,Aa e17,f18,Ag (Aa e17).2,lvs1,Aa e19,f20,Ag (Aa e19).2,f21,Aj (Aa e19).2 (show 1≤1 by decide),f23,f24,f25,f26,Aa e27] at f28
    replace h:=ltE h;obtain⟨v29,e29,h⟩:=h
    have f30:=AJ (Aa e27).2 e29 (cs:=[.s (.int .i64 v19)]) (by simp) rfl
    try simp at f30
    have f31:=f18
    try simp only[Af e29] at f31
    have f32:=f20
    try simp only[Af e29] at f32
    have f33:=f21
    try simp only[Af e29] at f33
    have f34:=f24
    try simp only[Af e29] at f34
    have f35:=f25
    try simp only[Af e29] at f35
    have f36:=f26
    try simp only[Af e29] at f36
    have f37:=f28
    try simp only[Af e29] at f37
    apply AW.drawnE (V:=[_,_,_,_,_,_,_,_,_,_,_,_,_,_,_,_,_,_]) (M:=[[some ⟨3,1,false,some 0,lvs (encI y12.2)⟩],[some ⟨3,1,false,some 0,lvs (encI v22)⟩]]) mixed [⟨[0],[],[(0,none)],false⟩,⟨[0],[],[(6,none)],false⟩,⟨[0,1],[],[(0,none)],false⟩,⟨[0,1],[],[(6,none)],false⟩,⟨[0,1],[],[(10,none)],false⟩,⟨[0,1],[3,4],[(36,some 3),(37,some 4)],false⟩,⟨[0],[],[(0,none)],false⟩,⟨[0],[],[(6,none)],false⟩,⟨[0],[],[(10,none)],false⟩,⟨[0],[7,8],[(40,some 7),(41,some 8)],false⟩,⟨[0],[6,7,8,9],[(39,some 6),(42,some 9)],false⟩,⟨[0],[6,7,8,9,10],[(43,some 10)],false⟩,⟨[0],[],[(0,none)],false⟩,⟨[0],[],[(6,none)],false⟩,⟨[0],[12,13],[(45,some 12),(46,some 13)],false⟩,⟨[0],[12,13,14],[(47,some 14)],false⟩,⟨[0],[0,1,6,7,8,9,10,11,12,13,14,15],[(33,some 0),(34,some 1)],false⟩,⟨[0],[0,1,6,7,8,9,10,11,12,13,14,15,16],[(44,some 11),(49,some 16)],true⟩,⟨[],[0,1,2,3,4,5,6,7,8,9,10,11,12,13,14,15,16,17],[],false⟩,⟨[],[0,1,2,3,4,5,6,7,8,9,10,11,12,13,14,15,16,17,18],[],false⟩] 18 1 (by kernel_rfl) (by kernel_rfl)
    ·rfl
    ·refine⟨?_,?_,⟨?_,?_⟩,⟨?_,?_⟩,⟨?_,?_⟩,⟨?_,?_⟩,?_,?_,?_,?_,?_,?_,?_,?_,?_,?_,?_,?_,trivial⟩
     iterate 22 (· intro tm hr;simp[AllL,rdV] at hr;simp[hr,← e16,Aa e17,f18,Ag (Aa e17).2,lvs1,Aa e19,f20,Ag (Aa e19).2,f21,Aj (Aa e19).2 (show 1≤1 by decide),f23,f24,f25,f26,Aa e27,f28,Af e22,Aj (Aa e27).2 (show 1≤1 by decide),f30,f31,f32,f33,f34,f35,f36,f37];intros;first|exact KD.mk|exact KD.mkN)
    ·rfl
    ·simp[tmD,putD,← e16,Aa e17,f18,Ag (Aa e17).2,lvs1,Aa e19,f20,Ag (Aa e19).2,f21,Aj (Aa e19).2 (show 1≤1 by decide),f23,f24,f25,f26,Aa e27,f28,Af e22,Aj (Aa e27).2 (show 1≤1 by decide),f30,f31,f32,f33,f34,f35,f36,f37];rfl
    ·simp[← e16,Aa e17,f18,Ag (Aa e17).2,lvs1,Aa e19,f20,Ag (Aa e19).2,f21,Aj (Aa e19).2 (show 1≤1 by decide),f23,f24,f25,f26,Aa e27,f28,Af e22,Aj (Aa e27).2 (show 1≤1 by decide),f30,f31,f32,f33,f34,f35,f36,f37]
     intros;rfl
    replace h:=bnE h;obtain⟨v38,e38,h⟩:=h
    replace h:=chkE h;obtain⟨e39,h⟩:=h
    apply AW.last
    ·simp[Af e22,Af e29]
     intros
     refine Aq [0] CA (CE e38) (by decide) (by simp[pickOb,Ab,Ac]) rfl rfl (by simp) ⟨.l (.own' (by simp[Ab,Ac]) (by simp[Af e22,Af e29])),.l (.s _),.l (.s _),.l (.s _),trivial⟩ ?_
     try simp[Af e22,Af e29]
     intros;rfl
    try simp only[nm]
    replace h:=ltE h;obtain⟨v40,e40,h⟩:=h
    apply AW.last
    ·simp[← e40]
     intros;rfl
    obtain rfl:=oi h
    refine nP_i ?_
    refine Weak.mixB 1 [some 0] hn0 (by decide) (by decide) ?_ ?_ ?_
    all_goals first|(simp[Ab,Ac,pickOb,Al e39,Af e22,Af e29];done)|rfl
   |false =>
    replace h:=iteF rfl h
    refine AW.cond_false (by simp) ?_
    refine AW.exit ?_
    try simp only[nm]
    obtain rfl:=oi h
    refine xP_i ?_
    refine Weak.mixB 1 [some 0] hn0 (by decide) (by decide) ?_ ?_ ?_
    all_goals first|(simp[Ab,Ac,pickOb];done)|rfl
  ·rintro e s hp
   obtain⟨rfl,hw⟩:=hp
   refine⟨_,hw,?_⟩
   try simp only[nm]
   obtain rfl:=oi h
   refine Left.of (av:=_) (by simp[Try.f97,resV,resC,comp];rfl) ?_
   exact LeftV.mix 1 [some 0] hn0 rfl (by decide) rfl (by simp[pickOb,Ab,Ac]) (by simp[Ab,Ac])
theorem D2:Enters Try.prog 97:=enters Try.func97 (by kernel_rfl) rfl
def A3 (n:Nat) (a0:List Int) (a1:Int) (a2:Int) (a3:Int):Option (Int×Int×List Int×Int) :=
bn (nth a0 a2) fun v1 =>
bn (nth a0 a1) fun v3 =>
bn (AM n v1 v3) fun v5 =>
ite' v5 (lt (addI .i64 a3 1) fun v6 =>
some (a2,a1,a0,v6)) (some (a1,a2,a0,a3))
theorem B6 {n:Nat} {a0:List Int} {a1:Int} {a2:Int} {a3:Int} {r:Int×Int×List Int×Int} (h:A3 n a0 a1 a2 a3=some r):Sound Try.prog 150 [.l (.r 0 1 0 a0.length),.l (.s (.int .i64 a1)),.l (.s (.int .i64 a2)),.l (.p 1 0)] [⟨3,1,false,some 0,lvs (encI a0)⟩,⟨3,1,false,none,[.s (.int .i64 a3)]⟩] (.t [(false,[.s (.int .i64 r.1)]),(false,[.s (.int .i64 r.2.1)])]) [some ⟨3,1,false,some 0,lvs (encI r.2.2.1)⟩,some ⟨3,1,false,none,[.s (.int .i64 r.2.2.2)]⟩]:=by
 unfold A3 at h
 refine Sound.of_aw (fn:=Try.f150) (c:=_) Try.func150 rfl (by simp[Try.f150]) fun cx hG hnb=>?_
 rw[show Try.f150.ntmps=28 from rfl]
 have hn0:cx.nb=2:=hnb
 simp only[As,initTm,List.map_cons,List.map_nil]
 apply AW.step
 ·simp
  intros;rfl
 refine AW.seq ?_
 replace h:=bnE h;obtain⟨v1,e1,h⟩:=h
 have f2:=Ai e1
 try simp[Aa e1] at f2
 replace h:=bnE h;obtain⟨v3,e3,h⟩:=h
 have f4:=Ai e3
 try simp[Aa e1,f2,Ag (Aa e1).2,lvs1,Aa e3] at f4
 replace h:=bnE h;obtain⟨v5,e5,h⟩:=h
 apply AW.drawnP (V:=[_,_,_,_,_,_,_,_]) mixed [⟨[0],[],[(0,none)],false⟩,⟨[0],[],[(2,none)],false⟩,⟨[0],[0,1],[(10,some 0),(11,some 1)],false⟩,⟨[0],[0,1,2],[(12,some 2)],false⟩,⟨[0],[],[(0,none)],false⟩,⟨[0],[],[(1,none)],false⟩,⟨[0],[4,5],[(14,some 4),(15,some 5)],false⟩,⟨[0],[4,5,6],[(16,some 6)],false⟩,⟨[],[0,1,2,3,4,5,6,7],[],false⟩] 8 (by kernel_rfl) (by kernel_rfl)
 ·refine⟨?_,?_,?_,?_,?_,?_,?_,?_,trivial⟩
  iterate 8 (· intro tm hr;simp[AllL,rdV] at hr;simp[hr,Aa e1,f2,Ag (Aa e1).2,lvs1,Aa e3,f4,Ag (Aa e3).2];intros;first|exact KD.mk|exact KD.mkN)
 ·rfl
 ·simp[tmD,putD,Aa e1,f2,Ag (Aa e1).2,lvs1,Aa e3,f4,Ag (Aa e3).2];rfl
 ·simp[Aa e1,f2,Ag (Aa e1).2,lvs1,Aa e3,f4,Ag (Aa e3).2]
  intros
  refine Ah A2 (A7 e5) rfl ⟨.same rfl,.same rfl,trivial⟩ ?_
  try simp[Aa e1,f2,Ag (Aa e1).2,lvs1,Aa e3,f4,Ag (Aa e3).2]
  intros;rfl
 cases v5 with
 |true =>
  replace h:=iteT rfl h
  refine AW.cond_true (by simp) ?_
  replace h:=ltE h;obtain⟨v6,e6,h⟩:=h
  apply AW.step
  ·simp[← e6]
   intros;rfl
  apply AW.step
  ·simp
   intros;rfl
  obtain rfl:=oi h
  refine AW.ret ?_
  refine Left.of (av:=_) (by simp[Try.f150,resV,resC,comp];rfl) ?_
  exact LeftV.mix 2 [some 0,some 1] hn0 rfl (by decide) rfl (by simp[pickOb,Ab,Ac]) (by simp[Ab,Ac])
 |false =>
  replace h:=iteF rfl h
  refine AW.cond_false (by simp) ?_
  refine AW.skip ?_
  try simp only[nm]
  apply AW.step
  ·simp
   intros;rfl
  obtain rfl:=oi h
  refine AW.ret ?_
  refine Left.of (av:=_) (by simp[Try.f150,resV,resC,comp];rfl) ?_
  exact LeftV.mix 2 [some 0,some 1] hn0 rfl (by decide) rfl (by simp[pickOb,Ab,Ac]) (by simp[Ab,Ac])
theorem B2:Enters Try.prog 150:=enters Try.func150 (by kernel_rfl) rfl
def Bp (n:Nat) (a0:List Int) (a1:Int) (a2:Int) (a3:Int) (a4:Int):Option (Int×List Int×Int) :=
bn (A3 n a0 a1 a2 a4) fun v1 =>
chk (lenB v1.2.2.1 a0) <|
bn (A3 n v1.2.2.1 v1.2.1 a3 v1.2.2.2) fun v3 =>
chk (lenB v3.2.2.1 v1.2.2.1) <|
bn (A3 n v3.2.2.1 v1.1 v3.1 v3.2.2.2) fun v5 =>
chk (lenB v5.2.2.1 v3.2.2.1) <|
some (v5.2.1,v5.2.2.1,v5.2.2.2)
theorem C0 {n:Nat} {a0:List Int} {a1:Int} {a2:Int} {a3:Int} {a4:Int} {r:Int×List Int×Int} (h:Bp n a0 a1 a2 a3 a4=some r):Sound Try.prog 127 [.l (.r 0 1 0 a0.length),.l (.s (.int .i64 a1)),.l (.s (.int .i64 a2)),.l (.s (.int .i64 a3)),.l (.p 1 0)] [⟨3,1,false,some 0,lvs (encI a0)⟩,⟨3,1,false,none,[.s (.int .i64 a4)]⟩] (.l (.s (.int .i64 r.1))) [some ⟨3,1,false,some 0,lvs (encI r.2.1)⟩,some ⟨3,1,false,none,[.s (.int .i64 r.2.2)]⟩]:=by
 unfold Bp at h
 refine Sound.of_aw (fn:=Try.f127) (c:=_) Try.func127 rfl (by simp[Try.f127]) fun cx hG hnb=>?_
 rw[show Try.f127.ntmps=36 from rfl]
 have hn0:cx.nb=2:=hnb
 simp only[As,initTm,List.map_cons,List.map_nil]
 apply AW.step
 ·simp
  intros;rfl
 replace h:=bnE h;obtain⟨v1,e1,h⟩:=h
 replace h:=chkE h;obtain⟨e2,h⟩:=h
 apply AW.step
 ·simp
  intros
  refine Aq [0,1] B2 (B6 e1) (by decide) (by simp[pickOb,Ab,Ac]) rfl rfl (by simp) ⟨.l (.own' (by simp[Ab,Ac]) (by simp)),.l (.s _),.l (.s _),.l (ptrV (by simp[Ab,Ac])),trivial⟩ ?_
  try simp
  intros;rfl
 replace h:=bnE h;obtain⟨v3,e3,h⟩:=h
 replace h:=chkE h;obtain⟨e4,h⟩:=h
 apply AW.step
 ·simp[Al e2]
  intros
  refine Aq [0,1] B2 (B6 e3) (by decide) (by simp[pickOb,Ab,Ac]) rfl rfl (by simp) ⟨.l (.own' (by simp[Ab,Ac]) (by simp[Al e2])),.l (.s _),.l (.s _),.l (ptrV (by simp[Ab,Ac])),trivial⟩ ?_
  try simp[Al e2]
  intros;rfl
 replace h:=bnE h;obtain⟨v5,e5,h⟩:=h
 replace h:=chkE h;obtain⟨e6,h⟩:=h
 apply AW.step
 ·simp[Al e2,Al e4]
  intros
  refine Aq [0,1] B2 (B6 e5) (by decide) (by simp[pickOb,Ab,Ac]) rfl rfl (by simp) ⟨.l (.own' (by simp[Ab,Ac]) (by simp[Al e2,Al e4])),.l (.s _),.l (.s _),.l (ptrV (by simp[Ab,Ac])),trivial⟩ ?_
  try simp[Al e2,Al e4]
  intros;rfl
 apply AW.step
 ·simp
  intros;rfl
 obtain rfl:=oi h
 refine AW.ret ?_
 refine Left.of (av:=_) (by simp[Try.f127,resV,resC,comp];rfl) ?_
 exact LeftV.mix 2 [some 0,some 1] hn0 rfl (by decide) rfl (by simp[pickOb,Ab,Ac,Al e2,Al e4,Al e6]) (by simp[Ab,Ac,Al e2,Al e4,Al e6])
theorem CO:Enters Try.prog 127:=enters Try.func127 (by kernel_rfl) rfl
def A8 (n:Nat) (a0:List Int) (a1:Int) (a2:Int):Option (Int×List Int×Int) :=
lt (subI .i64 a1 1) fun v1 =>
lt (addI .i64 a1 1) fun v2 =>
bn (Bp n a0 v1 a1 v2 a2) fun v3 =>
chk (lenB v3.2.1 a0) <|
some (v3.1,v3.2.1,v3.2.2)
theorem BF {n:Nat} {a0:List Int} {a1:Int} {a2:Int} {r:Int×List Int×Int} (h:A8 n a0 a1 a2=some r):Sound Try.prog 126 [.l (.r 0 1 0 a0.length),.l (.s (.int .i64 a1)),.l (.p 1 0)] [⟨3,1,false,some 0,lvs (encI a0)⟩,⟨3,1,false,none,[.s (.int .i64 a2)]⟩] (.l (.s (.int .i64 r.1))) [some ⟨3,1,false,some 0,lvs (encI r.2.1)⟩,some ⟨3,1,false,none,[.s (.int .i64 r.2.2)]⟩]:=by
 unfold A8 at h
 refine Sound.of_aw (fn:=Try.f126) (c:=_) Try.func126 rfl (by simp[Try.f126]) fun cx hG hnb=>?_
 rw[show Try.f126.ntmps=15 from rfl]
 have hn0:cx.nb=2:=hnb
 simp only[As,initTm,List.map_cons,List.map_nil]
 apply AW.step
 ·simp
  intros;rfl
 replace h:=ltE h;obtain⟨v1,e1,h⟩:=h
 replace h:=ltE h;obtain⟨v2,e2,h⟩:=h
 replace h:=bnE h;obtain⟨v3,e3,h⟩:=h
 replace h:=chkE h;obtain⟨e4,h⟩:=h
 apply AW.step
 ·simp[← e1,← e2]
  intros
  refine Aq [0,1] CO (C0 e3) (by decide) (by simp[pickOb,Ab,Ac]) rfl rfl (by simp) ⟨.l (.own' (by simp[Ab,Ac]) (by simp)),.l (.s _),.l (.s _),.l (.s _),.l (ptrV (by simp[Ab,Ac])),trivial⟩ ?_
  try simp[← e1,← e2]
  intros;rfl
 obtain rfl:=oi h
 refine AW.ret ?_
 refine Left.of (av:=_) (by simp[Try.f126,resV,resC,comp];rfl) ?_
 exact LeftV.mix 2 [some 0,some 1] hn0 rfl (by decide) rfl (by simp[pickOb,Ab,Ac,Al e4]) (by simp[Ab,Ac,Al e4])
theorem BD:Enters Try.prog 126:=enters Try.func126 (by kernel_rfl) rfl
def Bl (n:Nat) (a0:List Int) (a1:Int) (a2:Int):Option (Int×Int×List Int) :=
lt (subI .i64 a2 a1) fun v1 =>
bn (quoI .i64 v1 4) fun v2 =>
lt (mulI .i64 v2 1) fun v3 =>
lt (addI .i64 a1 v3) fun v4 =>
lt (mulI .i64 v2 2) fun v5 =>
lt (addI .i64 a1 v5) fun v6 =>
lt (mulI .i64 v2 3) fun v7 =>
lt (addI .i64 a1 v7) fun v8 =>
bn (lt (geI v1 8) fun v10 =>
ite' v10 (bn (lt (geI v1 50) fun v12 =>
ite' v12 (bn (A8 n a0 v4 0) fun v13 =>
chk (lenB v13.2.1 a0) <|
bn (A8 n v13.2.1 v6 v13.2.2) fun v15 =>
chk (lenB v15.2.1 v13.2.1) <|
bn (A8 n v15.2.1 v8 v15.2.2) fun v17 =>
chk (lenB v17.2.1 v15.2.1) <|
some ((v13.1,v15.1,v17.1,v17.2.1,v17.2.2))) (some ((v4,v6,v8,a0,0)))) fun (y11:Int×Int×Int×List Int×Int) =>
bn (Bp n y11.2.2.2.1 y11.1 y11.2.1 y11.2.2.1 y11.2.2.2.2) fun v19 =>
chk (lenB v19.2.1 y11.2.2.2.1) <|
some ((v19.1,v19.2.1,v19.2.2))) (some ((v6,a0,0)))) fun (y9:Int×List Int×Int) =>
lt (eqI y9.2.2 0) fun v21 =>
ite' v21 (some (y9.1,1,y9.2.1)) (lt (eqI y9.2.2 12) fun v22 =>
ite' v22 (some (y9.1,2,y9.2.1)) (some (y9.1,0,y9.2.1)))
theorem DR {n:Nat} {a0:List Int} {a1:Int} {a2:Int} {r:Int×Int×List Int} (h:Bl n a0 a1 a2=some r):Sound Try.prog 99 [.l (.r 0 1 0 a0.length),.l (.s (.int .i64 a1)),.l (.s (.int .i64 a2))] [⟨3,1,false,some 0,lvs (encI a0)⟩] (.t [(false,[.s (.int .i64 r.1)]),(false,[.s (.int .i64 r.2.1)])]) [some ⟨3,1,false,some 0,lvs (encI r.2.2)⟩]:=by
 unfold Bl at h
 refine Sound.of_aw (fn:=Try.f99) (c:=_) Try.func99 rfl (by simp[Try.f99]) fun cx hG hnb=>?_
 rw[show Try.f99.ntmps=57 from rfl]
 have hn0:cx.nb=1:=hnb
 simp only[As,initTm,List.map_cons,List.map_nil]
 apply AW.step
 ·simp
  intros;rfl
 replace h:=ltE h;obtain⟨v1,e1,h⟩:=h
 apply AW.step
 ·simp[← e1]
  intros;rfl
 apply AW.step
 ·simp
  intros;rfl
 replace h:=bnE h;obtain⟨v2,e2,h⟩:=h
 replace h:=ltE h;obtain⟨v3,e3,h⟩:=h
 replace h:=ltE h;obtain⟨v4,e4,h⟩:=h
 apply AW.step
 ·simp[e2,← e3,← e4]
  intros;rfl
 replace h:=ltE h;obtain⟨v5,e5,h⟩:=h
 replace h:=ltE h;obtain⟨v6,e6,h⟩:=h
 apply AW.step
 ·simp[e2,← e5,← e6]
  intros;rfl
 replace h:=ltE h;obtain⟨v7,e7,h⟩:=h
 replace h:=ltE h;obtain⟨v8,e8,h⟩:=h
 apply AW.step
 ·simp[e2,← e7,← e8]
  intros;rfl
 replace h:=bnE h;obtain⟨y9,g9,h⟩:=h
 refine AW.flow (p:=fun gh ls=>(nP (cx:=cx) (fun q=>(⟨[(9,.l (.p 1 0)),(11,.l (.s (.int .i64 q.1)))],[some ⟨3,1,false,some 0,lvs (encI q.2.1)⟩,some ⟨3,1,false,none,[.s (.int .i64 q.2.2)]⟩],57,gh,ls⟩:St))) y9) ?_ ?_
 ·replace h:=g9;clear g9
  replace h:=ltE h;obtain⟨v10,e10,h⟩:=h
  apply AW.step
  ·simp[← e10]
   intros;rfl
  cases v10 with
  |true =>
   replace h:=iteT rfl h
   refine AW.cond_true (by simp) ?_
   replace h:=bnE h;obtain⟨y11,g11,h⟩:=h
   refine AW.flow (p:=fun gh ls=>(nP (cx:=cx) (fun q=>(⟨[(0,.l (.r 0 1 0 q.2.2.2.1.length)),(9,.l (.p 1 0)),(10,.l (.s (.int .i64 q.1))),(11,.l (.s (.int .i64 q.2.1))),(12,.l (.s (.int .i64 q.2.2.1)))],[some ⟨3,1,false,some 0,lvs (encI q.2.2.2.1)⟩,some ⟨3,1,false,none,[.s (.int .i64 q.2.2.2.2)]⟩],57,gh,ls⟩:St))) y11) ?_ ?_
   ·replace h:=g11;clear g11
    replace h:=ltE h;obtain⟨v12,e12,h⟩:=h
    apply AW.step
    ·simp[← e12]
     intros;rfl
    cases v12 with
    |true =>
     replace h:=iteT rfl h
     refine AW.cond_true (by simp) ?_
     replace h:=bnE h;obtain⟨v13,e13,h⟩:=h
     replace h:=chkE h;obtain⟨e14,h⟩:=h
     apply AW.step
     ·simp
      intros
      refine Aq [0,1] BD (BF e13) (by decide) (by simp[pickOb,Ab,Ac]) rfl rfl (by simp) ⟨.l (.own' (by simp[Ab,Ac]) (by simp)),.l (.s _),.l (ptrV (by simp[Ab,Ac])),trivial⟩ ?_
      try simp
      intros;rfl
     replace h:=bnE h;obtain⟨v15,e15,h⟩:=h
     replace h:=chkE h;obtain⟨e16,h⟩:=h
     apply AW.step
     ·simp[Al e14]
      intros
      refine Aq [0,1] BD (BF e15) (by decide) (by simp[pickOb,Ab,Ac]) rfl rfl (by simp) ⟨.l (.own' (by simp[Ab,Ac]) (by simp[Al e14])),.l (.s _),.l (ptrV (by simp[Ab,Ac])),trivial⟩ ?_
      try simp[Al e14]
      intros;rfl
     replace h:=bnE h;obtain⟨v17,e17,h⟩:=h
     replace h:=chkE h;obtain⟨e18,h⟩:=h
     apply AW.last
     ·simp[Al e14,Al e16]
      intros
      refine Aq [0,1] BD (BF e17) (by decide) (by simp[pickOb,Ab,Ac]) rfl rfl (by simp) ⟨.l (.own' (by simp[Ab,Ac]) (by simp[Al e14,Al e16])),.l (.s _),.l (ptrV (by simp[Ab,Ac])),trivial⟩ ?_
      try simp[Al e14,Al e16]
      intros;rfl
     obtain rfl:=oi h
     refine nP_i ?_
     refine Weak.mixB 1 [some 0,some 1] hn0 (by decide) (by decide) ?_ ?_ ?_
     all_goals first|(simp[Ab,Ac,pickOb,Al e14,Al e16,Al e18];done)|rfl
    |false =>
     replace h:=iteF rfl h
     refine AW.cond_false (by simp) ?_
     refine AW.skip ?_
     try simp only[nm]
     obtain rfl:=oi h
     refine nP_i ?_
     refine Weak.mixB 1 [some 0,some 1] hn0 (by decide) (by decide) ?_ ?_ ?_
     all_goals first|(simp[Ab,Ac,pickOb];done)|rfl
   ·rintro e s hp
    obtain⟨rfl,hw⟩:=hp
    refine⟨_,hw,?_⟩
    try simp only[nm]
    replace h:=bnE h;obtain⟨v19,e19,h⟩:=h
    replace h:=chkE h;obtain⟨e20,h⟩:=h
    apply AW.last
    ·simp
     intros
     refine Aq [0,1] CO (C0 e19) (by decide) (by simp[pickOb,Ab,Ac]) rfl rfl (by simp) ⟨.l (.own' (by simp[Ab,Ac]) (by simp)),.l (.s _),.l (.s _),.l (.s _),.l (ptrV (by simp[Ab,Ac])),trivial⟩ ?_
     try simp
     intros;rfl
    obtain rfl:=oi h
    refine nP_i ?_
    refine Weak.mixB 1 [some 0,some 1] hn0 (by decide) (by decide) ?_ ?_ ?_
    all_goals first|(simp[Ab,Ac,pickOb,Al e20];done)|rfl
  |false =>
   replace h:=iteF rfl h
   refine AW.cond_false (by simp) ?_
   refine AW.skip ?_
   try simp only[nm]
   obtain rfl:=oi h
   refine nP_i ?_
   refine Weak.mixB 1 [some 0,some 1] hn0 (by decide) (by decide) ?_ ?_ ?_
   all_goals first|(simp[Ab,Ac,pickOb];done)|rfl
 ·rintro e s hp
  obtain⟨rfl,hw⟩:=hp
  refine⟨_,hw,?_⟩
  try simp only[nm]
  apply AW.step
  ·simp
   intros;rfl
  refine AW.block ?_
  replace h:=ltE h;obtain⟨v21,e21,h⟩:=h
  apply AW.step
  ·simp[← e21]
   intros;rfl
  cases v21 with
  |true =>
   replace h:=iteT rfl h
   refine AW.cond_true (by simp) ?_
   apply AW.step
   ·simp
    intros;rfl
   obtain rfl:=oi h
   refine AW.ret ?_
   refine Left.of (av:=_) (by simp[Try.f99,resV,resC,comp];rfl) ?_
   exact LeftV.mix 1 [some 0] hn0 rfl (by decide) rfl (by simp[pickOb,Ab,Ac]) (by simp[Ab,Ac])
  |false =>
   replace h:=iteF rfl h
   refine AW.cond_false (by simp) ?_
   replace h:=ltE h;obtain⟨v22,e22,h⟩:=h
   apply AW.step
   ·simp[← e22]
    intros;rfl
   cases v22 with
   |true =>
    replace h:=iteT rfl h
    refine AW.cond_true (by simp) ?_
    apply AW.step
    ·simp
     intros;rfl
    obtain rfl:=oi h
    refine AW.ret ?_
    refine Left.of (av:=_) (by simp[Try.f99,resV,resC,comp];rfl) ?_
    exact LeftV.mix 1 [some 0] hn0 rfl (by decide) rfl (by simp[pickOb,Ab,Ac]) (by simp[Ab,Ac])
   |false =>
    replace h:=iteF rfl h
    refine AW.cond_false (by simp) ?_
    apply AW.step
    ·simp
     intros;rfl
    obtain rfl:=oi h
    refine AW.ret ?_
    refine Left.of (av:=_) (by simp[Try.f99,resV,resC,comp];rfl) ?_
    exact LeftV.mix 1 [some 0] hn0 rfl (by decide) rfl (by simp[pickOb,Ab,Ac]) (by simp[Ab,Ac])
theorem DM:Enters Try.prog 99:=enters Try.func99 (by kernel_rfl) rfl
def Bi (n:Nat) (a0:List Int) (a1:Int) (a2:Int):Option (List Int) :=
lt (subI .i64 a2 1) fun v1 =>
bn (iter n (fun (y2:Int×Int×List Int) =>
lt (ltI y2.1 y2.2.1) fun v5 =>
ite' v5 (bn (nth y2.2.2 y2.2.1) fun v6 =>
bn (nth y2.2.2 y2.1) fun v8 =>
lt (y2.2.2.set y2.1.toNat v6) fun v11 =>
bn (nth v11 y2.2.1) fun v16 =>
lt (v11.set y2.2.1.toNat v8) fun v18 =>
lt (addI .i64 y2.1 1) fun v27 =>
lt (subI .i64 y2.2.1 1) fun v28 =>
some (.inl (v27,v28,v18))) (some (.inr y2.2.2))) (a1,v1,a0)) fun (y3:List Int) =>
some y3
theorem DN {n:Nat} {a0:List Int} {a1:Int} {a2:Int} {r:List Int} (h:Bi n a0 a1 a2=some r):Sound Try.prog 100 [.l (.r 0 1 0 a0.length),.l (.s (.int .i64 a1)),.l (.s (.int .i64 a2))] [⟨3,1,false,some 0,lvs (encI a0)⟩] (.t []) [some ⟨3,1,false,some 0,lvs (encI r)⟩]:=by
 unfold Bi at h
 refine Sound.of_aw (fn:=Try.f100) (c:=_) Try.func100 rfl (by simp[Try.f100]) fun cx hG hnb=>?_
 rw[show Try.f100.ntmps=32 from rfl]
 have hn0:cx.nb=1:=hnb
 simp only[As,initTm,List.map_cons,List.map_nil]
 apply AW.step
 ·simp
  intros;rfl
 replace h:=ltE h;obtain⟨v1,e1,h⟩:=h
 apply AW.step
 ·simp[← e1]
  intros;rfl
 refine AW.block ?_
 replace h:=bnE h;obtain⟨y3,g3,h⟩:=h
 refine AW.iterP g3 (mk:=fun gh ls q=>(⟨[(0,.l (.r 0 1 0 q.2.2.length)),(6,.l (.s (.int .i64 q.1))),(7,.l (.s (.int .i64 q.2.1)))],[some ⟨3,1,false,some 0,lvs (encI q.2.2)⟩],32,gh,ls⟩:St)) (N:=fun gh ls=>(xP 0 (cx:=cx) (fun q=>(⟨[],[some ⟨3,1,false,some 0,lvs (encI q)⟩],32,gh,ls⟩:St)))) ?_ noX ?_ ?_
 ·refine Weak.mixB 1 [some 0] hn0 (by decide) (by decide) ?_ ?_ ?_
  all_goals first|(simp[Ab,Ac,pickOb];done)|rfl
 ·clear h;intro y2 y4 h
  refine AW.seq ?_
  replace h:=ltE h;obtain⟨v5,e5,h⟩:=h
  apply AW.step
  ·simp[← e5]
   intros;rfl
  cases v5 with
  |true =>
   replace h:=iteT rfl h
   refine AW.cond_true (by simp) ?_
   refine AW.skip ?_
   try simp only[nm]
   refine AW.block ?_
   replace h:=bnE h;obtain⟨v6,e6,h⟩:=h
   have f7:=Ai e6
   try simp[Aa e6] at f7
   replace h:=bnE h;obtain⟨v8,e8,h⟩:=h
   have f9:=Ai e8
   try simp[Aa e6,f7,Ag (Aa e6).2,lvs1,Aa e8] at f9
   have f10:=Ai e8
   try simp[Aa e6,f7,Ag (Aa e6).2,lvs1,Aa e8,f9,Ag (Aa e8).2] at f10
   replace h:=ltE h;obtain⟨v11,e11,h⟩:=h
   have f12:=AJ (Aa e8).2 e11 (cs:=[.s (.int .i64 v6)]) (by simp) rfl
   try simp at f12
   have f13:=f7
   try simp only[Af e11] at f13
   have f14:=f9
   try simp only[Af e11] at f14
   have f15:=f10
   try simp only[Af e11] at f15
   replace h:=bnE h;obtain⟨v16,e16,h⟩:=h
   have f17:=Ai e16
   try simp[Aa e6,f7,Ag (Aa e6).2,lvs1,Aa e8,f9,Ag (Aa e8).2,f10,Aj (Aa e8).2 (show 1≤1 by decide),f12,f13,f14,f15,Aa e16] at f17
   replace h:=ltE h;obtain⟨v18,e18,h⟩:=h
   have f19:=AJ (Aa e16).2 e18 (cs:=[.s (.int .i64 v8)]) (by simp) rfl
   try simp at f19
   have f20:=f7
   try simp only[Af e18] at f20
   have f21:=f9
   try simp only[Af e18] at f21
   have f22:=f10
   try simp only[Af e18] at f22
   have f23:=f13
   try simp only[Af e18] at f23
   have f24:=f14
   try simp only[Af e18] at f24
   have f25:=f15
   try simp only[Af e18] at f25
   have f26:=f17
   try simp only[Af e18] at f26
   apply AW.drawnE (V:=[_,_,_,_,_,_,_,_,_,_,_,_,_,_]) (M:=[[some ⟨3,1,false,some 0,lvs (encI y2.2.2)⟩],[some ⟨3,1,false,some 0,lvs (encI v11)⟩]]) mixed [⟨[0],[],[(0,none)],false⟩,⟨[0],[],[(6,none)],false⟩,⟨[0,1],[],[(0,none)],false⟩,⟨[0,1],[],[(7,none)],false⟩,⟨[0],[],[(0,none)],false⟩,⟨[0],[],[(7,none)],false⟩,⟨[0],[4,5],[(18,some 4),(19,some 5)],false⟩,⟨[0],[4,5,6],[(20,some 6)],false⟩,⟨[0],[],[(0,none)],false⟩,⟨[0],[],[(6,none)],false⟩,⟨[0],[8,9],[(22,some 8),(23,some 9)],false⟩,⟨[0],[8,9,10],[(24,some 10)],false⟩,⟨[0],[0,1,4,5,6,7,8,9,10,11],[(14,some 0),(15,some 1)],false⟩,⟨[0],[0,1,4,5,6,7,8,9,10,11,12],[(21,some 7),(26,some 12)],true⟩,⟨[],[0,1,2,3,4,5,6,7,8,9,10,11,12,13],[],false⟩,⟨[],[0,1,2,3,4,5,6,7,8,9,10,11,12,13,14],[],false⟩] 14 1 (by kernel_rfl) (by kernel_rfl)
   ·rfl
   ·refine⟨?_,?_,⟨?_,?_⟩,⟨?_,?_⟩,?_,?_,?_,?_,?_,?_,?_,?_,?_,?_,trivial⟩
    iterate 16 (· intro tm hr;simp[AllL,rdV] at hr;simp[hr,Aa e6,f7,Ag (Aa e6).2,lvs1,Aa e8,f9,Ag (Aa e8).2,f10,Aj (Aa e8).2 (show 1≤1 by decide),f12,f13,f14,f15,Aa e16,f17,Af e11,Aj (Aa e16).2 (show 1≤1 by decide),f19,f20,f21,f22,f23,f24,f25,f26];intros;first|exact KD.mk|exact KD.mkN)
   ·rfl
   ·simp[tmD,putD,Aa e6,f7,Ag (Aa e6).2,lvs1,Aa e8,f9,Ag (Aa e8).2,f10,Aj (Aa e8).2 (show 1≤1 by decide),f12,f13,f14,f15,Aa e16,f17,Af e11,Aj (Aa e16).2 (show 1≤1 by decide),f19,f20,f21,f22,f23,f24,f25,f26];rfl
   ·simp[Aa e6,f7,Ag (Aa e6).2,lvs1,Aa e8,f9,Ag (Aa e8).2,f10,Aj (Aa e8).2 (show 1≤1 by decide),f12,f13,f14,f15,Aa e16,f17,Af e11,Aj (Aa e16).2 (show 1≤1 by decide),f19,f20,f21,f22,f23,f24,f25,f26]
    intros;rfl
   replace h:=ltE h;obtain⟨v27,e27,h⟩:=h
   apply AW.step
   ·simp[← e27]
    intros;rfl
   replace h:=ltE h;obtain⟨v28,e28,h⟩:=h
   apply AW.last
   ·simp[← e28]
    intros;rfl
   obtain rfl:=oi h
   refine nP_i ?_
   refine Weak.mixB 1 [some 0] hn0 (by decide) (by decide) ?_ ?_ ?_
   all_goals first|(simp[Ab,Ac,pickOb,Af e11,Af e18];done)|rfl
  |false =>
   replace h:=iteF rfl h
   refine AW.cond_false (by simp) ?_
   refine AW.exit ?_
   try simp only[nm]
   obtain rfl:=oi h
   refine xP_i ?_
   refine Weak.mixB 1 [some 0] hn0 (by decide) (by decide) ?_ ?_ ?_
   all_goals first|(simp[Ab,Ac,pickOb];done)|rfl
 ·rintro e s hp
  obtain⟨rfl,hw⟩:=hp
  refine⟨_,hw,?_⟩
  try simp only[nm]
  obtain rfl:=oi h
  refine Left.of (av:=_) (by simp[Try.f100,resV,resC,comp];rfl) ?_
  exact LeftV.mix 1 [some 0] hn0 rfl (by decide) rfl (by simp[pickOb,Ab,Ac]) (by simp[Ab,Ac])
theorem DE:Enters Try.prog 100:=enters Try.func100 (by kernel_rfl) rfl
def AS (n:Nat) (a0:List Int) (a1:Int) (a2:Int):Option (Bool×List Int) :=
lt (addI .i64 a1 1) fun v1 =>
bn (iter n (fun (y2:Int×Int×List Int) =>
lt (ltI y2.2.1 5) fun v5 =>
ite' v5 (bn (bn (iter n (fun (y7:Int) =>
bn (lt (ltI y7 a2) fun v11 =>
ite' v11 (bn (nth y2.2.2 y7) fun v12 =>
lt (subI .i64 y7 1) fun v14 =>
bn (nth y2.2.2 v14) fun v15 =>
bn (AM n v12 v15) fun v17 =>
lt (notB v17) fun v18 =>
some (v18)) (some (false))) fun (y10:Bool) =>
lt (y10) fun v19 =>
ite' v19 (lt (addI .i64 y7 1) fun v20 =>
some (.inl v20)) (some (.inr y7))) y2.1) fun (y8:Int) =>
lt (eqI y8 a2) fun v21 =>
ite' v21 (some (.inr (true,y2.2.2))) (lt (subI .i64 a2 a1) fun v22 =>
lt (ltI v22 50) fun v23 =>
ite' v23 (some (.inr (false,y2.2.2))) (lt (subI .i64 y8 1) fun v24 =>
bn (nth y2.2.2 v24) fun v25 =>
bn (nth y2.2.2 y8) fun v27 =>
lt (y2.2.2.set y8.toNat v25) fun v30 =>
bn (nth v30 v24) fun v35 =>
lt (v30.set v24.toNat v27) fun v37 =>
bn (lt (subI .i64 y8 a1) fun v47 =>
lt (geI v47 2) fun v48 =>
ite' v48 (bn (iter n (fun (y49:Int×List Int) =>
lt (geI y49.1 1) fun v52 =>
ite' v52 (bn (nth y49.2 y49.1) fun v53 =>
lt (subI .i64 y49.1 1) fun v55 =>
bn (nth y49.2 v55) fun v56 =>
bn (AM n v53 v56) fun v58 =>
lt (notB v58) fun v59 =>
ite' v59 (some (.inr y49.2)) (lt (y49.2.set y49.1.toNat v56) fun v63 =>
bn (nth v63 v55) fun v68 =>
lt (v63.set v55.toNat v53) fun v70 =>
some (.inl (v55,v70)))) (some (.inr y49.2))) (v24,v37)) fun (y50:List Int) =>
some (y50)) (some (v37))) fun (y46:List Int) =>
lt (subI .i64 a2 y8) fun v79 =>
lt (geI v79 2) fun v80 =>
ite' v80 (lt (addI .i64 y8 1) fun v81 =>
bn (iter n (fun (y82:Int×List Int) =>
lt (ltI y82.1 a2) fun v85 =>
ite' v85 (bn (nth y82.2 y82.1) fun v86 =>
lt (subI .i64 y82.1 1) fun v88 =>
bn (nth y82.2 v88) fun v89 =>
bn (AM n v86 v89) fun v91 =>
lt (notB v91) fun v92 =>
ite' v92 (some (.inr y82.2)) (lt (y82.2.set y82.1.toNat v89) fun v96 =>
bn (nth v96 v88) fun v101 =>
lt (v96.set v88.toNat v86) fun v103 =>
lt (addI .i64 y82.1 1) fun v112 =>
some (.inl (v112,v103)))) (some (.inr y82.2))) (v81,y46)) fun (y83:List Int) =>
some (.inl (y8,y83))) (some (.inl (y8,y46)))))) fun (y6:(Int×List Int) ⊕ (Bool×List Int)) =>
sm y6 (fun y113=>lt (addI .i64 y2.2.1 1) fun v115 =>
some (.inl (y113.1,v115,y113.2))) (fun y114=>some (.inr (.inr y114)))) (some (.inr (.inl y2.2.2)))) (v1,0,a0)) fun (y3:(List Int) ⊕ (Bool×List Int)) =>
sm y3 (fun y116=>some (false,y116)) (fun y117=>some y117)
def DX21t3:List DI:=[⟨[0],[],[(7,none)],false⟩,⟨[0],[],[(2,none)],false⟩,⟨[0],[0,1],[(17,some 0),(18,some 1)],false⟩,⟨[0],[0,1,2],[(19,some 2)],false⟩,⟨[0],[0,1,2,3],[(0,none),(20,some 3)],false⟩,⟨[0],[0,1,2,3],[(7,none),(20,some 3)],false⟩,⟨[0],[0,1,2,3,4,5],[(20,some 3),(21,some 4),(22,some 5)],false⟩,⟨[0],[0,1,2,3,4,5,6],[(20,some 3),(23,some 6)],false⟩,⟨[0],[0,1,2,3],[(0,none),(20,some 3)],false⟩,⟨[0],[0,1,2,3],[(7,none),(20,some 3)],false⟩,⟨[0],[0,1,2,3,9],[(20,some 3),(26,some 9)],false⟩,⟨[0],[0,1,2,3,8,9,10],[(20,some 3),(25,some 8),(27,some 10)],false⟩,⟨[0],[0,1,2,3,8,9,10,11],[(20,some 3),(28,some 11)],false⟩,⟨[],[0,1,2,3,4,5,6,7,8,9,10,11,12],[],false⟩,⟨[],[0,1,2,3,4,5,6,7,8,9,10,11,12,13],[],false⟩,⟨[],[0,1,2,3,4,5,6,7,8,9,10,11,12,13,14],[],false⟩]
theorem CS {n:Nat} {a0:List Int} {a1:Int} {a2:Int} {r:Bool×List Int} (h:AS n a0 a1 a2=some r):Sound Try.prog 101 [.l (.r 0 1 0 a0.length),.l (.s (.int .i64 a1)),.l (.s (.int .i64 a2))] [⟨3,1,false,some 0,lvs (encI a0)⟩] (.l (.s (.bool r.1))) [some ⟨3,1,false,some 0,lvs (encI r.2)⟩]:=by
 unfold AS at h
 refine Sound.of_aw (fn:=Try.f101) (c:=_) Try.func101 rfl (by simp[Try.f101]) fun cx hG hnb=>?_
 rw[show Try.f101.ntmps=133 from rfl]
 have hn0:cx.nb=1:=hnb
 simp only[As,initTm,List.map_cons,List.map_nil]
 apply AW.step
 ·simp
  intros;rfl
 replace h:=ltE h;obtain⟨v1,e1,h⟩:=h
 apply AW.step
 ·simp[← e1]
  intros;rfl
 refine AW.seq ?_
 apply AW.step
 ·simp
  intros;rfl
 refine AW.block ?_
 replace h:=bnE h;obtain⟨y3,g3,h⟩:=h
 refine AW.iterP g3 (mk:=fun gh ls q=>(⟨[(0,.l (.r 0 1 0 q.2.2.length)),(1,.l (.s (.int .i64 a1))),(2,.l (.s (.int .i64 a2))),(7,.l (.s (.int .i64 q.1))),(8,.l (.s (.int .i64 q.2.1)))],[some ⟨3,1,false,some 0,lvs (encI q.2.2)⟩],133,gh,ls⟩:St)) (N:=fun gh ls=>(sp (xP 0 (cx:=cx) (fun q=>(⟨[],[some ⟨3,1,false,some 0,lvs (encI q)⟩],133,gh,ls⟩:St))) (rP (cx:=cx) (P:=Try.prog) Try.f101 (fun q=>.l (.s (.bool q.1))) (fun q=>[some ⟨3,1,false,some 0,lvs (encI q.2)⟩])))) ?_ (noS noX noR) ?_ ?_
 ·refine Weak.mixB 1 [some 0] hn0 (by decide) (by decide) ?_ ?_ ?_
  all_goals first|(simp[Ab,Ac,pickOb];done)|rfl
 ·clear h;intro y2 y4 h
  refine AW.seq ?_
  replace h:=ltE h;obtain⟨v5,e5,h⟩:=h
  apply AW.step
  ·simp[← e5]
   intros;rfl
  cases v5 with
  |true =>
   replace h:=iteT rfl h
   refine AW.cond_true (by simp) ?_
   refine AW.skip ?_
   try simp only[nm]
   replace h:=bnE h;obtain⟨y6,g6,h⟩:=h
   refine AW.flow (p:=fun gh ls=>(sp (nP (cx:=cx) (fun q=>(⟨[(0,.l (.r 0 1 0 q.2.length)),(1,.l (.s (.int .i64 a1))),(2,.l (.s (.int .i64 a2))),(7,.l (.s (.int .i64 q.1))),(8,.l (.s (.int .i64 y2.2.1)))],[some ⟨3,1,false,some 0,lvs (encI q.2)⟩],133,gh,ls⟩:St))) (rP (cx:=cx) (P:=Try.prog) Try.f101 (fun q=>.l (.s (.bool q.1))) (fun q=>[some ⟨3,1,false,some 0,lvs (encI q.2)⟩]))) y6) ?_ ?_
   ·replace h:=g6;clear g6
    refine AW.block ?_
    refine AW.seq ?_
    refine AW.block ?_
    replace h:=bnE h;obtain⟨y8,g8,h⟩:=h
    refine AW.iterP g8 (mk:=fun gh ls q=>(⟨[(0,.l (.r 0 1 0 y2.2.2.length)),(1,.l (.s (.int .i64 a1))),(2,.l (.s (.int .i64 a2))),(7,.l (.s (.int .i64 q))),(8,.l (.s (.int .i64 y2.2.1)))],[some ⟨3,1,false,some 0,lvs (encI y2.2.2)⟩],133,gh,ls⟩:St)) (N:=fun gh ls=>(xP 2 (cx:=cx) (fun q=>(⟨[(0,.l (.r 0 1 0 y2.2.2.length)),(1,.l (.s (.int .i64 a1))),(2,.l (.s (.int .i64 a2))),(7,.l (.s (.int .i64 q))),(8,.l (.s (.int .i64 y2.2.1)))],[some ⟨3,1,false,some 0,lvs (encI y2.2.2)⟩],133,gh,ls⟩:St)))) ?_ noX ?_ ?_
    ·refine Weak.mixB 1 [some 0] hn0 (by decide) (by decide) ?_ ?_ ?_
     all_goals first|(simp[Ab,Ac,pickOb];done)|rfl
    ·clear h;intro y7 y9 h
     refine AW.seq ?_
     replace h:=bnE h;obtain⟨y10,g10,h⟩:=h
     refine AW.flow (p:=fun gh ls=>(nP (cx:=cx) (fun q=>(⟨[(0,.l (.r 0 1 0 y2.2.2.length)),(1,.l (.s (.int .i64 a1))),(2,.l (.s (.int .i64 a2))),(7,.l (.s (.int .i64 y7))),(8,.l (.s (.int .i64 y2.2.1))),(32,.l (.s (.bool q)))],[some ⟨3,1,false,some 0,lvs (encI y2.2.2)⟩],133,gh,ls⟩:St))) y10) ?_ ?_
     ·replace h:=g10;clear g10
      replace h:=ltE h;obtain⟨v11,e11,h⟩:=h
      cases v11 with
      |true =>
       replace h:=iteT rfl h
       replace h:=bnE h;obtain⟨v12,e12,h⟩:=h
       have f13:=Ai e12
       try simp[← e11,Aa e12] at f13
       replace h:=ltE h;obtain⟨v14,e14,h⟩:=h
       replace h:=bnE h;obtain⟨v15,e15,h⟩:=h
       have f16:=Ai e15
       try simp[← e11,Aa e12,f13,Ag (Aa e12).2,lvs1,← e14,Aa e15] at f16
       replace h:=bnE h;obtain⟨v17,e17,h⟩:=h
       replace h:=ltE h;obtain⟨v18,e18,h⟩:=h
       apply AW.drawnR (V:=[_,_,_,_,_,_,_,_,_,_,_,_,_]) mixed DX21t3 13 (by kernel_rfl) (by kernel_rfl)
       ·refine⟨?_,?_,?_,?_,?_,?_,?_,?_,?_,?_,?_,?_,?_,trivial⟩
        iterate 13 (· intro tm hr;simp[AllL,rdV] at hr;simp[hr,← e11,Aa e12,f13,Ag (Aa e12).2,lvs1,← e14,Aa e15,f16,Ag (Aa e15).2,← e18];intros;first|exact KD.mk|exact KD.mkN)
       ·rfl
       ·simp[tmD,putD,← e11,Aa e12,f13,Ag (Aa e12).2,lvs1,← e14,Aa e15,f16,Ag (Aa e15).2,← e18];rfl
       ·simp[← e11,Aa e12,f13,Ag (Aa e12).2,lvs1,← e14,Aa e15,f16,Ag (Aa e15).2,← e18]
        intros
        refine Ah A2 (A7 e17) rfl ⟨.same rfl,.same rfl,trivial⟩ ?_
        try simp[← e11,Aa e12,f13,Ag (Aa e12).2,lvs1,← e14,Aa e15,f16,Ag (Aa e15).2,← e18]
        intros;rfl
       obtain rfl:=oi h
       refine nP_i ?_
       refine Weak.mixB 1 [some 0] hn0 (by decide) (by decide) ?_ ?_ ?_
       all_goals first|(simp[Ab,Ac,pickOb];done)|rfl
      |false =>
       replace h:=iteF rfl h
       apply AW.drawnR (V:=[_,_,_,_,_,_,_,_,_,_,_,_,_]) mixed DX21t3 13 (by kernel_rfl) (by kernel_rfl)
       ·refine⟨?_,?_,?_,?_,?_,?_,?_,?_,?_,?_,?_,?_,?_,trivial⟩
        iterate 13 (· intro tm hr;simp[AllL,rdV] at hr;simp[hr,← e11];intros;first|exact KD.mk|exact KD.mkN)
       ·rfl
       ·simp[tmD,putD,← e11];rfl
       ·simp[← e11]
        intros;rfl
       obtain rfl:=oi h
       refine nP_i ?_
       refine Weak.mixB 1 [some 0] hn0 (by decide) (by decide) ?_ ?_ ?_
       all_goals first|(simp[Ab,Ac,pickOb];done)|rfl
     ·rintro e s hp
      obtain⟨rfl,hw⟩:=hp
      refine⟨_,hw,?_⟩
      try simp only[nm]
      replace h:=ltE h;obtain⟨v19,e19,h⟩:=h
      rw[← e19]
      cases v19 with
      |true =>
       replace h:=iteT rfl h
       refine AW.cond_true (by simp) ?_
       refine AW.skip ?_
       try simp only[nm]
       refine AW.block ?_
       replace h:=ltE h;obtain⟨v20,e20,h⟩:=h
       apply AW.last
       ·simp[← e20]
        intros;rfl
       obtain rfl:=oi h
       refine nP_i ?_
       refine Weak.mixB 1 [some 0] hn0 (by decide) (by decide) ?_ ?_ ?_
       all_goals first|(simp[Ab,Ac,pickOb];done)|rfl
      |false =>
       replace h:=iteF rfl h
       refine AW.cond_false (by simp) ?_
       refine AW.exit ?_
       try simp only[nm]
       obtain rfl:=oi h
       refine xP_i ?_
       refine Weak.mixB 1 [some 0] hn0 (by decide) (by decide) ?_ ?_ ?_
       all_goals first|(simp[Ab,Ac,pickOb];done)|rfl
    ·rintro e s hp
     obtain⟨rfl,hw⟩:=hp
     refine⟨_,hw,?_⟩
     try simp only[nm]
     refine AW.seq ?_
     replace h:=ltE h;obtain⟨v21,e21,h⟩:=h
     apply AW.step
     ·simp[← e21]
      intros;rfl
     cases v21 with
     |true =>
      replace h:=iteT rfl h
      refine AW.cond_true (by simp) ?_
      apply AW.step
      ·simp
       intros;rfl
      obtain rfl:=oi h
      refine AW.ret ?_
      try simp only[nm]
      refine rP_i ?_
      refine Left.of (av:=_) (by simp[Try.f101,resV,resC,comp];rfl) ?_
      exact LeftV.mix 1 [some 0] hn0 rfl (by decide) rfl (by simp[pickOb,Ab,Ac]) (by simp[Ab,Ac])
     |false =>
      replace h:=iteF rfl h
      refine AW.cond_false (by simp) ?_
      refine AW.skip ?_
      try simp only[nm]
      refine AW.seq ?_
      replace h:=ltE h;obtain⟨v22,e22,h⟩:=h
      replace h:=ltE h;obtain⟨v23,e23,h⟩:=h
      apply AW.step
      ·simp[← e22,← e23]
       intros;rfl
      cases v23 with
      |true =>
       replace h:=iteT rfl h
       refine AW.cond_true (by simp) ?_
       apply AW.step
       ·simp
        intros;rfl
       obtain rfl:=oi h
       refine AW.ret ?_
       try simp only[nm]
       refine rP_i ?_
       refine Left.of (av:=_) (by simp[Try.f101,resV,resC,comp];rfl) ?_
       exact LeftV.mix 1 [some 0] hn0 rfl (by decide) rfl (by simp[pickOb,Ab,Ac]) (by simp[Ab,Ac])
      |false =>
       replace h:=iteF rfl h
       refine AW.cond_false (by simp) ?_
       refine AW.skip ?_
       try simp only[nm]
       replace h:=ltE h;obtain⟨v24,e24,h⟩:=h
       replace h:=bnE h;obtain⟨v25,e25,h⟩:=h
       have f26:=Ai e25
       try simp[← e24,Aa e25] at f26
       replace h:=bnE h;obtain⟨v27,e27,h⟩:=h
       have f28:=Ai e27
       try simp[← e24,Aa e25,f26,Ag (Aa e25).2,lvs1,Aa e27] at f28
       have f29:=Ai e27
       try simp[← e24,Aa e25,f26,Ag (Aa e25).2,lvs1,Aa e27,f28,Ag (Aa e27).2] at f29
       replace h:=ltE h;obtain⟨v30,e30,h⟩:=h
       have f31:=AJ (Aa e27).2 e30 (cs:=[.s (.int .i64 v25)]) (by simp) rfl
       try simp at f31
       have f32:=f26
       try simp only[Af e30] at f32
       have f33:=f28
       try simp only[Af e30] at f33
       have f34:=f29
       try simp only[Af e30] at f34
       replace h:=bnE h;obtain⟨v35,e35,h⟩:=h
       have f36:=Ai e35
       try simp[← e24,Aa e25,f26,Ag (Aa e25).2,lvs1,Aa e27,f28,Ag (Aa e27).2,f29,Aj (Aa e27).2 (show 1≤1 by decide),f31,f32,f33,f34,Aa e35] at f36
       replace h:=ltE h;obtain⟨v37,e37,h⟩:=h
       have f38:=AJ (Aa e35).2 e37 (cs:=[.s (.int .i64 v27)]) (by simp) rfl
       try simp at f38
       have f39:=f26
       try simp only[Af e37] at f39
       have f40:=f28
       try simp only[Af e37] at f40
       have f41:=f29
       try simp only[Af e37] at f41
       have f42:=f32
       try simp only[Af e37] at f42
       have f43:=f33
       try simp only[Af e37] at f43
       have f44:=f34
       try simp only[Af e37] at f44
       have f45:=f36
       try simp only[Af e37] at f45
       apply AW.drawnE (V:=[_,_,_,_,_,_,_,_,_,_,_,_,_,_,_,_]) (M:=[[some ⟨3,1,false,some 0,lvs (encI y2.2.2)⟩],[some ⟨3,1,false,some 0,lvs (encI v30)⟩]]) mixed [⟨[0],[],[(0,none)],false⟩,⟨[0],[],[(7,none)],false⟩,⟨[0,1],[],[(0,none)],false⟩,⟨[0,1],[],[(7,none)],false⟩,⟨[0,1],[3],[(45,some 3)],false⟩,⟨[0],[],[(0,none)],false⟩,⟨[0],[],[(7,none)],false⟩,⟨[0],[6],[(48,some 6)],false⟩,⟨[0],[5,6,7],[(47,some 5),(49,some 7)],false⟩,⟨[0],[5,6,7,8],[(50,some 8)],false⟩,⟨[0],[],[(0,none)],false⟩,⟨[0],[],[(7,none)],false⟩,⟨[0],[10,11],[(52,some 10),(53,some 11)],false⟩,⟨[0],[10,11,12],[(54,some 12)],false⟩,⟨[0],[0,1,5,6,7,8,9,10,11,12,13],[(42,some 0),(43,some 1)],false⟩,⟨[0],[0,1,5,6,7,8,9,10,11,12,13,14],[(51,some 9),(56,some 14)],true⟩,⟨[],[0,1,2,3,4,5,6,7,8,9,10,11,12,13,14,15],[],false⟩,⟨[],[0,1,2,3,4,5,6,7,8,9,10,11,12,13,14,15,16],[],false⟩] 16 1 (by kernel_rfl) (by kernel_rfl)
       ·rfl
       ·refine⟨?_,?_,⟨?_,?_⟩,⟨?_,?_⟩,⟨?_,?_⟩,?_,?_,?_,?_,?_,?_,?_,?_,?_,?_,?_,trivial⟩
        iterate 19 (· intro tm hr;simp[AllL,rdV] at hr;simp[hr,← e24,Aa e25,f26,Ag (Aa e25).2,lvs1,Aa e27,f28,Ag (Aa e27).2,f29,Aj (Aa e27).2 (show 1≤1 by decide),f31,f32,f33,f34,Aa e35,f36,Af e30,Aj (Aa e35).2 (show 1≤1 by decide),f38,f39,f40,f41,f42,f43,f44,f45];intros;first|exact KD.mk|exact KD.mkN)
       ·rfl
       ·simp[tmD,putD,← e24,Aa e25,f26,Ag (Aa e25).2,lvs1,Aa e27,f28,Ag (Aa e27).2,f29,Aj (Aa e27).2 (show 1≤1 by decide),f31,f32,f33,f34,Aa e35,f36,Af e30,Aj (Aa e35).2 (show 1≤1 by decide),f38,f39,f40,f41,f42,f43,f44,f45];rfl
       ·simp[← e24,Aa e25,f26,Ag (Aa e25).2,lvs1,Aa e27,f28,Ag (Aa e27).2,f29,Aj (Aa e27).2 (show 1≤1 by decide),f31,f32,f33,f34,Aa e35,f36,Af e30,Aj (Aa e35).2 (show 1≤1 by decide),f38,f39,f40,f41,f42,f43,f44,f45]
        intros;rfl
       replace h:=bnE h;obtain⟨y46,g46,h⟩:=h
       refine AW.flow (p:=fun gh ls=>(nP (cx:=cx) (fun q=>(⟨[(0,.l (.r 0 1 0 q.length)),(1,.l (.s (.int .i64 a1))),(2,.l (.s (.int .i64 a2))),(7,.l (.s (.int .i64 y8))),(8,.l (.s (.int .i64 y2.2.1)))],[some ⟨3,1,false,some 0,lvs (encI q)⟩],133,gh,ls⟩:St))) y46) ?_ ?_
       ·replace h:=g46;clear g46
        replace h:=ltE h;obtain⟨v47,e47,h⟩:=h
        replace h:=ltE h;obtain⟨v48,e48,h⟩:=h
        apply AW.step
        ·simp[← e47,← e48]
         intros;rfl
        cases v48 with
        |true =>
         replace h:=iteT rfl h
         refine AW.cond_true (by simp) ?_
         apply AW.step
         ·simp[← e24]
          intros;rfl
         refine AW.block ?_
         replace h:=bnE h;obtain⟨y50,g50,h⟩:=h
         refine AW.iterP g50 (mk:=fun gh ls q=>(⟨[(0,.l (.r 0 1 0 q.2.length)),(1,.l (.s (.int .i64 a1))),(2,.l (.s (.int .i64 a2))),(7,.l (.s (.int .i64 y8))),(8,.l (.s (.int .i64 y2.2.1))),(9,.l (.s (.int .i64 q.1)))],[some ⟨3,1,false,some 0,lvs (encI q.2)⟩],133,gh,ls⟩:St)) (N:=fun gh ls=>(xP 4 (cx:=cx) (fun q=>(⟨[(0,.l (.r 0 1 0 q.length)),(1,.l (.s (.int .i64 a1))),(2,.l (.s (.int .i64 a2))),(7,.l (.s (.int .i64 y8))),(8,.l (.s (.int .i64 y2.2.1)))],[some ⟨3,1,false,some 0,lvs (encI q)⟩],133,gh,ls⟩:St)))) ?_ noX ?_ ?_
         ·refine Weak.mixB 1 [some 0] hn0 (by decide) (by decide) ?_ ?_ ?_
          all_goals first|(simp[Ab,Ac,pickOb,Af e30,Af e37];done)|rfl
         ·clear h;intro y49 y51 h
          refine AW.seq ?_
          replace h:=ltE h;obtain⟨v52,e52,h⟩:=h
          apply AW.step
          ·simp[← e52]
           intros;rfl
          cases v52 with
          |true =>
           replace h:=iteT rfl h
           refine AW.cond_true (by simp) ?_
           refine AW.skip ?_
           try simp only[nm]
           refine AW.seq ?_
           refine AW.block ?_
           refine AW.seq ?_
           replace h:=bnE h;obtain⟨v53,e53,h⟩:=h
           have f54:=Ai e53
           try simp[Aa e53] at f54
           replace h:=ltE h;obtain⟨v55,e55,h⟩:=h
           replace h:=bnE h;obtain⟨v56,e56,h⟩:=h
           have f57:=Ai e56
           try simp[Aa e53,f54,Ag (Aa e53).2,lvs1,← e55,Aa e56] at f57
           replace h:=bnE h;obtain⟨v58,e58,h⟩:=h
           replace h:=ltE h;obtain⟨v59,e59,h⟩:=h
           apply AW.drawnP (V:=[_,_,_,_,_,_,_,_,_]) mixed [⟨[0],[],[(0,none)],false⟩,⟨[0],[],[(9,none)],false⟩,⟨[0],[0,1],[(68,some 0),(69,some 1)],false⟩,⟨[0],[0,1,2],[(70,some 2)],false⟩,⟨[0],[],[(0,none)],false⟩,⟨[0],[],[(9,none)],false⟩,⟨[0],[5],[(73,some 5)],false⟩,⟨[0],[4,5,6],[(72,some 4),(74,some 6)],false⟩,⟨[0],[4,5,6,7],[(75,some 7)],false⟩,⟨[],[0,1,2,3,4,5,6,7,8],[],false⟩,⟨[],[0,1,2,3,4,5,6,7,8,9],[],false⟩] 9 (by kernel_rfl) (by kernel_rfl)
           ·refine⟨?_,?_,?_,?_,?_,?_,?_,?_,?_,trivial⟩
            iterate 9 (· intro tm hr;simp[AllL,rdV] at hr;simp[hr,Aa e53,f54,Ag (Aa e53).2,lvs1,← e55,Aa e56,f57,Ag (Aa e56).2,← e59];intros;first|exact KD.mk|exact KD.mkN)
           ·rfl
           ·simp[tmD,putD,Aa e53,f54,Ag (Aa e53).2,lvs1,← e55,Aa e56,f57,Ag (Aa e56).2,← e59];rfl
           ·simp[Aa e53,f54,Ag (Aa e53).2,lvs1,← e55,Aa e56,f57,Ag (Aa e56).2,← e59]
            intros
            refine Ah A2 (A7 e58) rfl ⟨.same rfl,.same rfl,trivial⟩ ?_
            try simp[Aa e53,f54,Ag (Aa e53).2,lvs1,← e55,Aa e56,f57,Ag (Aa e56).2,← e59]
            intros;rfl
           cases v59 with
           |true =>
            replace h:=iteT rfl h
            refine AW.cond_true (by simp) ?_
            refine AW.exit ?_
            try simp only[nm]
            obtain rfl:=oi h
            refine xP_i ?_
            refine Weak.mixB 1 [some 0] hn0 (by decide) (by decide) ?_ ?_ ?_
            all_goals first|(simp[Ab,Ac,pickOb];done)|rfl
           |false =>
            replace h:=iteF rfl h
            refine AW.cond_false (by simp) ?_
            refine AW.skip ?_
            try simp only[nm]
            have f60:=Ai e56
            try simp[← e55,Aa e56] at f60
            have f61:=Ai e53
            try simp[← e55,Aa e56,f60,Ag (Aa e56).2,lvs1,Aa e53] at f61
            have f62:=Ai e53
            try simp[← e55,Aa e56,f60,Ag (Aa e56).2,lvs1,Aa e53,f61,Ag (Aa e53).2] at f62
            replace h:=ltE h;obtain⟨v63,e63,h⟩:=h
            have f64:=AJ (Aa e53).2 e63 (cs:=[.s (.int .i64 v56)]) (by simp) rfl
            try simp at f64
            have f65:=f60
            try simp only[Af e63] at f65
            have f66:=f61
            try simp only[Af e63] at f66
            have f67:=f62
            try simp only[Af e63] at f67
            replace h:=bnE h;obtain⟨v68,e68,h⟩:=h
            have f69:=Ai e68
            try simp[← e55,Aa e56,f60,Ag (Aa e56).2,lvs1,Aa e53,f61,Ag (Aa e53).2,f62,Aj (Aa e53).2 (show 1≤1 by decide),f64,f65,f66,f67,Aa e68] at f69
            replace h:=ltE h;obtain⟨v70,e70,h⟩:=h
            have f71:=AJ (Aa e68).2 e70 (cs:=[.s (.int .i64 v53)]) (by simp) rfl
            try simp at f71
            have f72:=f60
            try simp only[Af e70] at f72
            have f73:=f61
            try simp only[Af e70] at f73
            have f74:=f62
            try simp only[Af e70] at f74
            have f75:=f65
            try simp only[Af e70] at f75
            have f76:=f66
            try simp only[Af e70] at f76
            have f77:=f67
            try simp only[Af e70] at f77
            have f78:=f69
            try simp only[Af e70] at f78
            apply AW.drawnF (V:=[_,_,_,_,_,_,_,_,_,_,_,_,_,_,_,_]) (M:=[[some ⟨3,1,false,some 0,lvs (encI y49.2)⟩],[some ⟨3,1,false,some 0,lvs (encI v63)⟩]]) mixed [⟨[0],[],[(0,none)],false⟩,⟨[0],[],[(9,none)],false⟩,⟨[0,1],[],[(0,none)],false⟩,⟨[0,1],[],[(9,none)],false⟩,⟨[0,1],[3],[(82,some 3)],false⟩,⟨[0],[],[(0,none)],false⟩,⟨[0],[],[(9,none)],false⟩,⟨[0],[6],[(85,some 6)],false⟩,⟨[0],[5,6,7],[(84,some 5),(86,some 7)],false⟩,⟨[0],[5,6,7,8],[(87,some 8)],false⟩,⟨[0],[],[(0,none)],false⟩,⟨[0],[],[(9,none)],false⟩,⟨[0],[10,11],[(89,some 10),(90,some 11)],false⟩,⟨[0],[10,11,12],[(91,some 12)],false⟩,⟨[0],[0,1,5,6,7,8,9,10,11,12,13],[(79,some 0),(80,some 1)],false⟩,⟨[0],[0,1,5,6,7,8,9,10,11,12,13,14],[(88,some 9),(93,some 14)],true⟩,⟨[],[0,1,2,3,4,5,6,7,8,9,10,11,12,13,14,15],[],false⟩,⟨[],[0,1,2,3,4,5,6,7,8,9,10,11,12,13,14,15,16],[],false⟩] 16 1 (by kernel_rfl) (by kernel_rfl)
            ·rfl
            ·refine⟨?_,?_,⟨?_,?_⟩,⟨?_,?_⟩,⟨?_,?_⟩,?_,?_,?_,?_,?_,?_,?_,?_,?_,?_,?_,trivial⟩
             iterate 19 (· intro tm hr;simp[AllL,rdV] at hr;simp[hr,← e55,Aa e56,f60,Ag (Aa e56).2,lvs1,Aa e53,f61,Ag (Aa e53).2,f62,Aj (Aa e53).2 (show 1≤1 by decide),f64,f65,f66,f67,Aa e68,f69,Af e63,Aj (Aa e68).2 (show 1≤1 by decide),f71,f72,f73,f74,f75,f76,f77,f78];intros;first|exact KD.mk|exact KD.mkN)
            ·rfl
            ·simp[tmD,putD,← e55,Aa e56,f60,Ag (Aa e56).2,lvs1,Aa e53,f61,Ag (Aa e53).2,f62,Aj (Aa e53).2 (show 1≤1 by decide),f64,f65,f66,f67,Aa e68,f69,Af e63,Aj (Aa e68).2 (show 1≤1 by decide),f71,f72,f73,f74,f75,f76,f77,f78];rfl
            ·simp[← e55,Aa e56,f60,Ag (Aa e56).2,lvs1,Aa e53,f61,Ag (Aa e53).2,f62,Aj (Aa e53).2 (show 1≤1 by decide),f64,f65,f66,f67,Aa e68,f69,Af e63,Aj (Aa e68).2 (show 1≤1 by decide),f71,f72,f73,f74,f75,f76,f77,f78]
             intros;rfl
            try simp only[nm]
            apply AW.last
            ·simp[← e55]
             intros;rfl
            obtain rfl:=oi h
            refine nP_i ?_
            refine Weak.mixB 1 [some 0] hn0 (by decide) (by decide) ?_ ?_ ?_
            all_goals first|(simp[Ab,Ac,pickOb,Af e63,Af e70];done)|rfl
          |false =>
           replace h:=iteF rfl h
           refine AW.cond_false (by simp) ?_
           refine AW.exit ?_
           try simp only[nm]
           obtain rfl:=oi h
           refine xP_i ?_
           refine Weak.mixB 1 [some 0] hn0 (by decide) (by decide) ?_ ?_ ?_
           all_goals first|(simp[Ab,Ac,pickOb];done)|rfl
         ·rintro e s hp
          obtain⟨rfl,hw⟩:=hp
          refine⟨_,hw,?_⟩
          try simp only[nm]
          obtain rfl:=oi h
          refine nP_i ?_
          refine Weak.mixB 1 [some 0] hn0 (by decide) (by decide) ?_ ?_ ?_
          all_goals first|(simp[Ab,Ac,pickOb];done)|rfl
        |false =>
         replace h:=iteF rfl h
         refine AW.cond_false (by simp) ?_
         refine AW.skip ?_
         try simp only[nm]
         obtain rfl:=oi h
         refine nP_i ?_
         refine Weak.mixB 1 [some 0] hn0 (by decide) (by decide) ?_ ?_ ?_
         all_goals first|(simp[Ab,Ac,pickOb,Af e30,Af e37];done)|rfl
       ·rintro e s hp
        obtain⟨rfl,hw⟩:=hp
        refine⟨_,hw,?_⟩
        try simp only[nm]
        replace h:=ltE h;obtain⟨v79,e79,h⟩:=h
        replace h:=ltE h;obtain⟨v80,e80,h⟩:=h
        apply AW.step
        ·simp[← e79,← e80]
         intros;rfl
        cases v80 with
        |true =>
         replace h:=iteT rfl h
         refine AW.cond_true (by simp) ?_
         replace h:=ltE h;obtain⟨v81,e81,h⟩:=h
         apply AW.step
         ·simp[← e81]
          intros;rfl
         refine AW.block ?_
         replace h:=bnE h;obtain⟨y83,g83,h⟩:=h
         refine AW.iterP g83 (mk:=fun gh ls q=>(⟨[(0,.l (.r 0 1 0 q.2.length)),(1,.l (.s (.int .i64 a1))),(2,.l (.s (.int .i64 a2))),(7,.l (.s (.int .i64 y8))),(8,.l (.s (.int .i64 y2.2.1))),(10,.l (.s (.int .i64 q.1)))],[some ⟨3,1,false,some 0,lvs (encI q.2)⟩],133,gh,ls⟩:St)) (N:=fun gh ls=>(xP 6 (cx:=cx) (fun q=>(⟨[(0,.l (.r 0 1 0 q.length)),(1,.l (.s (.int .i64 a1))),(2,.l (.s (.int .i64 a2))),(7,.l (.s (.int .i64 y8))),(8,.l (.s (.int .i64 y2.2.1)))],[some ⟨3,1,false,some 0,lvs (encI q)⟩],133,gh,ls⟩:St)))) ?_ noX ?_ ?_
         ·refine Weak.mixB 1 [some 0] hn0 (by decide) (by decide) ?_ ?_ ?_
          all_goals first|(simp[Ab,Ac,pickOb];done)|rfl
         ·clear h;intro y82 y84 h
          refine AW.seq ?_
          replace h:=ltE h;obtain⟨v85,e85,h⟩:=h
          apply AW.step
          ·simp[← e85]
           intros;rfl
          cases v85 with
          |true =>
           replace h:=iteT rfl h
           refine AW.cond_true (by simp) ?_
           refine AW.skip ?_
           try simp only[nm]
           refine AW.seq ?_
           refine AW.block ?_
           refine AW.seq ?_
           replace h:=bnE h;obtain⟨v86,e86,h⟩:=h
           have f87:=Ai e86
           try simp[Aa e86] at f87
           replace h:=ltE h;obtain⟨v88,e88,h⟩:=h
           replace h:=bnE h;obtain⟨v89,e89,h⟩:=h
           have f90:=Ai e89
           try simp[Aa e86,f87,Ag (Aa e86).2,lvs1,← e88,Aa e89] at f90
           replace h:=bnE h;obtain⟨v91,e91,h⟩:=h
           replace h:=ltE h;obtain⟨v92,e92,h⟩:=h
           apply AW.drawnP (V:=[_,_,_,_,_,_,_,_,_]) mixed [⟨[0],[],[(0,none)],false⟩,⟨[0],[],[(10,none)],false⟩,⟨[0],[0,1],[(106,some 0),(107,some 1)],false⟩,⟨[0],[0,1,2],[(108,some 2)],false⟩,⟨[0],[],[(0,none)],false⟩,⟨[0],[],[(10,none)],false⟩,⟨[0],[5],[(111,some 5)],false⟩,⟨[0],[4,5,6],[(110,some 4),(112,some 6)],false⟩,⟨[0],[4,5,6,7],[(113,some 7)],false⟩,⟨[],[0,1,2,3,4,5,6,7,8],[],false⟩,⟨[],[0,1,2,3,4,5,6,7,8,9],[],false⟩] 9 (by kernel_rfl) (by kernel_rfl)
           ·refine⟨?_,?_,?_,?_,?_,?_,?_,?_,?_,trivial⟩
            iterate 9 (· intro tm hr;simp[AllL,rdV] at hr;simp[hr,Aa e86,f87,Ag (Aa e86).2,lvs1,← e88,Aa e89,f90,Ag (Aa e89).2,← e92];intros;first|exact KD.mk|exact KD.mkN)
           ·rfl
           ·simp[tmD,putD,Aa e86,f87,Ag (Aa e86).2,lvs1,← e88,Aa e89,f90,Ag (Aa e89).2,← e92];rfl
           ·simp[Aa e86,f87,Ag (Aa e86).2,lvs1,← e88,Aa e89,f90,Ag (Aa e89).2,← e92]
            intros
            refine Ah A2 (A7 e91) rfl ⟨.same rfl,.same rfl,trivial⟩ ?_
            try simp[Aa e86,f87,Ag (Aa e86).2,lvs1,← e88,Aa e89,f90,Ag (Aa e89).2,← e92]
            intros;rfl
           cases v92 with
           |true =>
            replace h:=iteT rfl h
            refine AW.cond_true (by simp) ?_
            refine AW.exit ?_
            try simp only[nm]
            obtain rfl:=oi h
            refine xP_i ?_
            refine Weak.mixB 1 [some 0] hn0 (by decide) (by decide) ?_ ?_ ?_
            all_goals first|(simp[Ab,Ac,pickOb];done)|rfl
           |false =>
            replace h:=iteF rfl h
            refine AW.cond_false (by simp) ?_
            refine AW.skip ?_
            try simp only[nm]
            have f93:=Ai e89
            try simp[← e88,Aa e89] at f93
            have f94:=Ai e86
            try simp[← e88,Aa e89,f93,Ag (Aa e89).2,lvs1,Aa e86] at f94
            have f95:=Ai e86
            try simp[← e88,Aa e89,f93,Ag (Aa e89).2,lvs1,Aa e86,f94,Ag (Aa e86).2] at f95
            replace h:=ltE h;obtain⟨v96,e96,h⟩:=h
            have f97:=AJ (Aa e86).2 e96 (cs:=[.s (.int .i64 v89)]) (by simp) rfl
            try simp at f97
            have f98:=f93
            try simp only[Af e96] at f98
            have f99:=f94
            try simp only[Af e96] at f99
            have f100:=f95
            try simp only[Af e96] at f100
            replace h:=bnE h;obtain⟨v101,e101,h⟩:=h
            have f102:=Ai e101
            try simp[← e88,Aa e89,f93,Ag (Aa e89).2,lvs1,Aa e86,f94,Ag (Aa e86).2,f95,Aj (Aa e86).2 (show 1≤1 by decide),f97,f98,f99,f100,Aa e101] at f102
            replace h:=ltE h;obtain⟨v103,e103,h⟩:=h
            have f104:=AJ (Aa e101).2 e103 (cs:=[.s (.int .i64 v86)]) (by simp) rfl
            try simp at f104
            have f105:=f93
            try simp only[Af e103] at f105
            have f106:=f94
            try simp only[Af e103] at f106
            have f107:=f95
            try simp only[Af e103] at f107
            have f108:=f98
            try simp only[Af e103] at f108
            have f109:=f99
            try simp only[Af e103] at f109
            have f110:=f100
            try simp only[Af e103] at f110
            have f111:=f102
            try simp only[Af e103] at f111
            apply AW.drawnF (V:=[_,_,_,_,_,_,_,_,_,_,_,_,_,_,_,_]) (M:=[[some ⟨3,1,false,some 0,lvs (encI y82.2)⟩],[some ⟨3,1,false,some 0,lvs (encI v96)⟩]]) mixed [⟨[0],[],[(0,none)],false⟩,⟨[0],[],[(10,none)],false⟩,⟨[0,1],[],[(0,none)],false⟩,⟨[0,1],[],[(10,none)],false⟩,⟨[0,1],[3],[(120,some 3)],false⟩,⟨[0],[],[(0,none)],false⟩,⟨[0],[],[(10,none)],false⟩,⟨[0],[6],[(123,some 6)],false⟩,⟨[0],[5,6,7],[(122,some 5),(124,some 7)],false⟩,⟨[0],[5,6,7,8],[(125,some 8)],false⟩,⟨[0],[],[(0,none)],false⟩,⟨[0],[],[(10,none)],false⟩,⟨[0],[10,11],[(127,some 10),(128,some 11)],false⟩,⟨[0],[10,11,12],[(129,some 12)],false⟩,⟨[0],[0,1,5,6,7,8,9,10,11,12,13],[(117,some 0),(118,some 1)],false⟩,⟨[0],[0,1,5,6,7,8,9,10,11,12,13,14],[(126,some 9),(131,some 14)],true⟩,⟨[],[0,1,2,3,4,5,6,7,8,9,10,11,12,13,14,15],[],false⟩,⟨[],[0,1,2,3,4,5,6,7,8,9,10,11,12,13,14,15,16],[],false⟩] 16 1 (by kernel_rfl) (by kernel_rfl)
            ·rfl
            ·refine⟨?_,?_,⟨?_,?_⟩,⟨?_,?_⟩,⟨?_,?_⟩,?_,?_,?_,?_,?_,?_,?_,?_,?_,?_,?_,trivial⟩
             iterate 19 (· intro tm hr;simp[AllL,rdV] at hr;simp[hr,← e88,Aa e89,f93,Ag (Aa e89).2,lvs1,Aa e86,f94,Ag (Aa e86).2,f95,Aj (Aa e86).2 (show 1≤1 by decide),f97,f98,f99,f100,Aa e101,f102,Af e96,Aj (Aa e101).2 (show 1≤1 by decide),f104,f105,f106,f107,f108,f109,f110,f111];intros;first|exact KD.mk|exact KD.mkN)
            ·rfl
            ·simp[tmD,putD,← e88,Aa e89,f93,Ag (Aa e89).2,lvs1,Aa e86,f94,Ag (Aa e86).2,f95,Aj (Aa e86).2 (show 1≤1 by decide),f97,f98,f99,f100,Aa e101,f102,Af e96,Aj (Aa e101).2 (show 1≤1 by decide),f104,f105,f106,f107,f108,f109,f110,f111];rfl
            ·simp[← e88,Aa e89,f93,Ag (Aa e89).2,lvs1,Aa e86,f94,Ag (Aa e86).2,f95,Aj (Aa e86).2 (show 1≤1 by decide),f97,f98,f99,f100,Aa e101,f102,Af e96,Aj (Aa e101).2 (show 1≤1 by decide),f104,f105,f106,f107,f108,f109,f110,f111]
             intros;rfl
            try simp only[nm]
            replace h:=ltE h;obtain⟨v112,e112,h⟩:=h
            apply AW.last
            ·simp[← e112]
             intros;rfl
            obtain rfl:=oi h
            refine nP_i ?_
            refine Weak.mixB 1 [some 0] hn0 (by decide) (by decide) ?_ ?_ ?_
            all_goals first|(simp[Ab,Ac,pickOb,Af e103,Af e96];done)|rfl
          |false =>
           replace h:=iteF rfl h
           refine AW.cond_false (by simp) ?_
           refine AW.exit ?_
           try simp only[nm]
           obtain rfl:=oi h
           refine xP_i ?_
           refine Weak.mixB 1 [some 0] hn0 (by decide) (by decide) ?_ ?_ ?_
           all_goals first|(simp[Ab,Ac,pickOb];done)|rfl
         ·rintro e s hp
          obtain⟨rfl,hw⟩:=hp
          refine⟨_,hw,?_⟩
          try simp only[nm]
          obtain rfl:=oi h
          try simp only[sp_l,sp_r]
          refine nP_i ?_
          refine Weak.mixB 1 [some 0] hn0 (by decide) (by decide) ?_ ?_ ?_
          all_goals first|(simp[Ab,Ac,pickOb];done)|rfl
        |false =>
         replace h:=iteF rfl h
         refine AW.cond_false (by simp) ?_
         refine AW.skip ?_
         try simp only[nm]
         obtain rfl:=oi h
         try simp only[sp_l,sp_r]
         refine nP_i ?_
         refine Weak.mixB 1 [some 0] hn0 (by decide) (by decide) ?_ ?_ ?_
         all_goals first|(simp[Ab,Ac,pickOb];done)|rfl
   ·rintro e s hp
    rcases y6 with y113|y114
    ·replace h:=smL h
     obtain⟨rfl,hw⟩:=hp
     refine⟨_,hw,?_⟩
     try simp only[nm]
     replace h:=ltE h;obtain⟨v115,e115,h⟩:=h
     apply AW.last
     ·simp[← e115]
      intros;rfl
     obtain rfl:=oi h
     refine nP_i ?_
     refine Weak.mixB 1 [some 0] hn0 (by decide) (by decide) ?_ ?_ ?_
     all_goals first|(simp[Ab,Ac,pickOb];done)|rfl
    ·replace h:=smR h
     obtain⟨rfl,hl⟩:=hp
     refine⟨_,Weak.refl _,?_⟩
     obtain rfl:=oi h
     first|exact rP_i hl|(simp only[sp_l,sp_r];exact rP_i hl)|(simp only[sp_l,sp_r,Post.seq,Post.block,Nat.reduceEqDiff,reduceIte,Nat.zero_ne_one,Nat.one_ne_zero];exact rP_i hl)
  |false =>
   replace h:=iteF rfl h
   refine AW.cond_false (by simp) ?_
   refine AW.exit ?_
   try simp only[nm]
   obtain rfl:=oi h
   try simp only[sp_l,sp_r]
   refine xP_i ?_
   refine Weak.mixB 1 [some 0] hn0 (by decide) (by decide) ?_ ?_ ?_
   all_goals first|(simp[Ab,Ac,pickOb];done)|rfl
 ·rintro e s hp
  rcases y3 with y116|y117
  ·replace h:=smL h
   obtain⟨rfl,hw⟩:=hp
   refine⟨_,hw,?_⟩
   try simp only[nm]
   apply AW.step
   ·simp
    intros;rfl
   obtain rfl:=oi h
   refine AW.ret ?_
   refine Left.of (av:=_) (by simp[Try.f101,resV,resC,comp];rfl) ?_
   exact LeftV.mix 1 [some 0] hn0 rfl (by decide) rfl (by simp[pickOb,Ab,Ac]) (by simp[Ab,Ac])
  ·replace h:=smR h
   obtain⟨rfl,hl⟩:=hp
   refine⟨_,Weak.refl _,?_⟩
   obtain rfl:=oi h
   exact hl
theorem CH:Enters Try.prog 101:=enters Try.func101 (by kernel_rfl) rfl
def A9 (n:Nat) (a0:List Int) (a1:Int) (a2:Int) (a3:Int):Option (Int×List Int) :=
bn (nth a0 a3) fun v1 =>
bn (nth a0 a1) fun v3 =>
lt (a0.set a1.toNat v1) fun v6 =>
bn (nth v6 a3) fun v11 =>
lt (v6.set a3.toNat v3) fun v13 =>
lt (addI .i64 a1 1) fun v22 =>
lt (subI .i64 a2 1) fun v23 =>
bn (iter n (fun (y24:Int×Int×List Int) =>
bn (iter n (fun (y27:Int) =>
bn (lt (leI y27 y24.2.1) fun v31 =>
ite' v31 (bn (nth y24.2.2 a1) fun v32 =>
bn (nth y24.2.2 y27) fun v34 =>
bn (AM n v32 v34) fun v36 =>
lt (notB v36) fun v37 =>
some (v37)) (some (false))) fun (y30:Bool) =>
lt (y30) fun v38 =>
ite' v38 (lt (addI .i64 y27 1) fun v39 =>
some (.inl v39)) (some (.inr y27))) y24.1) fun (y28:Int) =>
bn (iter n (fun (y40:Int) =>
bn (lt (leI y28 y40) fun v44 =>
ite' v44 (bn (nth y24.2.2 a1) fun v45 =>
bn (nth y24.2.2 y40) fun v47 =>
bn (AM n v45 v47) fun v49 =>
some (v49)) (some (false))) fun (y43:Bool) =>
lt (y43) fun v50 =>
ite' v50 (lt (subI .i64 y40 1) fun v51 =>
some (.inl v51)) (some (.inr y40))) y24.2.1) fun (y41:Int) =>
lt (gtI y28 y41) fun v52 =>
ite' v52 (some (.inr (y28,y24.2.2))) (bn (nth y24.2.2 y41) fun v53 =>
bn (nth y24.2.2 y28) fun v55 =>
lt (y24.2.2.set y28.toNat v53) fun v58 =>
bn (nth v58 y41) fun v63 =>
lt (v58.set y41.toNat v55) fun v65 =>
lt (addI .i64 y28 1) fun v74 =>
lt (subI .i64 y41 1) fun v75 =>
some (.inl (v74,v75,v65)))) (v22,v23,v13)) fun (y25:Int×List Int) =>
some (y25.1,y25.2)
def DX21t4:List DI:=[⟨[0],[],[(9,none)],false⟩,⟨[0],[],[(10,none)],false⟩,⟨[0],[0,1],[(29,some 0),(30,some 1)],false⟩,⟨[0],[0,1,2],[(31,some 2)],false⟩,⟨[0],[0,1,2,3],[(0,none),(32,some 3)],false⟩,⟨[0],[0,1,2,3],[(1,none),(32,some 3)],false⟩,⟨[0],[0,1,2,3,4,5],[(32,some 3),(33,some 4),(34,some 5)],false⟩,⟨[0],[0,1,2,3,4,5,6],[(32,some 3),(35,some 6)],false⟩,⟨[0],[0,1,2,3],[(0,none),(32,some 3)],false⟩,⟨[0],[0,1,2,3],[(9,none),(32,some 3)],false⟩,⟨[0],[0,1,2,3,8,9],[(32,some 3),(37,some 8),(38,some 9)],false⟩,⟨[0],[0,1,2,3,8,9,10],[(32,some 3),(39,some 10)],false⟩,⟨[],[0,1,2,3,4,5,6,7,8,9,10,11],[],false⟩,⟨[],[0,1,2,3,4,5,6,7,8,9,10,11,12],[],false⟩,⟨[],[0,1,2,3,4,5,6,7,8,9,10,11,12,13],[],false⟩]
def DX21t5:List DI:=[⟨[0],[],[(9,none)],false⟩,⟨[0],[],[(10,none)],false⟩,⟨[0],[0,1],[(46,some 0),(47,some 1)],false⟩,⟨[0],[0,1,2],[(48,some 2)],false⟩,⟨[0],[0,1,2,3],[(0,none),(49,some 3)],false⟩,⟨[0],[0,1,2,3],[(1,none),(49,some 3)],false⟩,⟨[0],[0,1,2,3,4,5],[(49,some 3),(50,some 4),(51,some 5)],false⟩,⟨[0],[0,1,2,3,4,5,6],[(49,some 3),(52,some 6)],false⟩,⟨[0],[0,1,2,3],[(0,none),(49,some 3)],false⟩,⟨[0],[0,1,2,3],[(10,none),(49,some 3)],false⟩,⟨[0],[0,1,2,3,8,9],[(49,some 3),(54,some 8),(55,some 9)],false⟩,⟨[0],[0,1,2,3,8,9,10],[(49,some 3),(56,some 10)],false⟩,⟨[],[0,1,2,3,4,5,6,7,8,9,10,11],[],false⟩,⟨[],[0,1,2,3,4,5,6,7,8,9,10,11,12],[],false⟩]
theorem Dw {n:Nat} {a0:List Int} {a1:Int} {a2:Int} {a3:Int} {r:Int×List Int} (h:A9 n a0 a1 a2 a3=some r):Sound Try.prog 103 [.l (.r 0 1 0 a0.length),.l (.s (.int .i64 a1)),.l (.s (.int .i64 a2)),.l (.s (.int .i64 a3))] [⟨3,1,false,some 0,lvs (encI a0)⟩] (.l (.s (.int .i64 r.1))) [some ⟨3,1,false,some 0,lvs (encI r.2)⟩]:=by
 unfold A9 at h
 refine Sound.of_aw (fn:=Try.f103) (c:=_) Try.func103 rfl (by simp[Try.f103]) fun cx hG hnb=>?_
 rw[show Try.f103.ntmps=84 from rfl]
 have hn0:cx.nb=1:=hnb
 simp only[As,initTm,List.map_cons,List.map_nil]
 apply AW.step
 ·simp
  intros;rfl
 replace h:=bnE h;obtain⟨v1,e1,h⟩:=h
 have f2:=Ai e1
 try simp[Aa e1] at f2
 replace h:=bnE h;obtain⟨v3,e3,h⟩:=h
 have f4:=Ai e3
 try simp[Aa e1,f2,Ag (Aa e1).2,lvs1,Aa e3] at f4
 have f5:=Ai e3
 try simp[Aa e1,f2,Ag (Aa e1).2,lvs1,Aa e3,f4,Ag (Aa e3).2] at f5
 replace h:=ltE h;obtain⟨v6,e6,h⟩:=h
 have f7:=AJ (Aa e3).2 e6 (cs:=[.s (.int .i64 v1)]) (by simp) rfl
 try simp at f7
 have f8:=f2
 try simp only[Af e6] at f8
 have f9:=f4
 try simp only[Af e6] at f9
 have f10:=f5
 try simp only[Af e6] at f10
 replace h:=bnE h;obtain⟨v11,e11,h⟩:=h
 have f12:=Ai e11
 try simp[Aa e1,f2,Ag (Aa e1).2,lvs1,Aa e3,f4,Ag (Aa e3).2,f5,Aj (Aa e3).2 (show 1≤1 by decide),f7,f8,f9,f10,Aa e11] at f12
 replace h:=ltE h;obtain⟨v13,e13,h⟩:=h
 have f14:=AJ (Aa e11).2 e13 (cs:=[.s (.int .i64 v3)]) (by simp) rfl
 try simp at f14
 have f15:=f2
 try simp only[Af e13] at f15
 have f16:=f4
 try simp only[Af e13] at f16
 have f17:=f5
 try simp only[Af e13] at f17
 have f18:=f8
 try simp only[Af e13] at f18
 have f19:=f9
 try simp only[Af e13] at f19
 have f20:=f10
 try simp only[Af e13] at f20
 have f21:=f12
 try simp only[Af e13] at f21
 apply AW.drawnE (V:=[_,_,_,_,_,_,_,_,_,_,_,_,_,_]) (M:=[[some ⟨3,1,false,some 0,lvs (encI a0)⟩],[some ⟨3,1,false,some 0,lvs (encI v6)⟩]]) mixed [⟨[0],[],[(0,none)],false⟩,⟨[0],[],[(1,none)],false⟩,⟨[0,1],[],[(0,none)],false⟩,⟨[0,1],[],[(3,none)],false⟩,⟨[0],[],[(0,none)],false⟩,⟨[0],[],[(3,none)],false⟩,⟨[0],[4,5],[(15,some 4),(16,some 5)],false⟩,⟨[0],[4,5,6],[(17,some 6)],false⟩,⟨[0],[],[(0,none)],false⟩,⟨[0],[],[(1,none)],false⟩,⟨[0],[8,9],[(19,some 8),(20,some 9)],false⟩,⟨[0],[8,9,10],[(21,some 10)],false⟩,⟨[0],[0,1,4,5,6,7,8,9,10,11],[(11,some 0),(12,some 1)],false⟩,⟨[0],[0,1,4,5,6,7,8,9,10,11,12],[(18,some 7),(23,some 12)],true⟩,⟨[],[0,1,2,3,4,5,6,7,8,9,10,11,12,13],[],false⟩,⟨[],[0,1,2,3,4,5,6,7,8,9,10,11,12,13,14],[],false⟩] 14 1 (by kernel_rfl) (by kernel_rfl)
 ·rfl
 ·refine⟨?_,?_,⟨?_,?_⟩,⟨?_,?_⟩,?_,?_,?_,?_,?_,?_,?_,?_,?_,?_,trivial⟩
  iterate 16 (· intro tm hr;simp[AllL,rdV] at hr;simp[hr,Aa e1,f2,Ag (Aa e1).2,lvs1,Aa e3,f4,Ag (Aa e3).2,f5,Aj (Aa e3).2 (show 1≤1 by decide),f7,f8,f9,f10,Aa e11,f12,Af e6,Aj (Aa e11).2 (show 1≤1 by decide),f14,f15,f16,f17,f18,f19,f20,f21];intros;first|exact KD.mk|exact KD.mkN)
 ·rfl
 ·simp[tmD,putD,Aa e1,f2,Ag (Aa e1).2,lvs1,Aa e3,f4,Ag (Aa e3).2,f5,Aj (Aa e3).2 (show 1≤1 by decide),f7,f8,f9,f10,Aa e11,f12,Af e6,Aj (Aa e11).2 (show 1≤1 by decide),f14,f15,f16,f17,f18,f19,f20,f21];rfl
 ·simp[Aa e1,f2,Ag (Aa e1).2,lvs1,Aa e3,f4,Ag (Aa e3).2,f5,Aj (Aa e3).2 (show 1≤1 by decide),f7,f8,f9,f10,Aa e11,f12,Af e6,Aj (Aa e11).2 (show 1≤1 by decide),f14,f15,f16,f17,f18,f19,f20,f21]
  intros;rfl
 replace h:=ltE h;obtain⟨v22,e22,h⟩:=h
 replace h:=ltE h;obtain⟨v23,e23,h⟩:=h
 apply AW.step
 ·simp[← e22,← e23]
  intros;rfl
 refine AW.seq ?_
 refine AW.block ?_
 replace h:=bnE h;obtain⟨y25,g25,h⟩:=h
 refine AW.iterP g25 (mk:=fun gh ls q=>(⟨[(0,.l (.r 0 1 0 q.2.2.length)),(1,.l (.s (.int .i64 a1))),(9,.l (.s (.int .i64 q.1))),(10,.l (.s (.int .i64 q.2.1)))],[some ⟨3,1,false,some 0,lvs (encI q.2.2)⟩],84,gh,ls⟩:St)) (N:=fun gh ls=>(xP 0 (cx:=cx) (fun q=>(⟨[(9,.l (.s (.int .i64 q.1)))],[some ⟨3,1,false,some 0,lvs (encI q.2)⟩],84,gh,ls⟩:St)))) ?_ noX ?_ ?_
 ·refine Weak.mixB 1 [some 0] hn0 (by decide) (by decide) ?_ ?_ ?_
  all_goals first|(simp[Ab,Ac,pickOb,Af e13,Af e6];done)|rfl
 ·clear h;intro y24 y26 h
  refine AW.block ?_
  refine AW.seq ?_
  refine AW.block ?_
  replace h:=bnE h;obtain⟨y28,g28,h⟩:=h
  refine AW.iterP g28 (mk:=fun gh ls q=>(⟨[(0,.l (.r 0 1 0 y24.2.2.length)),(1,.l (.s (.int .i64 a1))),(9,.l (.s (.int .i64 q))),(10,.l (.s (.int .i64 y24.2.1)))],[some ⟨3,1,false,some 0,lvs (encI y24.2.2)⟩],84,gh,ls⟩:St)) (N:=fun gh ls=>(xP 2 (cx:=cx) (fun q=>(⟨[(0,.l (.r 0 1 0 y24.2.2.length)),(1,.l (.s (.int .i64 a1))),(9,.l (.s (.int .i64 q))),(10,.l (.s (.int .i64 y24.2.1)))],[some ⟨3,1,false,some 0,lvs (encI y24.2.2)⟩],84,gh,ls⟩:St)))) ?_ noX ?_ ?_
  ·refine Weak.mixB 1 [some 0] hn0 (by decide) (by decide) ?_ ?_ ?_
   all_goals first|(simp[Ab,Ac,pickOb];done)|rfl
  ·clear h;intro y27 y29 h
   refine AW.seq ?_
   replace h:=bnE h;obtain⟨y30,g30,h⟩:=h
   refine AW.flow (p:=fun gh ls=>(nP (cx:=cx) (fun q=>(⟨[(0,.l (.r 0 1 0 y24.2.2.length)),(1,.l (.s (.int .i64 a1))),(9,.l (.s (.int .i64 y27))),(10,.l (.s (.int .i64 y24.2.1))),(43,.l (.s (.bool q)))],[some ⟨3,1,false,some 0,lvs (encI y24.2.2)⟩],84,gh,ls⟩:St))) y30) ?_ ?_
   ·replace h:=g30;clear g30
    replace h:=ltE h;obtain⟨v31,e31,h⟩:=h
    cases v31 with
    |true =>
     replace h:=iteT rfl h
     replace h:=bnE h;obtain⟨v32,e32,h⟩:=h
     have f33:=Ai e32
     try simp[← e31,Aa e32] at f33
     replace h:=bnE h;obtain⟨v34,e34,h⟩:=h
     have f35:=Ai e34
     try simp[← e31,Aa e32,f33,Ag (Aa e32).2,lvs1,Aa e34] at f35
     replace h:=bnE h;obtain⟨v36,e36,h⟩:=h
     replace h:=ltE h;obtain⟨v37,e37,h⟩:=h
     apply AW.drawnR (V:=[_,_,_,_,_,_,_,_,_,_,_,_]) mixed DX21t4 12 (by kernel_rfl) (by kernel_rfl)
     ·refine⟨?_,?_,?_,?_,?_,?_,?_,?_,?_,?_,?_,?_,trivial⟩
      iterate 12 (· intro tm hr;simp[AllL,rdV] at hr;simp[hr,← e31,Aa e32,f33,Ag (Aa e32).2,lvs1,Aa e34,f35,Ag (Aa e34).2,← e37];intros;first|exact KD.mk|exact KD.mkN)
     ·rfl
     ·simp[tmD,putD,← e31,Aa e32,f33,Ag (Aa e32).2,lvs1,Aa e34,f35,Ag (Aa e34).2,← e37];rfl
     ·simp[← e31,Aa e32,f33,Ag (Aa e32).2,lvs1,Aa e34,f35,Ag (Aa e34).2,← e37]
      intros
      refine Ah A2 (A7 e36) rfl ⟨.same rfl,.same rfl,trivial⟩ ?_
      try simp[← e31,Aa e32,f33,Ag (Aa e32).2,lvs1,Aa e34,f35,Ag (Aa e34).2,← e37]
      intros;rfl
     obtain rfl:=oi h
     refine nP_i ?_
     refine Weak.mixB 1 [some 0] hn0 (by decide) (by decide) ?_ ?_ ?_
     all_goals first|(simp[Ab,Ac,pickOb];done)|rfl
    |false =>
     replace h:=iteF rfl h
     apply AW.drawnR (V:=[_,_,_,_,_,_,_,_,_,_,_,_]) mixed DX21t4 12 (by kernel_rfl) (by kernel_rfl)
     ·refine⟨?_,?_,?_,?_,?_,?_,?_,?_,?_,?_,?_,?_,trivial⟩
      iterate 12 (· intro tm hr;simp[AllL,rdV] at hr;simp[hr,← e31];intros;first|exact KD.mk|exact KD.mkN)
     ·rfl
     ·simp[tmD,putD,← e31];rfl
     ·simp[← e31]
      intros;rfl
     obtain rfl:=oi h
     refine nP_i ?_
     refine Weak.mixB 1 [some 0] hn0 (by decide) (by decide) ?_ ?_ ?_
     all_goals first|(simp[Ab,Ac,pickOb];done)|rfl
   ·rintro e s hp
    obtain⟨rfl,hw⟩:=hp
    refine⟨_,hw,?_⟩
    try simp only[nm]
    replace h:=ltE h;obtain⟨v38,e38,h⟩:=h
    rw[← e38]
    cases v38 with
    |true =>
     replace h:=iteT rfl h
     refine AW.cond_true (by simp) ?_
     refine AW.skip ?_
     try simp only[nm]
     refine AW.block ?_
     replace h:=ltE h;obtain⟨v39,e39,h⟩:=h
     apply AW.last
     ·simp[← e39]
      intros;rfl
     obtain rfl:=oi h
     refine nP_i ?_
     refine Weak.mixB 1 [some 0] hn0 (by decide) (by decide) ?_ ?_ ?_
     all_goals first|(simp[Ab,Ac,pickOb];done)|rfl
    |false =>
     replace h:=iteF rfl h
     refine AW.cond_false (by simp) ?_
     refine AW.exit ?_
     try simp only[nm]
     obtain rfl:=oi h
     refine xP_i ?_
     refine Weak.mixB 1 [some 0] hn0 (by decide) (by decide) ?_ ?_ ?_
     all_goals first|(simp[Ab,Ac,pickOb];done)|rfl
  ·rintro e s hp
   obtain⟨rfl,hw⟩:=hp
   refine⟨_,hw,?_⟩
   try simp only[nm]
   refine AW.seq ?_
   refine AW.block ?_
   replace h:=bnE h;obtain⟨y41,g41,h⟩:=h
   refine AW.iterP g41 (mk:=fun gh ls q=>(⟨[(0,.l (.r 0 1 0 y24.2.2.length)),(1,.l (.s (.int .i64 a1))),(9,.l (.s (.int .i64 y28))),(10,.l (.s (.int .i64 q)))],[some ⟨3,1,false,some 0,lvs (encI y24.2.2)⟩],84,gh,ls⟩:St)) (N:=fun gh ls=>(xP 4 (cx:=cx) (fun q=>(⟨[(0,.l (.r 0 1 0 y24.2.2.length)),(1,.l (.s (.int .i64 a1))),(9,.l (.s (.int .i64 y28))),(10,.l (.s (.int .i64 q)))],[some ⟨3,1,false,some 0,lvs (encI y24.2.2)⟩],84,gh,ls⟩:St)))) ?_ noX ?_ ?_
   ·refine Weak.mixB 1 [some 0] hn0 (by decide) (by decide) ?_ ?_ ?_
    all_goals first|(simp[Ab,Ac,pickOb];done)|rfl
   ·clear h;intro y40 y42 h
    refine AW.seq ?_
    replace h:=bnE h;obtain⟨y43,g43,h⟩:=h
    refine AW.flow (p:=fun gh ls=>(nP (cx:=cx) (fun q=>(⟨[(0,.l (.r 0 1 0 y24.2.2.length)),(1,.l (.s (.int .i64 a1))),(9,.l (.s (.int .i64 y28))),(10,.l (.s (.int .i64 y40))),(59,.l (.s (.bool q)))],[some ⟨3,1,false,some 0,lvs (encI y24.2.2)⟩],84,gh,ls⟩:St))) y43) ?_ ?_
    ·replace h:=g43;clear g43
     replace h:=ltE h;obtain⟨v44,e44,h⟩:=h
     cases v44 with
     |true =>
      replace h:=iteT rfl h
      replace h:=bnE h;obtain⟨v45,e45,h⟩:=h
      have f46:=Ai e45
      try simp[← e44,Aa e45] at f46
      replace h:=bnE h;obtain⟨v47,e47,h⟩:=h
      have f48:=Ai e47
      try simp[← e44,Aa e45,f46,Ag (Aa e45).2,lvs1,Aa e47] at f48
      replace h:=bnE h;obtain⟨v49,e49,h⟩:=h
      apply AW.drawnR (V:=[_,_,_,_,_,_,_,_,_,_,_,_]) mixed DX21t5 12 (by kernel_rfl) (by kernel_rfl)
      ·refine⟨?_,?_,?_,?_,?_,?_,?_,?_,?_,?_,?_,?_,trivial⟩
       iterate 12 (· intro tm hr;simp[AllL,rdV] at hr;simp[hr,← e44,Aa e45,f46,Ag (Aa e45).2,lvs1,Aa e47,f48,Ag (Aa e47).2];intros;first|exact KD.mk|exact KD.mkN)
      ·rfl
      ·simp[tmD,putD,← e44,Aa e45,f46,Ag (Aa e45).2,lvs1,Aa e47,f48,Ag (Aa e47).2];rfl
      ·simp[← e44,Aa e45,f46,Ag (Aa e45).2,lvs1,Aa e47,f48,Ag (Aa e47).2]
       intros
       refine Ah A2 (A7 e49) rfl ⟨.same rfl,.same rfl,trivial⟩ ?_
       try simp[← e44,Aa e45,f46,Ag (Aa e45).2,lvs1,Aa e47,f48,Ag (Aa e47).2]
       intros;rfl
      obtain rfl:=oi h
      refine nP_i ?_
      refine Weak.mixB 1 [some 0] hn0 (by decide) (by decide) ?_ ?_ ?_
      all_goals first|(simp[Ab,Ac,pickOb];done)|rfl
     |false =>
      replace h:=iteF rfl h
      apply AW.drawnR (V:=[_,_,_,_,_,_,_,_,_,_,_,_]) mixed DX21t5 12 (by kernel_rfl) (by kernel_rfl)
      ·refine⟨?_,?_,?_,?_,?_,?_,?_,?_,?_,?_,?_,?_,trivial⟩
       iterate 12 (· intro tm hr;simp[AllL,rdV] at hr;simp[hr,← e44];intros;first|exact KD.mk|exact KD.mkN)
      ·rfl
      ·simp[tmD,putD,← e44];rfl
      ·simp[← e44]
       intros;rfl
      obtain rfl:=oi h
      refine nP_i ?_
      refine Weak.mixB 1 [some 0] hn0 (by decide) (by decide) ?_ ?_ ?_
      all_goals first|(simp[Ab,Ac,pickOb];done)|rfl
    ·rintro e s hp
     obtain⟨rfl,hw⟩:=hp
     refine⟨_,hw,?_⟩
     try simp only[nm]
     replace h:=ltE h;obtain⟨v50,e50,h⟩:=h
     rw[← e50]
     cases v50 with
     |true =>
      replace h:=iteT rfl h
      refine AW.cond_true (by simp) ?_
      refine AW.skip ?_
      try simp only[nm]
      refine AW.block ?_
      replace h:=ltE h;obtain⟨v51,e51,h⟩:=h
      apply AW.last
      ·simp[← e51]
       intros;rfl
      obtain rfl:=oi h
      refine nP_i ?_
      refine Weak.mixB 1 [some 0] hn0 (by decide) (by decide) ?_ ?_ ?_
      all_goals first|(simp[Ab,Ac,pickOb];done)|rfl
     |false =>
      replace h:=iteF rfl h
      refine AW.cond_false (by simp) ?_
      refine AW.exit ?_
      try simp only[nm]
      obtain rfl:=oi h
      refine xP_i ?_
      refine Weak.mixB 1 [some 0] hn0 (by decide) (by decide) ?_ ?_ ?_
      all_goals first|(simp[Ab,Ac,pickOb];done)|rfl
   ·rintro e s hp
    obtain⟨rfl,hw⟩:=hp
    refine⟨_,hw,?_⟩
    try simp only[nm]
    refine AW.seq ?_
    replace h:=ltE h;obtain⟨v52,e52,h⟩:=h
    apply AW.step
    ·simp[← e52]
     intros;rfl
    cases v52 with
    |true =>
     replace h:=iteT rfl h
     refine AW.cond_true (by simp) ?_
     refine AW.exit ?_
     try simp only[nm]
     obtain rfl:=oi h
     refine xP_i ?_
     refine Weak.mixB 1 [some 0] hn0 (by decide) (by decide) ?_ ?_ ?_
     all_goals first|(simp[Ab,Ac,pickOb];done)|rfl
    |false =>
     replace h:=iteF rfl h
     refine AW.cond_false (by simp) ?_
     refine AW.skip ?_
     try simp only[nm]
     replace h:=bnE h;obtain⟨v53,e53,h⟩:=h
     have f54:=Ai e53
     try simp[Aa e53] at f54
     replace h:=bnE h;obtain⟨v55,e55,h⟩:=h
     have f56:=Ai e55
     try simp[Aa e53,f54,Ag (Aa e53).2,lvs1,Aa e55] at f56
     have f57:=Ai e55
     try simp[Aa e53,f54,Ag (Aa e53).2,lvs1,Aa e55,f56,Ag (Aa e55).2] at f57
     replace h:=ltE h;obtain⟨v58,e58,h⟩:=h
     have f59:=AJ (Aa e55).2 e58 (cs:=[.s (.int .i64 v53)]) (by simp) rfl
     try simp at f59
     have f60:=f54
     try simp only[Af e58] at f60
     have f61:=f56
     try simp only[Af e58] at f61
     have f62:=f57
     try simp only[Af e58] at f62
     replace h:=bnE h;obtain⟨v63,e63,h⟩:=h
     have f64:=Ai e63
     try simp[Aa e53,f54,Ag (Aa e53).2,lvs1,Aa e55,f56,Ag (Aa e55).2,f57,Aj (Aa e55).2 (show 1≤1 by decide),f59,f60,f61,f62,Aa e63] at f64
     replace h:=ltE h;obtain⟨v65,e65,h⟩:=h
     have f66:=AJ (Aa e63).2 e65 (cs:=[.s (.int .i64 v55)]) (by simp) rfl
     try simp at f66
     have f67:=f54
     try simp only[Af e65] at f67
     have f68:=f56
     try simp only[Af e65] at f68
     have f69:=f57
     try simp only[Af e65] at f69
     have f70:=f60
     try simp only[Af e65] at f70
     have f71:=f61
     try simp only[Af e65] at f71
     have f72:=f62
     try simp only[Af e65] at f72
     have f73:=f64
     try simp only[Af e65] at f73
     apply AW.drawnE (V:=[_,_,_,_,_,_,_,_,_,_,_,_,_,_]) (M:=[[some ⟨3,1,false,some 0,lvs (encI y24.2.2)⟩],[some ⟨3,1,false,some 0,lvs (encI v58)⟩]]) mixed [⟨[0],[],[(0,none)],false⟩,⟨[0],[],[(9,none)],false⟩,⟨[0,1],[],[(0,none)],false⟩,⟨[0,1],[],[(10,none)],false⟩,⟨[0],[],[(0,none)],false⟩,⟨[0],[],[(10,none)],false⟩,⟨[0],[4,5],[(69,some 4),(70,some 5)],false⟩,⟨[0],[4,5,6],[(71,some 6)],false⟩,⟨[0],[],[(0,none)],false⟩,⟨[0],[],[(9,none)],false⟩,⟨[0],[8,9],[(73,some 8),(74,some 9)],false⟩,⟨[0],[8,9,10],[(75,some 10)],false⟩,⟨[0],[0,1,4,5,6,7,8,9,10,11],[(65,some 0),(66,some 1)],false⟩,⟨[0],[0,1,4,5,6,7,8,9,10,11,12],[(72,some 7),(77,some 12)],true⟩,⟨[],[0,1,2,3,4,5,6,7,8,9,10,11,12,13],[],false⟩,⟨[],[0,1,2,3,4,5,6,7,8,9,10,11,12,13,14],[],false⟩] 14 1 (by kernel_rfl) (by kernel_rfl)
     ·rfl
     ·refine⟨?_,?_,⟨?_,?_⟩,⟨?_,?_⟩,?_,?_,?_,?_,?_,?_,?_,?_,?_,?_,trivial⟩
      iterate 16 (· intro tm hr;simp[AllL,rdV] at hr;simp[hr,Aa e53,f54,Ag (Aa e53).2,lvs1,Aa e55,f56,Ag (Aa e55).2,f57,Aj (Aa e55).2 (show 1≤1 by decide),f59,f60,f61,f62,Aa e63,f64,Af e58,Aj (Aa e63).2 (show 1≤1 by decide),f66,f67,f68,f69,f70,f71,f72,f73];intros;first|exact KD.mk|exact KD.mkN)
     ·rfl
     ·simp[tmD,putD,Aa e53,f54,Ag (Aa e53).2,lvs1,Aa e55,f56,Ag (Aa e55).2,f57,Aj (Aa e55).2 (show 1≤1 by decide),f59,f60,f61,f62,Aa e63,f64,Af e58,Aj (Aa e63).2 (show 1≤1 by decide),f66,f67,f68,f69,f70,f71,f72,f73];rfl
     ·simp[Aa e53,f54,Ag (Aa e53).2,lvs1,Aa e55,f56,Ag (Aa e55).2,f57,Aj (Aa e55).2 (show 1≤1 by decide),f59,f60,f61,f62,Aa e63,f64,Af e58,Aj (Aa e63).2 (show 1≤1 by decide),f66,f67,f68,f69,f70,f71,f72,f73]
      intros;rfl
     replace h:=ltE h;obtain⟨v74,e74,h⟩:=h
     apply AW.step
     ·simp[← e74]
      intros;rfl
     replace h:=ltE h;obtain⟨v75,e75,h⟩:=h
     apply AW.last
     ·simp[← e75]
      intros;rfl
     obtain rfl:=oi h
     refine nP_i ?_
     refine Weak.mixB 1 [some 0] hn0 (by decide) (by decide) ?_ ?_ ?_
     all_goals first|(simp[Ab,Ac,pickOb,Af e58,Af e65];done)|rfl
 ·rintro e s hp
  obtain⟨rfl,hw⟩:=hp
  refine⟨_,hw,?_⟩
  try simp only[nm]
  apply AW.step
  ·simp
   intros;rfl
  obtain rfl:=oi h
  refine AW.ret ?_
  refine Left.of (av:=_) (by simp[Try.f103,resV,resC,comp];rfl) ?_
  exact LeftV.mix 1 [some 0] hn0 rfl (by decide) rfl (by simp[pickOb,Ab,Ac]) (by simp[Ab,Ac])
theorem Do:Enters Try.prog 103:=enters Try.func103 (by kernel_rfl) rfl
def Bq (n:Nat) (a0:List Int) (a1:Int) (a2:Int) (a3:Int):Option (Int×Bool×List Int) :=
bn (nth a0 a3) fun v1 =>
bn (nth a0 a1) fun v3 =>
lt (a0.set a1.toNat v1) fun v6 =>
bn (nth v6 a3) fun v11 =>
lt (v6.set a3.toNat v3) fun v13 =>
lt (addI .i64 a1 1) fun v22 =>
lt (subI .i64 a2 1) fun v23 =>
bn (iter n (fun (y24:Int) =>
bn (lt (leI y24 v23) fun v28 =>
ite' v28 (bn (nth v13 y24) fun v29 =>
bn (nth v13 a1) fun v31 =>
bn (AM n v29 v31) fun v33 =>
some (v33)) (some (false))) fun (y27:Bool) =>
lt (y27) fun v34 =>
ite' v34 (lt (addI .i64 y24 1) fun v35 =>
some (.inl v35)) (some (.inr y24))) v22) fun (y25:Int) =>
bn (iter n (fun (y36:Int) =>
bn (lt (leI y25 y36) fun v40 =>
ite' v40 (bn (nth v13 y36) fun v41 =>
bn (nth v13 a1) fun v43 =>
bn (AM n v41 v43) fun v45 =>
lt (notB v45) fun v46 =>
some (v46)) (some (false))) fun (y39:Bool) =>
lt (y39) fun v47 =>
ite' v47 (lt (subI .i64 y36 1) fun v48 =>
some (.inl v48)) (some (.inr y36))) v23) fun (y37:Int) =>
lt (gtI y25 y37) fun v49 =>
ite' v49 (bn (nth v13 a1) fun v50 =>
bn (nth v13 y37) fun v52 =>
lt (v13.set y37.toNat v50) fun v55 =>
bn (nth v55 a1) fun v60 =>
lt (v55.set a1.toNat v52) fun v62 =>
some (y37,true,v62)) (bn (nth v13 y37) fun v71 =>
bn (nth v13 y25) fun v73 =>
lt (v13.set y25.toNat v71) fun v76 =>
bn (nth v76 y37) fun v81 =>
lt (v76.set y37.toNat v73) fun v83 =>
lt (addI .i64 y25 1) fun v92 =>
lt (subI .i64 y37 1) fun v93 =>
bn (iter n (fun (y94:Int×Int×List Int) =>
bn (iter n (fun (y97:Int) =>
bn (lt (leI y97 y94.2.1) fun v101 =>
ite' v101 (bn (nth y94.2.2 y97) fun v102 =>
bn (nth y94.2.2 a1) fun v104 =>
bn (AM n v102 v104) fun v106 =>
some (v106)) (some (false))) fun (y100:Bool) =>
lt (y100) fun v107 =>
ite' v107 (lt (addI .i64 y97 1) fun v108 =>
some (.inl v108)) (some (.inr y97))) y94.1) fun (y98:Int) =>
bn (iter n (fun (y109:Int) =>
bn (lt (leI y98 y109) fun v113 =>
ite' v113 (bn (nth y94.2.2 y109) fun v114 =>
bn (nth y94.2.2 a1) fun v116 =>
bn (AM n v114 v116) fun v118 =>
lt (notB v118) fun v119 =>
some (v119)) (some (false))) fun (y112:Bool) =>
lt (y112) fun v120 =>
ite' v120 (lt (subI .i64 y109 1) fun v121 =>
some (.inl v121)) (some (.inr y109))) y94.2.1) fun (y110:Int) =>
lt (gtI y98 y110) fun v122 =>
ite' v122 (some (.inr (y110,y94.2.2))) (bn (nth y94.2.2 y110) fun v123 =>
bn (nth y94.2.2 y98) fun v125 =>
lt (y94.2.2.set y98.toNat v123) fun v128 =>
bn (nth v128 y110) fun v133 =>
lt (v128.set y110.toNat v125) fun v135 =>
lt (addI .i64 y98 1) fun v144 =>
lt (subI .i64 y110 1) fun v145 =>
some (.inl (v144,v145,v135)))) (v92,v93,v83)) fun (y95:Int×List Int) =>
bn (nth y95.2 a1) fun v146 =>
bn (nth y95.2 y95.1) fun v148 =>
lt (y95.2.set y95.1.toNat v146) fun v151 =>
bn (nth v151 a1) fun v156 =>
lt (v151.set a1.toNat v148) fun v158 =>
some (y95.1,false,v158))
def DX21t6:List DI:=[⟨[0],[],[(10,none)],false⟩,⟨[0],[],[(11,none)],false⟩,⟨[0],[0,1],[(30,some 0),(31,some 1)],false⟩,⟨[0],[0,1,2],[(32,some 2)],false⟩,⟨[0],[0,1,2,3],[(0,none),(33,some 3)],false⟩,⟨[0],[0,1,2,3],[(10,none),(33,some 3)],false⟩,⟨[0],[0,1,2,3,4,5],[(33,some 3),(34,some 4),(35,some 5)],false⟩,⟨[0],[0,1,2,3,4,5,6],[(33,some 3),(36,some 6)],false⟩,⟨[0],[0,1,2,3],[(0,none),(33,some 3)],false⟩,⟨[0],[0,1,2,3],[(1,none),(33,some 3)],false⟩,⟨[0],[0,1,2,3,8,9],[(33,some 3),(38,some 8),(39,some 9)],false⟩,⟨[0],[0,1,2,3,8,9,10],[(33,some 3),(40,some 10)],false⟩,⟨[],[0,1,2,3,4,5,6,7,8,9,10,11],[],false⟩,⟨[],[0,1,2,3,4,5,6,7,8,9,10,11,12],[],false⟩]
def DX21t7:List DI:=[⟨[0],[],[(10,none)],false⟩,⟨[0],[],[(11,none)],false⟩,⟨[0],[0,1],[(46,some 0),(47,some 1)],false⟩,⟨[0],[0,1,2],[(48,some 2)],false⟩,⟨[0],[0,1,2,3],[(0,none),(49,some 3)],false⟩,⟨[0],[0,1,2,3],[(11,none),(49,some 3)],false⟩,⟨[0],[0,1,2,3,4,5],[(49,some 3),(50,some 4),(51,some 5)],false⟩,⟨[0],[0,1,2,3,4,5,6],[(49,some 3),(52,some 6)],false⟩,⟨[0],[0,1,2,3],[(0,none),(49,some 3)],false⟩,⟨[0],[0,1,2,3],[(1,none),(49,some 3)],false⟩,⟨[0],[0,1,2,3,8,9],[(49,some 3),(54,some 8),(55,some 9)],false⟩,⟨[0],[0,1,2,3,8,9,10],[(49,some 3),(56,some 10)],false⟩,⟨[],[0,1,2,3,4,5,6,7,8,9,10,11],[],false⟩,⟨[],[0,1,2,3,4,5,6,7,8,9,10,11,12],[],false⟩,⟨[],[0,1,2,3,4,5,6,7,8,9,10,11,12,13],[],false⟩]
def DX21t8:List DI:=[⟨[0],[],[(10,none)],false⟩,⟨[0],[],[(11,none)],false⟩,⟨[0],[0,1],[(99,some 0),(100,some 1)],false⟩,⟨[0],[0,1,2],[(101,some 2)],false⟩,⟨[0],[0,1,2,3],[(0,none),(102,some 3)],false⟩,⟨[0],[0,1,2,3],[(10,none),(102,some 3)],false⟩,⟨[0],[0,1,2,3,4,5],[(102,some 3),(103,some 4),(104,some 5)],false⟩,⟨[0],[0,1,2,3,4,5,6],[(102,some 3),(105,some 6)],false⟩,⟨[0],[0,1,2,3],[(0,none),(102,some 3)],false⟩,⟨[0],[0,1,2,3],[(1,none),(102,some 3)],false⟩,⟨[0],[0,1,2,3,8,9],[(102,some 3),(107,some 8),(108,some 9)],false⟩,⟨[0],[0,1,2,3,8,9,10],[(102,some 3),(109,some 10)],false⟩,⟨[],[0,1,2,3,4,5,6,7,8,9,10,11],[],false⟩,⟨[],[0,1,2,3,4,5,6,7,8,9,10,11,12],[],false⟩]
def DX21t9:List DI:=[⟨[0],[],[(10,none)],false⟩,⟨[0],[],[(11,none)],false⟩,⟨[0],[0,1],[(115,some 0),(116,some 1)],false⟩,⟨[0],[0,1,2],[(117,some 2)],false⟩,⟨[0],[0,1,2,3],[(0,none),(118,some 3)],false⟩,⟨[0],[0,1,2,3],[(11,none),(118,some 3)],false⟩,⟨[0],[0,1,2,3,4,5],[(118,some 3),(119,some 4),(120,some 5)],false⟩,⟨[0],[0,1,2,3,4,5,6],[(118,some 3),(121,some 6)],false⟩,⟨[0],[0,1,2,3],[(0,none),(118,some 3)],false⟩,⟨[0],[0,1,2,3],[(1,none),(118,some 3)],false⟩,⟨[0],[0,1,2,3,8,9],[(118,some 3),(123,some 8),(124,some 9)],false⟩,⟨[0],[0,1,2,3,8,9,10],[(118,some 3),(125,some 10)],false⟩,⟨[],[0,1,2,3,4,5,6,7,8,9,10,11],[],false⟩,⟨[],[0,1,2,3,4,5,6,7,8,9,10,11,12],[],false⟩,⟨[],[0,1,2,3,4,5,6,7,8,9,10,11,12,13],[],false⟩]
theorem D3 {n:Nat} {a0:List Int} {a1:Int} {a2:Int} {a3:Int} {r:Int×Bool×List Int} (h:Bq n a0 a1 a2 a3=some r):Sound Try.prog 104 [.l (.r 0 1 0 a0.length),.l (.s (.int .i64 a1)),.l (.s (.int .i64 a2)),.l (.s (.int .i64 a3))] [⟨3,1,false,some 0,lvs (encI a0)⟩] (.t [(false,[.s (.int .i64 r.1)]),(false,[.s (.bool r.2.1)])]) [some ⟨3,1,false,some 0,lvs (encI r.2.2)⟩]:=by
 unfold Bq at h
 refine Sound.of_aw (fn:=Try.f104) (c:=_) Try.func104 rfl (by simp[Try.f104]) fun cx hG hnb=>?_
 rw[show Try.f104.ntmps=168 from rfl]
 have hn0:cx.nb=1:=hnb
 simp only[As,initTm,List.map_cons,List.map_nil]
 apply AW.step
 ·simp
  intros;rfl
 replace h:=bnE h;obtain⟨v1,e1,h⟩:=h
 have f2:=Ai e1
 try simp[Aa e1] at f2
 replace h:=bnE h;obtain⟨v3,e3,h⟩:=h
 have f4:=Ai e3
 try simp[Aa e1,f2,Ag (Aa e1).2,lvs1,Aa e3] at f4
 have f5:=Ai e3
 try simp[Aa e1,f2,Ag (Aa e1).2,lvs1,Aa e3,f4,Ag (Aa e3).2] at f5
 replace h:=ltE h;obtain⟨v6,e6,h⟩:=h
 have f7:=AJ (Aa e3).2 e6 (cs:=[.s (.int .i64 v1)]) (by simp) rfl
 try simp at f7
 have f8:=f2
 try simp only[Af e6] at f8
 have f9:=f4
 try simp only[Af e6] at f9
 have f10:=f5
 try simp only[Af e6] at f10
 replace h:=bnE h;obtain⟨v11,e11,h⟩:=h
 have f12:=Ai e11
 try simp[Aa e1,f2,Ag (Aa e1).2,lvs1,Aa e3,f4,Ag (Aa e3).2,f5,Aj (Aa e3).2 (show 1≤1 by decide),f7,f8,f9,f10,Aa e11] at f12
 replace h:=ltE h;obtain⟨v13,e13,h⟩:=h
 have f14:=AJ (Aa e11).2 e13 (cs:=[.s (.int .i64 v3)]) (by simp) rfl
 try simp at f14
 have f15:=f2
 try simp only[Af e13] at f15
 have f16:=f4
 try simp only[Af e13] at f16
 have f17:=f5
 try simp only[Af e13] at f17
 have f18:=f8
 try simp only[Af e13] at f18
 have f19:=f9
 try simp only[Af e13] at f19
 have f20:=f10
 try simp only[Af e13] at f20
 have f21:=f12
 try simp only[Af e13] at f21
 apply AW.drawnE (V:=[_,_,_,_,_,_,_,_,_,_,_,_,_,_]) (M:=[[some ⟨3,1,false,some 0,lvs (encI a0)⟩],[some ⟨3,1,false,some 0,lvs (encI v6)⟩]]) mixed [⟨[0],[],[(0,none)],false⟩,⟨[0],[],[(1,none)],false⟩,⟨[0,1],[],[(0,none)],false⟩,⟨[0,1],[],[(3,none)],false⟩,⟨[0],[],[(0,none)],false⟩,⟨[0],[],[(3,none)],false⟩,⟨[0],[4,5],[(16,some 4),(17,some 5)],false⟩,⟨[0],[4,5,6],[(18,some 6)],false⟩,⟨[0],[],[(0,none)],false⟩,⟨[0],[],[(1,none)],false⟩,⟨[0],[8,9],[(20,some 8),(21,some 9)],false⟩,⟨[0],[8,9,10],[(22,some 10)],false⟩,⟨[0],[0,1,4,5,6,7,8,9,10,11],[(12,some 0),(13,some 1)],false⟩,⟨[0],[0,1,4,5,6,7,8,9,10,11,12],[(19,some 7),(24,some 12)],true⟩,⟨[],[0,1,2,3,4,5,6,7,8,9,10,11,12,13],[],false⟩,⟨[],[0,1,2,3,4,5,6,7,8,9,10,11,12,13,14],[],false⟩] 14 1 (by kernel_rfl) (by kernel_rfl)
 ·rfl
 ·refine⟨?_,?_,⟨?_,?_⟩,⟨?_,?_⟩,?_,?_,?_,?_,?_,?_,?_,?_,?_,?_,trivial⟩
  iterate 16 (· intro tm hr;simp[AllL,rdV] at hr;simp[hr,Aa e1,f2,Ag (Aa e1).2,lvs1,Aa e3,f4,Ag (Aa e3).2,f5,Aj (Aa e3).2 (show 1≤1 by decide),f7,f8,f9,f10,Aa e11,f12,Af e6,Aj (Aa e11).2 (show 1≤1 by decide),f14,f15,f16,f17,f18,f19,f20,f21];intros;first|exact KD.mk|exact KD.mkN)
 ·rfl
 ·simp[tmD,putD,Aa e1,f2,Ag (Aa e1).2,lvs1,Aa e3,f4,Ag (Aa e3).2,f5,Aj (Aa e3).2 (show 1≤1 by decide),f7,f8,f9,f10,Aa e11,f12,Af e6,Aj (Aa e11).2 (show 1≤1 by decide),f14,f15,f16,f17,f18,f19,f20,f21];rfl
 ·simp[Aa e1,f2,Ag (Aa e1).2,lvs1,Aa e3,f4,Ag (Aa e3).2,f5,Aj (Aa e3).2 (show 1≤1 by decide),f7,f8,f9,f10,Aa e11,f12,Af e6,Aj (Aa e11).2 (show 1≤1 by decide),f14,f15,f16,f17,f18,f19,f20,f21]
  intros;rfl
 replace h:=ltE h;obtain⟨v22,e22,h⟩:=h
 replace h:=ltE h;obtain⟨v23,e23,h⟩:=h
 apply AW.step
 ·simp[← e22,← e23]
  intros;rfl
 refine AW.seq ?_
 refine AW.block ?_
 replace h:=bnE h;obtain⟨y25,g25,h⟩:=h
 refine AW.iterP g25 (mk:=fun gh ls q=>(⟨[(0,.l (.r 0 1 0 v13.length)),(1,.l (.s (.int .i64 a1))),(10,.l (.s (.int .i64 q))),(11,.l (.s (.int .i64 v23)))],[some ⟨3,1,false,some 0,lvs (encI v13)⟩],168,gh,ls⟩:St)) (N:=fun gh ls=>(xP 0 (cx:=cx) (fun q=>(⟨[(0,.l (.r 0 1 0 v13.length)),(1,.l (.s (.int .i64 a1))),(10,.l (.s (.int .i64 q))),(11,.l (.s (.int .i64 v23)))],[some ⟨3,1,false,some 0,lvs (encI v13)⟩],168,gh,ls⟩:St)))) ?_ noX ?_ ?_
 ·refine Weak.mixB 1 [some 0] hn0 (by decide) (by decide) ?_ ?_ ?_
  all_goals first|(simp[Ab,Ac,pickOb,Af e13,Af e6];done)|rfl
 ·clear h;intro y24 y26 h
  refine AW.seq ?_
  replace h:=bnE h;obtain⟨y27,g27,h⟩:=h
  refine AW.flow (p:=fun gh ls=>(nP (cx:=cx) (fun q=>(⟨[(0,.l (.r 0 1 0 v13.length)),(1,.l (.s (.int .i64 a1))),(10,.l (.s (.int .i64 y24))),(11,.l (.s (.int .i64 v23))),(43,.l (.s (.bool q)))],[some ⟨3,1,false,some 0,lvs (encI v13)⟩],168,gh,ls⟩:St))) y27) ?_ ?_
  ·replace h:=g27;clear g27
   replace h:=ltE h;obtain⟨v28,e28,h⟩:=h
   cases v28 with
   |true =>
    replace h:=iteT rfl h
    replace h:=bnE h;obtain⟨v29,e29,h⟩:=h
    have f30:=Ai e29
    try simp[← e28,Aa e29] at f30
    replace h:=bnE h;obtain⟨v31,e31,h⟩:=h
    have f32:=Ai e31
    try simp[← e28,Aa e29,f30,Ag (Aa e29).2,lvs1,Aa e31] at f32
    replace h:=bnE h;obtain⟨v33,e33,h⟩:=h
    apply AW.drawnR (V:=[_,_,_,_,_,_,_,_,_,_,_,_]) mixed DX21t6 12 (by kernel_rfl) (by kernel_rfl)
    ·refine⟨?_,?_,?_,?_,?_,?_,?_,?_,?_,?_,?_,?_,trivial⟩
     iterate 12 (· intro tm hr;simp[AllL,rdV] at hr;simp[hr,← e28,Aa e29,f30,Ag (Aa e29).2,lvs1,Aa e31,f32,Ag (Aa e31).2];intros;first|exact KD.mk|exact KD.mkN)
    ·rfl
    ·simp[tmD,putD,← e28,Aa e29,f30,Ag (Aa e29).2,lvs1,Aa e31,f32,Ag (Aa e31).2];rfl
    ·simp[← e28,Aa e29,f30,Ag (Aa e29).2,lvs1,Aa e31,f32,Ag (Aa e31).2]
     intros
     refine Ah A2 (A7 e33) rfl ⟨.same rfl,.same rfl,trivial⟩ ?_
     try simp[← e28,Aa e29,f30,Ag (Aa e29).2,lvs1,Aa e31,f32,Ag (Aa e31).2]
     intros;rfl
    obtain rfl:=oi h
    refine nP_i ?_
    refine Weak.mixB 1 [some 0] hn0 (by decide) (by decide) ?_ ?_ ?_
    all_goals first|(simp[Ab,Ac,pickOb];done)|rfl
   |false =>
    replace h:=iteF rfl h
    apply AW.drawnR (V:=[_,_,_,_,_,_,_,_,_,_,_,_]) mixed DX21t6 12 (by kernel_rfl) (by kernel_rfl)
    ·refine⟨?_,?_,?_,?_,?_,?_,?_,?_,?_,?_,?_,?_,trivial⟩
     iterate 12 (· intro tm hr;simp[AllL,rdV] at hr;simp[hr,← e28];intros;first|exact KD.mk|exact KD.mkN)
    ·rfl
    ·simp[tmD,putD,← e28];rfl
    ·simp[← e28]
     intros;rfl
    obtain rfl:=oi h
    refine nP_i ?_
    refine Weak.mixB 1 [some 0] hn0 (by decide) (by decide) ?_ ?_ ?_
    all_goals first|(simp[Ab,Ac,pickOb];done)|rfl
  ·rintro e s hp
   obtain⟨rfl,hw⟩:=hp
   refine⟨_,hw,?_⟩
   try simp only[nm]
   replace h:=ltE h;obtain⟨v34,e34,h⟩:=h
   rw[← e34]
   cases v34 with
   |true =>
    replace h:=iteT rfl h
    refine AW.cond_true (by simp) ?_
    refine AW.skip ?_
    try simp only[nm]
    refine AW.block ?_
    replace h:=ltE h;obtain⟨v35,e35,h⟩:=h
    apply AW.last
    ·simp[← e35]
     intros;rfl
    obtain rfl:=oi h
    refine nP_i ?_
    refine Weak.mixB 1 [some 0] hn0 (by decide) (by decide) ?_ ?_ ?_
    all_goals first|(simp[Ab,Ac,pickOb];done)|rfl
   |false =>
    replace h:=iteF rfl h
    refine AW.cond_false (by simp) ?_
    refine AW.exit ?_
    try simp only[nm]
    obtain rfl:=oi h
    refine xP_i ?_
    refine Weak.mixB 1 [some 0] hn0 (by decide) (by decide) ?_ ?_ ?_
    all_goals first|(simp[Ab,Ac,pickOb];done)|rfl
 ·rintro e s hp
  obtain⟨rfl,hw⟩:=hp
  refine⟨_,hw,?_⟩
  try simp only[nm]
  refine AW.seq ?_
  refine AW.block ?_
  replace h:=bnE h;obtain⟨y37,g37,h⟩:=h
  refine AW.iterP g37 (mk:=fun gh ls q=>(⟨[(0,.l (.r 0 1 0 v13.length)),(1,.l (.s (.int .i64 a1))),(10,.l (.s (.int .i64 y25))),(11,.l (.s (.int .i64 q)))],[some ⟨3,1,false,some 0,lvs (encI v13)⟩],168,gh,ls⟩:St)) (N:=fun gh ls=>(xP 2 (cx:=cx) (fun q=>(⟨[(0,.l (.r 0 1 0 v13.length)),(1,.l (.s (.int .i64 a1))),(10,.l (.s (.int .i64 y25))),(11,.l (.s (.int .i64 q)))],[some ⟨3,1,false,some 0,lvs (encI v13)⟩],168,gh,ls⟩:St)))) ?_ noX ?_ ?_
  ·refine Weak.mixB 1 [some 0] hn0 (by decide) (by decide) ?_ ?_ ?_
   all_goals first|(simp[Ab,Ac,pickOb];done)|rfl
  ·clear h;intro y36 y38 h
   refine AW.seq ?_
   replace h:=bnE h;obtain⟨y39,g39,h⟩:=h
   refine AW.flow (p:=fun gh ls=>(nP (cx:=cx) (fun q=>(⟨[(0,.l (.r 0 1 0 v13.length)),(1,.l (.s (.int .i64 a1))),(10,.l (.s (.int .i64 y25))),(11,.l (.s (.int .i64 y36))),(60,.l (.s (.bool q)))],[some ⟨3,1,false,some 0,lvs (encI v13)⟩],168,gh,ls⟩:St))) y39) ?_ ?_
   ·replace h:=g39;clear g39
    replace h:=ltE h;obtain⟨v40,e40,h⟩:=h
    cases v40 with
    |true =>
     replace h:=iteT rfl h
     replace h:=bnE h;obtain⟨v41,e41,h⟩:=h
     have f42:=Ai e41
     try simp[← e40,Aa e41] at f42
     replace h:=bnE h;obtain⟨v43,e43,h⟩:=h
     have f44:=Ai e43
     try simp[← e40,Aa e41,f42,Ag (Aa e41).2,lvs1,Aa e43] at f44
     replace h:=bnE h;obtain⟨v45,e45,h⟩:=h
     replace h:=ltE h;obtain⟨v46,e46,h⟩:=h
     apply AW.drawnR (V:=[_,_,_,_,_,_,_,_,_,_,_,_]) mixed DX21t7 12 (by kernel_rfl) (by kernel_rfl)
     ·refine⟨?_,?_,?_,?_,?_,?_,?_,?_,?_,?_,?_,?_,trivial⟩
      iterate 12 (· intro tm hr;simp[AllL,rdV] at hr;simp[hr,← e40,Aa e41,f42,Ag (Aa e41).2,lvs1,Aa e43,f44,Ag (Aa e43).2,← e46];intros;first|exact KD.mk|exact KD.mkN)
     ·rfl
     ·simp[tmD,putD,← e40,Aa e41,f42,Ag (Aa e41).2,lvs1,Aa e43,f44,Ag (Aa e43).2,← e46];rfl
     ·simp[← e40,Aa e41,f42,Ag (Aa e41).2,lvs1,Aa e43,f44,Ag (Aa e43).2,← e46]
      intros
      refine Ah A2 (A7 e45) rfl ⟨.same rfl,.same rfl,trivial⟩ ?_
      try simp[← e40,Aa e41,f42,Ag (Aa e41).2,lvs1,Aa e43,f44,Ag (Aa e43).2,← e46]
      intros;rfl
     obtain rfl:=oi h
     refine nP_i ?_
     refine Weak.mixB 1 [some 0] hn0 (by decide) (by decide) ?_ ?_ ?_
     all_goals first|(simp[Ab,Ac,pickOb];done)|rfl
    |false =>
     replace h:=iteF rfl h
     apply AW.drawnR (V:=[_,_,_,_,_,_,_,_,_,_,_,_]) mixed DX21t7 12 (by kernel_rfl) (by kernel_rfl)
     ·refine⟨?_,?_,?_,?_,?_,?_,?_,?_,?_,?_,?_,?_,trivial⟩
      iterate 12 (· intro tm hr;simp[AllL,rdV] at hr;simp[hr,← e40];intros;first|exact KD.mk|exact KD.mkN)
     ·rfl
     ·simp[tmD,putD,← e40];rfl
     ·simp[← e40]
      intros;rfl
     obtain rfl:=oi h
     refine nP_i ?_
     refine Weak.mixB 1 [some 0] hn0 (by decide) (by decide) ?_ ?_ ?_
     all_goals first|(simp[Ab,Ac,pickOb];done)|rfl
   ·rintro e s hp
    obtain⟨rfl,hw⟩:=hp
    refine⟨_,hw,?_⟩
    try simp only[nm]
    replace h:=ltE h;obtain⟨v47,e47,h⟩:=h
    rw[← e47]
    cases v47 with
    |true =>
     replace h:=iteT rfl h
     refine AW.cond_true (by simp) ?_
     refine AW.skip ?_
     try simp only[nm]
     refine AW.block ?_
     replace h:=ltE h;obtain⟨v48,e48,h⟩:=h
     apply AW.last
     ·simp[← e48]
      intros;rfl
     obtain rfl:=oi h
     refine nP_i ?_
     refine Weak.mixB 1 [some 0] hn0 (by decide) (by decide) ?_ ?_ ?_
     all_goals first|(simp[Ab,Ac,pickOb];done)|rfl
    |false =>
     replace h:=iteF rfl h
     refine AW.cond_false (by simp) ?_
     refine AW.exit ?_
     try simp only[nm]
     obtain rfl:=oi h
     refine xP_i ?_
     refine Weak.mixB 1 [some 0] hn0 (by decide) (by decide) ?_ ?_ ?_
     all_goals first|(simp[Ab,Ac,pickOb];done)|rfl
  ·rintro e s hp
   obtain⟨rfl,hw⟩:=hp
   refine⟨_,hw,?_⟩
   try simp only[nm]
   refine AW.seq ?_
   replace h:=ltE h;obtain⟨v49,e49,h⟩:=h
   apply AW.step
   ·simp[← e49]
    intros;rfl
   cases v49 with
   |true =>
    replace h:=iteT rfl h
    refine AW.cond_true (by simp) ?_
    replace h:=bnE h;obtain⟨v50,e50,h⟩:=h
    have f51:=Ai e50
    try simp[Aa e50] at f51
    replace h:=bnE h;obtain⟨v52,e52,h⟩:=h
    have f53:=Ai e52
    try simp[Aa e50,f51,Ag (Aa e50).2,lvs1,Aa e52] at f53
    have f54:=Ai e52
    try simp[Aa e50,f51,Ag (Aa e50).2,lvs1,Aa e52,f53,Ag (Aa e52).2] at f54
    replace h:=ltE h;obtain⟨v55,e55,h⟩:=h
    have f56:=AJ (Aa e52).2 e55 (cs:=[.s (.int .i64 v50)]) (by simp) rfl
    try simp at f56
    have f57:=f51
    try simp only[Af e55] at f57
    have f58:=f53
    try simp only[Af e55] at f58
    have f59:=f54
    try simp only[Af e55] at f59
    replace h:=bnE h;obtain⟨v60,e60,h⟩:=h
    have f61:=Ai e60
    try simp[Aa e50,f51,Ag (Aa e50).2,lvs1,Aa e52,f53,Ag (Aa e52).2,f54,Aj (Aa e52).2 (show 1≤1 by decide),f56,f57,f58,f59,Aa e60] at f61
    replace h:=ltE h;obtain⟨v62,e62,h⟩:=h
    have f63:=AJ (Aa e60).2 e62 (cs:=[.s (.int .i64 v52)]) (by simp) rfl
    try simp at f63
    have f64:=f51
    try simp only[Af e62] at f64
    have f65:=f53
    try simp only[Af e62] at f65
    have f66:=f54
    try simp only[Af e62] at f66
    have f67:=f57
    try simp only[Af e62] at f67
    have f68:=f58
    try simp only[Af e62] at f68
    have f69:=f59
    try simp only[Af e62] at f69
    have f70:=f61
    try simp only[Af e62] at f70
    apply AW.drawnE (V:=[_,_,_,_,_,_,_,_,_,_,_,_,_,_]) (M:=[[some ⟨3,1,false,some 0,lvs (encI v13)⟩],[some ⟨3,1,false,some 0,lvs (encI v55)⟩]]) mixed [⟨[0],[],[(0,none)],false⟩,⟨[0],[],[(11,none)],false⟩,⟨[0,1],[],[(0,none)],false⟩,⟨[0,1],[],[(1,none)],false⟩,⟨[0],[],[(0,none)],false⟩,⟨[0],[],[(1,none)],false⟩,⟨[0],[4,5],[(70,some 4),(71,some 5)],false⟩,⟨[0],[4,5,6],[(72,some 6)],false⟩,⟨[0],[],[(0,none)],false⟩,⟨[0],[],[(11,none)],false⟩,⟨[0],[8,9],[(74,some 8),(75,some 9)],false⟩,⟨[0],[8,9,10],[(76,some 10)],false⟩,⟨[0],[0,1,4,5,6,7,8,9,10,11],[(66,some 0),(67,some 1)],false⟩,⟨[0],[0,1,4,5,6,7,8,9,10,11,12],[(73,some 7),(78,some 12)],true⟩,⟨[],[0,1,2,3,4,5,6,7,8,9,10,11,12,13],[],false⟩,⟨[],[0,1,2,3,4,5,6,7,8,9,10,11,12,13,14],[],false⟩] 14 1 (by kernel_rfl) (by kernel_rfl)
    ·rfl
    ·refine⟨?_,?_,⟨?_,?_⟩,⟨?_,?_⟩,?_,?_,?_,?_,?_,?_,?_,?_,?_,?_,trivial⟩
     iterate 16 (· intro tm hr;simp[AllL,rdV] at hr;simp[hr,Aa e50,f51,Ag (Aa e50).2,lvs1,Aa e52,f53,Ag (Aa e52).2,f54,Aj (Aa e52).2 (show 1≤1 by decide),f56,f57,f58,f59,Aa e60,f61,Af e55,Aj (Aa e60).2 (show 1≤1 by decide),f63,f64,f65,f66,f67,f68,f69,f70];intros;first|exact KD.mk|exact KD.mkN)
    ·rfl
    ·simp[tmD,putD,Aa e50,f51,Ag (Aa e50).2,lvs1,Aa e52,f53,Ag (Aa e52).2,f54,Aj (Aa e52).2 (show 1≤1 by decide),f56,f57,f58,f59,Aa e60,f61,Af e55,Aj (Aa e60).2 (show 1≤1 by decide),f63,f64,f65,f66,f67,f68,f69,f70];rfl
    ·simp[Aa e50,f51,Ag (Aa e50).2,lvs1,Aa e52,f53,Ag (Aa e52).2,f54,Aj (Aa e52).2 (show 1≤1 by decide),f56,f57,f58,f59,Aa e60,f61,Af e55,Aj (Aa e60).2 (show 1≤1 by decide),f63,f64,f65,f66,f67,f68,f69,f70]
     intros;rfl
    apply AW.step
    ·simp
     intros;rfl
    obtain rfl:=oi h
    refine AW.ret ?_
    refine Left.of (av:=_) (by simp[Try.f104,resV,resC,comp];rfl) ?_
    exact LeftV.mix 1 [some 0] hn0 rfl (by decide) rfl (by simp[pickOb,Ab,Ac,Af e55,Af e62]) (by simp[Ab,Ac,Af e55,Af e62])
   |false =>
    replace h:=iteF rfl h
    refine AW.cond_false (by simp) ?_
    refine AW.skip ?_
    try simp only[nm]
    replace h:=bnE h;obtain⟨v71,e71,h⟩:=h
    have f72:=Ai e71
    try simp[Aa e71] at f72
    replace h:=bnE h;obtain⟨v73,e73,h⟩:=h
    have f74:=Ai e73
    try simp[Aa e71,f72,Ag (Aa e71).2,lvs1,Aa e73] at f74
    have f75:=Ai e73
    try simp[Aa e71,f72,Ag (Aa e71).2,lvs1,Aa e73,f74,Ag (Aa e73).2] at f75
    replace h:=ltE h;obtain⟨v76,e76,h⟩:=h
    have f77:=AJ (Aa e73).2 e76 (cs:=[.s (.int .i64 v71)]) (by simp) rfl
    try simp at f77
    have f78:=f72
    try simp only[Af e76] at f78
    have f79:=f74
    try simp only[Af e76] at f79
    have f80:=f75
    try simp only[Af e76] at f80
    replace h:=bnE h;obtain⟨v81,e81,h⟩:=h
    have f82:=Ai e81
    try simp[Aa e71,f72,Ag (Aa e71).2,lvs1,Aa e73,f74,Ag (Aa e73).2,f75,Aj (Aa e73).2 (show 1≤1 by decide),f77,f78,f79,f80,Aa e81] at f82
    replace h:=ltE h;obtain⟨v83,e83,h⟩:=h
    have f84:=AJ (Aa e81).2 e83 (cs:=[.s (.int .i64 v73)]) (by simp) rfl
    try simp at f84
    have f85:=f72
    try simp only[Af e83] at f85
    have f86:=f74
    try simp only[Af e83] at f86
    have f87:=f75
    try simp only[Af e83] at f87
    have f88:=f78
    try simp only[Af e83] at f88
    have f89:=f79
    try simp only[Af e83] at f89
    have f90:=f80
    try simp only[Af e83] at f90
    have f91:=f82
    try simp only[Af e83] at f91
    apply AW.drawnE (V:=[_,_,_,_,_,_,_,_,_,_,_,_,_,_]) (M:=[[some ⟨3,1,false,some 0,lvs (encI v13)⟩],[some ⟨3,1,false,some 0,lvs (encI v76)⟩]]) mixed [⟨[0],[],[(0,none)],false⟩,⟨[0],[],[(10,none)],false⟩,⟨[0,1],[],[(0,none)],false⟩,⟨[0,1],[],[(11,none)],false⟩,⟨[0],[],[(0,none)],false⟩,⟨[0],[],[(11,none)],false⟩,⟨[0],[4,5],[(85,some 4),(86,some 5)],false⟩,⟨[0],[4,5,6],[(87,some 6)],false⟩,⟨[0],[],[(0,none)],false⟩,⟨[0],[],[(10,none)],false⟩,⟨[0],[8,9],[(89,some 8),(90,some 9)],false⟩,⟨[0],[8,9,10],[(91,some 10)],false⟩,⟨[0],[0,1,4,5,6,7,8,9,10,11],[(81,some 0),(82,some 1)],false⟩,⟨[0],[0,1,4,5,6,7,8,9,10,11,12],[(88,some 7),(93,some 12)],true⟩,⟨[],[0,1,2,3,4,5,6,7,8,9,10,11,12,13],[],false⟩,⟨[],[0,1,2,3,4,5,6,7,8,9,10,11,12,13,14],[],false⟩] 14 1 (by kernel_rfl) (by kernel_rfl)
    ·rfl
    ·refine⟨?_,?_,⟨?_,?_⟩,⟨?_,?_⟩,?_,?_,?_,?_,?_,?_,?_,?_,?_,?_,trivial⟩
     iterate 16 (· intro tm hr;simp[AllL,rdV] at hr;simp[hr,Aa e71,f72,Ag (Aa e71).2,lvs1,Aa e73,f74,Ag (Aa e73).2,f75,Aj (Aa e73).2 (show 1≤1 by decide),f77,f78,f79,f80,Aa e81,f82,Af e76,Aj (Aa e81).2 (show 1≤1 by decide),f84,f85,f86,f87,f88,f89,f90,f91];intros;first|exact KD.mk|exact KD.mkN)
    ·rfl
    ·simp[tmD,putD,Aa e71,f72,Ag (Aa e71).2,lvs1,Aa e73,f74,Ag (Aa e73).2,f75,Aj (Aa e73).2 (show 1≤1 by decide),f77,f78,f79,f80,Aa e81,f82,Af e76,Aj (Aa e81).2 (show 1≤1 by decide),f84,f85,f86,f87,f88,f89,f90,f91];rfl
    ·simp[Aa e71,f72,Ag (Aa e71).2,lvs1,Aa e73,f74,Ag (Aa e73).2,f75,Aj (Aa e73).2 (show 1≤1 by decide),f77,f78,f79,f80,Aa e81,f82,Af e76,Aj (Aa e81).2 (show 1≤1 by decide),f84,f85,f86,f87,f88,f89,f90,f91]
     intros;rfl
    replace h:=ltE h;obtain⟨v92,e92,h⟩:=h
    apply AW.step
    ·simp[← e92]
     intros;rfl
    replace h:=ltE h;obtain⟨v93,e93,h⟩:=h
    apply AW.step
    ·simp[← e93]
     intros;rfl
    refine AW.seq ?_
    refine AW.block ?_
    replace h:=bnE h;obtain⟨y95,g95,h⟩:=h
    refine AW.iterP g95 (mk:=fun gh ls q=>(⟨[(0,.l (.r 0 1 0 q.2.2.length)),(1,.l (.s (.int .i64 a1))),(10,.l (.s (.int .i64 q.1))),(11,.l (.s (.int .i64 q.2.1)))],[some ⟨3,1,false,some 0,lvs (encI q.2.2)⟩],168,gh,ls⟩:St)) (N:=fun gh ls=>(xP 4 (cx:=cx) (fun q=>(⟨[(0,.l (.r 0 1 0 q.2.length)),(1,.l (.s (.int .i64 a1))),(11,.l (.s (.int .i64 q.1)))],[some ⟨3,1,false,some 0,lvs (encI q.2)⟩],168,gh,ls⟩:St)))) ?_ noX ?_ ?_
    ·refine Weak.mixB 1 [some 0] hn0 (by decide) (by decide) ?_ ?_ ?_
     all_goals first|(simp[Ab,Ac,pickOb,Af e76,Af e83];done)|rfl
    ·clear h;intro y94 y96 h
     refine AW.block ?_
     refine AW.seq ?_
     refine AW.block ?_
     replace h:=bnE h;obtain⟨y98,g98,h⟩:=h
     refine AW.iterP g98 (mk:=fun gh ls q=>(⟨[(0,.l (.r 0 1 0 y94.2.2.length)),(1,.l (.s (.int .i64 a1))),(10,.l (.s (.int .i64 q))),(11,.l (.s (.int .i64 y94.2.1)))],[some ⟨3,1,false,some 0,lvs (encI y94.2.2)⟩],168,gh,ls⟩:St)) (N:=fun gh ls=>(xP 6 (cx:=cx) (fun q=>(⟨[(0,.l (.r 0 1 0 y94.2.2.length)),(1,.l (.s (.int .i64 a1))),(10,.l (.s (.int .i64 q))),(11,.l (.s (.int .i64 y94.2.1)))],[some ⟨3,1,false,some 0,lvs (encI y94.2.2)⟩],168,gh,ls⟩:St)))) ?_ noX ?_ ?_
     ·refine Weak.mixB 1 [some 0] hn0 (by decide) (by decide) ?_ ?_ ?_
      all_goals first|(simp[Ab,Ac,pickOb];done)|rfl
     ·clear h;intro y97 y99 h
      refine AW.seq ?_
      replace h:=bnE h;obtain⟨y100,g100,h⟩:=h
      refine AW.flow (p:=fun gh ls=>(nP (cx:=cx) (fun q=>(⟨[(0,.l (.r 0 1 0 y94.2.2.length)),(1,.l (.s (.int .i64 a1))),(10,.l (.s (.int .i64 y97))),(11,.l (.s (.int .i64 y94.2.1))),(112,.l (.s (.bool q)))],[some ⟨3,1,false,some 0,lvs (encI y94.2.2)⟩],168,gh,ls⟩:St))) y100) ?_ ?_
      ·replace h:=g100;clear g100
       replace h:=ltE h;obtain⟨v101,e101,h⟩:=h
       cases v101 with
       |true =>
        replace h:=iteT rfl h
        replace h:=bnE h;obtain⟨v102,e102,h⟩:=h
        have f103:=Ai e102
        try simp[← e101,Aa e102] at f103
        replace h:=bnE h;obtain⟨v104,e104,h⟩:=h
        have f105:=Ai e104
        try simp[← e101,Aa e102,f103,Ag (Aa e102).2,lvs1,Aa e104] at f105
        replace h:=bnE h;obtain⟨v106,e106,h⟩:=h
        apply AW.drawnR (V:=[_,_,_,_,_,_,_,_,_,_,_,_]) mixed DX21t8 12 (by kernel_rfl) (by kernel_rfl)
        ·refine⟨?_,?_,?_,?_,?_,?_,?_,?_,?_,?_,?_,?_,trivial⟩
         iterate 12 (· intro tm hr;simp[AllL,rdV] at hr;simp[hr,← e101,Aa e102,f103,Ag (Aa e102).2,lvs1,Aa e104,f105,Ag (Aa e104).2];intros;first|exact KD.mk|exact KD.mkN)
        ·rfl
        ·simp[tmD,putD,← e101,Aa e102,f103,Ag (Aa e102).2,lvs1,Aa e104,f105,Ag (Aa e104).2];rfl
        ·simp[← e101,Aa e102,f103,Ag (Aa e102).2,lvs1,Aa e104,f105,Ag (Aa e104).2]
         intros
         refine Ah A2 (A7 e106) rfl ⟨.same rfl,.same rfl,trivial⟩ ?_
         try simp[← e101,Aa e102,f103,Ag (Aa e102).2,lvs1,Aa e104,f105,Ag (Aa e104).2]
         intros;rfl
        obtain rfl:=oi h
        refine nP_i ?_
        refine Weak.mixB 1 [some 0] hn0 (by decide) (by decide) ?_ ?_ ?_
        all_goals first|(simp[Ab,Ac,pickOb];done)|rfl
       |false =>
        replace h:=iteF rfl h
        apply AW.drawnR (V:=[_,_,_,_,_,_,_,_,_,_,_,_]) mixed DX21t8 12 (by kernel_rfl) (by kernel_rfl)
        ·refine⟨?_,?_,?_,?_,?_,?_,?_,?_,?_,?_,?_,?_,trivial⟩
         iterate 12 (· intro tm hr;simp[AllL,rdV] at hr;simp[hr,← e101];intros;first|exact KD.mk|exact KD.mkN)
        ·rfl
        ·simp[tmD,putD,← e101];rfl
        ·simp[← e101]
         intros;rfl
        obtain rfl:=oi h
        refine nP_i ?_
        refine Weak.mixB 1 [some 0] hn0 (by decide) (by decide) ?_ ?_ ?_
        all_goals first|(simp[Ab,Ac,pickOb];done)|rfl
      ·rintro e s hp
       obtain⟨rfl,hw⟩:=hp
       refine⟨_,hw,?_⟩
       try simp only[nm]
       replace h:=ltE h;obtain⟨v107,e107,h⟩:=h
       rw[← e107]
       cases v107 with
       |true =>
        replace h:=iteT rfl h
        refine AW.cond_true (by simp) ?_
        refine AW.skip ?_
        try simp only[nm]
        refine AW.block ?_
        replace h:=ltE h;obtain⟨v108,e108,h⟩:=h
        apply AW.last
        ·simp[← e108]
         intros;rfl
        obtain rfl:=oi h
        refine nP_i ?_
        refine Weak.mixB 1 [some 0] hn0 (by decide) (by decide) ?_ ?_ ?_
        all_goals first|(simp[Ab,Ac,pickOb];done)|rfl
       |false =>
        replace h:=iteF rfl h
        refine AW.cond_false (by simp) ?_
        refine AW.exit ?_
        try simp only[nm]
        obtain rfl:=oi h
        refine xP_i ?_
        refine Weak.mixB 1 [some 0] hn0 (by decide) (by decide) ?_ ?_ ?_
        all_goals first|(simp[Ab,Ac,pickOb];done)|rfl
     ·rintro e s hp
      obtain⟨rfl,hw⟩:=hp
      refine⟨_,hw,?_⟩
      try simp only[nm]
      refine AW.seq ?_
      refine AW.block ?_
      replace h:=bnE h;obtain⟨y110,g110,h⟩:=h
      refine AW.iterP g110 (mk:=fun gh ls q=>(⟨[(0,.l (.r 0 1 0 y94.2.2.length)),(1,.l (.s (.int .i64 a1))),(10,.l (.s (.int .i64 y98))),(11,.l (.s (.int .i64 q)))],[some ⟨3,1,false,some 0,lvs (encI y94.2.2)⟩],168,gh,ls⟩:St)) (N:=fun gh ls=>(xP 8 (cx:=cx) (fun q=>(⟨[(0,.l (.r 0 1 0 y94.2.2.length)),(1,.l (.s (.int .i64 a1))),(10,.l (.s (.int .i64 y98))),(11,.l (.s (.int .i64 q)))],[some ⟨3,1,false,some 0,lvs (encI y94.2.2)⟩],168,gh,ls⟩:St)))) ?_ noX ?_ ?_
      ·refine Weak.mixB 1 [some 0] hn0 (by decide) (by decide) ?_ ?_ ?_
       all_goals first|(simp[Ab,Ac,pickOb];done)|rfl
      ·clear h;intro y109 y111 h
       refine AW.seq ?_
       replace h:=bnE h;obtain⟨y112,g112,h⟩:=h
       refine AW.flow (p:=fun gh ls=>(nP (cx:=cx) (fun q=>(⟨[(0,.l (.r 0 1 0 y94.2.2.length)),(1,.l (.s (.int .i64 a1))),(10,.l (.s (.int .i64 y98))),(11,.l (.s (.int .i64 y109))),(129,.l (.s (.bool q)))],[some ⟨3,1,false,some 0,lvs (encI y94.2.2)⟩],168,gh,ls⟩:St))) y112) ?_ ?_
       ·replace h:=g112;clear g112
        replace h:=ltE h;obtain⟨v113,e113,h⟩:=h
        cases v113 with
        |true =>
         replace h:=iteT rfl h
         replace h:=bnE h;obtain⟨v114,e114,h⟩:=h
         have f115:=Ai e114
         try simp[← e113,Aa e114] at f115
         replace h:=bnE h;obtain⟨v116,e116,h⟩:=h
         have f117:=Ai e116
         try simp[← e113,Aa e114,f115,Ag (Aa e114).2,lvs1,Aa e116] at f117
         replace h:=bnE h;obtain⟨v118,e118,h⟩:=h
         replace h:=ltE h;obtain⟨v119,e119,h⟩:=h
         apply AW.drawnR (V:=[_,_,_,_,_,_,_,_,_,_,_,_]) mixed DX21t9 12 (by kernel_rfl) (by kernel_rfl)
         ·refine⟨?_,?_,?_,?_,?_,?_,?_,?_,?_,?_,?_,?_,trivial⟩
          iterate 12 (· intro tm hr;simp[AllL,rdV] at hr;simp[hr,← e113,Aa e114,f115,Ag (Aa e114).2,lvs1,Aa e116,f117,Ag (Aa e116).2,← e119];intros;first|exact KD.mk|exact KD.mkN)
         ·rfl
         ·simp[tmD,putD,← e113,Aa e114,f115,Ag (Aa e114).2,lvs1,Aa e116,f117,Ag (Aa e116).2,← e119];rfl
         ·simp[← e113,Aa e114,f115,Ag (Aa e114).2,lvs1,Aa e116,f117,Ag (Aa e116).2,← e119]
          intros
          refine Ah A2 (A7 e118) rfl ⟨.same rfl,.same rfl,trivial⟩ ?_
          try simp[← e113,Aa e114,f115,Ag (Aa e114).2,lvs1,Aa e116,f117,Ag (Aa e116).2,← e119]
          intros;rfl
         obtain rfl:=oi h
         refine nP_i ?_
         refine Weak.mixB 1 [some 0] hn0 (by decide) (by decide) ?_ ?_ ?_
         all_goals first|(simp[Ab,Ac,pickOb];done)|rfl
        |false =>
         replace h:=iteF rfl h
         apply AW.drawnR (V:=[_,_,_,_,_,_,_,_,_,_,_,_]) mixed DX21t9 12 (by kernel_rfl) (by kernel_rfl)
         ·refine⟨?_,?_,?_,?_,?_,?_,?_,?_,?_,?_,?_,?_,trivial⟩
          iterate 12 (· intro tm hr;simp[AllL,rdV] at hr;simp[hr,← e113];intros;first|exact KD.mk|exact KD.mkN)
         ·rfl
         ·simp[tmD,putD,← e113];rfl
         ·simp[← e113]
          intros;rfl
         obtain rfl:=oi h
         refine nP_i ?_
         refine Weak.mixB 1 [some 0] hn0 (by decide) (by decide) ?_ ?_ ?_
         all_goals first|(simp[Ab,Ac,pickOb];done)|rfl
       ·rintro e s hp
        obtain⟨rfl,hw⟩:=hp
        refine⟨_,hw,?_⟩
        try simp only[nm]
        replace h:=ltE h;obtain⟨v120,e120,h⟩:=h
        rw[← e120]
        cases v120 with
        |true =>
         replace h:=iteT rfl h
         refine AW.cond_true (by simp) ?_
         refine AW.skip ?_
         try simp only[nm]
         refine AW.block ?_
         replace h:=ltE h;obtain⟨v121,e121,h⟩:=h
         apply AW.last
         ·simp[← e121]
          intros;rfl
         obtain rfl:=oi h
         refine nP_i ?_
         refine Weak.mixB 1 [some 0] hn0 (by decide) (by decide) ?_ ?_ ?_
         all_goals first|(simp[Ab,Ac,pickOb];done)|rfl
        |false =>
         replace h:=iteF rfl h
         refine AW.cond_false (by simp) ?_
         refine AW.exit ?_
         try simp only[nm]
         obtain rfl:=oi h
         refine xP_i ?_
         refine Weak.mixB 1 [some 0] hn0 (by decide) (by decide) ?_ ?_ ?_
         all_goals first|(simp[Ab,Ac,pickOb];done)|rfl
      ·rintro e s hp
       obtain⟨rfl,hw⟩:=hp
       refine⟨_,hw,?_⟩
       try simp only[nm]
       refine AW.seq ?_
       replace h:=ltE h;obtain⟨v122,e122,h⟩:=h
       apply AW.step
       ·simp[← e122]
        intros;rfl
       cases v122 with
       |true =>
        replace h:=iteT rfl h
        refine AW.cond_true (by simp) ?_
        refine AW.exit ?_
        try simp only[nm]
        obtain rfl:=oi h
        refine xP_i ?_
        refine Weak.mixB 1 [some 0] hn0 (by decide) (by decide) ?_ ?_ ?_
        all_goals first|(simp[Ab,Ac,pickOb];done)|rfl
       |false =>
        replace h:=iteF rfl h
        refine AW.cond_false (by simp) ?_
        refine AW.skip ?_
        try simp only[nm]
        replace h:=bnE h;obtain⟨v123,e123,h⟩:=h
        have f124:=Ai e123
        try simp[Aa e123] at f124
        replace h:=bnE h;obtain⟨v125,e125,h⟩:=h
        have f126:=Ai e125
        try simp[Aa e123,f124,Ag (Aa e123).2,lvs1,Aa e125] at f126
        have f127:=Ai e125
        try simp[Aa e123,f124,Ag (Aa e123).2,lvs1,Aa e125,f126,Ag (Aa e125).2] at f127
        replace h:=ltE h;obtain⟨v128,e128,h⟩:=h
        have f129:=AJ (Aa e125).2 e128 (cs:=[.s (.int .i64 v123)]) (by simp) rfl
        try simp at f129
        have f130:=f124
        try simp only[Af e128] at f130
        have f131:=f126
        try simp only[Af e128] at f131
        have f132:=f127
        try simp only[Af e128] at f132
        replace h:=bnE h;obtain⟨v133,e133,h⟩:=h
        have f134:=Ai e133
        try simp[Aa e123,f124,Ag (Aa e123).2,lvs1,Aa e125,f126,Ag (Aa e125).2,f127,Aj (Aa e125).2 (show 1≤1 by decide),f129,f130,f131,f132,Aa e133] at f134
        replace h:=ltE h;obtain⟨v135,e135,h⟩:=h
        have f136:=AJ (Aa e133).2 e135 (cs:=[.s (.int .i64 v125)]) (by simp) rfl
        try simp at f136
        have f137:=f124
        try simp only[Af e135] at f137
        have f138:=f126
        try simp only[Af e135] at f138
        have f139:=f127
        try simp only[Af e135] at f139
        have f140:=f130
        try simp only[Af e135] at f140
        have f141:=f131
        try simp only[Af e135] at f141
        have f142:=f132
        try simp only[Af e135] at f142
        have f143:=f134
        try simp only[Af e135] at f143
        apply AW.drawnE (V:=[_,_,_,_,_,_,_,_,_,_,_,_,_,_]) (M:=[[some ⟨3,1,false,some 0,lvs (encI y94.2.2)⟩],[some ⟨3,1,false,some 0,lvs (encI v128)⟩]]) mixed [⟨[0],[],[(0,none)],false⟩,⟨[0],[],[(10,none)],false⟩,⟨[0,1],[],[(0,none)],false⟩,⟨[0,1],[],[(11,none)],false⟩,⟨[0],[],[(0,none)],false⟩,⟨[0],[],[(11,none)],false⟩,⟨[0],[4,5],[(139,some 4),(140,some 5)],false⟩,⟨[0],[4,5,6],[(141,some 6)],false⟩,⟨[0],[],[(0,none)],false⟩,⟨[0],[],[(10,none)],false⟩,⟨[0],[8,9],[(143,some 8),(144,some 9)],false⟩,⟨[0],[8,9,10],[(145,some 10)],false⟩,⟨[0],[0,1,4,5,6,7,8,9,10,11],[(135,some 0),(136,some 1)],false⟩,⟨[0],[0,1,4,5,6,7,8,9,10,11,12],[(142,some 7),(147,some 12)],true⟩,⟨[],[0,1,2,3,4,5,6,7,8,9,10,11,12,13],[],false⟩,⟨[],[0,1,2,3,4,5,6,7,8,9,10,11,12,13,14],[],false⟩] 14 1 (by kernel_rfl) (by kernel_rfl)
        ·rfl
        ·refine⟨?_,?_,⟨?_,?_⟩,⟨?_,?_⟩,?_,?_,?_,?_,?_,?_,?_,?_,?_,?_,trivial⟩
         iterate 16 (· intro tm hr;simp[AllL,rdV] at hr;simp[hr,Aa e123,f124,Ag (Aa e123).2,lvs1,Aa e125,f126,Ag (Aa e125).2,f127,Aj (Aa e125).2 (show 1≤1 by decide),f129,f130,f131,f132,Aa e133,f134,Af e128,Aj (Aa e133).2 (show 1≤1 by decide),f136,f137,f138,f139,f140,f141,f142,f143];intros;first|exact KD.mk|exact KD.mkN)
        ·rfl
        ·simp[tmD,putD,Aa e123,f124,Ag (Aa e123).2,lvs1,Aa e125,f126,Ag (Aa e125).2,f127,Aj (Aa e125).2 (show 1≤1 by decide),f129,f130,f131,f132,Aa e133,f134,Af e128,Aj (Aa e133).2 (show 1≤1 by decide),f136,f137,f138,f139,f140,f141,f142,f143];rfl
        ·simp[Aa e123,f124,Ag (Aa e123).2,lvs1,Aa e125,f126,Ag (Aa e125).2,f127,Aj (Aa e125).2 (show 1≤1 by decide),f129,f130,f131,f132,Aa e133,f134,Af e128,Aj (Aa e133).2 (show 1≤1 by decide),f136,f137,f138,f139,f140,f141,f142,f143]
         intros;rfl
        replace h:=ltE h;obtain⟨v144,e144,h⟩:=h
        apply AW.step
        ·simp[← e144]
         intros;rfl
        replace h:=ltE h;obtain⟨v145,e145,h⟩:=h
        apply AW.last
        ·simp[← e145]
         intros;rfl
        obtain rfl:=oi h
        refine nP_i ?_
        refine Weak.mixB 1 [some 0] hn0 (by decide) (by decide) ?_ ?_ ?_
        all_goals first|(simp[Ab,Ac,pickOb,Af e128,Af e135];done)|rfl
    ·rintro e s hp
     obtain⟨rfl,hw⟩:=hp
     refine⟨_,hw,?_⟩
     try simp only[nm]
     replace h:=bnE h;obtain⟨v146,e146,h⟩:=h
     have f147:=Ai e146
     try simp[Aa e146] at f147
     replace h:=bnE h;obtain⟨v148,e148,h⟩:=h
     have f149:=Ai e148
     try simp[Aa e146,f147,Ag (Aa e146).2,lvs1,Aa e148] at f149
     have f150:=Ai e148
     try simp[Aa e146,f147,Ag (Aa e146).2,lvs1,Aa e148,f149,Ag (Aa e148).2] at f150
     replace h:=ltE h;obtain⟨v151,e151,h⟩:=h
     have f152:=AJ (Aa e148).2 e151 (cs:=[.s (.int .i64 v146)]) (by simp) rfl
     try simp at f152
     have f153:=f147
     try simp only[Af e151] at f153
     have f154:=f149
     try simp only[Af e151] at f154
     have f155:=f150
     try simp only[Af e151] at f155
     replace h:=bnE h;obtain⟨v156,e156,h⟩:=h
     have f157:=Ai e156
     try simp[Aa e146,f147,Ag (Aa e146).2,lvs1,Aa e148,f149,Ag (Aa e148).2,f150,Aj (Aa e148).2 (show 1≤1 by decide),f152,f153,f154,f155,Aa e156] at f157
     replace h:=ltE h;obtain⟨v158,e158,h⟩:=h
     have f159:=AJ (Aa e156).2 e158 (cs:=[.s (.int .i64 v148)]) (by simp) rfl
     try simp at f159
     have f160:=f147
     try simp only[Af e158] at f160
     have f161:=f149
     try simp only[Af e158] at f161
     have f162:=f150
     try simp only[Af e158] at f162
     have f163:=f153
     try simp only[Af e158] at f163
     have f164:=f154
     try simp only[Af e158] at f164
     have f165:=f155
     try simp only[Af e158] at f165
     have f166:=f157
     try simp only[Af e158] at f166
     apply AW.drawnE (V:=[_,_,_,_,_,_,_,_,_,_,_,_,_,_]) (M:=[[some ⟨3,1,false,some 0,lvs (encI y95.2)⟩],[some ⟨3,1,false,some 0,lvs (encI v151)⟩]]) mixed [⟨[0],[],[(0,none)],false⟩,⟨[0],[],[(11,none)],false⟩,⟨[0,1],[],[(0,none)],false⟩,⟨[0,1],[],[(1,none)],false⟩,⟨[0],[],[(0,none)],false⟩,⟨[0],[],[(1,none)],false⟩,⟨[0],[4,5],[(157,some 4),(158,some 5)],false⟩,⟨[0],[4,5,6],[(159,some 6)],false⟩,⟨[0],[],[(0,none)],false⟩,⟨[0],[],[(11,none)],false⟩,⟨[0],[8,9],[(161,some 8),(162,some 9)],false⟩,⟨[0],[8,9,10],[(163,some 10)],false⟩,⟨[0],[0,1,4,5,6,7,8,9,10,11],[(153,some 0),(154,some 1)],false⟩,⟨[0],[0,1,4,5,6,7,8,9,10,11,12],[(160,some 7),(165,some 12)],true⟩,⟨[],[0,1,2,3,4,5,6,7,8,9,10,11,12,13],[],false⟩,⟨[],[0,1,2,3,4,5,6,7,8,9,10,11,12,13,14],[],false⟩] 14 1 (by kernel_rfl) (by kernel_rfl)
     ·rfl
     ·refine⟨?_,?_,⟨?_,?_⟩,⟨?_,?_⟩,?_,?_,?_,?_,?_,?_,?_,?_,?_,?_,trivial⟩
      iterate 16 (· intro tm hr;simp[AllL,rdV] at hr;simp[hr,Aa e146,f147,Ag (Aa e146).2,lvs1,Aa e148,f149,Ag (Aa e148).2,f150,Aj (Aa e148).2 (show 1≤1 by decide),f152,f153,f154,f155,Aa e156,f157,Af e151,Aj (Aa e156).2 (show 1≤1 by decide),f159,f160,f161,f162,f163,f164,f165,f166];intros;first|exact KD.mk|exact KD.mkN)
     ·rfl
     ·simp[tmD,putD,Aa e146,f147,Ag (Aa e146).2,lvs1,Aa e148,f149,Ag (Aa e148).2,f150,Aj (Aa e148).2 (show 1≤1 by decide),f152,f153,f154,f155,Aa e156,f157,Af e151,Aj (Aa e156).2 (show 1≤1 by decide),f159,f160,f161,f162,f163,f164,f165,f166];rfl
     ·simp[Aa e146,f147,Ag (Aa e146).2,lvs1,Aa e148,f149,Ag (Aa e148).2,f150,Aj (Aa e148).2 (show 1≤1 by decide),f152,f153,f154,f155,Aa e156,f157,Af e151,Aj (Aa e156).2 (show 1≤1 by decide),f159,f160,f161,f162,f163,f164,f165,f166]
      intros;rfl
     apply AW.step
     ·simp
      intros;rfl
     obtain rfl:=oi h
     refine AW.ret ?_
     refine Left.of (av:=_) (by simp[Try.f104,resV,resC,comp];rfl) ?_
     exact LeftV.mix 1 [some 0] hn0 rfl (by decide) rfl (by simp[pickOb,Ab,Ac,Af e151,Af e158]) (by simp[Ab,Ac,Af e151,Af e158])
theorem DZ:Enters Try.prog 104:=enters Try.func104 (by kernel_rfl) rfl
def Bf (n:Nat) (a0:List Int) (a1:Int) (a2:Int):Option (List Int) :=
lt (subI .i64 a2 a1) fun v1 =>
lt (geI v1 8) fun v2 =>
ite' v2 (lt (cvI .u64 v1) fun v3 =>
bn (Bv n v1) fun v4 =>
bn (quoI .i64 v1 4) fun v5 =>
lt (mulI .i64 v5 2) fun v6 =>
lt (addI .i64 a1 v6) fun v7 =>
lt (subI .i64 v7 1) fun v8 =>
bn (iter n (fun (y9:Int×List Int×Int) =>
bn (quoI .i64 v1 4) fun v12 =>
lt (mulI .i64 v12 2) fun v13 =>
lt (addI .i64 a1 v13) fun v14 =>
lt (addI .i64 v14 1) fun v15 =>
lt (leI y9.1 v15) fun v16 =>
ite' v16 (bn (BE n y9.2.2) fun v17 =>
lt (subI .u64 v4 1) fun v18 =>
lt (andI .u64 v17.1 v18) fun v19 =>
lt (cvI .i64 v19) fun v20 =>
bn (lt (geI v20 v1) fun v22 =>
ite' v22 (lt (subI .i64 v20 v1) fun v23 =>
some (v23)) (some (v20))) fun (y21:Int) =>
lt (addI .i64 a1 y21) fun v24 =>
bn (nth y9.2.1 v24) fun v25 =>
bn (nth y9.2.1 y9.1) fun v27 =>
lt (y9.2.1.set y9.1.toNat v25) fun v30 =>
bn (nth v30 v24) fun v35 =>
lt (v30.set v24.toNat v27) fun v37 =>
lt (addI .i64 y9.1 1) fun v46 =>
some (.inl (v46,v37,v17.2))) (some (.inr y9.2.1))) (v8,a0,v3)) fun (y10:List Int) =>
some y10) (some a0)
theorem DF {n:Nat} {a0:List Int} {a1:Int} {a2:Int} {r:List Int} (h:Bf n a0 a1 a2=some r):Sound Try.prog 98 [.l (.r 0 1 0 a0.length),.l (.s (.int .i64 a1)),.l (.s (.int .i64 a2))] [⟨3,1,false,some 0,lvs (encI a0)⟩] (.t []) [some ⟨3,1,false,some 0,lvs (encI r)⟩]:=by
 unfold Bf at h
 refine Sound.of_aw (fn:=Try.f98) (c:=_) Try.func98 rfl (by simp[Try.f98]) fun cx hG hnb=>?_
 rw[show Try.f98.ntmps=65 from rfl]
 have hn0:cx.nb=1:=hnb
 simp only[As,initTm,List.map_cons,List.map_nil]
 replace h:=ltE h;obtain⟨v1,e1,h⟩:=h
 apply AW.step
 ·simp[← e1]
  intros;rfl
 replace h:=ltE h;obtain⟨v2,e2,h⟩:=h
 apply AW.step
 ·simp[← e2]
  intros;rfl
 cases v2 with
 |true =>
  replace h:=iteT rfl h
  refine AW.cond_true (by simp) ?_
  replace h:=ltE h;obtain⟨v3,e3,h⟩:=h
  apply AW.step
  ·simp[← e3]
   intros;rfl
  replace h:=bnE h;obtain⟨v4,e4,h⟩:=h
  apply AW.step
  ·simp
   intros
   refine Ah Di (Dq e4) rfl ⟨.same rfl,trivial⟩ ?_
   try simp
   intros;rfl
  replace h:=bnE h;obtain⟨v5,e5,h⟩:=h
  replace h:=ltE h;obtain⟨v6,e6,h⟩:=h
  replace h:=ltE h;obtain⟨v7,e7,h⟩:=h
  replace h:=ltE h;obtain⟨v8,e8,h⟩:=h
  apply AW.step
  ·simp[e5,← e6,← e7,← e8]
   intros;rfl
  refine AW.block ?_
  replace h:=bnE h;obtain⟨y10,g10,h⟩:=h
  refine AW.iterP g10 (mk:=fun gh ls q=>(⟨[(0,.l (.r 0 1 0 q.2.1.length)),(1,.l (.s (.int .i64 a1))),(6,.l (.s (.int .i64 v1))),(7,.l (.p 1 0)),(8,.l (.s (.int .u64 v4))),(9,.l (.s (.int .i64 q.1)))],[some ⟨3,1,false,some 0,lvs (encI q.2.1)⟩,some ⟨194,1,false,none,[.s (.int .u64 q.2.2)]⟩],65,gh,ls⟩:St)) (N:=fun gh ls=>(xP 0 (cx:=cx) (fun q=>(⟨[],[some ⟨3,1,false,some 0,lvs (encI q)⟩],65,gh,ls⟩:St)))) ?_ noX ?_ ?_
  ·refine Weak.mixB 1 [some 0,some 1] hn0 (by decide) (by decide) ?_ ?_ ?_
   all_goals first|(simp[Ab,Ac,pickOb];done)|rfl
  ·clear h;intro y9 y11 h
   refine AW.seq ?_
   replace h:=bnE h;obtain⟨v12,e12,h⟩:=h
   replace h:=ltE h;obtain⟨v13,e13,h⟩:=h
   replace h:=ltE h;obtain⟨v14,e14,h⟩:=h
   replace h:=ltE h;obtain⟨v15,e15,h⟩:=h
   replace h:=ltE h;obtain⟨v16,e16,h⟩:=h
   apply AW.step
   ·simp[e12,← e13,← e14,← e15,← e16]
    intros;rfl
   cases v16 with
   |true =>
    replace h:=iteT rfl h
    refine AW.cond_true (by simp) ?_
    refine AW.skip ?_
    try simp only[nm]
    refine AW.seq ?_
    refine AW.block ?_
    replace h:=bnE h;obtain⟨v17,e17,h⟩:=h
    replace h:=ltE h;obtain⟨v18,e18,h⟩:=h
    replace h:=ltE h;obtain⟨v19,e19,h⟩:=h
    replace h:=ltE h;obtain⟨v20,e20,h⟩:=h
    apply AW.step
    ·simp[← e18,← e19,← e20]
     intros
     refine Aq [1] Dr (DB e17) (by decide) (by simp[pickOb,Ab,Ac]) rfl rfl (by simp) ⟨.l (ptrV (by simp[Ab,Ac])),trivial⟩ ?_
     try simp[← e18,← e19,← e20]
     intros;rfl
    replace h:=bnE h;obtain⟨y21,g21,h⟩:=h
    refine AW.flow (p:=fun gh ls=>(nP (cx:=cx) (fun q=>(⟨[(0,.l (.r 0 1 0 y9.2.1.length)),(1,.l (.s (.int .i64 a1))),(6,.l (.s (.int .i64 v1))),(7,.l (.p 1 0)),(8,.l (.s (.int .u64 v4))),(9,.l (.s (.int .i64 y9.1))),(10,.l (.s (.int .i64 q)))],[some ⟨3,1,false,some 0,lvs (encI y9.2.1)⟩,some ⟨194,1,false,none,[.s (.int .u64 v17.2)]⟩],65,gh,ls⟩:St))) y21) ?_ ?_
    ·replace h:=g21;clear g21
     replace h:=ltE h;obtain⟨v22,e22,h⟩:=h
     apply AW.step
     ·simp[← e22]
      intros;rfl
     cases v22 with
     |true =>
      replace h:=iteT rfl h
      refine AW.cond_true (by simp) ?_
      replace h:=ltE h;obtain⟨v23,e23,h⟩:=h
      apply AW.last
      ·simp[← e23]
       intros;rfl
      obtain rfl:=oi h
      refine nP_i ?_
      refine Weak.mixB 1 [some 0,some 1] hn0 (by decide) (by decide) ?_ ?_ ?_
      all_goals first|(simp[Ab,Ac,pickOb];done)|rfl
     |false =>
      replace h:=iteF rfl h
      refine AW.cond_false (by simp) ?_
      refine AW.skip ?_
      try simp only[nm]
      obtain rfl:=oi h
      refine nP_i ?_
      refine Weak.mixB 1 [some 0,some 1] hn0 (by decide) (by decide) ?_ ?_ ?_
      all_goals first|(simp[Ab,Ac,pickOb];done)|rfl
    ·rintro e s hp
     obtain⟨rfl,hw⟩:=hp
     refine⟨_,hw,?_⟩
     try simp only[nm]
     replace h:=ltE h;obtain⟨v24,e24,h⟩:=h
     replace h:=bnE h;obtain⟨v25,e25,h⟩:=h
     have f26:=Ai e25
     try simp[← e24,Aa e25] at f26
     replace h:=bnE h;obtain⟨v27,e27,h⟩:=h
     have f28:=Ai e27
     try simp[← e24,Aa e25,f26,Ag (Aa e25).2,lvs1,Aa e27] at f28
     have f29:=Ai e27
     try simp[← e24,Aa e25,f26,Ag (Aa e25).2,lvs1,Aa e27,f28,Ag (Aa e27).2] at f29
     replace h:=ltE h;obtain⟨v30,e30,h⟩:=h
     have f31:=AJ (Aa e27).2 e30 (cs:=[.s (.int .i64 v25)]) (by simp) rfl
     try simp at f31
     have f32:=f26
     try simp only[Af e30] at f32
     have f33:=f28
     try simp only[Af e30] at f33
     have f34:=f29
     try simp only[Af e30] at f34
     replace h:=bnE h;obtain⟨v35,e35,h⟩:=h
     have f36:=Ai e35
     try simp[← e24,Aa e25,f26,Ag (Aa e25).2,lvs1,Aa e27,f28,Ag (Aa e27).2,f29,Aj (Aa e27).2 (show 1≤1 by decide),f31,f32,f33,f34,Aa e35] at f36
     replace h:=ltE h;obtain⟨v37,e37,h⟩:=h
     have f38:=AJ (Aa e35).2 e37 (cs:=[.s (.int .i64 v27)]) (by simp) rfl
     try simp at f38
     have f39:=f26
     try simp only[Af e37] at f39
     have f40:=f28
     try simp only[Af e37] at f40
     have f41:=f29
     try simp only[Af e37] at f41
     have f42:=f32
     try simp only[Af e37] at f42
     have f43:=f33
     try simp only[Af e37] at f43
     have f44:=f34
     try simp only[Af e37] at f44
     have f45:=f36
     try simp only[Af e37] at f45
     apply AW.drawnF (V:=[_,_,_,_,_,_,_,_,_,_,_,_,_,_,_,_,_,_]) (M:=[[some ⟨3,1,false,some 0,lvs (encI y9.2.1)⟩,some ⟨194,1,false,none,[.s (.int .u64 v17.2)]⟩],[some ⟨3,1,false,some 0,lvs (encI v30)⟩,some ⟨194,1,false,none,[.s (.int .u64 v17.2)]⟩]]) mixed [⟨[0],[],[(0,none)],false⟩,⟨[0],[],[(9,none)],false⟩,⟨[0,1],[],[(0,none)],false⟩,⟨[0,1],[],[(1,none)],false⟩,⟨[0,1],[],[(10,none)],false⟩,⟨[0,1],[3,4],[(50,some 3),(51,some 4)],false⟩,⟨[0],[],[(0,none)],false⟩,⟨[0],[],[(1,none)],false⟩,⟨[0],[],[(10,none)],false⟩,⟨[0],[7,8],[(54,some 7),(55,some 8)],false⟩,⟨[0],[6,7,8,9],[(53,some 6),(56,some 9)],false⟩,⟨[0],[6,7,8,9,10],[(57,some 10)],false⟩,⟨[0],[],[(0,none)],false⟩,⟨[0],[],[(9,none)],false⟩,⟨[0],[12,13],[(59,some 12),(60,some 13)],false⟩,⟨[0],[12,13,14],[(61,some 14)],false⟩,⟨[0],[0,1,6,7,8,9,10,11,12,13,14,15],[(47,some 0),(48,some 1)],false⟩,⟨[0],[0,1,6,7,8,9,10,11,12,13,14,15,16],[(58,some 11),(63,some 16)],true⟩,⟨[],[0,1,2,3,4,5,6,7,8,9,10,11,12,13,14,15,16,17],[],false⟩,⟨[],[0,1,2,3,4,5,6,7,8,9,10,11,12,13,14,15,16,17,18],[],false⟩] 18 1 (by kernel_rfl) (by kernel_rfl)
     ·rfl
     ·refine⟨?_,?_,⟨?_,?_⟩,⟨?_,?_⟩,⟨?_,?_⟩,⟨?_,?_⟩,?_,?_,?_,?_,?_,?_,?_,?_,?_,?_,?_,?_,trivial⟩
      iterate 22 (· intro tm hr;simp[AllL,rdV] at hr;simp[hr,← e24,Aa e25,f26,Ag (Aa e25).2,lvs1,Aa e27,f28,Ag (Aa e27).2,f29,Aj (Aa e27).2 (show 1≤1 by decide),f31,f32,f33,f34,Aa e35,f36,Af e30,Aj (Aa e35).2 (show 1≤1 by decide),f38,f39,f40,f41,f42,f43,f44,f45];intros;first|exact KD.mk|exact KD.mkN)
     ·rfl
     ·simp[tmD,putD,← e24,Aa e25,f26,Ag (Aa e25).2,lvs1,Aa e27,f28,Ag (Aa e27).2,f29,Aj (Aa e27).2 (show 1≤1 by decide),f31,f32,f33,f34,Aa e35,f36,Af e30,Aj (Aa e35).2 (show 1≤1 by decide),f38,f39,f40,f41,f42,f43,f44,f45];rfl
     ·simp[← e24,Aa e25,f26,Ag (Aa e25).2,lvs1,Aa e27,f28,Ag (Aa e27).2,f29,Aj (Aa e27).2 (show 1≤1 by decide),f31,f32,f33,f34,Aa e35,f36,Af e30,Aj (Aa e35).2 (show 1≤1 by decide),f38,f39,f40,f41,f42,f43,f44,f45]
      intros;rfl
     try simp only[nm]
     replace h:=ltE h;obtain⟨v46,e46,h⟩:=h
     apply AW.last
     ·simp[← e46]
      intros;rfl
     obtain rfl:=oi h
     refine nP_i ?_
     refine Weak.mixB 1 [some 0,some 1] hn0 (by decide) (by decide) ?_ ?_ ?_
     all_goals first|(simp[Ab,Ac,pickOb,Af e30,Af e37];done)|rfl
   |false =>
    replace h:=iteF rfl h
    refine AW.cond_false (by simp) ?_
    refine AW.exit ?_
    try simp only[nm]
    obtain rfl:=oi h
    refine xP_i ?_
    refine Weak.mixB 1 [some 0] hn0 (by decide) (by decide) ?_ ?_ ?_
    all_goals first|(simp[Ab,Ac,pickOb];done)|rfl
  ·rintro e s hp
   obtain⟨rfl,hw⟩:=hp
   refine⟨_,hw,?_⟩
   try simp only[nm]
   obtain rfl:=oi h
   refine Left.of (av:=_) (by simp[Try.f98,resV,resC,comp];rfl) ?_
   exact LeftV.mix 1 [some 0] hn0 rfl (by decide) rfl (by simp[pickOb,Ab,Ac]) (by simp[Ab,Ac])
 |false =>
  replace h:=iteF rfl h
  refine AW.cond_false (by simp) ?_
  refine AW.skip ?_
  try simp only[nm]
  obtain rfl:=oi h
  refine Left.of (av:=_) (by simp[Try.f98,resV,resC,comp];rfl) ?_
  exact LeftV.mix 1 [some 0] hn0 rfl (by decide) rfl (by simp[pickOb,Ab,Ac]) (by simp[Ab,Ac])
theorem Dx:Enters Try.prog 98:=enters Try.func98 (by kernel_rfl) rfl
def AQ (n:Nat):Nat→List Int→Int→Int→Int→Option (List Int)
|0,_,_,_,_=>none
|m+1,a0,a1,a2,a3 =>
bn (iter n (fun (y1:Int×Int×Int×Bool×Bool×List Int) =>
lt (subI .i64 y1.2.1 y1.1) fun v4 =>
lt (leI v4 12) fun v5 =>
ite' v5 (bn (Be n y1.2.2.2.2.2 y1.1 y1.2.1) fun v6 =>
chk (lenB v6 y1.2.2.2.2.2) <|
some (.inr v6)) (lt (eqI y1.2.2.1 0) fun v8 =>
ite' v8 (bn (Bs n y1.2.2.2.2.2 y1.1 y1.2.1) fun v9 =>
chk (lenB v9 y1.2.2.2.2.2) <|
some (.inr v9)) (bn (lt (notB y1.2.2.2.1) fun v12 =>
ite' v12 (bn (Bf n y1.2.2.2.2.2 y1.1 y1.2.1) fun v13 =>
chk (lenB v13 y1.2.2.2.2.2) <|
lt (subI .i64 y1.2.2.1 1) fun v15 =>
some ((v15,v13))) (some ((y1.2.2.1,y1.2.2.2.2.2)))) fun (y11:Int×List Int) =>
bn (Bl n y11.2 y1.1 y1.2.1) fun v16 =>
chk (lenB v16.2.2 y11.2) <|
bn (lt (eqI v16.2.1 2) fun v19 =>
ite' v19 (bn (Bi n v16.2.2 y1.1 y1.2.1) fun v20 =>
chk (lenB v20 v16.2.2) <|
lt (subI .i64 y1.2.1 1) fun v22 =>
lt (subI .i64 v16.1 y1.1) fun v23 =>
lt (subI .i64 v22 v23) fun v24 =>
some ((v24,1,v20))) (some ((v16.1,v16.2.1,v16.2.2)))) fun (y18:Int×Int×List Int) =>
bn (bn (lt (y1.2.2.2.1) fun v27 =>
ite' v27 (lt (y1.2.2.2.2.1) fun v28 =>
ite' v28 (lt (eqI y18.2.1 1) fun v29 =>
some ((true,true,v29))) (some ((true,false,false)))) (some ((false,y1.2.2.2.2.1,false)))) fun (y26:Bool×Bool×Bool) =>
lt (y26.2.2) fun v30 =>
ite' v30 (bn (AS n y18.2.2 y1.1 y1.2.1) fun v31 =>
chk (lenB v31.2 y18.2.2) <|
lt (v31.1) fun v33 =>
ite' v33 (some (.inr v31.2)) (some (.inl (y26.1,y26.2.1,v31.2)))) (some (.inl (y26.1,y26.2.1,y18.2.2)))) fun (y25:(Bool×Bool×List Int) ⊕ (List Int)) =>
sm y25 (fun y34=>bn (lt (gtI y1.1 0) fun v37 =>
ite' v37 (lt (subI .i64 y1.1 1) fun v38 =>
bn (nth y34.2.2 v38) fun v39 =>
bn (nth y34.2.2 y18.1) fun v41 =>
bn (AM n v39 v41) fun v43 =>
lt (notB v43) fun v44 =>
some (v44)) (some (false))) fun (y36:Bool) =>
lt (y36) fun v45 =>
ite' v45 (bn (A9 n y34.2.2 y1.1 y1.2.1 y18.1) fun v46 =>
chk (lenB v46.2 y34.2.2) <|
some (.inl (v46.1,y1.2.1,y11.1,y34.1,y34.2.1,v46.2))) (bn (Bq n y34.2.2 y1.1 y1.2.1 y18.1) fun v48 =>
chk (lenB v48.2.2 y34.2.2) <|
lt (subI .i64 v48.1 y1.1) fun v50 =>
lt (subI .i64 y1.2.1 v48.1) fun v51 =>
bn (quoI .i64 v4 8) fun v52 =>
lt (ltI v50 v51) fun v53 =>
ite' v53 (lt (geI v50 v52) fun v54 =>
bn (AQ n m v48.2.2 y1.1 v48.1 y11.1) fun v55 =>
chk (lenB v55 v48.2.2) <|
lt (addI .i64 v48.1 1) fun v57 =>
some (.inl (v57,y1.2.1,y11.1,v54,v48.2.1,v55))) (lt (geI v51 v52) fun v58 =>
lt (addI .i64 v48.1 1) fun v59 =>
bn (AQ n m v48.2.2 v59 y1.2.1 y11.1) fun v60 =>
chk (lenB v60 v48.2.2) <|
some (.inl (y1.1,v48.1,y11.1,v58,v48.2.1,v60))))) (fun y35=>some (.inr y35))))) (a1,a2,a3,true,true,a0)) fun (y2:List Int) =>
some y2
def CF (n:Nat) (a0:List Int) (a1:Int) (a2:Int) (a3:Int):Option (List Int):=AQ n n a0 a1 a2 a3
theorem BZ:Enters Try.prog 70:=enters Try.func70 (by kernel_rfl) rfl
def DX21t10:List DI:=[⟨[0],[],[(1,none)],false⟩,⟨[0],[0],[(73,some 0)],false⟩,⟨[0],[0,1],[(74,some 1)],false⟩,⟨[0],[0,1,2],[(0,none),(75,some 2)],false⟩,⟨[0],[0,1,2],[(1,none),(75,some 2)],false⟩,⟨[0],[0,1,2,4],[(75,some 2),(77,some 4)],false⟩,⟨[0],[0,1,2,3,4,5],[(75,some 2),(76,some 3),(78,some 5)],false⟩,⟨[0],[0,1,2,3,4,5,6],[(75,some 2),(79,some 6)],false⟩,⟨[0],[0,1,2],[(0,none),(75,some 2)],false⟩,⟨[0],[0,1,2],[(11,none),(75,some 2)],false⟩,⟨[0],[0,1,2,8,9],[(75,some 2),(81,some 8),(82,some 9)],false⟩,⟨[0],[0,1,2,8,9,10],[(75,some 2),(83,some 10)],false⟩,⟨[],[0,1,2,3,4,5,6,7,8,9,10,11],[],false⟩,⟨[],[0,1,2,3,4,5,6,7,8,9,10,11,12],[],false⟩,⟨[],[0,1,2,3,4,5,6,7,8,9,10,11,12,13],[],false⟩]
theorem Ea {n:Nat} (m:Nat):∀ {a0:List Int} {a1:Int} {a2:Int} {a3:Int} {r:List Int},AQ n m a0 a1 a2 a3=some r→Sound Try.prog 70 [.l (.r 0 1 0 a0.length),.l (.s (.int .i64 a1)),.l (.s (.int .i64 a2)),.l (.s (.int .i64 a3))] [⟨3,1,false,some 0,lvs (encI a0)⟩] (.t []) [some ⟨3,1,false,some 0,lvs (encI r)⟩]:=by
 induction m with
 |zero=>intro a0 a1 a2 a3 r h;rw[AQ] at h;cases h
 |succ m ih =>
  intro a0 a1 a2 a3 r h
  rw[AQ] at h
  refine Sound.of_aw (fn:=Try.f70) (c:=_) Try.func70 rfl (by simp[Try.f70]) fun cx hG hnb=>?_
  rw[show Try.f70.ntmps=134 from rfl]
  have hn0:cx.nb=1:=hnb
  simp only[As,initTm,List.map_cons,List.map_nil]
  apply AW.step
  ·simp
   intros;rfl
  apply AW.step
  ·simp
   intros;rfl
  refine AW.block ?_
  replace h:=bnE h;obtain⟨y2,g2,h⟩:=h
  refine AW.iterP g2 (mk:=fun gh ls q=>(⟨[(0,.l (.r 0 1 0 q.2.2.2.2.2.length)),(1,.l (.s (.int .i64 q.1))),(2,.l (.s (.int .i64 q.2.1))),(3,.l (.s (.int .i64 q.2.2.1))),(8,.l (.s (.bool q.2.2.2.1))),(9,.l (.s (.bool q.2.2.2.2.1)))],[some ⟨3,1,false,some 0,lvs (encI q.2.2.2.2.2)⟩],134,gh,ls⟩:St)) (N:=fun gh ls=>(rP (cx:=cx) (P:=Try.prog) Try.f70 (fun q=>.t []) (fun q=>[some ⟨3,1,false,some 0,lvs (encI q)⟩]))) ?_ noR ?_ ?_
  ·refine Weak.mixB 1 [some 0] hn0 (by decide) (by decide) ?_ ?_ ?_
   all_goals first|(simp[Ab,Ac,pickOb];done)|rfl
  ·clear h;intro y1 y3 h
   refine AW.block ?_
   replace h:=ltE h;obtain⟨v4,e4,h⟩:=h
   apply AW.step
   ·simp[← e4]
    intros;rfl
   refine AW.seq ?_
   replace h:=ltE h;obtain⟨v5,e5,h⟩:=h
   apply AW.step
   ·simp[← e5]
    intros;rfl
   cases v5 with
   |true =>
    replace h:=iteT rfl h
    refine AW.cond_true (by simp) ?_
    replace h:=bnE h;obtain⟨v6,e6,h⟩:=h
    replace h:=chkE h;obtain⟨e7,h⟩:=h
    apply AW.step
    ·simp
     intros
     refine Aq [0] Dv (DD e6) (by decide) (by simp[pickOb,Ab,Ac]) rfl rfl (by simp) ⟨.l (.own' (by simp[Ab,Ac]) (by simp)),.l (.s _),.l (.s _),trivial⟩ ?_
     try simp
     intros;rfl
    obtain rfl:=oi h
    refine AW.ret ?_
    try simp only[nm]
    refine rP_i ?_
    refine Left.of (av:=_) (by simp[Try.f70,resV,resC,comp];rfl) ?_
    exact LeftV.mix 1 [some 0] hn0 rfl (by decide) rfl (by simp[pickOb,Ab,Ac,Al e7]) (by simp[Ab,Ac,Al e7])
   |false =>
    replace h:=iteF rfl h
    refine AW.cond_false (by simp) ?_
    refine AW.skip ?_
    try simp only[nm]
    refine AW.seq ?_
    replace h:=ltE h;obtain⟨v8,e8,h⟩:=h
    apply AW.step
    ·simp[← e8]
     intros;rfl
    cases v8 with
    |true =>
     replace h:=iteT rfl h
     refine AW.cond_true (by simp) ?_
     replace h:=bnE h;obtain⟨v9,e9,h⟩:=h
     replace h:=chkE h;obtain⟨e10,h⟩:=h
     apply AW.step
     ·simp
      intros
      refine Aq [0] D2 (D9 e9) (by decide) (by simp[pickOb,Ab,Ac]) rfl rfl (by simp) ⟨.l (.own' (by simp[Ab,Ac]) (by simp)),.l (.s _),.l (.s _),trivial⟩ ?_
      try simp
      intros;rfl
     obtain rfl:=oi h
     refine AW.ret ?_
     try simp only[nm]
     refine rP_i ?_
     refine Left.of (av:=_) (by simp[Try.f70,resV,resC,comp];rfl) ?_
     exact LeftV.mix 1 [some 0] hn0 rfl (by decide) rfl (by simp[pickOb,Ab,Ac,Al e10]) (by simp[Ab,Ac,Al e10])
    |false =>
     replace h:=iteF rfl h
     refine AW.cond_false (by simp) ?_
     refine AW.skip ?_
     try simp only[nm]
     replace h:=bnE h;obtain⟨y11,g11,h⟩:=h
     refine AW.flow (p:=fun gh ls=>(nP (cx:=cx) (fun q=>(⟨[(0,.l (.r 0 1 0 q.2.length)),(1,.l (.s (.int .i64 y1.1))),(2,.l (.s (.int .i64 y1.2.1))),(3,.l (.s (.int .i64 q.1))),(8,.l (.s (.bool y1.2.2.2.1))),(9,.l (.s (.bool y1.2.2.2.2.1))),(10,.l (.s (.int .i64 v4)))],[some ⟨3,1,false,some 0,lvs (encI q.2)⟩],134,gh,ls⟩:St))) y11) ?_ ?_
     ·replace h:=g11;clear g11
      replace h:=ltE h;obtain⟨v12,e12,h⟩:=h
      apply AW.step
      ·simp[← e12]
       intros;rfl
      cases v12 with
      |true =>
       replace h:=iteT rfl h
       refine AW.cond_true (by simp) ?_
       replace h:=bnE h;obtain⟨v13,e13,h⟩:=h
       replace h:=chkE h;obtain⟨e14,h⟩:=h
       apply AW.step
       ·simp
        intros
        refine Aq [0] Dx (DF e13) (by decide) (by simp[pickOb,Ab,Ac]) rfl rfl (by simp) ⟨.l (.own' (by simp[Ab,Ac]) (by simp)),.l (.s _),.l (.s _),trivial⟩ ?_
        try simp
        intros;rfl
       replace h:=ltE h;obtain⟨v15,e15,h⟩:=h
       apply AW.last
       ·simp[← e15]
        intros;rfl
       obtain rfl:=oi h
       refine nP_i ?_
       refine Weak.mixB 1 [some 0] hn0 (by decide) (by decide) ?_ ?_ ?_
       all_goals first|(simp[Ab,Ac,pickOb,Al e14];done)|rfl
      |false =>
       replace h:=iteF rfl h
       refine AW.cond_false (by simp) ?_
       refine AW.skip ?_
       try simp only[nm]
       obtain rfl:=oi h
       refine nP_i ?_
       refine Weak.mixB 1 [some 0] hn0 (by decide) (by decide) ?_ ?_ ?_
       all_goals first|(simp[Ab,Ac,pickOb];done)|rfl
     ·rintro e s hp
      obtain⟨rfl,hw⟩:=hp
      refine⟨_,hw,?_⟩
      try simp only[nm]
      replace h:=bnE h;obtain⟨v16,e16,h⟩:=h
      replace h:=chkE h;obtain⟨e17,h⟩:=h
      apply AW.step
      ·simp
       intros
       refine Aq [0] DM (DR e16) (by decide) (by simp[pickOb,Ab,Ac]) rfl rfl (by simp) ⟨.l (.own' (by simp[Ab,Ac]) (by simp)),.l (.s _),.l (.s _),trivial⟩ ?_
       try simp
       intros;rfl
      replace h:=bnE h;obtain⟨y18,g18,h⟩:=h
      refine AW.flow (p:=fun gh ls=>(nP (cx:=cx) (fun q=>(⟨[(0,.l (.r 0 1 0 q.2.2.length)),(1,.l (.s (.int .i64 y1.1))),(2,.l (.s (.int .i64 y1.2.1))),(3,.l (.s (.int .i64 y11.1))),(8,.l (.s (.bool y1.2.2.2.1))),(9,.l (.s (.bool y1.2.2.2.2.1))),(10,.l (.s (.int .i64 v4))),(11,.l (.s (.int .i64 q.1))),(12,.l (.s (.int .i64 q.2.1)))],[some ⟨3,1,false,some 0,lvs (encI q.2.2)⟩],134,gh,ls⟩:St))) y18) ?_ ?_
      ·replace h:=g18;clear g18
       replace h:=ltE h;obtain⟨v19,e19,h⟩:=h
       apply AW.step
       ·simp[← e19]
        intros;rfl
       cases v19 with
       |true =>
        replace h:=iteT rfl h
        refine AW.cond_true (by simp) ?_
        replace h:=bnE h;obtain⟨v20,e20,h⟩:=h
        replace h:=chkE h;obtain⟨e21,h⟩:=h
        apply AW.step
        ·simp[Al e17]
         intros
         refine Aq [0] DE (DN e20) (by decide) (by simp[pickOb,Ab,Ac]) rfl rfl (by simp) ⟨.l (.own' (by simp[Ab,Ac]) (by simp[Al e17])),.l (.s _),.l (.s _),trivial⟩ ?_
         try simp[Al e17]
         intros;rfl
        replace h:=ltE h;obtain⟨v22,e22,h⟩:=h
        replace h:=ltE h;obtain⟨v23,e23,h⟩:=h
        replace h:=ltE h;obtain⟨v24,e24,h⟩:=h
        apply AW.step
        ·simp[← e22,← e23,← e24]
         intros;rfl
        apply AW.last
        ·simp
         intros;rfl
        obtain rfl:=oi h
        refine nP_i ?_
        refine Weak.mixB 1 [some 0] hn0 (by decide) (by decide) ?_ ?_ ?_
        all_goals first|(simp[Ab,Ac,pickOb,Al e17,Al e21];done)|rfl
       |false =>
        replace h:=iteF rfl h
        refine AW.cond_false (by simp) ?_
        refine AW.skip ?_
        try simp only[nm]
        obtain rfl:=oi h
        refine nP_i ?_
        refine Weak.mixB 1 [some 0] hn0 (by decide) (by decide) ?_ ?_ ?_
        all_goals first|(simp[Ab,Ac,pickOb,Al e17];done)|rfl
      ·rintro e s hp
       obtain⟨rfl,hw⟩:=hp
       refine⟨_,hw,?_⟩
       try simp only[nm]
       replace h:=bnE h;obtain⟨y25,g25,h⟩:=h
       refine AW.flow (p:=fun gh ls=>(sp (nP (cx:=cx) (fun q=>(⟨[(0,.l (.r 0 1 0 q.2.2.length)),(1,.l (.s (.int .i64 y1.1))),(2,.l (.s (.int .i64 y1.2.1))),(3,.l (.s (.int .i64 y11.1))),(8,.l (.s (.bool q.1))),(9,.l (.s (.bool q.2.1))),(10,.l (.s (.int .i64 v4))),(11,.l (.s (.int .i64 y18.1)))],[some ⟨3,1,false,some 0,lvs (encI q.2.2)⟩],134,gh,ls⟩:St))) (rP (cx:=cx) (P:=Try.prog) Try.f70 (fun q=>.t []) (fun q=>[some ⟨3,1,false,some 0,lvs (encI q)⟩]))) y25) ?_ ?_
       ·replace h:=g25;clear g25
        replace h:=bnE h;obtain⟨y26,g26,h⟩:=h
        refine AW.flow (p:=fun gh ls=>(nP (cx:=cx) (fun q=>(⟨[(0,.l (.r 0 1 0 y18.2.2.length)),(1,.l (.s (.int .i64 y1.1))),(2,.l (.s (.int .i64 y1.2.1))),(3,.l (.s (.int .i64 y11.1))),(8,.l (.s (.bool q.1))),(9,.l (.s (.bool q.2.1))),(10,.l (.s (.int .i64 v4))),(11,.l (.s (.int .i64 y18.1))),(68,.l (.s (.bool q.2.2)))],[some ⟨3,1,false,some 0,lvs (encI y18.2.2)⟩],134,gh,ls⟩:St))) y26) ?_ ?_
        ·replace h:=g26;clear g26
         replace h:=ltE h;obtain⟨v27,e27,h⟩:=h
         cases v27 with
         |true =>
          replace h:=iteT rfl h
          replace h:=ltE h;obtain⟨v28,e28,h⟩:=h
          cases v28 with
          |true =>
           replace h:=iteT rfl h
           replace h:=ltE h;obtain⟨v29,e29,h⟩:=h
           apply AW.last
           ·simp[← e27,← e28,← e29]
            intros;rfl
           obtain rfl:=oi h
           refine nP_i ?_
           refine Weak.mixB 1 [some 0] hn0 (by decide) (by decide) ?_ ?_ ?_
           all_goals first|(simp[Ab,Ac,pickOb];done)|rfl
          |false =>
           replace h:=iteF rfl h
           apply AW.last
           ·simp[← e27,← e28]
            intros;rfl
           obtain rfl:=oi h
           refine nP_i ?_
           refine Weak.mixB 1 [some 0] hn0 (by decide) (by decide) ?_ ?_ ?_
           all_goals first|(simp[Ab,Ac,pickOb];done)|rfl
         |false =>
          replace h:=iteF rfl h
          apply AW.last
          ·simp[← e27]
           intros;rfl
          obtain rfl:=oi h
          refine nP_i ?_
          refine Weak.mixB 1 [some 0] hn0 (by decide) (by decide) ?_ ?_ ?_
          all_goals first|(simp[Ab,Ac,pickOb];done)|rfl
        ·rintro e s hp
         obtain⟨rfl,hw⟩:=hp
         refine⟨_,hw,?_⟩
         try simp only[nm]
         replace h:=ltE h;obtain⟨v30,e30,h⟩:=h
         rw[← e30]
         cases v30 with
         |true =>
          replace h:=iteT rfl h
          refine AW.cond_true (by simp) ?_
          replace h:=bnE h;obtain⟨v31,e31,h⟩:=h
          replace h:=chkE h;obtain⟨e32,h⟩:=h
          apply AW.step
          ·simp
           intros
           refine Aq [0] CH (CS e31) (by decide) (by simp[pickOb,Ab,Ac]) rfl rfl (by simp) ⟨.l (.own' (by simp[Ab,Ac]) (by simp)),.l (.s _),.l (.s _),trivial⟩ ?_
           try simp
           intros;rfl
          replace h:=ltE h;obtain⟨v33,e33,h⟩:=h
          rw[← e33]
          cases v33 with
          |true =>
           replace h:=iteT rfl h
           refine AW.cond_true (by simp) ?_
           obtain rfl:=oi h
           refine AW.ret ?_
           try simp only[nm]
           refine rP_i ?_
           refine Left.of (av:=_) (by simp[Try.f70,resV,resC,comp];rfl) ?_
           exact LeftV.mix 1 [some 0] hn0 rfl (by decide) rfl (by simp[pickOb,Ab,Ac,Al e32]) (by simp[Ab,Ac,Al e32])
          |false =>
           replace h:=iteF rfl h
           refine AW.cond_false (by simp) ?_
           refine AW.skip ?_
           try simp only[nm]
           obtain rfl:=oi h
           try simp only[sp_l,sp_r]
           refine nP_i ?_
           refine Weak.mixB 1 [some 0] hn0 (by decide) (by decide) ?_ ?_ ?_
           all_goals first|(simp[Ab,Ac,pickOb,Al e32];done)|rfl
         |false =>
          replace h:=iteF rfl h
          refine AW.cond_false (by simp) ?_
          refine AW.skip ?_
          try simp only[nm]
          obtain rfl:=oi h
          try simp only[sp_l,sp_r]
          refine nP_i ?_
          refine Weak.mixB 1 [some 0] hn0 (by decide) (by decide) ?_ ?_ ?_
          all_goals first|(simp[Ab,Ac,pickOb];done)|rfl
       ·rintro e s hp
        rcases y25 with y34|y35
        ·replace h:=smL h
         obtain⟨rfl,hw⟩:=hp
         refine⟨_,hw,?_⟩
         try simp only[nm]
         refine AW.seq ?_
         replace h:=bnE h;obtain⟨y36,g36,h⟩:=h
         refine AW.flow (p:=fun gh ls=>(nP (cx:=cx) (fun q=>(⟨[(0,.l (.r 0 1 0 y34.2.2.length)),(1,.l (.s (.int .i64 y1.1))),(2,.l (.s (.int .i64 y1.2.1))),(3,.l (.s (.int .i64 y11.1))),(8,.l (.s (.bool y34.1))),(9,.l (.s (.bool y34.2.1))),(10,.l (.s (.int .i64 v4))),(11,.l (.s (.int .i64 y18.1))),(87,.l (.s (.bool q)))],[some ⟨3,1,false,some 0,lvs (encI y34.2.2)⟩],134,gh,ls⟩:St))) y36) ?_ ?_
         ·replace h:=g36;clear g36
          replace h:=ltE h;obtain⟨v37,e37,h⟩:=h
          cases v37 with
          |true =>
           replace h:=iteT rfl h
           replace h:=ltE h;obtain⟨v38,e38,h⟩:=h
           replace h:=bnE h;obtain⟨v39,e39,h⟩:=h
           have f40:=Ai e39
           try simp[← e37,← e38,Aa e39] at f40
           replace h:=bnE h;obtain⟨v41,e41,h⟩:=h
           have f42:=Ai e41
           try simp[← e37,← e38,Aa e39,f40,Ag (Aa e39).2,lvs1,Aa e41] at f42
           replace h:=bnE h;obtain⟨v43,e43,h⟩:=h
           replace h:=ltE h;obtain⟨v44,e44,h⟩:=h
           apply AW.drawnR (V:=[_,_,_,_,_,_,_,_,_,_,_,_]) mixed DX21t10 12 (by kernel_rfl) (by kernel_rfl)
           ·refine⟨?_,?_,?_,?_,?_,?_,?_,?_,?_,?_,?_,?_,trivial⟩
            iterate 12 (· intro tm hr;simp[AllL,rdV] at hr;simp[hr,← e37,← e38,Aa e39,f40,Ag (Aa e39).2,lvs1,Aa e41,f42,Ag (Aa e41).2,← e44];intros;first|exact KD.mk|exact KD.mkN)
           ·rfl
           ·simp[tmD,putD,← e37,← e38,Aa e39,f40,Ag (Aa e39).2,lvs1,Aa e41,f42,Ag (Aa e41).2,← e44];rfl
           ·simp[← e37,← e38,Aa e39,f40,Ag (Aa e39).2,lvs1,Aa e41,f42,Ag (Aa e41).2,← e44]
            intros
            refine Ah A2 (A7 e43) rfl ⟨.same rfl,.same rfl,trivial⟩ ?_
            try simp[← e37,← e38,Aa e39,f40,Ag (Aa e39).2,lvs1,Aa e41,f42,Ag (Aa e41).2,← e44]
            intros;rfl
           obtain rfl:=oi h
           refine nP_i ?_
           refine Weak.mixB 1 [some 0] hn0 (by decide) (by decide) ?_ ?_ ?_
           all_goals first|(simp[Ab,Ac,pickOb];done)|rfl
          |false =>
           replace h:=iteF rfl h
           apply AW.drawnR (V:=[_,_,_,_,_,_,_,_,_,_,_,_]) mixed DX21t10 12 (by kernel_rfl) (by kernel_rfl)
           ·refine⟨?_,?_,?_,?_,?_,?_,?_,?_,?_,?_,?_,?_,trivial⟩
            iterate 12 (· intro tm hr;simp[AllL,rdV] at hr;simp[hr,← e37];intros;first|exact KD.mk|exact KD.mkN)
           ·rfl
           ·simp[tmD,putD,← e37];rfl
           ·simp[← e37]
            intros;rfl
           obtain rfl:=oi h
           refine nP_i ?_
           refine Weak.mixB 1 [some 0] hn0 (by decide) (by decide) ?_ ?_ ?_
           all_goals first|(simp[Ab,Ac,pickOb];done)|rfl
         ·rintro e s hp
          obtain⟨rfl,hw⟩:=hp
          refine⟨_,hw,?_⟩
          try simp only[nm]
          replace h:=ltE h;obtain⟨v45,e45,h⟩:=h
          rw[← e45]
          cases v45 with
          |true =>
           replace h:=iteT rfl h
           refine AW.cond_true (by simp) ?_
           replace h:=bnE h;obtain⟨v46,e46,h⟩:=h
           replace h:=chkE h;obtain⟨e47,h⟩:=h
           apply AW.step
           ·simp
            intros
            refine Aq [0] Do (Dw e46) (by decide) (by simp[pickOb,Ab,Ac]) rfl rfl (by simp) ⟨.l (.own' (by simp[Ab,Ac]) (by simp)),.l (.s _),.l (.s _),.l (.s _),trivial⟩ ?_
            try simp
            intros;rfl
           apply AW.step
           ·simp
            intros;rfl
           refine AW.exit ?_
           try simp only[nm]
           obtain rfl:=oi h
           refine nP_i ?_
           refine Weak.mixB 1 [some 0] hn0 (by decide) (by decide) ?_ ?_ ?_
           all_goals first|(simp[Ab,Ac,pickOb,Al e47];done)|rfl
          |false =>
           replace h:=iteF rfl h
           refine AW.cond_false (by simp) ?_
           refine AW.skip ?_
           try simp only[nm]
           replace h:=bnE h;obtain⟨v48,e48,h⟩:=h
           replace h:=chkE h;obtain⟨e49,h⟩:=h
           apply AW.step
           ·simp
            intros
            refine Aq [0] DZ (D3 e48) (by decide) (by simp[pickOb,Ab,Ac]) rfl rfl (by simp) ⟨.l (.own' (by simp[Ab,Ac]) (by simp)),.l (.s _),.l (.s _),.l (.s _),trivial⟩ ?_
            try simp
            intros;rfl
           apply AW.step
           ·simp
            intros;rfl
           replace h:=ltE h;obtain⟨v50,e50,h⟩:=h
           replace h:=ltE h;obtain⟨v51,e51,h⟩:=h
           apply AW.step
           ·simp[← e50,← e51]
            intros;rfl
           replace h:=bnE h;obtain⟨v52,e52,h⟩:=h
           apply AW.step
           ·simp[e52]
            intros;rfl
           replace h:=ltE h;obtain⟨v53,e53,h⟩:=h
           apply AW.step
           ·simp[← e53]
            intros;rfl
           cases v53 with
           |true =>
            replace h:=iteT rfl h
            refine AW.cond_true (by simp) ?_
            replace h:=ltE h;obtain⟨v54,e54,h⟩:=h
            apply AW.step
            ·simp[← e54]
             intros;rfl
            replace h:=bnE h;obtain⟨v55,e55,h⟩:=h
            replace h:=chkE h;obtain⟨e56,h⟩:=h
            apply AW.step
            ·simp[Al e49]
             intros
             refine Aq [0] BZ (ih e55) (by decide) (by simp[pickOb,Ab,Ac]) rfl rfl (by simp) ⟨.l (.own' (by simp[Ab,Ac]) (by simp[Al e49])),.l (.s _),.l (.s _),.l (.s _),trivial⟩ ?_
             try simp[Al e49]
             intros;rfl
            replace h:=ltE h;obtain⟨v57,e57,h⟩:=h
            apply AW.last
            ·simp[← e57]
             intros;rfl
            obtain rfl:=oi h
            refine nP_i ?_
            refine Weak.mixB 1 [some 0] hn0 (by decide) (by decide) ?_ ?_ ?_
            all_goals first|(simp[Ab,Ac,pickOb,Al e49,Al e56];done)|rfl
           |false =>
            replace h:=iteF rfl h
            refine AW.cond_false (by simp) ?_
            replace h:=ltE h;obtain⟨v58,e58,h⟩:=h
            apply AW.step
            ·simp[← e58]
             intros;rfl
            replace h:=ltE h;obtain⟨v59,e59,h⟩:=h
            replace h:=bnE h;obtain⟨v60,e60,h⟩:=h
            replace h:=chkE h;obtain⟨e61,h⟩:=h
            apply AW.step
            ·simp[← e59,Al e49]
             intros
             refine Aq [0] BZ (ih e60) (by decide) (by simp[pickOb,Ab,Ac]) rfl rfl (by simp) ⟨.l (.own' (by simp[Ab,Ac]) (by simp[Al e49])),.l (.s _),.l (.s _),.l (.s _),trivial⟩ ?_
             try simp[← e59,Al e49]
             intros;rfl
            apply AW.last
            ·simp
             intros;rfl
            obtain rfl:=oi h
            refine nP_i ?_
            refine Weak.mixB 1 [some 0] hn0 (by decide) (by decide) ?_ ?_ ?_
            all_goals first|(simp[Ab,Ac,pickOb,Al e49,Al e61];done)|rfl
        ·replace h:=smR h
         obtain⟨rfl,hl⟩:=hp
         refine⟨_,Weak.refl _,?_⟩
         obtain rfl:=oi h
         first|exact rP_i hl|(simp only[sp_l,sp_r];exact rP_i hl)|(simp only[sp_l,sp_r,Post.seq,Post.block,Nat.reduceEqDiff,reduceIte,Nat.zero_ne_one,Nat.one_ne_zero];exact rP_i hl)
  ·rintro e s hp
   obtain⟨rfl,hl⟩:=hp
   refine⟨_,Weak.refl _,?_⟩
   obtain rfl:=oi h
   exact hl
theorem Ei {n:Nat} {a0:List Int} {a1:Int} {a2:Int} {a3:Int} {r:List Int} (h:CF n a0 a1 a2 a3=some r):Sound Try.prog 70 [.l (.r 0 1 0 a0.length),.l (.s (.int .i64 a1)),.l (.s (.int .i64 a2)),.l (.s (.int .i64 a3))] [⟨3,1,false,some 0,lvs (encI a0)⟩] (.t []) [some ⟨3,1,false,some 0,lvs (encI r)⟩]:=Ea n h
def B3 (n:Nat) (a0:List Int):Option (List Int) :=
lt (lenI a0) fun v1 =>
lt (cvI .u64 v1) fun v2 =>
bn (Cz n v2) fun v3 =>
bn (CF n a0 0 v1 v3) fun v4 =>
chk (lenB v4 a0) <|
some v4
theorem FL {n:Nat} {a0:List Int} {r:List Int} (h:B3 n a0=some r):Sound Try.prog 51 [.l (.r 0 1 0 a0.length)] [⟨3,1,false,some 0,lvs (encI a0)⟩] (.t []) [some ⟨3,1,false,some 0,lvs (encI r)⟩]:=by
 unfold B3 at h
 refine Sound.of_aw (fn:=Try.f51) (c:=_) Try.func51 rfl (by simp[Try.f51]) fun cx hG hnb=>?_
 rw[show Try.f51.ntmps=11 from rfl]
 have hn0:cx.nb=1:=hnb
 simp only[As,initTm,List.map_cons,List.map_nil]
 replace h:=ltE h;obtain⟨v1,e1,h⟩:=h
 apply AW.step
 ·simp[Ak e1]
  intros;rfl
 replace h:=ltE h;obtain⟨v2,e2,h⟩:=h
 replace h:=bnE h;obtain⟨v3,e3,h⟩:=h
 replace h:=bnE h;obtain⟨v4,e4,h⟩:=h
 replace h:=chkE h;obtain⟨e5,h⟩:=h
 apply AW.last
 ·simp[← e2]
  intros
  refine Ah EO (E7 e3) rfl ⟨.same rfl,trivial⟩ ?_
  try simp[← e2]
  intros
  refine Aq [0] BZ (Ei e4) (by decide) (by simp[pickOb,Ab,Ac]) rfl rfl (by simp) ⟨.l (.own' (by simp[Ab,Ac]) (by simp)),.l (.s _),.l (.s _),.l (.s _),trivial⟩ ?_
  try simp[← e2]
  intros;rfl
 obtain rfl:=oi h
 refine Left.of (av:=_) (by simp[Try.f51,resV,resC,comp];rfl) ?_
 exact LeftV.mix 1 [some 0] hn0 rfl (by decide) rfl (by simp[pickOb,Ab,Ac,Al e5]) (by simp[Ab,Ac,Al e5])
theorem FB:Enters Try.prog 51:=enters Try.func51 (by kernel_rfl) rfl
def BU (n:Nat) (a0:List Claim):Option (List Int) :=
lt (lenI a0) fun v1 =>
bn (iter n (fun (y2:Int×List Int) =>
lt (ltI y2.1 v1) fun v5 =>
ite' v5 (bn (nth a0 y2.1) fun v6 =>
chk (room (y2.2.length+1) 8) <|
lt (y2.2++[v6.node]) fun v8 =>
lt (addI .i64 y2.1 1) fun v9 =>
some (.inl (v9,v8))) (some (.inr y2.2))) (0,[])) fun (y3:List Int) =>
bn (B3 n y3) fun v10 =>
chk (lenB v10 y3) <|
chk (cmB v10) <|
lt (compL v10) fun v13 =>
chk (room v13.length 1) <|
some v13
theorem EB {n:Nat} {a0:List Claim} {r:List Int} (h:BU n a0=some r):Sound Try.prog 24 [.l (.d false 4 (encClaim a0))] [] (.l (.d false 1 (encI r))) []:=by
 unfold BU at h
 refine Sound.of_aw (fn:=Try.f24) (c:=_) Try.func24 rfl (by simp[Try.f24]) fun cx hG hnb=>?_
 rw[show Try.f24.ntmps=22 from rfl]
 have hn0:cx.nb=0:=hnb
 simp only[As,initTm,List.map_cons,List.map_nil]
 apply AW.step
 ·simp
  intros;rfl
 apply AW.step
 ·simp
  intros;rfl
 refine AW.seq ?_
 replace h:=ltE h;obtain⟨v1,e1,h⟩:=h
 apply AW.step
 ·simp[Ak e1]
  intros;rfl
 refine AW.block ?_
 replace h:=bnE h;obtain⟨y3,g3,h⟩:=h
 refine AW.iterP g3 (mk:=fun gh ls q=>(⟨[(3,.l (.r 0 1 0 q.2.length)),(6,.l (.d false 4 (encClaim a0))),(7,.l (.s (.int .i64 v1))),(8,.l (.s (.int .i64 q.1)))],[some ⟨3,1,true,none,lvs (encI q.2)⟩],22,gh,ls⟩:St)) (N:=fun gh ls=>(xP 0 (cx:=cx) (fun q=>(⟨[(3,.l (.r 0 1 0 q.length))],[some ⟨3,1,true,none,lvs (encI q)⟩],22,gh,ls⟩:St)))) ?_ noX ?_ ?_
 ·refine W.nilRow 3 3 1 0 (by simp) rfl rfl ?_
  refine Weak.mixN [some 0] hn0 (by decide) ?_ ?_ rfl
  all_goals first|(simp[Ab,Ac,pickOb];done)|rfl
 ·clear h;intro y2 y4 h
  replace h:=ltE h;obtain⟨v5,e5,h⟩:=h
  apply AW.step
  ·simp[← e5]
   intros;rfl
  refine AW.seq ?_
  cases v5 with
  |true =>
   replace h:=iteT rfl h
   refine AW.cond_true (by simp) ?_
   refine AW.skip ?_
   try simp only[nm]
   refine AW.seq ?_
   refine AW.block ?_
   replace h:=bnE h;obtain⟨v6,e6,h⟩:=h
   apply AW.step
   ·simp[Aa e6]
    intros;rfl
   replace h:=chkE h;obtain⟨e7,h⟩:=h
   replace h:=ltE h;obtain⟨v8,e8,h⟩:=h
   apply AW.last
   ·simp[← BC,← e8,Ar e8]
    intros
    refine Bu ?_
    try simp[← BC,← e8,Ar e8]
    intros
    refine Bt (acc:=encI y2.2) (ys:=encI [v6.node]) (cap:=none) (k:=1) EU Fr (by simp) (by simp[encI,lvs]) (Cn _) (by simp) (by simp) (by first|(simp;done)|simpa using (Aw e7).1) ?_
    try simp[← BC,← e8,Ar e8]
    intros;rfl
   try simp only[nm]
   replace h:=ltE h;obtain⟨v9,e9,h⟩:=h
   apply AW.last
   ·simp[← e9]
    intros;rfl
   obtain rfl:=oi h
   refine nP_i ?_
   refine Weak.mixN [some 3] hn0 (by decide) ?_ ?_ rfl
   all_goals first|(simp[Ab,Ac,pickOb,GO];done)|rfl
  |false =>
   replace h:=iteF rfl h
   refine AW.cond_false (by simp) ?_
   refine AW.exit ?_
   try simp only[nm]
   obtain rfl:=oi h
   refine xP_i ?_
   refine Weak.mixN [some 0] hn0 (by decide) ?_ ?_ rfl
   all_goals first|(simp[Ab,Ac,pickOb];done)|rfl
 ·rintro e s hp
  obtain⟨rfl,hw⟩:=hp
  refine⟨_,hw,?_⟩
  try simp only[nm]
  refine AW.pin 0 (ty:=3) (sz:=1) (cs:=lvs (encI y3)) (by simp) hn0 (by omega) rfl ?_
  replace h:=bnE h;obtain⟨v10,e10,h⟩:=h
  replace h:=chkE h;obtain⟨e11,h⟩:=h
  apply AW.step
  ·simp
   intros
   refine Aq [0] FB (FL e10) (by decide) (by simp[pickOb,Ab,Ac]) rfl rfl (by simp) ⟨.l (.own' (by simp[Ab,Ac]) (by simp)),trivial⟩ ?_
   try simp
   intros;rfl
  refine AW.unpin 0 (ty:=3) (sz:=1) (cs:=lvs (encI v10)) (by simp) rfl ?_
  replace h:=chkE h;obtain⟨e12,h⟩:=h
  replace h:=ltE h;obtain⟨v13,e13,h⟩:=h
  apply AW.step
  ·simp[Al e11,obAfter,outR,keptR,Ab,Ac,← e13]
   intros
   refine HQ [0] [1] ⟨_,rfl,rfl,rfl,rfl⟩ J5 (sm_I v10 e12) (by decide) rfl rfl (by simp[pickOb]) rfl rfl rfl (by simp) (by simp) ⟨.l (.own' (by simp[Ab,Ac]) (by simp[Al e11])),trivial⟩ ?_
   try simp[Al e11,obAfter,outR,keptR,Ab,Ac,← e13]
   intros;rfl
  replace h:=chkE h;obtain⟨e14,h⟩:=h
  refine AW.frzRow 1 (ty:=3) (cap:=none) (sz:=1) (es:=encI v13) (by simp) (by omega) (Cn _) (by first|exact (Aw e14).2|simpa using (Aw e14).2|simp) (by simp[Tm.frz,AV.frz,LV.frz];rfl) (by simp[Ob.frz,LV.frz];rfl) rfl ?_
  obtain rfl:=oi h
  refine AW.ret ?_
  refine Left.plain hnb (by simp[Try.f24,resV,resC,comp];rfl) rfl rfl ?_
  simp
theorem En:Enters Try.prog 24:=enters Try.func24 (by kernel_rfl) rfl
end Go.Proofs.Ythjenkmbbnjcnaa
namespace Go.Proofs.Ythjenkmbbnjcnaa
open Go Go.RowKit
def keyI (x:Int):Int:=x
def ksI (d:List Int) (i:Nat):Int:=keyI (d.getD i (0:Int))
theorem cmpEI (x y:Int):AM big x y=some (decide (keyI x<keyI y)):=by
 unfold AM
 rw[noNaN]
 simp only[An,AT,Av]
 rfl
def swI (d:List Int) (i j:Nat):List Int:=(d.set i (d.getD j (0:Int))).set j (d.getD i (0:Int))
theorem Kc (d:List Int) (i j:Nat):(swI d i j).length=d.length:=by simp[swI]
theorem BT {d e:List Int} {i j:Nat} (h:d[i]?=e[j]?):ksI d i=ksI e j:=by
 unfold ksI
 rw[List.getD_eq_getElem?_getD,List.getD_eq_getElem?_getD,h]
theorem Ej {d:List Int} {i j:Nat} (hi:i<d.length) (hj:j<d.length) (p:Nat):ksI (swI d i j) p=if p=j then ksI d i else if p=i then ksI d j else ksI d p:=by
 unfold ksI swI
 rw[List.getD_eq_getElem?_getD,List.getElem?_set]
 by_cases e:j=p
 ·subst e
  rw[if_pos rfl,if_pos (by simpa using hj),if_pos rfl]
  rfl
 ·rw[if_neg e,if_neg fun h=>e h.symm,List.getElem?_set]
  by_cases e2:i=p
  ·subst e2
   rw[if_pos rfl,if_pos hi,if_pos rfl]
   rfl
  ·rw[if_neg e2,if_neg fun h=>e2 h.symm,← List.getD_eq_getElem?_getD]
theorem RP.swI {d:List Int} {a b i j:Nat} (hi:i<d.length) (hj:j<d.length) (h1:a≤i∧i<b) (h2:a≤j∧j<b):RP a b d (Go.Proofs.Ythjenkmbbnjcnaa.swI d i j):=by
 have e1:d.getD i (0:Int)=d[i]:=by rw[List.getD_eq_getElem?_getD,List.getElem?_eq_getElem hi];rfl
 have e2:d.getD j (0:Int)=d[j]:=by rw[List.getD_eq_getElem?_getD,List.getElem?_eq_getElem hj];rfl
 unfold Go.Proofs.Ythjenkmbbnjcnaa.swI
 rw[e1,e2]
 refine⟨List.set_set_perm hi hj,fun p hp=>?_⟩
 rw[List.getElem?_set_ne (by omega),List.getElem?_set_ne (by omega)]
theorem swapI {d:List Int} {i j:Nat} {x y:Int} (hx:x=(i:Int)) (hy:y=(j:Int)) (hi:i<d.length) (hj:j<d.length) {β:Type} {k:List Int→Option β} {Q:β→Prop} (h:Rn (k (swI d i j)) Q) :
  Rn (bn (nth d y) fun u=>bn (nth d x) fun v=>lt (d.set x.toNat u) fun w=>bn (nth w y) fun _=>lt (w.set y.toNat v) k) Q:=by
 subst hx hy
 refine Rn.bnE (nthD hj (0:Int)) (Rn.bnE (nthD hi (0:Int)) (Rn.lt ?_))
 rw[Int.toNat_natCast,Int.toNat_natCast]
 exact Rn.bnE (nthD (by simpa using hj) (0:Int)) (Rn.lt h)
def SortedI (d:List Int) (a b:Nat):Prop:=∀ p q,a≤p→p<q→q<b→ksI d p≤ksI d q
structure InsI (l d:List Int) (a i j:Nat):Prop where
 rp:RP a (i+1) l d
 aj:a≤j
 ji:j≤i
 srt:∀ p q,a≤p→p<q→q≤i→p≠j→q≠j→ksI d p≤ksI d q
 low:∀ q,j<q→q≤i→ksI d j≤ksI d q
theorem InsI.step {l d:List Int} {a i j:Nat} (h:InsI l d a i (j+1)) (hi:i<l.length) (haj:a≤j) (hlt:ksI d (j+1)<ksI d j):InsI l (swI d (j+1) j) a i j:=by
 have hji:=h.ji
 have hl:=h.rp.len
 have hk:=Ej (d:=d) (i:=j+1) (j:=j) (by omega) (by omega)
 refine⟨h.rp.trans (RP.swI (by omega) (by omega) (by omega) (by omega)),haj,by omega,fun p q g1 g2 g3 g4 g5=>?_,fun q g1 g2=>?_⟩
 ·rw[hk,hk,if_neg g4,if_neg g5]
  rcases Decidable.em (p=j+1) with e|e
  ·subst e
   rw[if_pos rfl,if_neg (by omega)]
   exact h.srt j q haj (by omega) g3 (by omega) (by omega)
  ·rw[if_neg e]
   rcases Decidable.em (q=j+1) with e'|e'
   ·subst e'
    rw[if_pos rfl]
    exact h.srt p j g1 (by omega) (by omega) (by omega) (by omega)
   ·rw[if_neg e']
    exact h.srt p q g1 g2 g3 e e'
 ·rw[hk,hk,if_pos rfl,if_neg (by omega)]
  rcases Decidable.em (q=j+1) with e|e
  ·rw[if_pos e]
   omega
  ·rw[if_neg e]
   exact h.low q (by omega) g2
theorem InsI.done {l d:List Int} {a i j:Nat} (h:InsI l d a i j) (hc:a<j→ksI d (j - 1)≤ksI d j):RP a (i+1) l d∧SortedI d a (i+1):=by
 refine⟨h.rp,fun p q h1 h2 h3=>?_⟩
 rcases Decidable.em (p=j) with e|e
 ·subst e
  exact h.low q h2 (by omega)
 ·rcases Decidable.em (q=j) with e'|e'
  ·subst e'
   have g3:=hc (by omega)
   rcases Decidable.em (p=q - 1) with e2|e2
   ·subst e2
    exact g3
   ·have:=h.srt p (q - 1) h1 (by omega) (by have:=h.ji;omega) e (by omega)
    omega
  ·exact h.srt p q h1 h2 (by omega) e e'
theorem Kd {l:List Int} {a b:Nat} (hab:a≤b) (hb:b≤l.length) (hl:l.length≤1000000):Rn (Be big l (a:Int) (b:Int)) fun r=>RP a b l r∧SortedI r a b:=by
 unfold Be
 refine Rn.lt ?_
 have e0:addI .i64 (a:Int) 1=((a+1:Nat):Int):=by rw[Am (by omega) (by omega)];omega
 rw[e0]
 refine Rn.bn (P:=fun r=>RP a b l r∧SortedI r a b) (Rn.iter _ (fun k y=>∃ d:List Int,y=(((a+1+k:Nat):Int),d)∧RP a b l d∧SortedI d a (a+1+k)) (b - a - 1) (by unfold big;omega) ⟨l,rfl,RP.refl _ _ _,fun p q h1 h2 h3=>by omega⟩ fun k y hk hI=>?_) fun r hr=>Rn.some hr
 obtain⟨d,rfl,hp,hs⟩:=hI
 have hdl:=hp.len
 refine Rn.lt (Rn.ite (fun hd=>?_) fun hd=>?_)
 ·have hi:a+1+k<b:=by
   have:=of_decide_eq_true (p:=(((a+1+k:Nat):Int)<(b:Int))) hd
   omega
  refine Rn.bn (P:=fun r=>RP a (a+1+k+1) d r∧SortedI r a (a+1+k+1)) ?_ fun r hr=>Rn.lt (Rn.some ⟨by omega,r,?_,hp.trans (hr.1.mono (Nat.le_refl _) (by omega)),fun p q h1 h2 h3=>hr.2 p q h1 h2 (by omega)⟩)
  ·have h0:InsI d d a (a+1+k) (a+1+k):=⟨RP.refl _ _ _,by omega,Nat.le_refl _,fun p q h1 h2 h3 h4 h5=>hs p q h1 h2 (by omega),fun q h1 h2=>by omega⟩
   refine Rn.iter _ (fun t y=>∃ (j:Nat) (d':List Int),y=((j:Int),d')∧j+t=a+1+k∧InsI d d' a (a+1+k) j) (k+1) (by unfold big;omega) ⟨a+1+k,d,rfl,rfl,h0⟩ fun t y ht hI=>?_
   obtain⟨j,d',rfl,hj,h⟩:=hI
   have hdl':=h.rp.len
   rcases Decidable.em (a<j) with haj|haj
   ·obtain⟨j,rfl⟩:∃ i,j=i+1:=⟨j - 1,by omega⟩
    have hji:=h.ji
    have h2:j+1<d'.length:=by omega
    have h1:j<d'.length:=by omega
    have es:subI .i64 ((j+1:Nat):Int) 1=(j:Int):=by rw[Ap (by omega) (by omega)];omega
    refine Rn.bnE (v:=decide (ksI d' (j+1)<ksI d' j)) ?_ (Rn.lt (Rn.ite (fun hc=>?_) fun hc=>Rn.some (h.done fun _=>?_)))
    ·simp only[Av]
     rw[gt_t (show (a:Int)<((j+1:Nat):Int) by omega),AF,nthD h2 (0:Int)]
     simp only[An]
     rw[es,nthD h1 (0:Int)]
     simp only[An,cmpEI]
     rfl
    ·have hlt:=of_decide_eq_true hc
     refine Rn.lt ?_
     simp only
     rw[es]
     exact swapI (x:=((j+1:Nat):Int)) rfl rfl h2 h1 (Rn.some ⟨by omega,j,_,rfl,by omega,h.step (by omega) (by omega) hlt⟩)
    ·have:=of_decide_eq_false hc
     show ksI d' j≤ksI d' (j+1)
     omega
   ·refine Rn.bnE (v:=false) ?_ (Rn.lt (Rn.ite (fun hc=>by simp at hc) fun _=>Rn.some (h.done fun hc=>absurd hc haj)))
    simp only[Av]
    rw[gt_f (by omega),AT]
  ·rw[Am (by first|omega|(simp only;omega)) (by first|omega|(simp only;omega))]
   rfl
 ·have hi:b≤a+1+k:=by
   have:=of_decide_eq_false (p:=(((a+1+k:Nat):Int)<(b:Int))) hd
   omega
  exact Rn.some ⟨hp,fun p q h1 h2 h3=>hs p q h1 h2 (by omega)⟩
theorem Fa {l:List Int} {i j:Nat} (hi:i<l.length) (hj:j<l.length) (s:Int):Rn (A3 big l (i:Int) (j:Int) s) fun r=>((r.1=(i:Int)∧r.2.1=(j:Int))∨(r.1=(j:Int)∧r.2.1=(i:Int)))∧r.2.2.1=l:=by
 unfold A3
 refine Rn.bnE (nthD hj (0:Int)) (Rn.bnE (nthD hi (0:Int)) ?_)
 simp only[cmpEI,An,Av]
 exact Rn.ite (fun _=>Rn.some ⟨.inr ⟨rfl,rfl⟩,rfl⟩) fun _=>Rn.some ⟨.inl ⟨rfl,rfl⟩,rfl⟩
theorem ID {l:List Int} {i j k:Nat} (hi:i<l.length) (hj:j<l.length) (hk:k<l.length) (s:Int):Rn (Bp big l (i:Int) (j:Int) (k:Int) s) fun r=>(∃ x:Nat,r.1=(x:Int)∧(x=i∨x=j∨x=k))∧r.2.1=l:=by
 unfold Bp
 refine Rn.bn (Fa hi hj s) fun v hv=>?_
 obtain⟨v1,v2,v3,v4⟩:=v
 obtain⟨hv1,hv2⟩:=hv
 simp only at hv1 hv2
 subst v3
 refine Rn.chk (by simp[lenB]) ?_
 obtain⟨x,y,ex,ey,hxy⟩:∃ x y:Nat,v1=(x:Int)∧v2=(y:Int)∧((x=i∧y=j)∨(x=j∧y=i)):=by
  rcases hv1 with ⟨a,b⟩|⟨a,b⟩
  ·exact⟨i,j,a,b,.inl ⟨rfl,rfl⟩⟩
  ·exact⟨j,i,a,b,.inr ⟨rfl,rfl⟩⟩
 subst ex ey
 have hx:x<l.length:=by omega
 have hy:y<l.length:=by omega
 refine Rn.bn (Fa hy hk v4) fun w hw=>?_
 obtain⟨w1,w2,w3,w4⟩:=w
 obtain⟨hw1,hw2⟩:=hw
 simp only at hw1 hw2
 subst w3
 refine Rn.chk (by simp[lenB]) ?_
 obtain⟨z,t,ez,et,hzt⟩:∃ z t:Nat,w1=(z:Int)∧w2=(t:Int)∧((z=y∧t=k)∨(z=k∧t=y)):=by
  rcases hw1 with ⟨a,b⟩|⟨a,b⟩
  ·exact⟨y,k,a,b,.inl ⟨rfl,rfl⟩⟩
  ·exact⟨k,y,a,b,.inr ⟨rfl,rfl⟩⟩
 subst ez et
 have hz:z<l.length:=by omega
 refine Rn.bn (Fa hx hz w4) fun u hu=>?_
 obtain⟨u1,u2,u3,u4⟩:=u
 obtain⟨hu1,hu2⟩:=hu
 simp only at hu1 hu2
 subst u3
 refine Rn.chk (by simp[lenB]) (Rn.some ⟨?_,rfl⟩)
 simp only
 rcases hu1 with ⟨a,b⟩|⟨a,b⟩
 ·exact⟨z,b,by omega⟩
 ·exact⟨x,b,by omega⟩
theorem IE {l:List Int} {a b:Nat} (hab:a+12<b) (hb:b≤l.length) (hl:l.length≤sortMost):Rn (Bl big l (a:Int) (b:Int)) fun r=>(∃ k:Nat,r.1=(k:Int)∧a≤k∧k<b)∧r.2.2=l:=by
 unfold sortMost at hl
 unfold Bl
 refine Rn.lt ?_
 rw[Ap (by omega) (by omega)]
 refine Rn.bnE (vquo (by omega) (by omega) (by omega)) (Rn.lt ?_)
 obtain⟨q,hq⟩:∃ q:Nat,((b:Int) - (a:Int)) / 4=(q:Int):=⟨((b:Int) - (a:Int)).toNat / 4,by omega⟩
 rw[hq]
 refine Rn.lt (Rn.lt (Rn.lt (Rn.lt (Rn.lt ?_))))
 rw[Ce (by omega) (by omega),Ce (show -9223372036854775808≤(q:Int)*2 by omega) (by omega),Ce (show -9223372036854775808≤(q:Int)*3 by omega) (by omega),Am (by omega) (by omega),Am (show -9223372036854775808≤(a:Int)+(q:Int)*2 by omega) (by omega),Am (show -9223372036854775808≤(a:Int)+(q:Int)*3 by omega) (by omega)]
 refine Rn.bn (P:=fun y=>(∃ k:Nat,y.1=(k:Int)∧a≤k∧k<b)∧y.2.1=l) ?_ fun y hy=>?_
 ·refine Rn.lt (Rn.ite (fun _=>?_) fun h=>?_)
  ·refine Rn.bnE (v:=((a:Int)+(q:Int)*1,(a:Int)+(q:Int)*2,(a:Int)+(q:Int)*3,l,0)) ?_ ?_
   ·simp only[Av]
    rw[ge_f (by omega),AT]
   ·simp only
    rw[show (a:Int)+(q:Int)*1=((a+q:Nat):Int) by omega,show (a:Int)+(q:Int)*2=((a+q*2:Nat):Int) by omega,show (a:Int)+(q:Int)*3=((a+q*3:Nat):Int) by omega]
    refine Rn.bn (ID (by omega) (by omega) (by omega) 0) fun v hv=>Rn.chk (by rw[hv.2];simp[lenB]) (Rn.some ⟨?_,hv.2⟩)
    obtain⟨x,e,hx⟩:=hv.1
    exact⟨x,e,by omega⟩
  ·have:=of_decide_eq_false (p:=(8:Int)≤(b:Int) - (a:Int)) h
   omega
 ·obtain⟨⟨k,e,hk⟩,hy2⟩:=hy
  obtain⟨y1,y2,y3⟩:=y
  simp only at e hy2
  subst y2
  exact Rn.lt (Rn.ite (fun _=>Rn.some ⟨⟨k,e,hk⟩,rfl⟩) fun _=>Rn.lt (Rn.ite (fun _=>Rn.some ⟨⟨k,e,hk⟩,rfl⟩) fun _=>Rn.some ⟨⟨k,e,hk⟩,rfl⟩))
theorem HW {l:List Int} {a b:Nat} (hab:a<b) (hb:b≤l.length) (hl:l.length≤sortMost):Rn (Bi big l (a:Int) (b:Int)) fun r=>RP a b l r:=by
 unfold sortMost at hl
 unfold Bi
 refine Rn.lt ?_
 rw[Ap (by omega) (by omega),show (b:Int) - 1=((b - 1:Nat):Int) by omega]
 refine Rn.bn (P:=fun r=>RP a b l r) (Rn.iter _ (fun t y=>∃ (i j:Nat) (d:List Int),y=((i:Int),(j:Int),d)∧i=a+t∧j<b∧i≤j+1∧RP a b l d) (b - a) (by unfold big;omega) ⟨a,b - 1,l,rfl,rfl,by omega,by omega,RP.refl _ _ _⟩ fun t y ht hI=>?_) fun r hr=>Rn.some hr
 obtain⟨i,j,d,rfl,h1,h2,h3,h4⟩:=hI
 have hd:=h4.len
 refine Rn.lt (Rn.ite (fun hc=>?_) fun hc=>Rn.some h4)
 have hij:i<j:=by
  have:=of_decide_eq_true (p:=((i:Int)<(j:Int))) hc
  omega
 refine swapI rfl rfl (show i<d.length by omega) (show j<d.length by omega) (Rn.lt (Rn.lt (Rn.some ⟨by omega,i+1,j - 1,swI d i j,?_,by omega,by omega,by omega,h4.trans (RP.swI (by omega) (by omega) (by omega) (by omega))⟩)))
 show (addI .i64 (i:Int) 1,subI .i64 (j:Int) 1,swI d i j)=_
 rw[Am (by omega) (by omega),Ap (by omega) (by omega),show ((j - 1:Nat):Int)=(j:Int) - 1 by omega]
 rfl
theorem HX {l:List Int} {a b:Nat} (hab:a<b) (hb:b≤l.length) (hl:l.length≤sortMost):Rn (AS big l (a:Int) (b:Int)) fun r=>r.2=l∧(r.1=true→SortedI l a b):=by
 unfold sortMost at hl
 unfold AS
 refine Rn.lt ?_
 rw[Am (by omega) (by omega),show (a:Int)+1=((a+1:Nat):Int) by omega]
 refine Rn.bn (P:=fun y=>y=.inr (false,l)∨(y=.inr (true,l)∧SortedI l a b)) (Rn.iter _ (fun t y=>t=0∧y=(((a+1:Nat):Int),0,l)) 0 (by unfold big;omega) ⟨rfl,rfl⟩ fun t y ht hI=>?_) fun y hy=>?_
 ·obtain⟨rfl,rfl⟩:=hI
  refine Rn.lt (Rn.ite (fun _=>?_) fun h=>absurd (show ltI 0 5=false from h) (by decide))
  refine Rn.bn (P:=fun y=>y=.inr (false,l)∨(y=.inr (true,l)∧SortedI l a b)) ?_ fun y hy=>?_
  ·refine Rn.bn (scanUp (p:=fun i=>decide (¬ ksI l i<ksI l (i - 1))) (i0:=a+1) (hi:=b) (by omega) (fun i h1 h2=>?_) ?_ (by omega)) fun r hr=>?_
   ·simp only[Av]
    rw[lt_t (by omega),AF,nthD (show i<l.length by omega) (0:Int)]
    simp only[An]
    rw[Ap (by omega) (by omega),show (i:Int) - 1=((i - 1:Nat):Int) by omega,nthD (show i - 1<l.length by omega) (0:Int)]
    simp only[An,cmpEI,CD]
    rfl
   ·simp only[Av]
    rw[lt_f (by omega),AT]
   ·obtain⟨k,rfl,k1,k2,k3,k4⟩:=hr
    refine Rn.lt (Rn.ite (fun h=>Rn.some (.inr ⟨rfl,?_⟩)) fun h=>Rn.lt (Rn.lt ?_))
    ·have hk:k=b:=by
      have:=of_decide_eq_true (p:=((k:Int)=(b:Int))) h
      omega
     subst hk
     have hadj:∀ i,a+1≤i→i<k→ksI l (i - 1)≤ksI l i:=fun i g1 g2=>by
      have:=of_decide_eq_true (k3 i g1 g2)
      omega
     intro p q h1 h2 h3
     obtain⟨n,rfl⟩:∃ n,q=p+1+n:=⟨q - (p+1),by omega⟩
     clear h2
     induction n with
     |zero=>exact hadj (p+1) (by omega) h3
     |succ n ih =>
      have g1:=ih (by omega)
      have g2:=hadj (p+1+n+1) (by omega) h3
      rw[show p+1+n+1 - 1=p+1+n by omega] at g2
      exact Int.le_trans g1 g2
    ·rw[Ap (by omega) (by omega),lt_t (by omega)]
     exact Rn.ite (fun _=>Rn.some (.inl rfl)) fun h=>by simp at h
  ·rcases hy with rfl|⟨rfl,hs⟩
   ·rw[B7]
    exact Rn.some (.inl rfl)
   ·rw[B7]
    exact Rn.some (.inr ⟨rfl,hs⟩)
 ·rcases hy with rfl|⟨rfl,hs⟩
  ·rw[B7]
   exact Rn.some ⟨rfl,fun h=>by simp at h⟩
  ·rw[B7]
   exact Rn.some ⟨rfl,fun _=>hs⟩
structure PEI (l d:List Int) (a b:Nat) (K:Int) (i j:Nat):Prop where
 rp:RP a b l d
 pv:ksI d a=K
 lo:∀ p,a<p→p<i→ksI d p≤K
 hi:∀ p,j<p→p<b→K<ksI d p
 ai:a+1≤i
 ij:i≤j+1
 jb:j<b
theorem IF {l:List Int} {a b k:Nat} (hk1:a≤k) (hk2:k<b) (hb:b≤l.length) (hl:l.length≤sortMost):Rn (A9 big l (a:Int) (b:Int) (k:Int)) fun r=>∃ m:Nat,r.1=(m:Int)∧a<m∧m≤b∧RP a b l r.2∧(∀ p,a≤p→p<m→ksI r.2 p≤ksI l k)∧(∀ p,m≤p→p<b→ksI l k<ksI r.2 p):=by
 unfold sortMost at hl
 unfold A9
 refine swapI rfl rfl (show a<l.length by omega) (show k<l.length by omega) (Rn.lt (Rn.lt ?_))
 have hs:=RP.swI (d:=l) (a:=a) (b:=b) (i:=a) (j:=k) (by omega) (by omega) (by omega) (by omega)
 have hpv:ksI (swI l a k) a=ksI l k:=by
  rw[Ej (by omega) (by omega)]
  split
  ·rename_i h
   rw[← h]
  ·rw[if_pos rfl]
 generalize swI l a k=d0 at hs hpv
 rw[Am (by omega) (by omega),Ap (by omega) (by omega),show (a:Int)+1=((a+1:Nat):Int) by omega,show (b:Int) - 1=((b - 1:Nat):Int) by omega]
 refine Rn.bn (P:=fun y=>∃ m:Nat,y.1=(m:Int)∧a<m∧m≤b∧RP a b l y.2∧(∀ p,a≤p→p<m→ksI y.2 p≤ksI l k)∧(∀ p,m≤p→p<b→ksI l k<ksI y.2 p)) (Rn.iter _ (fun t y=>∃ (i j:Nat) (d:List Int),y=((i:Int),(j:Int),d)∧a+1+t≤i∧PEI l d a b (ksI l k) i j) (b - a) (by unfold big;omega) ⟨a+1,b - 1,d0,rfl,by omega,⟨hs,hpv,fun p h1 h2=>by omega,fun p h1 h2=>by omega,by omega,by omega,by omega⟩⟩ fun t y ht hI=>?_) fun y hy=>Rn.some hy
 obtain⟨i,j,d,rfl,h1,h⟩:=hI
 have hd:=h.rp.len
 have hai:=h.ai
 have hij:=h.ij
 have hjb:=h.jb
 generalize ksI l k=K at h
 refine Rn.bn (scanUp (p:=fun p=>decide (¬ K<ksI d p)) (i0:=i) (hi:=j+1) (by omega) (fun p g1 g2=>?_) ?_ (by omega)) fun r hr=>?_
 ·simp only[Av]
  rw[le_t (by omega),AF,nthD (show a<d.length by omega) (0:Int)]
  simp only[An]
  rw[nthD (show p<d.length by omega) (0:Int)]
  simp only[An,cmpEI,CD]
  rw[← h.pv]
  rfl
 ·simp only[Av]
  rw[le_f (by omega),AT]
 obtain⟨i',rfl,i1,i2,i3,i4⟩:=hr
 refine Rn.bn (scanDown (p:=fun p=>decide (K<ksI d p)) (j0:=j) (lo:=i' - 1) (by omega) (fun p g1 g2=>?_) ?_ (by omega)) fun r hr=>?_
 ·simp only[Av]
  rw[le_t (by omega),AF,nthD (show a<d.length by omega) (0:Int)]
  simp only[An]
  rw[nthD (show p<d.length by omega) (0:Int)]
  simp only[An,cmpEI]
  rw[← h.pv]
  rfl
 ·simp only[Av]
  rw[le_f (by omega),AT]
 obtain⟨j',rfl,j1,j2,j3,j4⟩:=hr
 have hlo:∀ p,a<p→p<i'→ksI d p≤K:=fun p g1 g2=>by
  rcases Nat.lt_or_ge p i with g3|g3
  ·exact h.lo p g1 g3
  ·have:=of_decide_eq_true (i3 p g3 g2)
   omega
 have hhi:∀ p,j'<p→p<b→K<ksI d p:=fun p g1 g2=>by
  rcases Nat.lt_or_ge j p with g3|g3
  ·exact h.hi p g3 g2
  ·exact of_decide_eq_true (j3 p g1 g3)
 refine Rn.lt (Rn.ite (fun hc=>Rn.some ⟨i',rfl,by omega,by omega,h.rp,fun p g1 g2=>?_,fun p g1 g2=>hhi p ?_ g2⟩) fun hc=>?_)
 ·rcases Nat.eq_or_lt_of_le g1 with g3|g3
  ·subst g3
   show ksI d a≤K
   rw[h.pv]
   exact Int.le_refl _
  ·exact hlo p g3 g2
 ·have:=of_decide_eq_true (p:=((j':Int)<(i':Int))) hc
  omega
 ·have hle:i'≤j':=by
   have:=of_decide_eq_false (p:=((j':Int)<(i':Int))) hc
   omega
  have e1:=of_decide_eq_false (i4 (by omega))
  have e2:=of_decide_eq_false (j4 (by omega))
  have hne:i'≠j':=fun e=>by subst e;omega
  refine swapI rfl rfl (show i'<d.length by omega) (show j'<d.length by omega) (Rn.lt (Rn.lt (Rn.some ⟨by omega,i'+1,j' - 1,swI d i' j',?_,by omega,?_⟩)))
  ·rw[Am (by omega) (by omega),Ap (by omega) (by omega),show ((j' - 1:Nat):Int)=(j':Int) - 1 by omega]
   rfl
  ·have hk:=Ej (d:=d) (i:=i') (j:=j') (by omega) (by omega)
   refine⟨h.rp.trans (RP.swI (by omega) (by omega) (by omega) (by omega)),?_,fun p g1 g2=>?_,fun p g1 g2=>?_,by omega,by omega,by omega⟩
   ·rw[hk,if_neg (by omega),if_neg (by omega)]
    exact h.pv
   ·rw[hk,if_neg (by omega)]
    split
    ·omega
    ·exact hlo p g1 (by omega)
   ·rw[hk]
    split
    ·omega
    ·rw[if_neg (by omega)]
     exact hhi p (by omega) g2
structure PTI (l d:List Int) (a b:Nat) (K:Int) (i j:Nat):Prop where
 rp:RP a b l d
 pv:ksI d a=K
 lo:∀ p,a<p→p<i→ksI d p<K
 hi:∀ p,j<p→p<b→K≤ksI d p
 ai:a+1≤i
 ij:i≤j+1
 jb:j<b
structure PSI (d:List Int) (a b:Nat) (K:Int) (i' j':Nat):Prop where
 lo:∀ p,a<p→p<i'→ksI d p<K
 hi:∀ p,j'<p→p<b→K≤ksI d p
 ge:i'≤j'+1
 both:i'≤j'→K≤ksI d i'∧ksI d j'<K
theorem PTI.scan {l d:List Int} {a b i j i' j':Nat} {K:Int} (h:PTI l d a b K i j) (i1:i≤i') (i3:∀ p,i≤p→p<i'→decide (ksI d p<K)=true) (i4:i'<j+1→decide (ksI d i'<K)=false)
  (j1:i' - 1≤j') (j2:j'≤j) (j3:∀ p,j'<p→p≤j→decide (¬ ksI d p<K)=true) (j4:i' - 1<j'→decide (¬ ksI d j'<K)=false):PSI d a b K i' j':=by
 have hai:=h.ai
 refine⟨fun p g1 g2=>?_,fun p g1 g2=>?_,by omega,fun hle=>⟨?_,?_⟩⟩
 ·rcases Nat.lt_or_ge p i with g3|g3
  ·exact h.lo p g1 g3
  ·exact of_decide_eq_true (i3 p g3 g2)
 ·rcases Nat.lt_or_ge j p with g3|g3
  ·exact h.hi p g3 g2
  ·have:=of_decide_eq_true (j3 p g1 g3)
   omega
 ·have:=of_decide_eq_false (i4 (by omega))
  omega
 ·have:=of_decide_eq_false (j4 (by omega))
  omega
theorem PSI.last {l d:List Int} {a b i' j':Nat} {K:Int} (hr:RP a b l d) (pv:ksI d a=K) (h:PSI d a b K i' j') (hb:b≤l.length) (h1:a≤j') (h2:j'<b) (h3:j'<i') :
  RP a b l (swI d j' a)∧ksI (swI d j' a) j'=K∧(∀ p,a≤p→p<j'→ksI (swI d j' a) p<K)∧∀ p,j'<p→p<b→K≤ksI (swI d j' a) p:=by
 have hd:=hr.len
 have hge:=h.ge
 have hk:=Ej (d:=d) (i:=j') (j:=a) (by omega) (by omega)
 refine⟨hr.trans (RP.swI (by omega) (by omega) (by omega) (by omega)),?_,fun p g1 g2=>?_,fun p g1 g2=>?_⟩
 ·rw[hk]
  split
  ·rename_i e
   rw[e]
   exact pv
  ·rw[if_pos rfl]
   exact pv
 ·rw[hk]
  split
  ·exact h.lo j' (by omega) (by omega)
  ·rw[if_neg (by omega)]
   exact h.lo p (by omega) (by omega)
 ·rw[hk,if_neg (by omega),if_neg (by omega)]
  exact h.hi p g1 g2
theorem PSI.more {l d:List Int} {a b i' j':Nat} {K:Int} (hr:RP a b l d) (pv:ksI d a=K) (h:PSI d a b K i' j') (hb:b≤l.length) (h1:a+1≤i') (h2:j'<b) (h3:i'≤j') :
  i'≠j'∧PTI l (swI d i' j') a b K (i'+1) (j' - 1):=by
 have hd:=hr.len
 obtain⟨e1,e2⟩:=h.both h3
 have hne:i'≠j':=fun e=>by subst e;omega
 have hk:=Ej (d:=d) (i:=i') (j:=j') (by omega) (by omega)
 refine⟨hne,hr.trans (RP.swI (by omega) (by omega) (by omega) (by omega)),?_,fun p g1 g2=>?_,fun p g1 g2=>?_,by omega,by omega,by omega⟩
 ·rw[hk,if_neg (by omega),if_neg (by omega)]
  exact pv
 ·rw[hk,if_neg (by omega)]
  split
  ·exact e2
  ·exact h.lo p g1 (by omega)
 ·rw[hk]
  split
  ·exact e1
  ·rw[if_neg (by omega)]
   exact h.hi p (by omega) g2
theorem JD {l:List Int} {a b k:Nat} (hk1:a≤k) (hk2:k<b) (hb:b≤l.length) (hl:l.length≤sortMost):Rn (Bq big l (a:Int) (b:Int) (k:Int)) fun r=>∃ m:Nat,r.1=(m:Int)∧a≤m∧m<b∧RP a b l r.2.2∧ksI r.2.2 m=ksI l k∧(∀ p,a≤p→p<m→ksI r.2.2 p<ksI l k)∧(∀ p,m<p→p<b→ksI l k≤ksI r.2.2 p):=by
 unfold sortMost at hl
 unfold Bq
 refine swapI rfl rfl (show a<l.length by omega) (show k<l.length by omega) (Rn.lt (Rn.lt ?_))
 have hs:=RP.swI (d:=l) (a:=a) (b:=b) (i:=a) (j:=k) (by omega) (by omega) (by omega) (by omega)
 have hpv:ksI (swI l a k) a=ksI l k:=by
  rw[Ej (by omega) (by omega)]
  split
  ·rename_i h
   rw[← h]
  ·rw[if_pos rfl]
 generalize swI l a k=d at hs hpv
 generalize ksI l k=K at hpv
 rw[Am (by omega) (by omega),Ap (by omega) (by omega),show (a:Int)+1=((a+1:Nat):Int) by omega,show (b:Int) - 1=((b - 1:Nat):Int) by omega]
 have h0:PTI l d a b K (a+1) (b - 1):=⟨hs,hpv,fun p h1 h2=>by omega,fun p h1 h2=>by omega,by omega,by omega,by omega⟩
 have hd:=hs.len
 refine Rn.bn (scanUp (p:=fun p=>decide (ksI d p<K)) (i0:=a+1) (hi:=b - 1+1) (by omega) (fun p g1 g2=>?_) ?_ (by omega)) fun r hr=>?_
 ·simp only[Av]
  rw[le_t (by omega),AF,nthD (show p<d.length by omega) (0:Int)]
  simp only[An]
  rw[nthD (show a<d.length by omega) (0:Int)]
  simp only[An,cmpEI]
  rw[← hpv]
  rfl
 ·simp only[Av]
  rw[le_f (by omega),AT]
 obtain⟨i',rfl,i1,i2,i3,i4⟩:=hr
 refine Rn.bn (scanDown (p:=fun p=>decide (¬ ksI d p<K)) (j0:=b - 1) (lo:=i' - 1) (by omega) (fun p g1 g2=>?_) ?_ (by omega)) fun r hr=>?_
 ·simp only[Av]
  rw[le_t (by omega),AF,nthD (show p<d.length by omega) (0:Int)]
  simp only[An]
  rw[nthD (show a<d.length by omega) (0:Int)]
  simp only[An,cmpEI,CD]
  rw[← hpv]
  rfl
 ·simp only[Av]
  rw[le_f (by omega),AT]
 obtain⟨j',rfl,j1,j2,j3,j4⟩:=hr
 have ps:=h0.scan i1 i3 i4 j1 j2 j3 j4
 refine Rn.lt (Rn.ite (fun hc=>?_) fun hc=>?_)
 ·have hji:j'<i':=by
   have:=of_decide_eq_true (p:=((j':Int)<(i':Int))) hc
   omega
  obtain⟨q1,q2,q3,q4⟩:=ps.last hs hpv hb (by omega) (by omega) hji
  exact swapI rfl rfl (show j'<d.length by omega) (show a<d.length by omega) (Rn.some ⟨j',rfl,by omega,by omega,q1,q2,q3,q4⟩)
 have hij:i'≤j':=by
  have:=of_decide_eq_false (p:=((j':Int)<(i':Int))) hc
  omega
 obtain⟨hne,h1⟩:=ps.more hs hpv hb (by omega) (by omega) hij
 refine swapI rfl rfl (show i'<d.length by omega) (show j'<d.length by omega) (Rn.lt (Rn.lt ?_))
 rw[Am (by omega) (by omega),Ap (by omega) (by omega),show (i':Int)+1=((i'+1:Nat):Int) by omega,show (j':Int) - 1=((j' - 1:Nat):Int) by omega]
 generalize swI d i' j'=d1 at h1
 refine Rn.bn (P:=fun y=>∃ (m i:Nat) (d:List Int),y=((m:Int),d)∧RP a b l d∧ksI d a=K∧PSI d a b K i m∧a≤m∧m<b∧m<i) (Rn.iter _ (fun t y=>∃ (i j:Nat) (d:List Int),y=((i:Int),(j:Int),d)∧a+1+t≤i∧PTI l d a b K i j) (b - a) (by unfold big;omega) ⟨i'+1,j' - 1,d1,rfl,by omega,h1⟩ fun t y ht hI=>?_) fun y hy=>?_
 ·clear i3 i4 j3 j4 ps h0 hpv hs
  obtain⟨i,j,d,rfl,ht1,h⟩:=hI
  have hd:=h.rp.len
  have hai:=h.ai
  have hij:=h.ij
  have hjb:=h.jb
  refine Rn.bn (scanUp (p:=fun p=>decide (ksI d p<K)) (i0:=i) (hi:=j+1) (by omega) (fun p g1 g2=>?_) ?_ (by omega)) fun r hr=>?_
  ·simp only[Av]
   rw[le_t (by omega),AF,nthD (show p<d.length by omega) (0:Int)]
   simp only[An]
   rw[nthD (show a<d.length by omega) (0:Int)]
   simp only[An,cmpEI]
   rw[← h.pv]
   rfl
  ·simp only[Av]
   rw[le_f (by omega),AT]
  obtain⟨i',rfl,i1,i2,i3,i4⟩:=hr
  refine Rn.bn (scanDown (p:=fun p=>decide (¬ ksI d p<K)) (j0:=j) (lo:=i' - 1) (by omega) (fun p g1 g2=>?_) ?_ (by omega)) fun r hr=>?_
  ·simp only[Av]
   rw[le_t (by omega),AF,nthD (show p<d.length by omega) (0:Int)]
   simp only[An]
   rw[nthD (show a<d.length by omega) (0:Int)]
   simp only[An,cmpEI,CD]
   rw[← h.pv]
   rfl
  ·simp only[Av]
   rw[le_f (by omega),AT]
  obtain⟨j',rfl,j1,j2,j3,j4⟩:=hr
  have ps:=h.scan i1 i3 i4 j1 j2 j3 j4
  refine Rn.lt (Rn.ite (fun hc=>Rn.some ⟨j',i',d,rfl,h.rp,h.pv,ps,by omega,by omega,?_⟩) fun hc=>?_)
  ·have:=of_decide_eq_true (p:=((j':Int)<(i':Int))) hc
   omega
  ·have hij:i'≤j':=by
    have:=of_decide_eq_false (p:=((j':Int)<(i':Int))) hc
    omega
   obtain⟨hne,h1⟩:=ps.more h.rp h.pv hb (by omega) (by omega) hij
   refine swapI rfl rfl (show i'<d.length by omega) (show j'<d.length by omega) (Rn.lt (Rn.lt (Rn.some ⟨by omega,i'+1,j' - 1,swI d i' j',?_,by omega,h1⟩)))
   rw[Am (by omega) (by omega),Ap (by omega) (by omega),show ((j' - 1:Nat):Int)=(j':Int) - 1 by omega]
   rfl
 ·obtain⟨m,i,e,rfl,y1,y2,y3,y4,y5,y6⟩:=hy
  have he:=y1.len
  obtain⟨q1,q2,q3,q4⟩:=y3.last y1 y2 hb y4 y5 y6
  exact swapI rfl rfl (show m<e.length by omega) (show a<e.length by omega) (Rn.some ⟨m,rfl,y4,y5,q1,q2,q3,q4⟩)
def HeapI (d:List Int) (f lo hi:Nat):Prop:=∀ i c,lo≤i→(c=2*i+1∨c=2*i+2)→c<hi→ksI d (f+c)≤ksI d (f+i)
theorem HeapI.max {d:List Int} {f hi:Nat} (h:HeapI d f 0 hi):∀ i,i<hi→ksI d (f+i)≤ksI d f:=by
 intro i
 induction i using Nat.strongRecOn with
 |ind i ih =>
  intro hi'
  rcases Nat.eq_zero_or_pos i with rfl|hp
  ·exact Int.le_refl _
  ·have h1:=h ((i - 1) / 2) i (Nat.zero_le _) (by omega) hi'
   have h2:=ih ((i - 1) / 2) (by omega) (by omega)
   omega
structure SDI (l d:List Int) (f lo hi r:Nat):Prop where
 rp:RP f (f+hi) l d
 lr:lo≤r
 oth:∀ i c,lo≤i→i≠r→(c=2*i+1∨c=2*i+2)→c<hi→ksI d (f+c)≤ksI d (f+i)
 up:∀ p c,lo≤p→(r=2*p+1∨r=2*p+2)→(c=2*r+1∨c=2*r+2)→c<hi→ksI d (f+c)≤ksI d (f+p)
theorem SDI.stop {l d:List Int} {f lo hi r:Nat} (h:SDI l d f lo hi r) (hc:∀ c,(c=2*r+1∨c=2*r+2)→c<hi→ksI d (f+c)≤ksI d (f+r)):RP f (f+hi) l d∧HeapI d f lo hi:=by
 refine⟨h.rp,fun i c h1 h2 h3=>?_⟩
 rcases Decidable.em (i=r) with e|e
 ·subst e
  exact hc c h2 h3
 ·exact h.oth i c h1 e h2 h3
theorem SDI.step {l d:List Int} {f lo hi r c0:Nat} (h:SDI l d f lo hi r) (hb:f+hi≤l.length) (h1:c0=2*r+1∨c0=2*r+2) (h2:c0<hi) (h3:ksI d (f+r)<ksI d (f+c0))
  (h4:∀ c,(c=2*r+1∨c=2*r+2)→c<hi→ksI d (f+c)≤ksI d (f+c0)):SDI l (swI d (f+r) (f+c0)) f lo hi c0:=by
 have hd:=h.rp.len
 have hlr:=h.lr
 have hk:=Ej (d:=d) (i:=f+r) (j:=f+c0) (by omega) (by omega)
 refine⟨h.rp.trans (RP.swI (by omega) (by omega) (by omega) (by omega)),by omega,fun i c g1 g2 g3 g4=>?_,fun p c g1 g2 g3 g4=>?_⟩
 ·rw[hk,hk,if_neg (show ¬ f+i=f+c0 by omega)]
  rcases Decidable.em (i=r) with e|e
  ·subst e
   rw[if_pos (show f+i=f+i from rfl)]
   rcases Decidable.em (c=c0) with e2|e2
   ·rw[if_pos (by omega)]
    omega
   ·rw[if_neg (by omega),if_neg (by omega)]
    exact h4 c g3 g4
  ·rw[if_neg (show ¬ f+i=f+r by omega),if_neg (show ¬ f+c=f+c0 by omega)]
   rcases Decidable.em (c=r) with e2|e2
   ·subst e2
    rw[if_pos rfl]
    exact h.up i c0 g1 g3 h1 h2
   ·rw[if_neg (by omega)]
    exact h.oth i c g1 e g3 g4
 ·have hp:p=r:=by omega
  subst hp
  rw[hk,hk,if_neg (by omega),if_neg (by omega),if_neg (by omega),if_pos rfl]
  exact h.oth c0 c (by omega) (by omega) g3 g4
theorem HF {l:List Int} {f lo hi:Nat} (hb:f+hi≤l.length) (hl:l.length≤sortMost) (hh:HeapI l f (lo+1) hi) (hlo:lo≤100):Rn (Bg big l (lo:Int) (hi:Int) (f:Int)) fun r=>RP f (f+hi) l r∧HeapI r f lo hi:=by
 unfold sortMost at hl
 unfold Bg
 refine Rn.bn (P:=fun y=>∃ d,(y=.inl d∨y=.inr d)∧RP f (f+hi) l d∧HeapI d f lo hi) (Rn.iter _ (fun t y=>∃ (r:Nat) (d:List Int),y=((r:Int),d)∧t≤r∧(t≤hi)∧(r<hi∨r=lo)∧SDI l d f lo hi r) hi (by unfold big;omega) ⟨lo,l,rfl,Nat.zero_le _,Nat.zero_le _,.inr rfl,RP.refl _ _ _,Nat.le_refl _,fun i c h1 h2 h3 h4=>hh i c (by omega) h3 h4,fun p c h1 h2 h3 h4=>by omega⟩ fun t y ht hI=>?_) fun y hy=>?_
 ·obtain⟨r,d,rfl,t1,t2,hr,h⟩:=hI
  have hd:=h.rp.len
  refine Rn.lt (Rn.lt (Rn.lt ?_))
  have hr2:r≤200:=by omega
  have em:mulI .i64 2 (r:Int)=((2*r:Nat):Int):=by rw[Ce (by omega) (by omega)];omega
  have e1:addI .i64 ((2*r:Nat):Int) 1=((2*r+1:Nat):Int):=by rw[Am (by omega) (by omega)];omega
  simp only
  rw[em,e1]
  refine Rn.ite (fun hc=>Rn.some ⟨d,.inl rfl,h.stop fun c g1 g2=>?_⟩) fun hc=>?_
  ·have:=of_decide_eq_true (p:=((hi:Int)≤((2*r+1:Nat):Int))) hc
   omega
  ·have hc1:2*r+1<hi:=by
    have:=of_decide_eq_false (p:=((hi:Int)≤((2*r+1:Nat):Int))) hc
    omega
   refine Rn.bn (P:=fun y=>∃ c0:Nat,y=(c0:Int)∧(c0=2*r+1∨c0=2*r+2)∧c0<hi∧∀ c,(c=2*r+1∨c=2*r+2)→c<hi→ksI d (f+c)≤ksI d (f+c0)) ?_ fun y hy=>?_
   ·have e2:addI .i64 ((2*r+1:Nat):Int) 1=((2*r+2:Nat):Int):=by rw[Am (by omega) (by omega)];omega
    rcases Nat.lt_or_ge (2*r+2) hi with g|g
    ·refine Rn.bnE (v:=decide (ksI d (f+(2*r+1))<ksI d (f+(2*r+2)))) ?_ (Rn.lt (Rn.ite (fun hq=>?_) fun hq=>?_))
     ·simp only[Av]
      have e3:addI .i64 (f:Int) ((2*r+1:Nat):Int)=((f+(2*r+1):Nat):Int):=by rw[Am (by omega) (by omega)];omega
      have e4:addI .i64 ((f+(2*r+1):Nat):Int) 1=((f+(2*r+2):Nat):Int):=by rw[Am (by omega) (by omega)];omega
      rw[e2,lt_t (by omega),AF,e3,e4,nthD (show f+(2*r+1)<d.length by omega) (0:Int)]
      simp only[An]
      rw[nthD (show f+(2*r+2)<d.length by omega) (0:Int)]
      simp only[An,cmpEI]
      rfl
     ·have hq':=of_decide_eq_true hq
      rw[e2]
      refine Rn.lt (Rn.some ⟨2*r+2,rfl,.inr rfl,g,fun c g1 g2=>?_⟩)
      rcases g1 with rfl|rfl
      ·omega
      ·exact Int.le_refl _
     ·have hq':=of_decide_eq_false hq
      refine Rn.some ⟨2*r+1,rfl,.inl rfl,hc1,fun c g1 g2=>?_⟩
      rcases g1 with rfl|rfl
      ·exact Int.le_refl _
      ·omega
    ·refine Rn.bnE (v:=false) ?_ (Rn.lt (Rn.ite (fun hq=>by simp at hq) fun _=>Rn.some ⟨2*r+1,rfl,.inl rfl,hc1,fun c g1 g2=>?_⟩))
     ·simp only[Av]
      rw[e2,lt_f (by omega),AT]
     ·rcases g1 with rfl|rfl
      ·exact Int.le_refl _
      ·omega
   ·obtain⟨c0,rfl,k1,k2,k3⟩:=hy
    have e5:addI .i64 (f:Int) (r:Int)=((f+r:Nat):Int):=by rw[Am (by omega) (by omega)];omega
    have e6:addI .i64 (f:Int) (c0:Int)=((f+c0:Nat):Int):=by rw[Am (by omega) (by omega)];omega
    have hfr:f+r<d.length:=by omega
    have hfc:f+c0<d.length:=by omega
    refine Rn.lt ?_
    rw[e5,e6]
    refine Rn.bnE (nthD hfr (0:Int)) (Rn.lt (Rn.bnE (nthD hfc (0:Int)) ?_))
    simp only[cmpEI,An,CD,Av]
    refine Rn.ite (fun hq=>Rn.some ⟨d,.inr rfl,h.stop fun c g1 g2=>?_⟩) fun hq=>?_
    ·have hq':¬ ksI d (f+r)<ksI d (f+c0):=of_decide_eq_true hq
     have:=k3 c g1 g2
     omega
    ·have hq':¬ ¬ ksI d (f+r)<ksI d (f+c0):=of_decide_eq_false hq
     rw[Int.toNat_natCast,Int.toNat_natCast]
     refine Rn.bnE (nthD (by simpa using hfc) (0:Int)) (Rn.some ⟨by omega,c0,_,rfl,by omega,by omega,.inl k2,h.step hb k1 k2 (by omega) k3⟩)
 ·obtain⟨d,h1,h2⟩:=hy
  rcases h1 with rfl|rfl
  ·rw[Ft]
   exact Rn.some h2
  ·rw[B7]
   exact Rn.some h2
theorem JE {l:List Int} {a b:Nat} (hab:a<b) (hb:b≤l.length) (hl:l.length≤sortMost):Rn (Bs big l (a:Int) (b:Int)) fun r=>RP a b l r∧SortedI r a b:=by
 have hl':=hl
 unfold sortMost at hl
 unfold Bs
 obtain⟨hi,rfl⟩:∃ hi,b=a+hi:=⟨b - a,by omega⟩
 have e0:subI .i64 ((a+hi:Nat):Int) (a:Int)=(hi:Int):=by rw[Ap (by omega) (by omega)];omega
 have e1:subI .i64 (hi:Int) 1=(hi:Int) - 1:=Ap (by omega) (by omega)
 rw[e0]
 refine Rn.lt (Rn.lt ?_)
 rw[e1]
 refine Rn.bnE (vquo (by omega) (by omega) (by omega)) ?_
 refine Rn.bn (P:=fun d=>RP a (a+hi) l d∧HeapI d a 0 hi) (Rn.iter _ (fun t y=>∃ (k:Nat) (d:List Int),y=((k:Int) - 1,d)∧k+t=(hi - 1) / 2+1∧RP a (a+hi) l d∧HeapI d a k hi) hi (by unfold big;omega) ⟨(hi - 1) / 2+1,l,?_,by omega,RP.refl _ _ _,fun i c h1 h2 h3=>by omega⟩ fun t y ht hI=>?_) fun d hd=>?_
 ·refine Prod.ext ?_ rfl
  simp only
  omega
 ·obtain⟨k,d,rfl,hk,hr,hh⟩:=hI
  have hd:=hr.len
  refine Rn.lt (Rn.ite (fun hc=>?_) fun hc=>Rn.some ⟨hr,?_⟩)
  ·have hk1:1≤k:=by
    have:=of_decide_eq_true (p:=((0:Int)≤(k:Int) - 1)) hc
    omega
   obtain⟨k,rfl⟩:∃ j,k=j+1:=⟨k - 1,by omega⟩
   have e2:((k+1:Nat):Int) - 1=(k:Int):=by omega
   simp only
   rw[e2]
   refine Rn.bn (HF (by omega) (by omega) hh (by omega)) fun r hr2=>Rn.chk (by have:=hr2.1.len;simp[lenB,this]) (Rn.lt (Rn.some ⟨by omega,k,r,?_,by omega,hr.trans hr2.1,hr2.2⟩))
   rw[Ap (by omega) (by omega)]
  ·have:k=0:=by
    have:=of_decide_eq_false (p:=((0:Int)≤(k:Int) - 1)) hc
    omega
   subst this
   exact hh
 ·obtain⟨h1,h2⟩:=hd
  refine Rn.lt ?_
  refine Rn.bn (P:=fun d=>RP a (a+hi) l d∧SortedI d a (a+hi)) (Rn.iter _ (fun t y=>∃ (k:Nat) (d:List Int),y=((k:Int) - 1,d)∧k+t=hi∧RP a (a+hi) l d∧HeapI d a 0 k∧∀ p q,a≤p→p<q→a+k≤q→q<a+hi→ksI d p≤ksI d q) hi (by unfold big;omega) ⟨hi,d,rfl,by omega,h1,h2,fun p q g1 g2 g3 g4=>by omega⟩ fun t y ht hI=>?_) fun r hr=>Rn.some hr
  obtain⟨k,d,rfl,hk,hr,hh,htop⟩:=hI
  have hd:=hr.len
  refine Rn.lt (Rn.ite (fun hc=>?_) fun hc=>Rn.some ⟨hr,fun p q g1 g2 g3=>?_⟩)
  ·have hk1:1≤k:=by
    have:=of_decide_eq_true (p:=((0:Int)≤(k:Int) - 1)) hc
    omega
   obtain⟨k,rfl⟩:∃ j,k=j+1:=⟨k - 1,by omega⟩
   have e2:((k+1:Nat):Int) - 1=(k:Int):=by omega
   have e3:addI .i64 (a:Int) (k:Int)=((a+k:Nat):Int):=by rw[Am (by omega) (by omega)];omega
   simp only
   rw[e2,e3]
   refine Rn.lt (swapI rfl rfl (show a<d.length by omega) (show a+k<d.length by omega) ?_)
   have hks:=Ej (d:=d) (i:=a) (j:=a+k) (by omega) (by omega)
   have hsw:=RP.swI (d:=d) (a:=a) (b:=a+hi) (i:=a) (j:=a+k) (by omega) (by omega) (by omega) (by omega)
   have hh1:HeapI (swI d a (a+k)) a (0+1) k:=fun i c g1 g2 g3=>by
    rw[hks,hks,if_neg (by omega),if_neg (by omega),if_neg (by omega),if_neg (by omega)]
    exact hh i c (Nat.zero_le _) g2 (by omega)
   have hl1:(swI d a (a+k)).length=d.length:=Kc _ _ _
   have hmax:=hh.max
   generalize swI d a (a+k)=d1 at hks hsw hh1 hl1
   refine Rn.bn (HF (lo:=0) (by omega) (by omega) hh1 (by omega)) fun r hr2=>Rn.chk (by have:=hr2.1.len;simp[lenB,this]) (Rn.lt (Rn.some ⟨by omega,k,r,?_,by omega,(hr.trans hsw).trans (hr2.1.mono (Nat.le_refl _) (by omega)),hr2.2,fun p q g1 g2 g3 g4=>?_⟩))
   ·rw[Ap (by omega) (by omega)]
   ·have hq:ksI r q=ksI d1 q:=BT (hr2.1.off q (.inr (by omega)))
    -- what stands at p is one of d's,not behind a+k,or p stays
    have hp:(∃ p',a≤p'∧p'<a+k∧ksI r p=ksI d1 p')∨(a+k≤p∧ksI r p=ksI d1 p):=by
     rcases Nat.lt_or_ge p (a+k) with h|h
     ·obtain⟨p',x1,x2,x3⟩:=hr2.1.seg (by omega) (by omega) g1 h
      exact .inl ⟨p',x1,x2,BT x3⟩
     ·exact .inr ⟨h,BT (hr2.1.off p (.inr h))⟩
    rw[hq,hks,if_neg (show ¬ q=a by omega) |> fun e=>e]
    rcases Nat.eq_or_lt_of_le g3 with g5|g5
    ·subst g5
     rw[if_pos rfl]
     rcases hp with ⟨p',x1,x2,x3⟩|⟨x1,x3⟩
     ·rw[x3,hks,if_neg (by omega)]
      split
      ·exact hmax k (by omega)
      ·obtain⟨j,rfl⟩:∃ j,p'=a+j:=⟨p' - a,by omega⟩
       exact hmax j (by omega)
     ·omega
    ·rw[if_neg (by omega)]
     rcases hp with ⟨p',x1,x2,x3⟩|⟨x1,x3⟩
     ·rw[x3,hks,if_neg (by omega)]
      split
      ·exact htop (a+k) q (by omega) (by omega) (by omega) g4
      ·exact htop p' q x1 (by omega) (by omega) g4
     ·rw[x3,hks]
      split
      ·exact htop a q (by omega) (by omega) (by omega) g4
      ·rw[if_neg (by omega)]
       exact htop p q g1 g2 (by omega) g4
  ·have:k=0:=by
    have:=of_decide_eq_false (p:=((0:Int)≤(k:Int) - 1)) hc
    omega
   subst this
   exact htop p q g1 g2 (by omega) g3
theorem Je {l:List Int} {a b:Nat} (hab:a+12<b) (hb:b≤l.length) (hl:l.length≤sortMost):Rn (Bf big l (a:Int) (b:Int)) fun r=>RP a b l r:=by
 unfold sortMost at hl
 unfold Bf
 obtain⟨n,rfl⟩:∃ n,b=a+n:=⟨b - a,by omega⟩
 have e0:subI .i64 ((a+n:Nat):Int) (a:Int)=(n:Int):=by rw[Ap (by omega) (by omega)];omega
 rw[e0]
 refine Rn.lt (Rn.lt (Rn.ite (fun _=>?_) fun h=>?_))
 ·obtain⟨p,ep,p1,p2⟩:=I9 (n:=n) (by omega) (by omega)
  obtain⟨q,hq⟩:∃ q:Nat,(n:Int) / 4=(q:Int):=⟨n / 4,by omega⟩
  have e1:mulI .i64 (q:Int) 2=((q*2:Nat):Int):=by rw[Ce (by omega) (by omega)];omega
  have e2:addI .i64 (a:Int) ((q*2:Nat):Int)=((a+q*2:Nat):Int):=by rw[Am (by omega) (by omega)];omega
  have e3:subI .i64 ((a+q*2:Nat):Int) 1=((a+q*2 - 1:Nat):Int):=by rw[Ap (by omega) (by omega)];omega
  have e4:addI .i64 ((a+q*2:Nat):Int) 1=((a+q*2+1:Nat):Int):=by rw[Am (by omega) (by omega)];omega
  have eq4:quoI .i64 (n:Int) 4=some (q:Int):=by rw[vquo (by omega) (by omega) (by omega),hq]
  refine Rn.lt (Rn.bnE ep ?_)
  rw[eq4]
  refine Rn.bnE rfl (Rn.lt (Rn.lt (Rn.lt ?_)))
  rw[e1,e2,e3]
  refine Rn.bn (P:=fun r=>RP a (a+n) l r) (Rn.iter _ (fun t y=>∃ (i:Nat) (d:List Int) (r:Int),y=((i:Int),d,r)∧i=a+q*2 - 1+t∧RP a (a+n) l d) 3 (by unfold big;omega) ⟨a+q*2 - 1,l,_,rfl,by omega,RP.refl _ _ _⟩ fun t y ht hI=>?_) fun r hr=>Rn.some hr
  obtain⟨i,d,r,rfl,hi,hr⟩:=hI
  have hd:=hr.len
  refine Rn.bnE rfl (Rn.lt ?_)
  rw[e1]
  refine Rn.lt ?_
  rw[e2]
  refine Rn.lt ?_
  rw[e4]
  refine Rn.lt (Rn.ite (fun hc=>?_) fun _=>Rn.some hr)
  have hi2:i≤a+q*2+1:=by
   have:=of_decide_eq_true (p:=((i:Int)≤((a+q*2+1:Nat):Int))) hc
   omega
  obtain⟨x,y,exy⟩:=GR r
  refine Rn.bnE exy (Rn.lt (Rn.lt (Rn.lt ?_)))
  have e5:subI .u64 (p:Int) 1=(p:Int) - 1:=wrapU (by omega) (by omega)
  rw[e5]
  obtain⟨g1,g2⟩:=Ja x ((p:Int) - 1) (by omega) (by omega)
  simp only
  generalize andI .u64 x ((p:Int) - 1)=w at g1 g2
  rw[DV (by omega) (by omega)]
  refine Rn.bn (P:=fun o=>∃ k:Nat,o=(k:Int)∧k<n) (Rn.lt (Rn.ite (fun h=>Rn.lt (Rn.some ?_)) fun h=>Rn.some ?_)) fun o ho=>?_
  ·have:=of_decide_eq_true (p:=((n:Int)≤w)) h
   rw[Ap (by omega) (by omega)]
   exact⟨(w - n).toNat,by omega,by omega⟩
  ·have:=of_decide_eq_false (p:=((n:Int)≤w)) h
   exact⟨w.toNat,by omega,by omega⟩
  ·obtain⟨k,rfl,hk⟩:=ho
   refine Rn.lt ?_
   have e6:addI .i64 (a:Int) (k:Int)=((a+k:Nat):Int):=by rw[Am (by omega) (by omega)];omega
   rw[e6]
   refine swapI rfl rfl (show i<d.length by omega) (show a+k<d.length by omega) (Rn.lt (Rn.some ⟨by omega,i+1,swI d i (a+k),y,?_,by omega,hr.trans (RP.swI (by omega) (by omega) (by omega) (by omega))⟩))
   rw[Am (by omega) (by omega)]
   rfl
 ·have:=of_decide_eq_false (p:=((8:Int)≤(n:Int))) h
  omega
def PreI (d:List Int) (a b:Nat):Prop:=0<a→∀ i,a≤i→i<b→ksI d (a - 1)≤ksI d i
def SepI (d:List Int) (a b a' b':Nat):Prop:=∀ p q,a≤p→p<q→q<b→(p<a'∨b'≤q)→ksI d p≤ksI d q
theorem PreI.keep {d r:List Int} {a b:Nat} (h:PreI d a b) (hr:RP a b d r) (hab:a≤b) (hb:b≤d.length):PreI r a b:=by
 intro h0 i h1 h2
 obtain⟨j,x1,x2,x3⟩:=hr.seg hab hb h1 h2
 rw[BT x3,BT (hr.off (a - 1) (.inl (by omega)))]
 exact h h0 j x1 x2
theorem SepI.keep {d r:List Int} {a b a' b':Nat} (h:SepI d a b a' b') (hr:RP a' b' d r) (h1:a≤a') (h2:a'≤b') (h3:b'≤b) (hb:b≤d.length):SepI r a b a' b':=by
 intro p q g1 g2 g3 g4
 have key:∀ i,∃ j,ksI r i=ksI d j∧((i<a'∧j=i)∨(b'≤i∧j=i)∨(a'≤i∧i<b'∧a'≤j∧j<b')):=by
  intro i
  rcases Nat.lt_or_ge i a' with x|x
  ·exact⟨i,BT (hr.off i (.inl x)),.inl ⟨x,rfl⟩⟩
  ·rcases Nat.lt_or_ge i b' with y|y
   ·obtain⟨j,x1,x2,x3⟩:=hr.seg h2 (by omega) x y
    exact⟨j,BT x3,.inr (.inr ⟨x,y,x1,x2⟩)⟩
   ·exact⟨i,BT (hr.off i (.inr y)),.inr (.inl ⟨y,rfl⟩)⟩
 obtain⟨p',e1,f1⟩:=key p
 obtain⟨q',e2,f2⟩:=key q
 rw[e1,e2]
 exact h p' q' (by omega) (by omega) (by omega) (by omega)
theorem SepI.done {r:List Int} {a b a' b':Nat} (h:SepI r a b a' b') (hs:SortedI r a' b'):SortedI r a b:=by
 intro p q g1 g2 g3
 rcases Decidable.em (p<a'∨b'≤q) with x|x
 ·exact h p q g1 g2 g3 x
 ·exact hs p q (by omega) g2 (by omega)
theorem Ke:∀ (m:Nat) {l:List Int} {a b:Nat} {lim:Int},b - a<m→a≤b→b≤l.length→l.length≤sortMost→PreI l a b→0≤lim→lim≤1000→Rn (AQ big m l (a:Int) (b:Int) lim) fun r=>RP a b l r∧SortedI r a b:=by
 intro m
 induction m with
 |zero=>intro l a b lim h;omega
 |succ m ih =>
  intro l a b lim hm hab hb hl hpre hl0 hl1
  have hl':=hl
  unfold sortMost at hl
  rw[AQ]
  refine Rn.bn (P:=fun r=>RP a b l r∧SortedI r a b) (Rn.iter _ (fun t y=>∃ (a' b':Nat) (lim':Int) (bal part:Bool) (d:List Int),y=((a':Int),(b':Int),lim',bal,part,d)∧a≤a'∧a'≤b'∧b'≤b∧t+(b' - a')≤b - a∧RP a b l d∧SepI d a b a' b'∧PreI d a' b'∧0≤lim'∧lim'≤1000) (b - a) (by unfold big;omega)
   ⟨a,b,lim,true,true,l,rfl,Nat.le_refl _,hab,Nat.le_refl _,by omega,RP.refl _ _ _,fun p q h1 h2 h3 h4=>by omega,hpre,hl0,hl1⟩ fun t y ht hI=>?_) fun r hr=>Rn.some hr
  obtain⟨a',b',lim',bal,part,d,rfl,i1,i2,i3,i4,hr,hsep,hp,hm0,hm1⟩:=hI
  have hd:=hr.len
  -- what is sorted within is sorted
  have hdone:∀ r,RP a' b' d r→SortedI r a' b'→RP a b l r∧SortedI r a b:=fun r h1 h2 =>
   ⟨hr.trans (h1.mono i1 i3),(hsep.keep h1 i1 i2 i3 (by omega)).done h2⟩
  refine Rn.lt (Rn.lt ?_)
  have e0:subI .i64 (b':Int) (a':Int)=((b' - a':Nat):Int):=by rw[Ap (by omega) (by omega)];omega
  simp only
  rw[e0]
  refine Rn.ite (fun hc=>?_) fun hc=>?_
  ·refine Rn.bn (Kd i2 (by omega) (by omega)) fun r hr2=>Rn.chk (by have:=hr2.1.len;simp[lenB,this]) (Rn.some (hdone r hr2.1 hr2.2))
  have hlong:a'+12<b':=by
   have:=of_decide_eq_false (p:=(((b' - a':Nat):Int)≤12)) hc
   omega
  refine Rn.lt (Rn.ite (fun hz=>?_) fun hz=>?_)
  ·refine Rn.bn (JE (by omega) (by omega) (by omega)) fun r hr2=>Rn.chk (by have:=hr2.1.len;simp[lenB,this]) (Rn.some (hdone r hr2.1 hr2.2))
  have hlim:lim'≠0:=of_decide_eq_false (p:=lim'=0) hz
  refine Rn.bn (P:=fun y=>(0≤y.1∧y.1≤1000)∧RP a' b' d y.2) ?_ fun y hy=>?_
  ·refine Rn.lt (Rn.ite (fun _=>?_) fun _=>Rn.some ⟨⟨hm0,hm1⟩,RP.refl _ _ _⟩)
   refine Rn.bn (Je hlong (by omega) (by omega)) fun r hr2=>Rn.chk (by have:=hr2.len;simp[lenB,this]) (Rn.lt (Rn.some ⟨?_,hr2⟩))
   rw[Ap (by omega) (by omega)]
   exact⟨by omega,by omega⟩
  obtain⟨lim2,d1⟩:=y
  obtain⟨⟨hm2,hm3⟩,hr1⟩:=hy
  simp only at hm2 hm3 hr1
  have hd1:=hr1.len
  refine Rn.bn (IE (l:=d1) hlong (by omega) (by omega)) fun v hv=>?_
  obtain⟨v1,v2,v3⟩:=v
  obtain⟨⟨k,hk,hk1,hk2⟩,hv3⟩:=hv
  simp only at hk hv3
  subst v3 v1
  refine Rn.chk (by simp[lenB]) ?_
  refine Rn.bn (P:=fun y=>(∃ k:Nat,y.1=(k:Int)∧a'≤k∧k<b')∧RP a' b' d y.2.2) ?_ fun y hy=>?_
  ·refine Rn.lt (Rn.ite (fun _=>?_) fun _=>Rn.some ⟨⟨k,rfl,hk1,hk2⟩,hr1⟩)
   refine Rn.bn (HW (l:=d1) (by omega) (by omega) (by omega)) fun r hr2=>Rn.chk (by have:=hr2.len;simp[lenB,this]) (Rn.lt (Rn.lt (Rn.lt (Rn.some ⟨⟨b' - 1 - (k - a'),?_,by omega,by omega⟩,hr1.trans hr2⟩))))
   simp only
   rw[Ap (a:=(b':Int)) (by omega) (by omega),Ap (a:=(k:Int)) (by omega) (by omega),Ap (by omega) (by omega)]
   omega
  obtain⟨y1,y2,d2⟩:=y
  obtain⟨⟨k2,hk,hk1,hk2⟩,hr2⟩:=hy
  simp only at hk hr2
  subst y1
  have hd2:=hr2.len
  refine Rn.bn (P:=fun y=>(∃ c e r,y=.inl (c,e,r)∧RP a' b' d r)∨∃ r,y=.inr r∧RP a' b' d r∧SortedI r a' b') ?_ fun y hy=>?_
  ·refine Rn.bn (P:=fun _=>True) ?_ fun w _=>?_
   ·refine Rn.lt (Rn.ite (fun _=>Rn.lt (Rn.ite (fun _=>Rn.lt (Rn.some trivial)) fun _=>Rn.some trivial)) fun _=>Rn.some trivial)
   ·refine Rn.lt (Rn.ite (fun _=>?_) fun _=>Rn.some (.inl ⟨_,_,d2,rfl,hr2⟩))
    refine Rn.bn (HX (l:=d2) (by omega) (by omega) (by omega)) fun r hr3=>?_
    obtain⟨r1,r2⟩:=r
    obtain⟨g1,g2⟩:=hr3
    simp only at g1 g2
    subst r2
    refine Rn.chk (by simp[lenB]) (Rn.lt (Rn.ite (fun h=>Rn.some (.inr ⟨d2,rfl,hr2,g2 h⟩)) fun _=>Rn.some (.inl ⟨_,_,d2,rfl,hr2⟩)))
  rcases hy with ⟨c,e,d3,rfl,hr3⟩|⟨r,rfl,hr3,hs3⟩
  rotate_left
  ·rw[B7]
   exact Rn.some (hdone r hr3 hs3)
  rw[Ft]
  have hd3:=hr3.len
  have hsep3:=hsep.keep hr3 i1 i2 i3 (by omega)
  have hp3:=hp.keep hr3 i2 (by omega)
  have hrl3:=hr.trans (hr3.mono i1 i3)
  refine Rn.bn (P:=fun c=>c=decide (0<a'∧¬ ksI d3 (a' - 1)<ksI d3 k2)) ?_ fun q hq=>?_
  ·refine Rn.lt (Rn.ite (fun h=>?_) fun h=>Rn.some ?_)
   ·have h0:0<a':=by
     have:=of_decide_eq_true (p:=((0:Int)<(a':Int))) h
     omega
    have e1:subI .i64 (a':Int) 1=((a' - 1:Nat):Int):=by rw[Ap (by omega) (by omega)];omega
    refine Rn.lt ?_
    rw[e1]
    refine Rn.bnE (nthD (show a' - 1<d3.length by omega) (0:Int)) (Rn.bnE (nthD (show k2<d3.length by omega) (0:Int)) ?_)
    simp only[cmpEI,An,Av,CD]
    refine Rn.some ?_
    simp only[h0,true_and]
    rfl
   ·have h0:¬ 0<a':=by
     have:=of_decide_eq_false (p:=((0:Int)<(a':Int))) h
     omega
    simp[h0]
  subst hq
  refine Rn.lt (Rn.ite (fun h=>?_) fun h=>?_)
  ·obtain⟨h0,hK⟩:=of_decide_eq_true h
   refine Rn.bn (IF (l:=d3) hk1 hk2 (by omega) (by omega)) fun r hr4=>?_
   obtain⟨r1,r2⟩:=r
   obtain⟨md,g0,g1,g2,g3,g4,g5⟩:=hr4
   simp only at g0 g3 g4 g5
   subst r1
   refine Rn.chk (by have:=g3.len;simp[lenB,this]) (Rn.some ⟨by omega,md,b',lim2,c,e,r2,rfl,by omega,g2,i3,by omega,hrl3.trans (g3.mono i1 i3),?_,?_,hm2,hm3⟩)
   ·have hs4:=hsep3.keep g3 i1 i2 i3 (by omega)
    have hp4:=hp3.keep g3 i2 (by omega)
    have hK2:ksI d3 k2≤ksI r2 (a' - 1):=by
     rw[BT (g3.off (a' - 1) (.inl (by omega)))]
     omega
    intro p q x1 x2 x3 x4
    rcases Decidable.em (p<a'∨b'≤q) with x5|x5
    ·exact hs4 p q x1 x2 x3 x5
    ·have z1:=g4 p (by omega) (by omega)
     rcases Nat.lt_or_ge q md with x6|x6
     ·have z2:=hp4 h0 q (by omega) (by omega)
      omega
     ·have z2:=g5 q x6 (by omega)
      omega
   ·intro _ i x1 x2
    have z1:=g4 (md - 1) (by omega) (by omega)
    have z2:=g5 i x1 x2
    omega
  ·refine Rn.bn (JD (l:=d3) hk1 hk2 (by omega) (by omega)) fun r hr4=>?_
   obtain⟨r1,r2,r4⟩:=r
   obtain⟨md,g0,g1,g2,g3,g4,g5,g6⟩:=hr4
   simp only at g0 g3 g4 g5 g6
   subst r1
   have hd4:=g3.len
   have hs4:=hsep3.keep g3 i1 i2 i3 (by omega)
   have hp4:=hp3.keep g3 i2 (by omega)
   generalize ksI d3 k2=K at g4 g5 g6
   have e3:addI .i64 (md:Int) 1=((md+1:Nat):Int):=by rw[Am (by omega) (by omega)];omega
   refine Rn.chk (by simp[lenB,hd4]) (Rn.lt (Rn.lt (Rn.bnE (vquo (by omega) (by omega) (by omega)) (Rn.lt (Rn.ite (fun _=>Rn.lt ?_) fun _=>Rn.lt (Rn.lt ?_))))))
   ·refine Rn.bn (ih (l:=r4) (a:=a') (b:=md) (by omega) g1 (by omega) (by omega) (fun h0 i x1 x2=>hp4 h0 i x1 (by omega)) hm2 hm3) fun r hr5=>?_
    obtain⟨q1,q2⟩:=hr5
    have hd5:=q1.len
    refine Rn.chk (by simp[lenB,hd5]) (Rn.lt ?_)
    rw[e3]
    refine Rn.some ⟨by omega,md+1,b',lim2,_,_,r,rfl,by omega,by omega,i3,by omega,(hrl3.trans (g3.mono i1 i3)).trans (q1.mono i1 (by omega)),?_,?_,hm2,hm3⟩
    ·have hs5:=hs4.keep (q1.mono (Nat.le_refl _) (by omega)) i1 i2 i3 (by omega)
     intro p q x1 x2 x3 x4
     rcases Decidable.em (p<a'∨b'≤q) with x5|x5
     ·exact hs5 p q x1 x2 x3 x5
     ·have hge:∀ i,md<i→i<b'→K≤ksI r i:=fun i y1 y2=>by
       rw[BT (q1.off i (.inr (by omega)))]
       exact g6 i y1 y2
      have hmd:ksI r md=K:=by rw[BT (q1.off md (.inr (Nat.le_refl _)))];exact g4
      rcases Nat.lt_or_ge p md with x6|x6
      ·obtain⟨j,y1,y2,y3⟩:=q1.seg g1 (by omega) (show a'≤p by omega) x6
       have z1:=g5 j y1 y2
       rw[← BT y3] at z1
       rcases Nat.lt_trichotomy q md with x7|x7|x7
       ·exact q2 p q (by omega) x2 x7
       ·subst x7
        omega
       ·have:=hge q x7 (by omega)
        omega
      ·have:p=md:=by omega
       subst this
       have:=hge q x2 (by omega)
       omega
    ·intro _ i x1 x2
     show ksI r md≤_
     rw[BT (q1.off md (.inr (Nat.le_refl _))),BT (q1.off i (.inr (by omega))),g4]
     exact g6 i (by omega) x2
   ·rw[e3]
    refine Rn.bn (ih (l:=r4) (a:=md+1) (b:=b') (by omega) (by omega) (by omega) (by omega) (fun h0 i x1 x2=>by show ksI r4 md≤_;rw[g4];exact g6 i (by omega) x2) hm2 hm3) fun r hr5=>?_
    obtain⟨q1,q2⟩:=hr5
    have hd5:=q1.len
    refine Rn.chk (by simp[lenB,hd5]) ?_
    refine Rn.some ⟨by omega,a',md,lim2,_,_,r,rfl,i1,g1,by omega,by omega,(hrl3.trans (g3.mono i1 i3)).trans (q1.mono (by omega) i3),?_,?_,hm2,hm3⟩
    ·have hs5:=hs4.keep (q1.mono (by omega) (Nat.le_refl _)) i1 i2 i3 (by omega)
     intro p q x1 x2 x3 x4
     rcases Decidable.em (p<a'∨b'≤q) with x5|x5
     ·exact hs5 p q x1 x2 x3 x5
     ·have hmd:ksI r md=K:=by rw[BT (q1.off md (.inl (by omega)))];exact g4
      have hge:∀ i,md<i→i<b'→K≤ksI r i:=fun i y1 y2=>by
       obtain⟨j,z1,z2,z3⟩:=q1.seg (by omega) (by omega) (show md+1≤i by omega) y2
       rw[BT z3]
       exact g6 j (by omega) z2
      have hle:∀ i,a'≤i→i<md→ksI r i<K:=fun i y1 y2=>by
       rw[BT (q1.off i (.inl (by omega)))]
       exact g5 i y1 y2
      rcases Nat.lt_trichotomy p md with x6|x6|x6
      ·have z1:=hle p (by omega) x6
       rcases Nat.eq_or_lt_of_le (show md≤q by omega) with x7|x7
       ·subst x7
        omega
       ·have:=hge q x7 (by omega)
        omega
      ·subst x6
       have:=hge q x2 (by omega)
       omega
      ·exact q2 p q (by omega) x2 (by omega)
    ·intro h0 i x1 x2
     rw[BT (q1.off (a' - 1) (.inl (by omega))),BT (q1.off i (.inl (by omega)))]
     exact hp4 h0 i x1 (by omega)
--MORE
end Go.Proofs.Ythjenkmbbnjcnaa
