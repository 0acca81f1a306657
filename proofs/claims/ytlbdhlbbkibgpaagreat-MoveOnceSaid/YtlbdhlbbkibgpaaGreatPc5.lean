/- Part 5 of the proof. -/
import Derived.Test.YtlbdhlbbkibgpaaGreatPc4
set_option linter.unusedVariables false
set_option linter.unusedSimpArgs false
set_option linter.constructorNameAsVariable false
set_option maxRecDepth 8000
set_option maxHeartbeats 8000000
namespace Go.Proofs.YtlbdhlbbkibgpaaGreat
open Go Go.RowKit
def B0 (n:Nat) (a0:Int):Option Bool :=
bn (lt (geI a0 1) fun v2 =>
ite' v2 (lt (leI a0 40) fun v3 =>
some (v3)) (some (false))) fun (y1:Bool) =>
some y1
theorem Dx {n:Nat} {a0:Int} {r:Bool} (h:B0 n a0=some r):Sound Tryz.prog 133 [.l (.s (.int .i64 a0))] [] (.l (.s (.bool r))) []:=by
 unfold B0 at h
 refine Sound.of_aw (fn:=Tryz.f133) (c:=_) Tryz.func133 rfl (by simp[Tryz.f133]) fun cx hG hnb=>?_
 rw[show Tryz.f133.ntmps=9 from rfl]
 have hn0:cx.nb=0:=hnb
 simp only[An,initTm,List.map_cons,List.map_nil]
 apply AW.step
 ·simp
  intros;rfl
 replace h:=bnE h;obtain⟨y1,g1,h⟩:=h
 refine AW.flow (p:=fun gh ls=>(nP (cx:=cx) (fun q=>(⟨[(2,.l (.s (.bool q)))],[],9,gh,ls⟩:St))) y1) ?_ ?_
 ·replace h:=g1;clear g1
  replace h:=ltE h;obtain⟨v2,e2,h⟩:=h
  cases v2 with
  |true =>
   replace h:=iteT rfl h
   replace h:=ltE h;obtain⟨v3,e3,h⟩:=h
   apply AW.last
   ·simp[← e2,← e3]
    intros;rfl
   obtain rfl:=oi h
   refine nP_i ?_
   refine Weak.mixN [] hn0 (by decide) ?_ ?_ rfl
   all_goals first|(simp[Ab,Ac,pickOb];done)|rfl
  |false =>
   replace h:=iteF rfl h
   apply AW.last
   ·simp[← e2]
    intros;rfl
   obtain rfl:=oi h
   refine nP_i ?_
   refine Weak.mixN [] hn0 (by decide) ?_ ?_ rfl
   all_goals first|(simp[Ab,Ac,pickOb];done)|rfl
 ·rintro e s hp
  obtain⟨rfl,hw⟩:=hp
  refine⟨_,hw,?_⟩
  try simp only[nm]
  obtain rfl:=oi h
  refine AW.ret ?_
  refine Left.plain hnb (by simp[Tryz.f133,resV,resC,comp];rfl) rfl rfl ?_
  simp
theorem C8:Enters Tryz.prog 133:=enters Tryz.func133 (by kernel_rfl) rfl
def DF (n:Nat) (a0:List Field):Option (List Field) :=
some a0
theorem Kw {n:Nat} {a0:List Field} {r:List Field} (h:DF n a0=some r):Sound Tryz.prog 135 [.l (.d false 2 (encField a0))] [] (.l (.f 145 [0])) [some ⟨54,1,false,none,[.d false 2 (encField r)]⟩]:=by
 unfold DF at h
 refine Sound.of_aw (fn:=Tryz.f135) (c:=_) Tryz.func135 rfl (by simp[Tryz.f135]) fun cx hG hnb=>?_
 rw[show Tryz.f135.ntmps=4 from rfl]
 have hn0:cx.nb=0:=hnb
 simp only[An,initTm,List.map_cons,List.map_nil]
 apply AW.step
 ·simp
  intros;rfl
 apply AW.step
 ·simp
  intros;rfl
 obtain rfl:=oi h
 refine AW.ret ?_
 refine Left.of (av:=_) (by simp[Tryz.f135,resV,resC,comp];rfl) ?_
 exact LeftV.mix 0 [some 0] hn0 rfl (by decide) rfl (by simp[pickOb,Ab,Ac]) (by simp[Ab,Ac])
theorem JC:Enters Tryz.prog 135:=enters Tryz.func135 (by kernel_rfl) rfl
def Di (n:Nat) (b0_0:List Field):Option Bool :=
bn (lt (lenI b0_0) fun v2 =>
bn (iter n (fun (y3:Int×Bool×ByteArray) =>
lt (ltI y3.1 v2) fun v6 =>
ite' v6 (bn (nth b0_0 y3.1) fun v7 =>
bn (bn (lt (notB y3.2.1) fun v10 =>
ite' v10 (lt (leS v7.name y3.2.2) fun v11 =>
some (v11)) (some (false))) fun (y9:Bool) =>
lt (y9) fun v12 =>
ite' v12 (some (.inr ())) (some (.inl ()))) fun (y8:Unit ⊕ Unit) =>
sm y8 (fun y13=>lt (addI .i64 y3.1 1) fun v15 =>
some (.inl (v15,false,v7.name))) (fun y14=>some (.inr (.inr (y3.2.1,y3.2.2))))) (some (.inr (.inl (y3.2.1,y3.2.2))))) (0,true,⟨#[]⟩)) fun (y4:(Bool×ByteArray) ⊕ (Bool×ByteArray)) =>
sm y4 (fun y16=>some (.inl ())) (fun y17=>some (.inr false))) fun (y1:Unit ⊕ Bool) =>
sm y1 (fun y18=>some true) (fun y19=>some y19)
theorem JD {n:Nat} {b0_0:List Field} {r:Bool} (h:Di n b0_0=some r):Sound Tryz.prog 134 [.l (.f 145 [0])] [⟨54,1,false,none,[.d false 2 (encField b0_0)]⟩] (.l (.s (.bool r))) [some ⟨54,1,false,none,[.d false 2 (encField b0_0)]⟩]:=by
 unfold Di at h
 refine Sound.of_aw (fn:=Tryz.f134) (c:=_) Tryz.func134 rfl (by simp[Tryz.f134]) fun cx hG hnb=>?_
 rw[show Tryz.f134.ntmps=16 from rfl]
 have hn0:cx.nb=1:=hnb
 simp only[An,initTm,List.map_cons,List.map_nil]
 apply AW.step
 ·simp
  intros;rfl
 apply AW.step
 ·simp
  intros;rfl
 replace h:=bnE h;obtain⟨y1,g1,h⟩:=h
 refine AW.flow (p:=fun gh ls=>(sp (nP (cx:=cx) (fun _=>(⟨[(2,.l (.p 1 0))],[some ⟨54,1,false,none,[.d false 2 (encField b0_0)]⟩,some ⟨4,1,false,none,[.s (.bool false)]⟩],16,gh,ls⟩:St))) (rP (cx:=cx) (P:=Tryz.prog) Tryz.f134 (fun q=>.l (.s (.bool q))) (fun q=>[some ⟨54,1,false,none,[.d false 2 (encField b0_0)]⟩]))) y1) ?_ ?_
 ·replace h:=g1;clear g1
  apply AW.step
  ·simp
   intros;rfl
  refine AW.block ?_
  refine AW.weak (Weak.keep [(2,.l (.p 1 0)),(3,.l (.p 2 0)),(4,.l (.p 3 0)),(6,.l (.f 145 [0]))] (by simp)) ?_
  refine AW.rangeG rfl Tryz.func145 (by kernel_rfl) rfl (by decide) rfl rfl fun cxI1 yl1 hnI1 hY1=>?_
  have hnJ1:cxI1.nb=1:=hnI1.trans hn0
  simp only[initTm,List.map_cons,List.map_nil]
  replace h:=ltE h;obtain⟨v2,e2,h⟩:=h
  apply AW.step
  ·simp[Aa e2]
   intros;rfl
  refine AW.block ?_
  replace h:=bnE h;obtain⟨y4,g4,h⟩:=h
  refine AW.iterP g4 (mk:=fun gh ls q=>(⟨[(0,.l (.s (.func (.yield yl1) #[] #[]))),(5,.l (.d false 2 (encField b0_0))),(6,.l (.s (.int .i64 v2))),(7,.l (.s (.int .i64 q.1)))],[some ⟨54,1,false,none,[.d false 2 (encField b0_0)]⟩,some ⟨4,1,false,none,[.s (.bool false)]⟩,some ⟨4,1,false,none,[.s (.bool q.2.1)]⟩,some ⟨9,1,false,none,[.s (.string q.2.2)]⟩],17,gh,ls⟩:St)) (N:=fun gh ls=>(sp (xP 0 (cx:=cxI1) (fun q=>(⟨[],[some ⟨54,1,false,none,[.d false 2 (encField b0_0)]⟩,some ⟨4,1,false,none,[.s (.bool false)]⟩,some ⟨4,1,false,none,[.s (.bool q.1)]⟩,some ⟨9,1,false,none,[.s (.string q.2)]⟩],17,gh,ls⟩:St))) (tP (cx:=cxI1) (fun q=>(⟨[],[some ⟨54,1,false,none,[.d false 2 (encField b0_0)]⟩,some ⟨4,1,false,none,[.s (.bool false)]⟩,some ⟨4,1,false,none,[.s (.bool q.1)]⟩,some ⟨9,1,false,none,[.s (.string q.2)]⟩],17,gh,some .ret⟩:St))))) ?_ (noS noX noT) ?_ ?_
  ·refine Weak.mixB 1 [some 0,some 1,some 2,some 3] hnJ1 (by decide) (by decide) ?_ ?_ ?_
   all_goals first|(simp[Ab,Ac,pickOb];done)|rfl
  ·clear h;intro y3 y5 h
   replace h:=ltE h;obtain⟨v6,e6,h⟩:=h
   apply AW.step
   ·simp[← e6]
    intros;rfl
   refine AW.seq ?_
   cases v6 with
   |true =>
    replace h:=iteT rfl h
    refine AW.cond_true (by simp) ?_
    refine AW.skip ?_
    try simp only[nm]
    refine AW.seq ?_
    refine AW.block ?_
    replace h:=bnE h;obtain⟨v7,e7,h⟩:=h
    apply AW.step
    ·simp[Ad e7]
     intros;rfl
    refine AW.stepYK ?_
    apply xopsY.yield hY1 0 3 rfl rfl rfl (by decide)
    ·simp
     intros;rfl
    ·rfl
    ·first|trivial|simp
    ·rfl
    ·rfl
    ·simp[puts];rfl
    intro cxR1 hnR1
    have hnS1:cxR1.nb=1:=hnR1.trans hnJ1
    apply AW.last
    ·simp
     intros;rfl
    refine⟨rfl,?_⟩
    replace h:=bnE h;obtain⟨y8,g8,h⟩:=h
    refine AW.flowR (p:=fun gh ls=>(sp (nP (cx:=cxR1) (fun _=>(⟨[],[some ⟨54,1,false,none,[.d false 2 (encField b0_0)]⟩,some ⟨4,1,false,none,[.s (.bool false)]⟩,some ⟨4,1,false,none,[.s (.bool false)]⟩,some ⟨9,1,false,none,[.s (.string v7.name)]⟩,some ⟨157,2,false,none,[.s (.string v7.name),.s (.string v7.val)]⟩],16,gh,ls⟩:St))) (tP (cx:=cxR1) (fun _=>(⟨[],[some ⟨54,1,false,none,[.d false 2 (encField b0_0)]⟩,some ⟨4,1,false,none,[.s (.bool false)]⟩,some ⟨4,1,false,none,[.s (.bool y3.2.1)]⟩,some ⟨9,1,false,none,[.s (.string y3.2.2)]⟩,some ⟨157,2,false,none,[.s (.string v7.name),.s (.string v7.val)]⟩],16,gh,ls⟩:St)))) y8) ?_ ?_
    ·replace h:=g8;clear g8
     refine AW.block ?_
     refine AW.seq ?_
     replace h:=bnE h;obtain⟨y9,g9,h⟩:=h
     refine AW.flow (p:=fun gh ls=>(nP (cx:=cxR1) (fun q=>(⟨[(2,.l (.p 1 0)),(3,.l (.p 2 0)),(4,.l (.p 3 0)),(5,.l (.s (.string v7.name))),(6,.l (.f 145 [0])),(14,.l (.s (.bool q)))],[some ⟨54,1,false,none,[.d false 2 (encField b0_0)]⟩,some ⟨4,1,false,none,[.s (.bool false)]⟩,some ⟨4,1,false,none,[.s (.bool y3.2.1)]⟩,some ⟨9,1,false,none,[.s (.string y3.2.2)]⟩,some ⟨157,2,false,none,[.s (.string v7.name),.s (.string v7.val)]⟩],16,gh,ls⟩:St))) y9) ?_ ?_
     ·replace h:=g9;clear g9
      replace h:=ltE h;obtain⟨v10,e10,h⟩:=h
      cases v10 with
      |true =>
       replace h:=iteT rfl h
       replace h:=ltE h;obtain⟨v11,e11,h⟩:=h
       apply AW.last
       ·simp[← e10,← e11]
        intros;rfl
       obtain rfl:=oi h
       refine nP_i ?_
       refine Weak.mixB 1 [some 0,some 1,some 2,some 3,some 4] hnS1 (by decide) (by decide) ?_ ?_ ?_
       all_goals first|(simp[Ab,Ac,pickOb];done)|rfl
      |false =>
       replace h:=iteF rfl h
       apply AW.last
       ·simp[← e10]
        intros;rfl
       obtain rfl:=oi h
       refine nP_i ?_
       refine Weak.mixB 1 [some 0,some 1,some 2,some 3,some 4] hnS1 (by decide) (by decide) ?_ ?_ ?_
       all_goals first|(simp[Ab,Ac,pickOb];done)|rfl
     ·rintro e s hp
      obtain⟨rfl,hw⟩:=hp
      refine⟨_,hw,?_⟩
      try simp only[nm]
      replace h:=ltE h;obtain⟨v12,e12,h⟩:=h
      rw[← e12]
      cases v12 with
      |true =>
       replace h:=iteT rfl h
       refine AW.cond_true (by simp) ?_
       apply AW.step
       ·simp
        intros;rfl
       obtain rfl:=oi h
       refine AW.ret ?_
       try simp only[nm]
       try simp only[sp_l,sp_r]
       refine tP_i ?_
       refine Weak.mixB 1 [some 0,some 1,some 2,some 3,some 4] hnS1 (by decide) (by decide) ?_ ?_ ?_
       all_goals first|(simp[Ab,Ac,pickOb];done)|rfl
      |false =>
       replace h:=iteF rfl h
       refine AW.cond_false (by simp) ?_
       refine AW.skip ?_
       try simp only[nm]
       apply AW.last
       ·simp
        intros;rfl
       obtain rfl:=oi h
       try simp only[sp_l,sp_r]
       refine nP_i ?_
       refine Weak.mixB 1 [some 0,some 1,some 2,some 3,some 4] hnS1 (by decide) (by decide) ?_ ?_ ?_
       all_goals first|(simp[Ab,Ac,pickOb];done)|rfl
    ·rintro e s hp
     rcases y8 with y13|y14
     ·replace h:=smL h
      obtain⟨rfl,hw⟩:=hp
      refine⟨_,hw,?_⟩
      try simp only[nm]
      refine⟨_,_,rfl,?_⟩
      refine Bl _ _ _ rfl ?_
      simp[puts]
      try intros
      unfold KK
      refine AW.cond_false (by simp) ?_
      refine AW.skip ?_
      try simp only[nm]
      replace h:=ltE h;obtain⟨v15,e15,h⟩:=h
      apply AW.last
      ·simp[← e15]
       intros;rfl
      obtain rfl:=oi h
      refine nP_i ?_
      refine Weak.mixB 1 [some 0,some 1,some 2,some 3] hnJ1 (by decide) (by decide) ?_ ?_ ?_
      all_goals first|(simp[Ab,Ac,pickOb];done)|rfl
     ·replace h:=smR h
      obtain⟨rfl,hw⟩:=hp
      refine⟨_,hw,?_⟩
      try simp only[nm]
      refine⟨_,_,rfl,?_⟩
      refine Bl _ _ _ rfl ?_
      simp[puts]
      try intros
      unfold KK
      refine AW.cond_true (by simp) ?_
      obtain rfl:=oi h
      refine AW.ret ?_
      try simp only[nm]
      try simp only[sp_l,sp_r]
      refine tP_i ?_
      refine Weak.mixB 1 [some 0,some 1,some 2,some 3] hnJ1 (by decide) (by decide) ?_ ?_ ?_
      all_goals first|(simp[Ab,Ac,pickOb];done)|rfl
   |false =>
    replace h:=iteF rfl h
    refine AW.cond_false (by simp) ?_
    refine AW.exit ?_
    try simp only[nm]
    obtain rfl:=oi h
    try simp only[sp_l,sp_r]
    refine xP_i ?_
    refine Weak.mixB 1 [some 0,some 1,some 2,some 3] hnJ1 (by decide) (by decide) ?_ ?_ ?_
    all_goals first|(simp[Ab,Ac,pickOb];done)|rfl
  ·rintro e s hp
   rcases y4 with y16|y17
   ·replace h:=smL h
    obtain⟨rfl,hw⟩:=hp
    refine⟨_,hw,?_⟩
    try simp only[nm]
    refine⟨_,_,rfl,?_⟩
    try simp only[]
    try simp only[nm]
    obtain rfl:=oi h
    try simp only[sp_l,sp_r]
    refine nP_i ?_
    refine Weak.mixB 1 [some 0,some 1] hn0 (by decide) (by decide) ?_ ?_ ?_
    all_goals first|(simp[Ab,Ac,pickOb];done)|rfl
   ·replace h:=smR h
    obtain⟨rfl,hw⟩:=hp
    refine⟨_,hw,?_⟩
    try simp only[nm]
    refine⟨_,_,rfl,?_⟩
    try simp only[]
    obtain rfl:=oi h
    refine AW.ret ?_
    try simp only[nm]
    refine rP_i ?_
    refine Left.of (av:=_) (by simp[Tryz.f134,resV,resC,comp];rfl) ?_
    exact LeftV.mix 1 [some 0] hn0 rfl (by decide) rfl (by simp[pickOb,Ab,Ac]) (by simp[Ab,Ac])
 ·rintro e s hp
  rcases y1 with y18|y19
  ·replace h:=smL h
   obtain⟨rfl,hw⟩:=hp
   refine⟨_,hw,?_⟩
   try simp only[nm]
   apply AW.step
   ·simp
    intros;rfl
   obtain rfl:=oi h
   refine AW.ret ?_
   refine Left.of (av:=_) (by simp[Tryz.f134,resV,resC,comp];rfl) ?_
   exact LeftV.mix 1 [some 0] hn0 rfl (by decide) rfl (by simp[pickOb,Ab,Ac]) (by simp[Ab,Ac])
  ·replace h:=smR h
   obtain⟨rfl,hl⟩:=hp
   refine⟨_,Weak.refl _,?_⟩
   obtain rfl:=oi h
   exact hl
theorem IK:Enters Tryz.prog 134:=enters Tryz.func134 (by kernel_rfl) rfl
def Bt (n:Nat) (a0:List ByteArray):Option (List ByteArray) :=
some a0
theorem FK {n:Nat} {a0:List ByteArray} {r:List ByteArray} (h:Bt n a0=some r):Sound Tryz.prog 136 [.l (.d false 1 (encS a0))] [] (.l (.f 146 [0])) [some ⟨55,1,false,none,[.d false 1 (encS r)]⟩]:=by
 unfold Bt at h
 refine Sound.of_aw (fn:=Tryz.f136) (c:=_) Tryz.func136 rfl (by simp[Tryz.f136]) fun cx hG hnb=>?_
 rw[show Tryz.f136.ntmps=4 from rfl]
 have hn0:cx.nb=0:=hnb
 simp only[An,initTm,List.map_cons,List.map_nil]
 apply AW.step
 ·simp
  intros;rfl
 apply AW.step
 ·simp
  intros;rfl
 obtain rfl:=oi h
 refine AW.ret ?_
 refine Left.of (av:=_) (by simp[Tryz.f136,resV,resC,comp];rfl) ?_
 exact LeftV.mix 0 [some 0] hn0 rfl (by decide) rfl (by simp[pickOb,Ab,Ac]) (by simp[Ab,Ac])
theorem Fn:Enters Tryz.prog 136:=enters Tryz.func136 (by kernel_rfl) rfl
def B4 (n:Nat) (b0_0:List ByteArray):Option Bool :=
bn (lt (lenI b0_0) fun v2 =>
bn (iter n (fun (y3:Int×Bool×ByteArray) =>
lt (ltI y3.1 v2) fun v6 =>
ite' v6 (bn (nth b0_0 y3.1) fun v7 =>
bn (bn (lt (notB y3.2.1) fun v10 =>
ite' v10 (lt (leS v7 y3.2.2) fun v11 =>
some (v11)) (some (false))) fun (y9:Bool) =>
lt (y9) fun v12 =>
ite' v12 (some (.inr ())) (some (.inl ()))) fun (y8:Unit ⊕ Unit) =>
sm y8 (fun y13=>lt (addI .i64 y3.1 1) fun v15 =>
some (.inl (v15,false,v7))) (fun y14=>some (.inr (.inr (y3.2.1,y3.2.2))))) (some (.inr (.inl (y3.2.1,y3.2.2))))) (0,true,⟨#[]⟩)) fun (y4:(Bool×ByteArray) ⊕ (Bool×ByteArray)) =>
sm y4 (fun y16=>some (.inl ())) (fun y17=>some (.inr false))) fun (y1:Unit ⊕ Bool) =>
sm y1 (fun y18=>some true) (fun y19=>some y19)
theorem GN {n:Nat} {b0_0:List ByteArray} {r:Bool} (h:B4 n b0_0=some r):Sound Tryz.prog 134 [.l (.f 146 [0])] [⟨55,1,false,none,[.d false 1 (encS b0_0)]⟩] (.l (.s (.bool r))) [some ⟨55,1,false,none,[.d false 1 (encS b0_0)]⟩]:=by
 unfold B4 at h
 refine Sound.of_aw (fn:=Tryz.f134) (c:=_) Tryz.func134 rfl (by simp[Tryz.f134]) fun cx hG hnb=>?_
 rw[show Tryz.f134.ntmps=16 from rfl]
 have hn0:cx.nb=1:=hnb
 simp only[An,initTm,List.map_cons,List.map_nil]
 apply AW.step
 ·simp
  intros;rfl
 apply AW.step
 ·simp
  intros;rfl
 replace h:=bnE h;obtain⟨y1,g1,h⟩:=h
 refine AW.flow (p:=fun gh ls=>(sp (nP (cx:=cx) (fun _=>(⟨[(2,.l (.p 1 0))],[some ⟨55,1,false,none,[.d false 1 (encS b0_0)]⟩,some ⟨4,1,false,none,[.s (.bool false)]⟩],16,gh,ls⟩:St))) (rP (cx:=cx) (P:=Tryz.prog) Tryz.f134 (fun q=>.l (.s (.bool q))) (fun q=>[some ⟨55,1,false,none,[.d false 1 (encS b0_0)]⟩]))) y1) ?_ ?_
 ·replace h:=g1;clear g1
  apply AW.step
  ·simp
   intros;rfl
  refine AW.block ?_
  refine AW.weak (Weak.keep [(2,.l (.p 1 0)),(3,.l (.p 2 0)),(4,.l (.p 3 0)),(6,.l (.f 146 [0]))] (by simp)) ?_
  refine AW.rangeG rfl Tryz.func146 (by kernel_rfl) rfl (by decide) rfl rfl fun cxI1 yl1 hnI1 hY1=>?_
  have hnJ1:cxI1.nb=1:=hnI1.trans hn0
  simp only[initTm,List.map_cons,List.map_nil]
  replace h:=ltE h;obtain⟨v2,e2,h⟩:=h
  apply AW.step
  ·simp[Aa e2]
   intros;rfl
  refine AW.block ?_
  replace h:=bnE h;obtain⟨y4,g4,h⟩:=h
  refine AW.iterP g4 (mk:=fun gh ls q=>(⟨[(0,.l (.s (.func (.yield yl1) #[] #[]))),(5,.l (.d false 1 (encS b0_0))),(6,.l (.s (.int .i64 v2))),(7,.l (.s (.int .i64 q.1)))],[some ⟨55,1,false,none,[.d false 1 (encS b0_0)]⟩,some ⟨4,1,false,none,[.s (.bool false)]⟩,some ⟨4,1,false,none,[.s (.bool q.2.1)]⟩,some ⟨9,1,false,none,[.s (.string q.2.2)]⟩],16,gh,ls⟩:St)) (N:=fun gh ls=>(sp (xP 0 (cx:=cxI1) (fun q=>(⟨[],[some ⟨55,1,false,none,[.d false 1 (encS b0_0)]⟩,some ⟨4,1,false,none,[.s (.bool false)]⟩,some ⟨4,1,false,none,[.s (.bool q.1)]⟩,some ⟨9,1,false,none,[.s (.string q.2)]⟩],16,gh,ls⟩:St))) (tP (cx:=cxI1) (fun q=>(⟨[],[some ⟨55,1,false,none,[.d false 1 (encS b0_0)]⟩,some ⟨4,1,false,none,[.s (.bool false)]⟩,some ⟨4,1,false,none,[.s (.bool q.1)]⟩,some ⟨9,1,false,none,[.s (.string q.2)]⟩],16,gh,some .ret⟩:St))))) ?_ (noS noX noT) ?_ ?_
  ·refine Weak.mixB 1 [some 0,some 1,some 2,some 3] hnJ1 (by decide) (by decide) ?_ ?_ ?_
   all_goals first|(simp[Ab,Ac,pickOb];done)|rfl
  ·clear h;intro y3 y5 h
   replace h:=ltE h;obtain⟨v6,e6,h⟩:=h
   apply AW.step
   ·simp[← e6]
    intros;rfl
   refine AW.seq ?_
   cases v6 with
   |true =>
    replace h:=iteT rfl h
    refine AW.cond_true (by simp) ?_
    refine AW.skip ?_
    try simp only[nm]
    refine AW.seq ?_
    refine AW.block ?_
    replace h:=bnE h;obtain⟨v7,e7,h⟩:=h
    apply AW.step
    ·simp[Ad e7]
     intros;rfl
    refine AW.stepYK ?_
    apply xopsY.yield hY1 0 2 rfl rfl rfl (by decide)
    ·simp
     intros;rfl
    ·rfl
    ·first|trivial|simp
    ·rfl
    ·rfl
    ·simp[puts];rfl
    intro cxR1 hnR1
    have hnS1:cxR1.nb=1:=hnR1.trans hnJ1
    apply AW.last
    ·simp
     intros;rfl
    refine⟨rfl,?_⟩
    replace h:=bnE h;obtain⟨y8,g8,h⟩:=h
    refine AW.flowR (p:=fun gh ls=>(sp (nP (cx:=cxR1) (fun _=>(⟨[],[some ⟨55,1,false,none,[.d false 1 (encS b0_0)]⟩,some ⟨4,1,false,none,[.s (.bool false)]⟩,some ⟨4,1,false,none,[.s (.bool false)]⟩,some ⟨9,1,false,none,[.s (.string v7)]⟩],16,gh,ls⟩:St))) (tP (cx:=cxR1) (fun _=>(⟨[],[some ⟨55,1,false,none,[.d false 1 (encS b0_0)]⟩,some ⟨4,1,false,none,[.s (.bool false)]⟩,some ⟨4,1,false,none,[.s (.bool y3.2.1)]⟩,some ⟨9,1,false,none,[.s (.string y3.2.2)]⟩],16,gh,ls⟩:St)))) y8) ?_ ?_
    ·replace h:=g8;clear g8
     refine AW.block ?_
     refine AW.seq ?_
     replace h:=bnE h;obtain⟨y9,g9,h⟩:=h
     refine AW.flow (p:=fun gh ls=>(nP (cx:=cxR1) (fun q=>(⟨[(2,.l (.p 1 0)),(3,.l (.p 2 0)),(4,.l (.p 3 0)),(5,.l (.s (.string v7))),(6,.l (.f 146 [0])),(14,.l (.s (.bool q)))],[some ⟨55,1,false,none,[.d false 1 (encS b0_0)]⟩,some ⟨4,1,false,none,[.s (.bool false)]⟩,some ⟨4,1,false,none,[.s (.bool y3.2.1)]⟩,some ⟨9,1,false,none,[.s (.string y3.2.2)]⟩],16,gh,ls⟩:St))) y9) ?_ ?_
     ·replace h:=g9;clear g9
      replace h:=ltE h;obtain⟨v10,e10,h⟩:=h
      cases v10 with
      |true =>
       replace h:=iteT rfl h
       replace h:=ltE h;obtain⟨v11,e11,h⟩:=h
       apply AW.last
       ·simp[← e10,← e11]
        intros;rfl
       obtain rfl:=oi h
       refine nP_i ?_
       refine Weak.mixB 1 [some 0,some 1,some 2,some 3] hnS1 (by decide) (by decide) ?_ ?_ ?_
       all_goals first|(simp[Ab,Ac,pickOb];done)|rfl
      |false =>
       replace h:=iteF rfl h
       apply AW.last
       ·simp[← e10]
        intros;rfl
       obtain rfl:=oi h
       refine nP_i ?_
       refine Weak.mixB 1 [some 0,some 1,some 2,some 3] hnS1 (by decide) (by decide) ?_ ?_ ?_
       all_goals first|(simp[Ab,Ac,pickOb];done)|rfl
     ·rintro e s hp
      obtain⟨rfl,hw⟩:=hp
      refine⟨_,hw,?_⟩
      try simp only[nm]
      replace h:=ltE h;obtain⟨v12,e12,h⟩:=h
      rw[← e12]
      cases v12 with
      |true =>
       replace h:=iteT rfl h
       refine AW.cond_true (by simp) ?_
       apply AW.step
       ·simp
        intros;rfl
       obtain rfl:=oi h
       refine AW.ret ?_
       try simp only[nm]
       try simp only[sp_l,sp_r]
       refine tP_i ?_
       refine Weak.mixB 1 [some 0,some 1,some 2,some 3] hnS1 (by decide) (by decide) ?_ ?_ ?_
       all_goals first|(simp[Ab,Ac,pickOb];done)|rfl
      |false =>
       replace h:=iteF rfl h
       refine AW.cond_false (by simp) ?_
       refine AW.skip ?_
       try simp only[nm]
       apply AW.last
       ·simp
        intros;rfl
       obtain rfl:=oi h
       try simp only[sp_l,sp_r]
       refine nP_i ?_
       refine Weak.mixB 1 [some 0,some 1,some 2,some 3] hnS1 (by decide) (by decide) ?_ ?_ ?_
       all_goals first|(simp[Ab,Ac,pickOb];done)|rfl
    ·rintro e s hp
     rcases y8 with y13|y14
     ·replace h:=smL h
      obtain⟨rfl,hw⟩:=hp
      refine⟨_,hw,?_⟩
      try simp only[nm]
      refine⟨_,_,rfl,?_⟩
      refine Bl _ _ _ rfl ?_
      simp[puts]
      try intros
      unfold KK
      refine AW.cond_false (by simp) ?_
      refine AW.skip ?_
      try simp only[nm]
      replace h:=ltE h;obtain⟨v15,e15,h⟩:=h
      apply AW.last
      ·simp[← e15]
       intros;rfl
      obtain rfl:=oi h
      refine nP_i ?_
      refine Weak.mixB 1 [some 0,some 1,some 2,some 3] hnJ1 (by decide) (by decide) ?_ ?_ ?_
      all_goals first|(simp[Ab,Ac,pickOb];done)|rfl
     ·replace h:=smR h
      obtain⟨rfl,hw⟩:=hp
      refine⟨_,hw,?_⟩
      try simp only[nm]
      refine⟨_,_,rfl,?_⟩
      refine Bl _ _ _ rfl ?_
      simp[puts]
      try intros
      unfold KK
      refine AW.cond_true (by simp) ?_
      obtain rfl:=oi h
      refine AW.ret ?_
      try simp only[nm]
      try simp only[sp_l,sp_r]
      refine tP_i ?_
      refine Weak.mixB 1 [some 0,some 1,some 2,some 3] hnJ1 (by decide) (by decide) ?_ ?_ ?_
      all_goals first|(simp[Ab,Ac,pickOb];done)|rfl
   |false =>
    replace h:=iteF rfl h
    refine AW.cond_false (by simp) ?_
    refine AW.exit ?_
    try simp only[nm]
    obtain rfl:=oi h
    try simp only[sp_l,sp_r]
    refine xP_i ?_
    refine Weak.mixB 1 [some 0,some 1,some 2,some 3] hnJ1 (by decide) (by decide) ?_ ?_ ?_
    all_goals first|(simp[Ab,Ac,pickOb];done)|rfl
  ·rintro e s hp
   rcases y4 with y16|y17
   ·replace h:=smL h
    obtain⟨rfl,hw⟩:=hp
    refine⟨_,hw,?_⟩
    try simp only[nm]
    refine⟨_,_,rfl,?_⟩
    try simp only[]
    try simp only[nm]
    obtain rfl:=oi h
    try simp only[sp_l,sp_r]
    refine nP_i ?_
    refine Weak.mixB 1 [some 0,some 1] hn0 (by decide) (by decide) ?_ ?_ ?_
    all_goals first|(simp[Ab,Ac,pickOb];done)|rfl
   ·replace h:=smR h
    obtain⟨rfl,hw⟩:=hp
    refine⟨_,hw,?_⟩
    try simp only[nm]
    refine⟨_,_,rfl,?_⟩
    try simp only[]
    obtain rfl:=oi h
    refine AW.ret ?_
    try simp only[nm]
    refine rP_i ?_
    refine Left.of (av:=_) (by simp[Tryz.f134,resV,resC,comp];rfl) ?_
    exact LeftV.mix 1 [some 0] hn0 rfl (by decide) rfl (by simp[pickOb,Ab,Ac]) (by simp[Ab,Ac])
 ·rintro e s hp
  rcases y1 with y18|y19
  ·replace h:=smL h
   obtain⟨rfl,hw⟩:=hp
   refine⟨_,hw,?_⟩
   try simp only[nm]
   apply AW.step
   ·simp
    intros;rfl
   obtain rfl:=oi h
   refine AW.ret ?_
   refine Left.of (av:=_) (by simp[Tryz.f134,resV,resC,comp];rfl) ?_
   exact LeftV.mix 1 [some 0] hn0 rfl (by decide) rfl (by simp[pickOb,Ab,Ac]) (by simp[Ab,Ac])
  ·replace h:=smR h
   obtain⟨rfl,hl⟩:=hp
   refine⟨_,Weak.refl _,?_⟩
   obtain rfl:=oi h
   exact hl
theorem Gp:Enters Tryz.prog 134:=enters Tryz.func134 (by kernel_rfl) rfl
def Cs (n:Nat) (a0:Item):Option Bool :=
lt (eqI a0.kind 1) fun v1 =>
ite' v1 (lt (lenI a0.f) fun v2 =>
lt (lenI a0.l) fun v3 =>
lt (addI .i64 v2 v3) fun v4 =>
lt (eqI v4 0) fun v5 =>
some v5) (lt (eqI a0.kind 2) fun v6 =>
ite' v6 (bn (lt (eqS a0.s ⟨#[]⟩) fun v8 =>
ite' v8 (lt (lenI a0.l) fun v9 =>
lt (eqI v9 0) fun v10 =>
ite' v10 (lt (lenI a0.f) fun v11 =>
bn (B0 n v11) fun v12 =>
ite' v12 (bn (DF n a0.f) fun v13 =>
bn (Di n v13) fun v14 =>
some (v14)) (some (false))) (some (false))) (some (false))) fun (y7:Bool) =>
some y7) (lt (eqI a0.kind 3) fun v15 =>
ite' v15 (bn (lt (eqS a0.s ⟨#[]⟩) fun v17 =>
ite' v17 (lt (lenI a0.f) fun v18 =>
lt (eqI v18 0) fun v19 =>
ite' v19 (lt (lenI a0.l) fun v20 =>
bn (B0 n v20) fun v21 =>
some (v21)) (some (false))) (some (false))) fun (y16:Bool) =>
some y16) (lt (eqI a0.kind 4) fun v22 =>
ite' v22 (bn (lt (eqS a0.s ⟨#[]⟩) fun v24 =>
ite' v24 (lt (lenI a0.f) fun v25 =>
lt (eqI v25 0) fun v26 =>
ite' v26 (lt (lenI a0.l) fun v27 =>
bn (B0 n v27) fun v28 =>
ite' v28 (bn (Bt n a0.l) fun v29 =>
bn (B4 n v29) fun v30 =>
some (v30)) (some (false))) (some (false))) (some (false))) fun (y23:Bool) =>
some y23) (some false))))
theorem EQ {n:Nat} {a0:Item} {r:Bool} (h:Cs n a0=some r):Sound Tryz.prog 114 [.g [.s (.int .i64 a0.kind),.s (.string a0.s),.d false 2 (encField a0.f),.d false 1 (encS a0.l),.s (.int .i64 a0.exp)]] [] (.l (.s (.bool r))) []:=by
 unfold Cs at h
 refine Sound.of_aw (fn:=Tryz.f114) (c:=_) Tryz.func114 rfl (by simp[Tryz.f114]) fun cx hG hnb=>?_
 rw[show Tryz.f114.ntmps=78 from rfl]
 have hn0:cx.nb=0:=hnb
 simp only[An,initTm,List.map_cons,List.map_nil]
 apply AW.step
 ·simp
  intros;rfl
 refine AW.seq ?_
 apply AW.step
 ·simp
  intros;rfl
 refine AW.block ?_
 replace h:=ltE h;obtain⟨v1,e1,h⟩:=h
 apply AW.step
 ·simp[← e1]
  intros;rfl
 cases v1 with
 |true =>
  replace h:=iteT rfl h
  refine AW.cond_true (by simp) ?_
  replace h:=ltE h;obtain⟨v2,e2,h⟩:=h
  replace h:=ltE h;obtain⟨v3,e3,h⟩:=h
  replace h:=ltE h;obtain⟨v4,e4,h⟩:=h
  replace h:=ltE h;obtain⟨v5,e5,h⟩:=h
  apply AW.step
  ·simp[Aa e2,Aa e3,← e4,← e5]
   intros;rfl
  obtain rfl:=oi h
  refine AW.ret ?_
  refine Left.plain hnb (by simp[Tryz.f114,resV,resC,comp];rfl) rfl rfl ?_
  simp
 |false =>
  replace h:=iteF rfl h
  refine AW.cond_false (by simp) ?_
  replace h:=ltE h;obtain⟨v6,e6,h⟩:=h
  apply AW.step
  ·simp[← e6]
   intros;rfl
  cases v6 with
  |true =>
   replace h:=iteT rfl h
   refine AW.cond_true (by simp) ?_
   replace h:=bnE h;obtain⟨y7,g7,h⟩:=h
   refine AW.flow (p:=fun gh ls=>(nP (cx:=cx) (fun q=>(⟨[(2,.l (.s (.bool q)))],[],78,gh,ls⟩:St))) y7) ?_ ?_
   ·replace h:=g7;clear g7
    replace h:=ltE h;obtain⟨v8,e8,h⟩:=h
    cases v8 with
    |true =>
     replace h:=iteT rfl h
     replace h:=ltE h;obtain⟨v9,e9,h⟩:=h
     replace h:=ltE h;obtain⟨v10,e10,h⟩:=h
     cases v10 with
     |true =>
      replace h:=iteT rfl h
      replace h:=ltE h;obtain⟨v11,e11,h⟩:=h
      replace h:=bnE h;obtain⟨v12,e12,h⟩:=h
      cases v12 with
      |true =>
       replace h:=iteT rfl h
       replace h:=bnE h;obtain⟨v13,e13,h⟩:=h
       replace h:=bnE h;obtain⟨v14,e14,h⟩:=h
       apply AW.last
       ·simp[← e8,Aa e9,← e10,Aa e11]
        intros
        refine Ae C8 (Dx e12) rfl ⟨.same rfl,trivial⟩ ?_
        try simp[← e8,Aa e9,← e10,Aa e11]
        intros
        refine AF JC (Kw e13) rfl (by simp) ⟨.same rfl,trivial⟩ ?_
        try simp[← e8,Aa e9,← e10,Aa e11]
        intros
        refine Ca [1] IK (JD e14) (by decide) (by simp[pickOb,Ab,Ac]) rfl rfl (by simp) ⟨.l (.fn (by simp)),trivial⟩ ?_
        try simp[← e8,Aa e9,← e10,Aa e11]
        intros;rfl
       obtain rfl:=oi h
       refine nP_i ?_
       refine Weak.mixN [] hn0 (by decide) ?_ ?_ rfl
       all_goals first|(simp[Ab,Ac,pickOb];done)|rfl
      |false =>
       replace h:=iteF rfl h
       apply AW.last
       ·simp[← e8,Aa e9,← e10,Aa e11]
        intros
        refine Ae C8 (Dx e12) rfl ⟨.same rfl,trivial⟩ ?_
        try simp[← e8,Aa e9,← e10,Aa e11]
        intros;rfl
       obtain rfl:=oi h
       refine nP_i ?_
       refine Weak.mixN [] hn0 (by decide) ?_ ?_ rfl
       all_goals first|(simp[Ab,Ac,pickOb];done)|rfl
     |false =>
      replace h:=iteF rfl h
      apply AW.last
      ·simp[← e8,Aa e9,← e10]
       intros;rfl
      obtain rfl:=oi h
      refine nP_i ?_
      refine Weak.mixN [] hn0 (by decide) ?_ ?_ rfl
      all_goals first|(simp[Ab,Ac,pickOb];done)|rfl
    |false =>
     replace h:=iteF rfl h
     apply AW.last
     ·simp[← e8]
      intros;rfl
     obtain rfl:=oi h
     refine nP_i ?_
     refine Weak.mixN [] hn0 (by decide) ?_ ?_ rfl
     all_goals first|(simp[Ab,Ac,pickOb];done)|rfl
   ·rintro e s hp
    obtain⟨rfl,hw⟩:=hp
    refine⟨_,hw,?_⟩
    try simp only[nm]
    obtain rfl:=oi h
    refine AW.ret ?_
    refine Left.plain hnb (by simp[Tryz.f114,resV,resC,comp];rfl) rfl rfl ?_
    simp
  |false =>
   replace h:=iteF rfl h
   refine AW.cond_false (by simp) ?_
   replace h:=ltE h;obtain⟨v15,e15,h⟩:=h
   apply AW.step
   ·simp[← e15]
    intros;rfl
   cases v15 with
   |true =>
    replace h:=iteT rfl h
    refine AW.cond_true (by simp) ?_
    replace h:=bnE h;obtain⟨y16,g16,h⟩:=h
    refine AW.flow (p:=fun gh ls=>(nP (cx:=cx) (fun q=>(⟨[(2,.l (.s (.bool q)))],[],78,gh,ls⟩:St))) y16) ?_ ?_
    ·replace h:=g16;clear g16
     replace h:=ltE h;obtain⟨v17,e17,h⟩:=h
     cases v17 with
     |true =>
      replace h:=iteT rfl h
      replace h:=ltE h;obtain⟨v18,e18,h⟩:=h
      replace h:=ltE h;obtain⟨v19,e19,h⟩:=h
      cases v19 with
      |true =>
       replace h:=iteT rfl h
       replace h:=ltE h;obtain⟨v20,e20,h⟩:=h
       replace h:=bnE h;obtain⟨v21,e21,h⟩:=h
       apply AW.last
       ·simp[← e17,Aa e18,← e19,Aa e20]
        intros
        refine Ae C8 (Dx e21) rfl ⟨.same rfl,trivial⟩ ?_
        try simp[← e17,Aa e18,← e19,Aa e20]
        intros;rfl
       obtain rfl:=oi h
       refine nP_i ?_
       refine Weak.mixN [] hn0 (by decide) ?_ ?_ rfl
       all_goals first|(simp[Ab,Ac,pickOb];done)|rfl
      |false =>
       replace h:=iteF rfl h
       apply AW.last
       ·simp[← e17,Aa e18,← e19]
        intros;rfl
       obtain rfl:=oi h
       refine nP_i ?_
       refine Weak.mixN [] hn0 (by decide) ?_ ?_ rfl
       all_goals first|(simp[Ab,Ac,pickOb];done)|rfl
     |false =>
      replace h:=iteF rfl h
      apply AW.last
      ·simp[← e17]
       intros;rfl
      obtain rfl:=oi h
      refine nP_i ?_
      refine Weak.mixN [] hn0 (by decide) ?_ ?_ rfl
      all_goals first|(simp[Ab,Ac,pickOb];done)|rfl
    ·rintro e s hp
     obtain⟨rfl,hw⟩:=hp
     refine⟨_,hw,?_⟩
     try simp only[nm]
     obtain rfl:=oi h
     refine AW.ret ?_
     refine Left.plain hnb (by simp[Tryz.f114,resV,resC,comp];rfl) rfl rfl ?_
     simp
   |false =>
    replace h:=iteF rfl h
    refine AW.cond_false (by simp) ?_
    replace h:=ltE h;obtain⟨v22,e22,h⟩:=h
    apply AW.step
    ·simp[← e22]
     intros;rfl
    cases v22 with
    |true =>
     replace h:=iteT rfl h
     refine AW.cond_true (by simp) ?_
     replace h:=bnE h;obtain⟨y23,g23,h⟩:=h
     refine AW.flow (p:=fun gh ls=>(nP (cx:=cx) (fun q=>(⟨[(2,.l (.s (.bool q)))],[],78,gh,ls⟩:St))) y23) ?_ ?_
     ·replace h:=g23;clear g23
      replace h:=ltE h;obtain⟨v24,e24,h⟩:=h
      cases v24 with
      |true =>
       replace h:=iteT rfl h
       replace h:=ltE h;obtain⟨v25,e25,h⟩:=h
       replace h:=ltE h;obtain⟨v26,e26,h⟩:=h
       cases v26 with
       |true =>
        replace h:=iteT rfl h
        replace h:=ltE h;obtain⟨v27,e27,h⟩:=h
        replace h:=bnE h;obtain⟨v28,e28,h⟩:=h
        cases v28 with
        |true =>
         replace h:=iteT rfl h
         replace h:=bnE h;obtain⟨v29,e29,h⟩:=h
         replace h:=bnE h;obtain⟨v30,e30,h⟩:=h
         apply AW.last
         ·simp[← e24,Aa e25,← e26,Aa e27]
          intros
          refine Ae C8 (Dx e28) rfl ⟨.same rfl,trivial⟩ ?_
          try simp[← e24,Aa e25,← e26,Aa e27]
          intros
          refine AF Fn (FK e29) rfl (by simp) ⟨.same rfl,trivial⟩ ?_
          try simp[← e24,Aa e25,← e26,Aa e27]
          intros
          refine Ca [1] Gp (GN e30) (by decide) (by simp[pickOb,Ab,Ac]) rfl rfl (by simp) ⟨.l (.fn (by simp)),trivial⟩ ?_
          try simp[← e24,Aa e25,← e26,Aa e27]
          intros;rfl
         obtain rfl:=oi h
         refine nP_i ?_
         refine Weak.mixN [] hn0 (by decide) ?_ ?_ rfl
         all_goals first|(simp[Ab,Ac,pickOb];done)|rfl
        |false =>
         replace h:=iteF rfl h
         apply AW.last
         ·simp[← e24,Aa e25,← e26,Aa e27]
          intros
          refine Ae C8 (Dx e28) rfl ⟨.same rfl,trivial⟩ ?_
          try simp[← e24,Aa e25,← e26,Aa e27]
          intros;rfl
         obtain rfl:=oi h
         refine nP_i ?_
         refine Weak.mixN [] hn0 (by decide) ?_ ?_ rfl
         all_goals first|(simp[Ab,Ac,pickOb];done)|rfl
       |false =>
        replace h:=iteF rfl h
        apply AW.last
        ·simp[← e24,Aa e25,← e26]
         intros;rfl
        obtain rfl:=oi h
        refine nP_i ?_
        refine Weak.mixN [] hn0 (by decide) ?_ ?_ rfl
        all_goals first|(simp[Ab,Ac,pickOb];done)|rfl
      |false =>
       replace h:=iteF rfl h
       apply AW.last
       ·simp[← e24]
        intros;rfl
       obtain rfl:=oi h
       refine nP_i ?_
       refine Weak.mixN [] hn0 (by decide) ?_ ?_ rfl
       all_goals first|(simp[Ab,Ac,pickOb];done)|rfl
     ·rintro e s hp
      obtain⟨rfl,hw⟩:=hp
      refine⟨_,hw,?_⟩
      try simp only[nm]
      obtain rfl:=oi h
      refine AW.ret ?_
      refine Left.plain hnb (by simp[Tryz.f114,resV,resC,comp];rfl) rfl rfl ?_
      simp
    |false =>
     replace h:=iteF rfl h
     refine AW.cond_false (by simp) ?_
     refine AW.skip ?_
     try simp only[nm]
     apply AW.step
     ·simp
      intros;rfl
     obtain rfl:=oi h
     refine AW.ret ?_
     refine Left.plain hnb (by simp[Tryz.f114,resV,resC,comp];rfl) rfl rfl ?_
     simp
theorem Er:Enters Tryz.prog 114:=enters Tryz.func114 (by kernel_rfl) rfl
def DG (n:Nat) (a0:Item):Option Item :=
some a0
theorem Kx {n:Nat} {a0:Item} {r:Item} (h:DG n a0=some r):Sound Tryz.prog 115 [.g [.s (.int .i64 a0.kind),.s (.string a0.s),.d false 2 (encField a0.f),.d false 1 (encS a0.l),.s (.int .i64 a0.exp)]] [] (.l (.f 137 [0])) [some ⟨57,5,false,none,[.s (.int .i64 r.kind),.s (.string r.s),.d false 2 (encField r.f),.d false 1 (encS r.l),.s (.int .i64 r.exp)]⟩]:=by
 unfold DG at h
 refine Sound.of_aw (fn:=Tryz.f115) (c:=_) Tryz.func115 rfl (by simp[Tryz.f115]) fun cx hG hnb=>?_
 rw[show Tryz.f115.ntmps=4 from rfl]
 have hn0:cx.nb=0:=hnb
 simp only[An,initTm,List.map_cons,List.map_nil]
 apply AW.step
 ·simp
  intros;rfl
 apply AW.step
 ·simp
  intros;rfl
 obtain rfl:=oi h
 refine AW.ret ?_
 refine Left.of (av:=_) (by simp[Tryz.f115,resV,resC,comp];rfl) ?_
 exact LeftV.mix 0 [some 0] hn0 rfl (by decide) rfl (by simp[pickOb,Ab,Ac]) (by simp[Ab,Ac])
theorem JE:Enters Tryz.prog 115:=enters Tryz.func115 (by kernel_rfl) rfl
def Dy (n:Nat) (a0:Item):Option Bool :=
bn (bn (Cs n a0) fun v2 =>
lt (notB v2) fun v3 =>
ite' v3 (some (true)) (lt (ltI a0.exp 0) fun v4 =>
ite' v4 (some (true)) (lt (gtI a0.exp 9007199254740992) fun v5 =>
some (v5)))) fun (y1:Bool) =>
lt (y1) fun v6 =>
ite' v6 (some false) (bn (bn (DG n a0) fun v8 =>
bn (lt (lenS v8.s) fun v10 =>
lt (gtI v10 300) fun v11 =>
ite' v11 (some (.inr ())) (some (.inl ()))) fun (y9:Unit ⊕ Unit) =>
sm y9 (fun y12=>lt (lenI v8.f) fun v14 =>
bn (iter n (fun (y15:Int) =>
lt (ltI y15 v14) fun v18 =>
ite' v18 (bn (nth v8.f y15) fun v19 =>
bn (lt (lenS v19.name) fun v21 =>
lt (gtI v21 300) fun v22 =>
ite' v22 (some (.inr ())) (some (.inl ()))) fun (y20:Unit ⊕ Unit) =>
sm y20 (fun y23=>bn (lt (lenS v19.val) fun v26 =>
lt (gtI v26 300) fun v27 =>
ite' v27 (some (.inr ())) (some (.inl ()))) fun (y25:Unit ⊕ Unit) =>
sm y25 (fun y28=>lt (addI .i64 y15 1) fun v30 =>
some (.inl v30)) (fun y29=>some (.inr (.inr ())))) (fun y24=>some (.inr (.inr ())))) (some (.inr (.inl ())))) 0) fun (y16:Unit ⊕ Unit) =>
sm y16 (fun y31=>lt (lenI v8.l) fun v33 =>
bn (iter n (fun (y34:Int) =>
lt (ltI y34 v33) fun v37 =>
ite' v37 (bn (nth v8.l y34) fun v38 =>
bn (lt (lenS v38) fun v40 =>
lt (gtI v40 300) fun v41 =>
ite' v41 (some (.inr ())) (some (.inl ()))) fun (y39:Unit ⊕ Unit) =>
sm y39 (fun y42=>lt (addI .i64 y34 1) fun v44 =>
some (.inl v44)) (fun y43=>some (.inr (.inr ())))) (some (.inr (.inl ())))) 0) fun (y35:Unit ⊕ Unit) =>
sm y35 (fun y45=>some (.inl ())) (fun y46=>some (.inr false))) (fun y32=>some (.inr false))) (fun y13=>some (.inr false))) fun (y7:Unit ⊕ Bool) =>
sm y7 (fun y47=>some true) (fun y48=>some y48))
theorem Ic {n:Nat} {a0:Item} {r:Bool} (h:Dy n a0=some r):Sound Tryz.prog 86 [.g [.s (.int .i64 a0.kind),.s (.string a0.s),.d false 2 (encField a0.f),.d false 1 (encS a0.l),.s (.int .i64 a0.exp)]] [] (.l (.s (.bool r))) []:=by
 unfold Dy at h
 refine Sound.of_aw (fn:=Tryz.f86) (c:=_) Tryz.func86 rfl (by simp[Tryz.f86]) fun cx hG hnb=>?_
 rw[show Tryz.f86.ntmps=23 from rfl]
 have hn0:cx.nb=0:=hnb
 simp only[An,initTm,List.map_cons,List.map_nil]
 apply AW.step
 ·simp
  intros;rfl
 refine AW.seq ?_
 replace h:=bnE h;obtain⟨y1,g1,h⟩:=h
 refine AW.flow (p:=fun gh ls=>(nP (cx:=cx) (fun q=>(⟨[(1,.l (.p 0 0)),(2,.l (.p 1 0)),(16,.l (.s (.bool q)))],[some ⟨57,5,false,none,[.s (.int .i64 a0.kind),.s (.string a0.s),.d false 2 (encField a0.f),.d false 1 (encS a0.l),.s (.int .i64 a0.exp)]⟩,some ⟨4,1,false,none,[.s (.bool false)]⟩],23,gh,ls⟩:St))) y1) ?_ ?_
 ·replace h:=g1;clear g1
  replace h:=bnE h;obtain⟨v2,e2,h⟩:=h
  replace h:=ltE h;obtain⟨v3,e3,h⟩:=h
  cases v3 with
  |true =>
   replace h:=iteT rfl h
   apply AW.last
   ·simp[← e3]
    intros
    refine Ae Er (EQ e2) rfl ⟨.same rfl,trivial⟩ ?_
    try simp[← e3]
    intros;rfl
   obtain rfl:=oi h
   refine nP_i ?_
   refine Weak.mixN [some 0,some 1] hn0 (by decide) ?_ ?_ rfl
   all_goals first|(simp[Ab,Ac,pickOb];done)|rfl
  |false =>
   replace h:=iteF rfl h
   replace h:=ltE h;obtain⟨v4,e4,h⟩:=h
   cases v4 with
   |true =>
    replace h:=iteT rfl h
    apply AW.last
    ·simp[← e3,← e4]
     intros
     refine Ae Er (EQ e2) rfl ⟨.same rfl,trivial⟩ ?_
     try simp[← e3,← e4]
     intros;rfl
    obtain rfl:=oi h
    refine nP_i ?_
    refine Weak.mixN [some 0,some 1] hn0 (by decide) ?_ ?_ rfl
    all_goals first|(simp[Ab,Ac,pickOb];done)|rfl
   |false =>
    replace h:=iteF rfl h
    replace h:=ltE h;obtain⟨v5,e5,h⟩:=h
    apply AW.last
    ·simp[← e3,← e4,← e5]
     intros
     refine Ae Er (EQ e2) rfl ⟨.same rfl,trivial⟩ ?_
     try simp[← e3,← e4,← e5]
     intros;rfl
    obtain rfl:=oi h
    refine nP_i ?_
    refine Weak.mixN [some 0,some 1] hn0 (by decide) ?_ ?_ rfl
    all_goals first|(simp[Ab,Ac,pickOb];done)|rfl
 ·rintro e s hp
  obtain⟨rfl,hw⟩:=hp
  refine⟨_,hw,?_⟩
  try simp only[nm]
  replace h:=ltE h;obtain⟨v6,e6,h⟩:=h
  rw[← e6]
  cases v6 with
  |true =>
   replace h:=iteT rfl h
   refine AW.cond_true (by simp) ?_
   apply AW.step
   ·simp
    intros;rfl
   obtain rfl:=oi h
   refine AW.ret ?_
   refine Left.plain hnb (by simp[Tryz.f86,resV,resC,comp];rfl) rfl rfl ?_
   simp
  |false =>
   replace h:=iteF rfl h
   refine AW.cond_false (by simp) ?_
   refine AW.skip ?_
   try simp only[nm]
   replace h:=bnE h;obtain⟨y7,g7,h⟩:=h
   refine AW.flow (p:=fun gh ls=>(sp (nP (cx:=cx) (fun _=>(⟨[(2,.l (.p 0 0))],[some ⟨4,1,false,none,[.s (.bool false)]⟩],23,gh,ls⟩:St))) (rP (cx:=cx) (P:=Tryz.prog) Tryz.f86 (fun q=>.l (.s (.bool q))) (fun q=>[]))) y7) ?_ ?_
   ·replace h:=g7;clear g7
    replace h:=bnE h;obtain⟨v8,e8,h⟩:=h
    apply AW.step
    ·simp
     intros
     refine AF JE (Kx e8) rfl (by simp) ⟨.same rfl,trivial⟩ ?_
     try simp
     intros;rfl
    refine AW.block ?_
    refine AW.weak (Weak.keep [(2,.l (.p 1 0)),(18,.l (.f 137 [2]))] (by simp)) ?_
    refine AW.rangeG rfl Tryz.func137 (by kernel_rfl) rfl (by decide) rfl rfl fun cxI1 yl1 hnI1 hY1=>?_
    have hnJ1:cxI1.nb=0:=hnI1.trans hn0
    simp only[initTm,List.map_cons,List.map_nil]
    refine AW.seq ?_
    refine AW.stepYK ?_
    apply xopsY.yield hY1 0 3 rfl rfl rfl (by decide)
    ·simp
     intros;rfl
    ·rfl
    ·first|trivial|simp
    ·rfl
    ·rfl
    ·simp[puts];rfl
    intro cxR1 hnR1
    have hnS1:cxR1.nb=0:=hnR1.trans hnJ1
    apply AW.last
    ·simp
     intros;rfl
    refine⟨rfl,?_⟩
    replace h:=bnE h;obtain⟨y9,g9,h⟩:=h
    refine AW.flowR (p:=fun gh ls=>(sp (nP (cx:=cxR1) (fun _=>(⟨[],[some ⟨57,5,false,none,[.s (.int .i64 a0.kind),.s (.string a0.s),.d false 2 (encField a0.f),.d false 1 (encS a0.l),.s (.int .i64 a0.exp)]⟩,some ⟨4,1,false,none,[.s (.bool false)]⟩,some ⟨57,5,false,none,[.s (.int .i64 v8.kind),.s (.string v8.s),.d false 2 (encField v8.f),.d false 1 (encS v8.l),.s (.int .i64 v8.exp)]⟩],23,gh,ls⟩:St))) (tP (cx:=cxR1) (fun _=>(⟨[],[some ⟨57,5,false,none,[.s (.int .i64 a0.kind),.s (.string a0.s),.d false 2 (encField a0.f),.d false 1 (encS a0.l),.s (.int .i64 a0.exp)]⟩,some ⟨4,1,false,none,[.s (.bool false)]⟩,some ⟨57,5,false,none,[.s (.int .i64 v8.kind),.s (.string v8.s),.d false 2 (encField v8.f),.d false 1 (encS v8.l),.s (.int .i64 v8.exp)]⟩],23,gh,ls⟩:St)))) y9) ?_ ?_
    ·replace h:=g9;clear g9
     refine AW.block ?_
     replace h:=ltE h;obtain⟨v10,e10,h⟩:=h
     replace h:=ltE h;obtain⟨v11,e11,h⟩:=h
     apply AW.step
     ·simp[← e10,← e11]
      intros;rfl
     cases v11 with
     |true =>
      replace h:=iteT rfl h
      refine AW.cond_true (by simp) ?_
      apply AW.step
      ·simp
       intros;rfl
      obtain rfl:=oi h
      refine AW.ret ?_
      try simp only[nm]
      try simp only[sp_l,sp_r]
      refine tP_i ?_
      refine Weak.mixB 0 [some 0,some 1,some 2] hnS1 (by decide) (by decide) ?_ ?_ ?_
      all_goals first|(simp[Ab,Ac,pickOb];done)|rfl
     |false =>
      replace h:=iteF rfl h
      refine AW.cond_false (by simp) ?_
      refine AW.skip ?_
      try simp only[nm]
      obtain rfl:=oi h
      try simp only[sp_l,sp_r]
      refine nP_i ?_
      refine Weak.mixB 0 [some 0,some 1,some 2] hnS1 (by decide) (by decide) ?_ ?_ ?_
      all_goals first|(simp[Ab,Ac,pickOb];done)|rfl
    ·rintro e s hp
     rcases y9 with y12|y13
     ·replace h:=smL h
      obtain⟨rfl,hw⟩:=hp
      refine⟨_,hw,?_⟩
      try simp only[nm]
      refine⟨_,_,rfl,?_⟩
      refine Bl _ _ _ rfl ?_
      simp[puts]
      try intros
      unfold KK
      refine AW.cond_false (by simp) ?_
      refine AW.skip ?_
      try simp only[nm]
      refine AW.seq ?_
      replace h:=ltE h;obtain⟨v14,e14,h⟩:=h
      apply AW.step
      ·simp[Aa e14]
       intros;rfl
      refine AW.block ?_
      replace h:=bnE h;obtain⟨y16,g16,h⟩:=h
      refine AW.iterP g16 (mk:=fun gh ls q=>(⟨[(0,.l (.s (.func (.yield yl1) #[] #[]))),(1,.l (.p 2 0)),(13,.l (.d false 2 (encField v8.f))),(14,.l (.s (.int .i64 v14))),(15,.l (.s (.int .i64 q)))],[some ⟨57,5,false,none,[.s (.int .i64 a0.kind),.s (.string a0.s),.d false 2 (encField a0.f),.d false 1 (encS a0.l),.s (.int .i64 a0.exp)]⟩,some ⟨4,1,false,none,[.s (.bool false)]⟩,some ⟨57,5,false,none,[.s (.int .i64 v8.kind),.s (.string v8.s),.d false 2 (encField v8.f),.d false 1 (encS v8.l),.s (.int .i64 v8.exp)]⟩],44,gh,ls⟩:St)) (N:=fun gh ls=>(sp (xP 0 (cx:=cxI1) (fun _=>(⟨[(0,.l (.s (.func (.yield yl1) #[] #[]))),(1,.l (.p 2 0))],[some ⟨57,5,false,none,[.s (.int .i64 a0.kind),.s (.string a0.s),.d false 2 (encField a0.f),.d false 1 (encS a0.l),.s (.int .i64 a0.exp)]⟩,some ⟨4,1,false,none,[.s (.bool false)]⟩,some ⟨57,5,false,none,[.s (.int .i64 v8.kind),.s (.string v8.s),.d false 2 (encField v8.f),.d false 1 (encS v8.l),.s (.int .i64 v8.exp)]⟩],44,gh,ls⟩:St))) (tP (cx:=cxI1) (fun _=>(⟨[],[some ⟨57,5,false,none,[.s (.int .i64 a0.kind),.s (.string a0.s),.d false 2 (encField a0.f),.d false 1 (encS a0.l),.s (.int .i64 a0.exp)]⟩,some ⟨4,1,false,none,[.s (.bool false)]⟩,some ⟨57,5,false,none,[.s (.int .i64 v8.kind),.s (.string v8.s),.d false 2 (encField v8.f),.d false 1 (encS v8.l),.s (.int .i64 v8.exp)]⟩],44,gh,some .ret⟩:St))))) ?_ (noS noX noT) ?_ ?_
      ·refine Weak.mixB 0 [some 0,some 1,some 2] hnJ1 (by decide) (by decide) ?_ ?_ ?_
       all_goals first|(simp[Ab,Ac,pickOb];done)|rfl
      ·clear h;intro y15 y17 h
       replace h:=ltE h;obtain⟨v18,e18,h⟩:=h
       apply AW.step
       ·simp[← e18]
        intros;rfl
       refine AW.seq ?_
       cases v18 with
       |true =>
        replace h:=iteT rfl h
        refine AW.cond_true (by simp) ?_
        refine AW.skip ?_
        try simp only[nm]
        refine AW.seq ?_
        refine AW.block ?_
        replace h:=bnE h;obtain⟨v19,e19,h⟩:=h
        apply AW.step
        ·simp[Ad e19]
         intros;rfl
        refine AW.stepYK ?_
        apply xopsY.yield hY1 0 3 rfl rfl rfl (by decide)
        ·simp
         intros;rfl
        ·rfl
        ·first|trivial|simp
        ·rfl
        ·rfl
        ·simp[puts];rfl
        intro cxR1 hnR1
        have hnS1:cxR1.nb=0:=hnR1.trans hnJ1
        apply AW.last
        ·simp
         intros;rfl
        refine⟨rfl,?_⟩
        replace h:=bnE h;obtain⟨y20,g20,h⟩:=h
        refine AW.flowR (p:=fun gh ls=>(sp (nP (cx:=cxR1) (fun _=>(⟨[],[some ⟨57,5,false,none,[.s (.int .i64 a0.kind),.s (.string a0.s),.d false 2 (encField a0.f),.d false 1 (encS a0.l),.s (.int .i64 a0.exp)]⟩,some ⟨4,1,false,none,[.s (.bool false)]⟩,some ⟨57,5,false,none,[.s (.int .i64 v8.kind),.s (.string v8.s),.d false 2 (encField v8.f),.d false 1 (encS v8.l),.s (.int .i64 v8.exp)]⟩,some ⟨157,2,false,none,[.s (.string v19.name),.s (.string v19.val)]⟩],23,gh,ls⟩:St))) (tP (cx:=cxR1) (fun _=>(⟨[],[some ⟨57,5,false,none,[.s (.int .i64 a0.kind),.s (.string a0.s),.d false 2 (encField a0.f),.d false 1 (encS a0.l),.s (.int .i64 a0.exp)]⟩,some ⟨4,1,false,none,[.s (.bool false)]⟩,some ⟨57,5,false,none,[.s (.int .i64 v8.kind),.s (.string v8.s),.d false 2 (encField v8.f),.d false 1 (encS v8.l),.s (.int .i64 v8.exp)]⟩,some ⟨157,2,false,none,[.s (.string v19.name),.s (.string v19.val)]⟩],23,gh,ls⟩:St)))) y20) ?_ ?_
        ·replace h:=g20;clear g20
         refine AW.block ?_
         replace h:=ltE h;obtain⟨v21,e21,h⟩:=h
         replace h:=ltE h;obtain⟨v22,e22,h⟩:=h
         apply AW.step
         ·simp[← e21,← e22]
          intros;rfl
         cases v22 with
         |true =>
          replace h:=iteT rfl h
          refine AW.cond_true (by simp) ?_
          apply AW.step
          ·simp
           intros;rfl
          obtain rfl:=oi h
          refine AW.ret ?_
          try simp only[nm]
          try simp only[sp_l,sp_r]
          refine tP_i ?_
          refine Weak.mixB 0 [some 0,some 1,some 2,some 3] hnS1 (by decide) (by decide) ?_ ?_ ?_
          all_goals first|(simp[Ab,Ac,pickOb];done)|rfl
         |false =>
          replace h:=iteF rfl h
          refine AW.cond_false (by simp) ?_
          refine AW.skip ?_
          try simp only[nm]
          obtain rfl:=oi h
          try simp only[sp_l,sp_r]
          refine nP_i ?_
          refine Weak.mixB 0 [some 0,some 1,some 2,some 3] hnS1 (by decide) (by decide) ?_ ?_ ?_
          all_goals first|(simp[Ab,Ac,pickOb];done)|rfl
        ·rintro e s hp
         rcases y20 with y23|y24
         ·replace h:=smL h
          obtain⟨rfl,hw⟩:=hp
          refine⟨_,hw,?_⟩
          try simp only[nm]
          refine⟨_,_,rfl,?_⟩
          apply xopsY.yield hY1 4 9 rfl rfl rfl (by decide)
          ·simp
           intros;rfl
          ·rfl
          ·first|trivial|simp
          ·rfl
          ·rfl
          ·simp[puts];rfl
          intro cxR1 hnR1
          have hnS1:cxR1.nb=0:=hnR1.trans hnJ1
          apply AW.last
          ·simp
           intros;rfl
          refine⟨rfl,?_⟩
          replace h:=bnE h;obtain⟨y25,g25,h⟩:=h
          refine AW.flowR (p:=fun gh ls=>(sp (nP (cx:=cxR1) (fun _=>(⟨[],[some ⟨57,5,false,none,[.s (.int .i64 a0.kind),.s (.string a0.s),.d false 2 (encField a0.f),.d false 1 (encS a0.l),.s (.int .i64 a0.exp)]⟩,some ⟨4,1,false,none,[.s (.bool false)]⟩,some ⟨57,5,false,none,[.s (.int .i64 v8.kind),.s (.string v8.s),.d false 2 (encField v8.f),.d false 1 (encS v8.l),.s (.int .i64 v8.exp)]⟩,some ⟨157,2,false,none,[.s (.string v19.name),.s (.string v19.val)]⟩],23,gh,ls⟩:St))) (tP (cx:=cxR1) (fun _=>(⟨[],[some ⟨57,5,false,none,[.s (.int .i64 a0.kind),.s (.string a0.s),.d false 2 (encField a0.f),.d false 1 (encS a0.l),.s (.int .i64 a0.exp)]⟩,some ⟨4,1,false,none,[.s (.bool false)]⟩,some ⟨57,5,false,none,[.s (.int .i64 v8.kind),.s (.string v8.s),.d false 2 (encField v8.f),.d false 1 (encS v8.l),.s (.int .i64 v8.exp)]⟩,some ⟨157,2,false,none,[.s (.string v19.name),.s (.string v19.val)]⟩],23,gh,ls⟩:St)))) y25) ?_ ?_
          ·replace h:=g25;clear g25
           refine AW.block ?_
           replace h:=ltE h;obtain⟨v26,e26,h⟩:=h
           replace h:=ltE h;obtain⟨v27,e27,h⟩:=h
           apply AW.step
           ·simp[← e26,← e27]
            intros;rfl
           cases v27 with
           |true =>
            replace h:=iteT rfl h
            refine AW.cond_true (by simp) ?_
            apply AW.step
            ·simp
             intros;rfl
            obtain rfl:=oi h
            refine AW.ret ?_
            try simp only[nm]
            try simp only[sp_l,sp_r]
            refine tP_i ?_
            refine Weak.mixB 0 [some 0,some 1,some 2,some 3] hnS1 (by decide) (by decide) ?_ ?_ ?_
            all_goals first|(simp[Ab,Ac,pickOb];done)|rfl
           |false =>
            replace h:=iteF rfl h
            refine AW.cond_false (by simp) ?_
            refine AW.skip ?_
            try simp only[nm]
            obtain rfl:=oi h
            try simp only[sp_l,sp_r]
            refine nP_i ?_
            refine Weak.mixB 0 [some 0,some 1,some 2,some 3] hnS1 (by decide) (by decide) ?_ ?_ ?_
            all_goals first|(simp[Ab,Ac,pickOb];done)|rfl
          ·rintro e s hp
           rcases y25 with y28|y29
           ·replace h:=smL h
            obtain⟨rfl,hw⟩:=hp
            refine⟨_,hw,?_⟩
            try simp only[nm]
            refine⟨_,_,rfl,?_⟩
            refine Bl _ _ _ rfl ?_
            simp[puts]
            try intros
            unfold KK
            refine AW.cond_false (by simp) ?_
            refine AW.skip ?_
            try simp only[nm]
            replace h:=ltE h;obtain⟨v30,e30,h⟩:=h
            apply AW.last
            ·simp[← e30]
             intros;rfl
            obtain rfl:=oi h
            refine nP_i ?_
            refine Weak.mixB 0 [some 0,some 1,some 2] hnJ1 (by decide) (by decide) ?_ ?_ ?_
            all_goals first|(simp[Ab,Ac,pickOb];done)|rfl
           ·replace h:=smR h
            obtain⟨rfl,hw⟩:=hp
            refine⟨_,hw,?_⟩
            try simp only[nm]
            refine⟨_,_,rfl,?_⟩
            refine Bl _ _ _ rfl ?_
            simp[puts]
            try intros
            unfold KK
            refine AW.cond_true (by simp) ?_
            obtain rfl:=oi h
            refine AW.ret ?_
            try simp only[nm]
            try simp only[sp_l,sp_r]
            refine tP_i ?_
            refine Weak.mixB 0 [some 0,some 1,some 2] hnJ1 (by decide) (by decide) ?_ ?_ ?_
            all_goals first|(simp[Ab,Ac,pickOb];done)|rfl
         ·replace h:=smR h
          obtain⟨rfl,hw⟩:=hp
          refine⟨_,hw,?_⟩
          try simp only[nm]
          refine⟨_,_,rfl,?_⟩
          refine Bl _ _ _ rfl ?_
          simp[puts]
          try intros
          unfold KK
          refine AW.cond_true (by simp) ?_
          obtain rfl:=oi h
          refine AW.ret ?_
          try simp only[nm]
          try simp only[sp_l,sp_r]
          refine tP_i ?_
          refine Weak.mixB 0 [some 0,some 1,some 2] hnJ1 (by decide) (by decide) ?_ ?_ ?_
          all_goals first|(simp[Ab,Ac,pickOb];done)|rfl
       |false =>
        replace h:=iteF rfl h
        refine AW.cond_false (by simp) ?_
        refine AW.exit ?_
        try simp only[nm]
        obtain rfl:=oi h
        try simp only[sp_l,sp_r]
        refine xP_i ?_
        refine Weak.mixB 0 [some 0,some 1,some 2] hnJ1 (by decide) (by decide) ?_ ?_ ?_
        all_goals first|(simp[Ab,Ac,pickOb];done)|rfl
      ·rintro e s hp
       rcases y16 with y31|y32
       ·replace h:=smL h
        obtain⟨rfl,hw⟩:=hp
        refine⟨_,hw,?_⟩
        try simp only[nm]
        replace h:=ltE h;obtain⟨v33,e33,h⟩:=h
        apply AW.step
        ·simp[Aa e33]
         intros;rfl
        refine AW.block ?_
        replace h:=bnE h;obtain⟨y35,g35,h⟩:=h
        refine AW.iterP g35 (mk:=fun gh ls q=>(⟨[(0,.l (.s (.func (.yield yl1) #[] #[]))),(33,.l (.d false 1 (encS v8.l))),(34,.l (.s (.int .i64 v33))),(35,.l (.s (.int .i64 q)))],[some ⟨57,5,false,none,[.s (.int .i64 a0.kind),.s (.string a0.s),.d false 2 (encField a0.f),.d false 1 (encS a0.l),.s (.int .i64 a0.exp)]⟩,some ⟨4,1,false,none,[.s (.bool false)]⟩,some ⟨57,5,false,none,[.s (.int .i64 v8.kind),.s (.string v8.s),.d false 2 (encField v8.f),.d false 1 (encS v8.l),.s (.int .i64 v8.exp)]⟩],44,gh,ls⟩:St)) (N:=fun gh ls=>(sp (xP 2 (cx:=cxI1) (fun _=>(⟨[],[some ⟨57,5,false,none,[.s (.int .i64 a0.kind),.s (.string a0.s),.d false 2 (encField a0.f),.d false 1 (encS a0.l),.s (.int .i64 a0.exp)]⟩,some ⟨4,1,false,none,[.s (.bool false)]⟩,some ⟨57,5,false,none,[.s (.int .i64 v8.kind),.s (.string v8.s),.d false 2 (encField v8.f),.d false 1 (encS v8.l),.s (.int .i64 v8.exp)]⟩],44,gh,ls⟩:St))) (tP (cx:=cxI1) (fun _=>(⟨[],[some ⟨57,5,false,none,[.s (.int .i64 a0.kind),.s (.string a0.s),.d false 2 (encField a0.f),.d false 1 (encS a0.l),.s (.int .i64 a0.exp)]⟩,some ⟨4,1,false,none,[.s (.bool false)]⟩,some ⟨57,5,false,none,[.s (.int .i64 v8.kind),.s (.string v8.s),.d false 2 (encField v8.f),.d false 1 (encS v8.l),.s (.int .i64 v8.exp)]⟩],44,gh,some .ret⟩:St))))) ?_ (noS noX noT) ?_ ?_
        ·refine Weak.mixB 0 [some 0,some 1,some 2] hnJ1 (by decide) (by decide) ?_ ?_ ?_
         all_goals first|(simp[Ab,Ac,pickOb];done)|rfl
        ·clear h;intro y34 y36 h
         replace h:=ltE h;obtain⟨v37,e37,h⟩:=h
         apply AW.step
         ·simp[← e37]
          intros;rfl
         refine AW.seq ?_
         cases v37 with
         |true =>
          replace h:=iteT rfl h
          refine AW.cond_true (by simp) ?_
          refine AW.skip ?_
          try simp only[nm]
          refine AW.seq ?_
          refine AW.block ?_
          replace h:=bnE h;obtain⟨v38,e38,h⟩:=h
          apply AW.step
          ·simp[Ad e38]
           intros;rfl
          refine AW.stepYK ?_
          apply xopsY.yield hY1 0 2 rfl rfl rfl (by decide)
          ·simp
           intros;rfl
          ·rfl
          ·first|trivial|simp
          ·rfl
          ·rfl
          ·simp[puts];rfl
          intro cxR1 hnR1
          have hnS1:cxR1.nb=0:=hnR1.trans hnJ1
          apply AW.last
          ·simp
           intros;rfl
          refine⟨rfl,?_⟩
          replace h:=bnE h;obtain⟨y39,g39,h⟩:=h
          refine AW.flowR (p:=fun gh ls=>(sp (nP (cx:=cxR1) (fun _=>(⟨[],[some ⟨57,5,false,none,[.s (.int .i64 a0.kind),.s (.string a0.s),.d false 2 (encField a0.f),.d false 1 (encS a0.l),.s (.int .i64 a0.exp)]⟩,some ⟨4,1,false,none,[.s (.bool false)]⟩,some ⟨57,5,false,none,[.s (.int .i64 v8.kind),.s (.string v8.s),.d false 2 (encField v8.f),.d false 1 (encS v8.l),.s (.int .i64 v8.exp)]⟩],23,gh,ls⟩:St))) (tP (cx:=cxR1) (fun _=>(⟨[],[some ⟨57,5,false,none,[.s (.int .i64 a0.kind),.s (.string a0.s),.d false 2 (encField a0.f),.d false 1 (encS a0.l),.s (.int .i64 a0.exp)]⟩,some ⟨4,1,false,none,[.s (.bool false)]⟩,some ⟨57,5,false,none,[.s (.int .i64 v8.kind),.s (.string v8.s),.d false 2 (encField v8.f),.d false 1 (encS v8.l),.s (.int .i64 v8.exp)]⟩],23,gh,ls⟩:St)))) y39) ?_ ?_
          ·replace h:=g39;clear g39
           refine AW.block ?_
           replace h:=ltE h;obtain⟨v40,e40,h⟩:=h
           replace h:=ltE h;obtain⟨v41,e41,h⟩:=h
           apply AW.step
           ·simp[← e40,← e41]
            intros;rfl
           cases v41 with
           |true =>
            replace h:=iteT rfl h
            refine AW.cond_true (by simp) ?_
            apply AW.step
            ·simp
             intros;rfl
            obtain rfl:=oi h
            refine AW.ret ?_
            try simp only[nm]
            try simp only[sp_l,sp_r]
            refine tP_i ?_
            refine Weak.mixB 0 [some 0,some 1,some 2] hnS1 (by decide) (by decide) ?_ ?_ ?_
            all_goals first|(simp[Ab,Ac,pickOb];done)|rfl
           |false =>
            replace h:=iteF rfl h
            refine AW.cond_false (by simp) ?_
            refine AW.skip ?_
            try simp only[nm]
            obtain rfl:=oi h
            try simp only[sp_l,sp_r]
            refine nP_i ?_
            refine Weak.mixB 0 [some 0,some 1,some 2] hnS1 (by decide) (by decide) ?_ ?_ ?_
            all_goals first|(simp[Ab,Ac,pickOb];done)|rfl
          ·rintro e s hp
           rcases y39 with y42|y43
           ·replace h:=smL h
            obtain⟨rfl,hw⟩:=hp
            refine⟨_,hw,?_⟩
            try simp only[nm]
            refine⟨_,_,rfl,?_⟩
            refine Bl _ _ _ rfl ?_
            simp[puts]
            try intros
            unfold KK
            refine AW.cond_false (by simp) ?_
            refine AW.skip ?_
            try simp only[nm]
            replace h:=ltE h;obtain⟨v44,e44,h⟩:=h
            apply AW.last
            ·simp[← e44]
             intros;rfl
            obtain rfl:=oi h
            refine nP_i ?_
            refine Weak.mixB 0 [some 0,some 1,some 2] hnJ1 (by decide) (by decide) ?_ ?_ ?_
            all_goals first|(simp[Ab,Ac,pickOb];done)|rfl
           ·replace h:=smR h
            obtain⟨rfl,hw⟩:=hp
            refine⟨_,hw,?_⟩
            try simp only[nm]
            refine⟨_,_,rfl,?_⟩
            refine Bl _ _ _ rfl ?_
            simp[puts]
            try intros
            unfold KK
            refine AW.cond_true (by simp) ?_
            obtain rfl:=oi h
            refine AW.ret ?_
            try simp only[nm]
            try simp only[sp_l,sp_r]
            refine tP_i ?_
            refine Weak.mixB 0 [some 0,some 1,some 2] hnJ1 (by decide) (by decide) ?_ ?_ ?_
            all_goals first|(simp[Ab,Ac,pickOb];done)|rfl
         |false =>
          replace h:=iteF rfl h
          refine AW.cond_false (by simp) ?_
          refine AW.exit ?_
          try simp only[nm]
          obtain rfl:=oi h
          try simp only[sp_l,sp_r]
          refine xP_i ?_
          refine Weak.mixB 0 [some 0,some 1,some 2] hnJ1 (by decide) (by decide) ?_ ?_ ?_
          all_goals first|(simp[Ab,Ac,pickOb];done)|rfl
        ·rintro e s hp
         rcases y35 with y45|y46
         ·replace h:=smL h
          obtain⟨rfl,hw⟩:=hp
          refine⟨_,hw,?_⟩
          try simp only[nm]
          refine⟨_,_,rfl,?_⟩
          try simp only[]
          try simp only[nm]
          obtain rfl:=oi h
          try simp only[sp_l,sp_r]
          refine nP_i ?_
          refine Weak.mixN [some 1] hn0 (by decide) ?_ ?_ rfl
          all_goals first|(simp[Ab,Ac,pickOb];done)|rfl
         ·replace h:=smR h
          obtain⟨rfl,hw⟩:=hp
          refine⟨_,hw,?_⟩
          try simp only[nm]
          refine⟨_,_,rfl,?_⟩
          try simp only[]
          obtain rfl:=oi h
          refine AW.ret ?_
          try simp only[nm]
          refine rP_i ?_
          refine Left.plain hnb (by simp[Tryz.f86,resV,resC,comp];rfl) rfl rfl ?_
          simp
       ·replace h:=smR h
        obtain⟨rfl,hw⟩:=hp
        refine⟨_,hw,?_⟩
        try simp only[nm]
        refine⟨_,_,rfl,?_⟩
        try simp only[]
        obtain rfl:=oi h
        refine AW.ret ?_
        try simp only[nm]
        refine rP_i ?_
        refine Left.plain hnb (by simp[Tryz.f86,resV,resC,comp];rfl) rfl rfl ?_
        simp
     ·replace h:=smR h
      obtain⟨rfl,hw⟩:=hp
      refine⟨_,hw,?_⟩
      try simp only[nm]
      refine⟨_,_,rfl,?_⟩
      refine Bl _ _ _ rfl ?_
      simp[puts]
      try intros
      unfold KK
      refine AW.cond_true (by simp) ?_
      refine AW.ret ?_
      refine⟨_,_,rfl,?_⟩
      try simp only[]
      obtain rfl:=oi h
      refine AW.ret ?_
      try simp only[nm]
      refine rP_i ?_
      refine Left.plain hnb (by simp[Tryz.f86,resV,resC,comp];rfl) rfl rfl ?_
      simp
   ·rintro e s hp
    rcases y7 with y47|y48
    ·replace h:=smL h
     obtain⟨rfl,hw⟩:=hp
     refine⟨_,hw,?_⟩
     try simp only[nm]
     apply AW.step
     ·simp
      intros;rfl
     obtain rfl:=oi h
     refine AW.ret ?_
     refine Left.plain hnb (by simp[Tryz.f86,resV,resC,comp];rfl) rfl rfl ?_
     simp
    ·replace h:=smR h
     obtain⟨rfl,hl⟩:=hp
     refine⟨_,Weak.refl _,?_⟩
     obtain rfl:=oi h
     exact hl
theorem Hp:Enters Tryz.prog 86:=enters Tryz.func86 (by kernel_rfl) rfl
def Dz (n:Nat) (a0:Msg):Option Bool :=
bn (lt (lenI a0.effects) fun v2 =>
lt (neI v2 1) fun v3 =>
ite' v3 (some (true)) (lt (ltI a0.num 1) fun v4 =>
some (v4))) fun (y1:Bool) =>
lt (y1) fun v5 =>
ite' v5 (some false) (bn (nth a0.effects 0) fun v6 =>
bn (lt (lenS v6.key) fun v8 =>
lt (leI v8 40) fun v9 =>
ite' v9 (lt (notB v6.gone) fun v10 =>
ite' v10 (bn (Dy n v6.item) fun v11 =>
ite' v11 (bn (CE n v6.key) fun v12 =>
lt (eqI v12 a0.slot) fun v13 =>
some (v13)) (some (false))) (some (false))) (some (false))) fun (y7:Bool) =>
some y7)
def DY4t1:List DI:=[⟨[0],[],[(3,none)],false⟩,⟨[0],[0],[(17,some 0)],false⟩,⟨[0],[0,1],[(18,some 1)],false⟩,⟨[0],[0,1,2],[(19,some 2)],false⟩,⟨[0],[0,1,2,3],[(20,some 3)],false⟩,⟨[0],[0,1,2,3,4],[(3,none),(21,some 4)],false⟩,⟨[0],[0,1,2,3,4,5],[(21,some 4),(22,some 5)],false⟩,⟨[0],[0,1,2,3,4,5,6],[(21,some 4),(23,some 6)],false⟩,⟨[0],[0,1,2,3,4,5,6,7],[(21,some 4),(24,some 7)],false⟩,⟨[0],[0,1,2,3,4,5,6,7,8],[(25,some 8)],false⟩,⟨[0],[0,1,2,3,4,5,6,7,8,9],[(3,none),(26,some 9)],false⟩,⟨[0],[0,1,2,3,4,5,6,7,8,9,10],[(26,some 9),(27,some 10)],false⟩,⟨[0],[0,1,2,3,4,5,6,7,8,9,10,11],[(26,some 9),(28,some 11)],false⟩,⟨[0],[0,1,2,3,4,5,6,7,8,9,10,11,12],[(26,some 9),(29,some 12)],false⟩,⟨[0],[0,1,2,3,4,5,6,7,8,9,10,11,12,13],[(30,some 13)],false⟩,⟨[0],[0,1,2,3,4,5,6,7,8,9,10,11,12,13,14],[(3,none),(31,some 14)],false⟩,⟨[0],[0,1,2,3,4,5,6,7,8,9,10,11,12,13,14,15],[(31,some 14),(32,some 15)],false⟩,⟨[0],[0,1,2,3,4,5,6,7,8,9,10,11,12,13,14,15,16],[(31,some 14),(33,some 16)],false⟩,⟨[0],[0,1,2,3,4,5,6,7,8,9,10,11,12,13,14],[(1,none),(31,some 14)],false⟩,⟨[0],[0,1,2,3,4,5,6,7,8,9,10,11,12,13,14,18],[(31,some 14),(35,some 18)],false⟩,⟨[],[0,1,2,3,4,5,6,7,8,9,10,11,12,13,14,15,16,17,18,19],[],false⟩,⟨[],[0,1,2,3,4,5,6,7,8,9,10,11,12,13,14,15,16,17,18,19,20],[],false⟩,⟨[],[0,1,2,3,4,5,6,7,8,9,10,11,12,13,14,15,16,17,18,19,20,21],[],false⟩]
theorem Mo {n:Nat} {a0:Msg} {r:Bool} (h:Dz n a0=some r):Sound Tryz.prog 48 [.g [.s (.int .i64 a0.kind),.s (.int .i64 a0.frm),.s (.int .i64 a0.to),.s (.int .i64 a0.epoch),.d false 4 (encClaim a0.claims),.d false 1 (encI a0.nodes),.s (.int .i64 a0.node),.s (.int .i64 a0.slot),.s (.int .i64 a0.num),.s (.int .i64 a0.rid.node),.s (.int .i64 a0.rid.epoch),.s (.int .i64 a0.prev.node),.s (.int .i64 a0.prev.epoch),.s (.int .i64 a0.off),.d false 7 (encEffect a0.effects)]] [] (.l (.s (.bool r))) []:=by
 unfold Dz at h
 refine Sound.of_aw (fn:=Tryz.f48) (c:=_) Tryz.func48 rfl (by simp[Tryz.f48]) fun cx hG hnb=>?_
 rw[show Tryz.f48.ntmps=39 from rfl]
 have hn0:cx.nb=0:=hnb
 simp only[An,initTm,List.map_cons,List.map_nil]
 apply AW.step
 ·simp
  intros;rfl
 refine AW.seq ?_
 replace h:=bnE h;obtain⟨y1,g1,h⟩:=h
 refine AW.flow (p:=fun gh ls=>(nP (cx:=cx) (fun q=>(⟨[(1,.l (.p 0 0)),(12,.l (.s (.bool q)))],[some ⟨49,15,false,none,[.s (.int .i64 a0.kind),.s (.int .i64 a0.frm),.s (.int .i64 a0.to),.s (.int .i64 a0.epoch),.d false 4 (encClaim a0.claims),.d false 1 (encI a0.nodes),.s (.int .i64 a0.node),.s (.int .i64 a0.slot),.s (.int .i64 a0.num),.s (.int .i64 a0.rid.node),.s (.int .i64 a0.rid.epoch),.s (.int .i64 a0.prev.node),.s (.int .i64 a0.prev.epoch),.s (.int .i64 a0.off),.d false 7 (encEffect a0.effects)]⟩],39,gh,ls⟩:St))) y1) ?_ ?_
 ·replace h:=g1;clear g1
  replace h:=ltE h;obtain⟨v2,e2,h⟩:=h
  replace h:=ltE h;obtain⟨v3,e3,h⟩:=h
  cases v3 with
  |true =>
   replace h:=iteT rfl h
   apply AW.last
   ·simp[Aa e2,← e3]
    intros;rfl
   obtain rfl:=oi h
   refine nP_i ?_
   refine Weak.mixN [some 0] hn0 (by decide) ?_ ?_ rfl
   all_goals first|(simp[Ab,Ac,pickOb];done)|rfl
  |false =>
   replace h:=iteF rfl h
   replace h:=ltE h;obtain⟨v4,e4,h⟩:=h
   apply AW.last
   ·simp[Aa e2,← e3,← e4]
    intros;rfl
   obtain rfl:=oi h
   refine nP_i ?_
   refine Weak.mixN [some 0] hn0 (by decide) ?_ ?_ rfl
   all_goals first|(simp[Ab,Ac,pickOb];done)|rfl
 ·rintro e s hp
  obtain⟨rfl,hw⟩:=hp
  refine⟨_,hw,?_⟩
  try simp only[nm]
  replace h:=ltE h;obtain⟨v5,e5,h⟩:=h
  rw[← e5]
  cases v5 with
  |true =>
   replace h:=iteT rfl h
   refine AW.cond_true (by simp) ?_
   apply AW.step
   ·simp
    intros;rfl
   obtain rfl:=oi h
   refine AW.ret ?_
   refine Left.plain hnb (by simp[Tryz.f48,resV,resC,comp];rfl) rfl rfl ?_
   simp
  |false =>
   replace h:=iteF rfl h
   refine AW.cond_false (by simp) ?_
   refine AW.skip ?_
   try simp only[nm]
   replace h:=bnE h;obtain⟨v6,e6,h⟩:=h
   apply AW.step
   ·simp[(show a0.effects[0]?=some v6 from (Ad e6).2)]
    intros;rfl
   replace h:=bnE h;obtain⟨y7,g7,h⟩:=h
   refine AW.flow (p:=fun gh ls=>(nP (cx:=cx) (fun q=>(⟨[(2,.l (.s (.bool q)))],[],39,gh,ls⟩:St))) y7) ?_ ?_
   ·replace h:=g7;clear g7
    replace h:=ltE h;obtain⟨v8,e8,h⟩:=h
    replace h:=ltE h;obtain⟨v9,e9,h⟩:=h
    cases v9 with
    |true =>
     replace h:=iteT rfl h
     replace h:=ltE h;obtain⟨v10,e10,h⟩:=h
     cases v10 with
     |true =>
      replace h:=iteT rfl h
      replace h:=bnE h;obtain⟨v11,e11,h⟩:=h
      cases v11 with
      |true =>
       replace h:=iteT rfl h
       replace h:=bnE h;obtain⟨v12,e12,h⟩:=h
       replace h:=ltE h;obtain⟨v13,e13,h⟩:=h
       apply AW.drawnR (V:=[_,_,_,_,_,_,_,_,_,_,_,_,_,_,_,_,_,_,_,_]) mixed DY4t1 20 (by kernel_rfl) (by kernel_rfl)
       ·refine⟨?_,?_,?_,?_,?_,?_,?_,?_,?_,?_,?_,?_,?_,?_,?_,?_,?_,?_,?_,?_,trivial⟩
        iterate 12 (· intro tm hr;simp[AllL,rdV] at hr;simp[hr,← e8,← e9,← e10,← e13];intros;first|exact KD.mk|exact KD.mkN)
        ·intro tm hr
         simp[AllL,rdV] at hr
         simp[hr,← e8,← e9,← e10,← e13]
         intros
         refine Ae Hp (Ic e11) rfl ⟨.same rfl,trivial⟩ ?_
         try simp[← e8,← e9,← e10,← e13]
         intros;first|exact KD.mk|exact KD.mkN
        iterate 4 (· intro tm hr;simp[AllL,rdV] at hr;simp[hr,← e8,← e9,← e10,← e13];intros;first|exact KD.mk|exact KD.mkN)
        ·intro tm hr
         simp[AllL,rdV] at hr
         simp[hr,← e8,← e9,← e10,← e13]
         intros
         refine Ae F8 (GK e12) rfl ⟨.same rfl,trivial⟩ ?_
         try simp[← e8,← e9,← e10,← e13]
         intros;first|exact KD.mk|exact KD.mkN
        iterate 2 (· intro tm hr;simp[AllL,rdV] at hr;simp[hr,← e8,← e9,← e10,← e13];intros;first|exact KD.mk|exact KD.mkN)
       ·rfl
       ·simp[tmD,putD,← e8,← e9,← e10,← e13];rfl
       ·simp[← e8,← e9,← e10,← e13]
        intros;rfl
       obtain rfl:=oi h
       refine nP_i ?_
       refine Weak.mixN [] hn0 (by decide) ?_ ?_ rfl
       all_goals first|(simp[Ab,Ac,pickOb];done)|rfl
      |false =>
       replace h:=iteF rfl h
       apply AW.drawnR (V:=[_,_,_,_,_,_,_,_,_,_,_,_,_,_,_,_,_,_,_,_]) mixed DY4t1 20 (by kernel_rfl) (by kernel_rfl)
       ·refine⟨?_,?_,?_,?_,?_,?_,?_,?_,?_,?_,?_,?_,?_,?_,?_,?_,?_,?_,?_,?_,trivial⟩
        iterate 12 (· intro tm hr;simp[AllL,rdV] at hr;simp[hr,← e8,← e9,← e10];intros;first|exact KD.mk|exact KD.mkN)
        ·intro tm hr
         simp[AllL,rdV] at hr
         simp[hr,← e8,← e9,← e10]
         intros
         refine Ae Hp (Ic e11) rfl ⟨.same rfl,trivial⟩ ?_
         try simp[← e8,← e9,← e10]
         intros;first|exact KD.mk|exact KD.mkN
        iterate 7 (· intro tm hr;simp[AllL,rdV] at hr;simp[hr,← e8,← e9,← e10];intros;first|exact KD.mk|exact KD.mkN)
       ·rfl
       ·simp[tmD,putD,← e8,← e9,← e10];rfl
       ·simp[← e8,← e9,← e10]
        intros;rfl
       obtain rfl:=oi h
       refine nP_i ?_
       refine Weak.mixN [] hn0 (by decide) ?_ ?_ rfl
       all_goals first|(simp[Ab,Ac,pickOb];done)|rfl
     |false =>
      replace h:=iteF rfl h
      apply AW.drawnR (V:=[_,_,_,_,_,_,_,_,_,_,_,_,_,_,_,_,_,_,_,_]) mixed DY4t1 20 (by kernel_rfl) (by kernel_rfl)
      ·refine⟨?_,?_,?_,?_,?_,?_,?_,?_,?_,?_,?_,?_,?_,?_,?_,?_,?_,?_,?_,?_,trivial⟩
       iterate 20 (· intro tm hr;simp[AllL,rdV] at hr;simp[hr,← e8,← e9,← e10];intros;first|exact KD.mk|exact KD.mkN)
      ·rfl
      ·simp[tmD,putD,← e8,← e9,← e10];rfl
      ·simp[← e8,← e9,← e10]
       intros;rfl
      obtain rfl:=oi h
      refine nP_i ?_
      refine Weak.mixN [] hn0 (by decide) ?_ ?_ rfl
      all_goals first|(simp[Ab,Ac,pickOb];done)|rfl
    |false =>
     replace h:=iteF rfl h
     apply AW.drawnR (V:=[_,_,_,_,_,_,_,_,_,_,_,_,_,_,_,_,_,_,_,_]) mixed DY4t1 20 (by kernel_rfl) (by kernel_rfl)
     ·refine⟨?_,?_,?_,?_,?_,?_,?_,?_,?_,?_,?_,?_,?_,?_,?_,?_,?_,?_,?_,?_,trivial⟩
      iterate 20 (· intro tm hr;simp[AllL,rdV] at hr;simp[hr,← e8,← e9];intros;first|exact KD.mk|exact KD.mkN)
     ·rfl
     ·simp[tmD,putD,← e8,← e9];rfl
     ·simp[← e8,← e9]
      intros;rfl
     obtain rfl:=oi h
     refine nP_i ?_
     refine Weak.mixN [] hn0 (by decide) ?_ ?_ rfl
     all_goals first|(simp[Ab,Ac,pickOb];done)|rfl
   ·rintro e s hp
    obtain⟨rfl,hw⟩:=hp
    refine⟨_,hw,?_⟩
    try simp only[nm]
    obtain rfl:=oi h
    refine AW.ret ?_
    refine Left.plain hnb (by simp[Tryz.f48,resV,resC,comp];rfl) rfl rfl ?_
    simp
theorem Ld:Enters Tryz.prog 48:=enters Tryz.func48 (by kernel_rfl) rfl
def CK (n:Nat) (a0:List Int):Option Int :=
lt (lenI a0) fun v1 =>
bn (iter n (fun (y2:Int) =>
lt (ltI y2 v1) fun v5 =>
ite' v5 (bn (nth a0 y2) fun v6 =>
lt (neI v6 0) fun v7 =>
ite' v7 (some (.inr (.inr v6))) (lt (addI .i64 y2 1) fun v8 =>
some (.inl v8))) (some (.inr (.inl ())))) 0) fun (y3:Unit ⊕ Int) =>
sm y3 (fun y9=>some 0) (fun y10=>some y10)
theorem Ky {n:Nat} {a0:List Int} {r:Int} (h:CK n a0=some r):Sound Tryz.prog 51 [.l (.d true 1 (encI a0))] [] (.l (.s (.int .i64 r))) []:=by
 unfold CK at h
 refine Sound.of_aw (fn:=Tryz.f51) (c:=_) Tryz.func51 rfl (by simp[Tryz.f51]) fun cx hG hnb=>?_
 rw[show Tryz.f51.ntmps=18 from rfl]
 have hn0:cx.nb=0:=hnb
 simp only[An,initTm,List.map_cons,List.map_nil]
 apply AW.step
 ·simp
  intros;rfl
 apply AW.step
 ·simp
  intros;rfl
 refine AW.seq ?_
 replace h:=ltE h;obtain⟨v1,e1,h⟩:=h
 apply AW.step
 ·simp[Aa e1]
  intros;rfl
 refine AW.block ?_
 replace h:=bnE h;obtain⟨y3,g3,h⟩:=h
 refine AW.iterP g3 (mk:=fun gh ls q=>(⟨[(3,.l (.s (.int .i64 0))),(6,.l (.d true 1 (encI a0))),(7,.l (.s (.int .i64 v1))),(8,.l (.s (.int .i64 q)))],[],18,gh,ls⟩:St)) (N:=fun gh ls=>(sp (xP 0 (cx:=cx) (fun _=>(⟨[(3,.l (.s (.int .i64 0)))],[],18,gh,ls⟩:St))) (rP (cx:=cx) (P:=Tryz.prog) Tryz.f51 (fun q=>.l (.s (.int .i64 q))) (fun q=>[])))) ?_ (noS noX noR) ?_ ?_
 ·refine Weak.mixN [] hn0 (by decide) ?_ ?_ rfl
  all_goals first|(simp[Ab,Ac,pickOb];done)|rfl
 ·clear h;intro y2 y4 h
  replace h:=ltE h;obtain⟨v5,e5,h⟩:=h
  apply AW.step
  ·simp[← e5]
   intros;rfl
  refine AW.seq ?_
  cases v5 with
  |true =>
   replace h:=iteT rfl h
   refine AW.cond_true (by simp) ?_
   refine AW.skip ?_
   try simp only[nm]
   refine AW.seq ?_
   refine AW.block ?_
   replace h:=bnE h;obtain⟨v6,e6,h⟩:=h
   apply AW.step
   ·simp[Ad e6]
    intros;rfl
   replace h:=ltE h;obtain⟨v7,e7,h⟩:=h
   apply AW.step
   ·simp[← e7]
    intros;rfl
   cases v7 with
   |true =>
    replace h:=iteT rfl h
    refine AW.cond_true (by simp) ?_
    apply AW.step
    ·simp
     intros;rfl
    obtain rfl:=oi h
    refine AW.ret ?_
    try simp only[nm]
    refine rP_i ?_
    refine Left.plain hnb (by simp[Tryz.f51,resV,resC,comp];rfl) rfl rfl ?_
    simp
   |false =>
    replace h:=iteF rfl h
    refine AW.cond_false (by simp) ?_
    refine AW.skip ?_
    try simp only[nm]
    replace h:=ltE h;obtain⟨v8,e8,h⟩:=h
    apply AW.last
    ·simp[← e8]
     intros;rfl
    obtain rfl:=oi h
    refine nP_i ?_
    refine Weak.mixN [] hn0 (by decide) ?_ ?_ rfl
    all_goals first|(simp[Ab,Ac,pickOb];done)|rfl
  |false =>
   replace h:=iteF rfl h
   refine AW.cond_false (by simp) ?_
   refine AW.exit ?_
   try simp only[nm]
   obtain rfl:=oi h
   try simp only[sp_l,sp_r]
   refine xP_i ?_
   refine Weak.mixN [] hn0 (by decide) ?_ ?_ rfl
   all_goals first|(simp[Ab,Ac,pickOb];done)|rfl
 ·rintro e s hp
  rcases y3 with y9|y10
  ·replace h:=smL h
   obtain⟨rfl,hw⟩:=hp
   refine⟨_,hw,?_⟩
   try simp only[nm]
   apply AW.step
   ·simp
    intros;rfl
   obtain rfl:=oi h
   refine AW.ret ?_
   refine Left.plain hnb (by simp[Tryz.f51,resV,resC,comp];rfl) rfl rfl ?_
   simp
  ·replace h:=smR h
   obtain⟨rfl,hl⟩:=hp
   refine⟨_,Weak.refl _,?_⟩
   obtain rfl:=oi h
   exact hl
theorem JF:Enters Tryz.prog 51:=enters Tryz.func51 (by kernel_rfl) rfl
def Bj (n:Nat) (a0:Seen) (a1:Msg):Option Int :=
bn (AS n a0.node a1.frm) fun v1 =>
bn (AS n a0.slot a1.slot) fun v2 =>
chk (room 2 1) <|
bn (CK n [v1,v2]) fun v4 =>
some v4
theorem Gl {n:Nat} {a0:Seen} {a1:Msg} {r:Int} (h:Bj n a0 a1=some r):Sound Tryz.prog 50 [.g [.s (.int .i64 a0.node),.s (.int .i64 a0.slot),.s (.int .i64 a0.num)],.g [.s (.int .i64 a1.kind),.s (.int .i64 a1.frm),.s (.int .i64 a1.to),.s (.int .i64 a1.epoch),.d false 4 (encClaim a1.claims),.d false 1 (encI a1.nodes),.s (.int .i64 a1.node),.s (.int .i64 a1.slot),.s (.int .i64 a1.num),.s (.int .i64 a1.rid.node),.s (.int .i64 a1.rid.epoch),.s (.int .i64 a1.prev.node),.s (.int .i64 a1.prev.epoch),.s (.int .i64 a1.off),.d false 7 (encEffect a1.effects)]] [] (.l (.s (.int .i64 r))) []:=by
 unfold Bj at h
 refine Sound.of_aw (fn:=Tryz.f50) (c:=_) Tryz.func50 rfl (by simp[Tryz.f50]) fun cx hG hnb=>?_
 rw[show Tryz.f50.ntmps=17 from rfl]
 have hn0:cx.nb=0:=hnb
 simp only[An,initTm,List.map_cons,List.map_nil]
 apply AW.step
 ·simp
  intros;rfl
 replace h:=bnE h;obtain⟨v1,e1,h⟩:=h
 replace h:=bnE h;obtain⟨v2,e2,h⟩:=h
 replace h:=chkE h;obtain⟨e3,h⟩:=h
 replace h:=bnE h;obtain⟨v4,e4,h⟩:=h
 apply AW.drawnP (V:=[_,_,_,_,_,_,_,_,_]) mixed [⟨[0],[],[(2,none)],false⟩,⟨[0],[0],[(5,some 0)],false⟩,⟨[0],[],[(3,none)],false⟩,⟨[0],[2],[(7,some 2)],false⟩,⟨[0],[0,1,2,3],[(6,some 1),(8,some 3)],false⟩,⟨[0],[],[(2,none)],false⟩,⟨[0],[5],[(10,some 5)],false⟩,⟨[0],[],[(3,none)],false⟩,⟨[0],[7],[(12,some 7)],false⟩,⟨[],[0,1,2,3,4,5,6,7,8],[],false⟩,⟨[],[0,1,2,3,4,5,6,7,8,9],[],false⟩,⟨[],[0,1,2,3,4,5,6,7,8,9,10],[],false⟩,⟨[],[0,1,2,3,4,5,6,7,8,9,10,11],[],false⟩] 9 (by kernel_rfl) (by kernel_rfl)
 ·refine⟨?_,?_,?_,?_,?_,?_,?_,?_,?_,trivial⟩
  iterate 4 (· intro tm hr;simp[AllL,rdV] at hr;simp[hr];intros;first|exact KD.mk|exact KD.mkN)
  ·intro tm hr
   simp[AllL,rdV] at hr
   simp[hr]
   intros
   refine Ae Ce (Cm e1) rfl ⟨.same rfl,.same rfl,trivial⟩ ?_
   try simp[]
   intros;first|exact KD.mk|exact KD.mkN
  iterate 4 (· intro tm hr;simp[AllL,rdV] at hr;simp[hr];intros;first|exact KD.mk|exact KD.mkN)
 ·rfl
 ·simp[tmD,putD];rfl
 ·simp
  intros
  refine Ae Ce (Cm e2) rfl ⟨.same rfl,.same rfl,trivial⟩ ?_
  try simp[]
  intros
  refine Av ?_
  try simp[]
  intros
  refine Ae JF (Ky e4) rfl ⟨.rowd (by simp[MN]) rfl (by omega) (FQ _) (by simp) (by first|exact (Ah e3).2|simpa using (Ah e3).2|simp),trivial⟩ ?_
  try simp[]
  intros;rfl
 obtain rfl:=oi h
 refine AW.ret ?_
 refine Left.plain hnb (by simp[Tryz.f50,resV,resC,comp];rfl) rfl rfl ?_
 simp
theorem FY:Enters Tryz.prog 50:=enters Tryz.func50 (by kernel_rfl) rfl
def AL (n:Nat) (a0:List Seen) (a1:Msg):Option (Int×Bool) :=
lt (lenI a0) fun v1 =>
bn (iter n (fun (y2:Int×Int) =>
lt (ltI y2.1 y2.2) fun v5 =>
ite' v5 (lt (addI .i64 y2.1 y2.2) fun v6 =>
lt (cvI .u64 v6) fun v7 =>
bn (shrI .u64 v7 1) fun v8 =>
lt (cvI .i64 v8) fun v9 =>
bn (nth a0 v9) fun v10 =>
bn (Bj n v10 a1) fun v11 =>
lt (ltI v11 0) fun v12 =>
ite' v12 (lt (addI .i64 v9 1) fun v13 =>
some (.inl (v13,y2.2))) (some (.inl (y2.1,v9)))) (some (.inr y2.1))) (0,v1)) fun (y3:Int) =>
bn (lt (ltI y3 v1) fun v15 =>
ite' v15 (bn (nth a0 y3) fun v16 =>
bn (Bj n v16 a1) fun v17 =>
lt (eqI v17 0) fun v18 =>
some (v18)) (some (false))) fun (y14:Bool) =>
some (y3,y14)
def DY4t2:List DI:=[⟨[0],[],[(9,none)],false⟩,⟨[0],[],[(9,none)],false⟩,⟨[0],[],[(8,none)],false⟩,⟨[0],[1,2],[(36,some 1),(37,some 2)],false⟩,⟨[0],[1,2,3],[(38,some 3)],false⟩,⟨[0],[1,2,3,4],[(2,none),(39,some 4)],false⟩,⟨[0],[1,2,3,4],[(0,none),(39,some 4)],false⟩,⟨[0],[1,2,3,4],[(9,none),(39,some 4)],false⟩,⟨[0],[1,2,3,4,6,7],[(39,some 4),(41,some 6),(42,some 7)],false⟩,⟨[0],[1,2,3,4,6,7,8],[(39,some 4),(43,some 8)],false⟩,⟨[0],[1,2,3,4],[(4,none),(39,some 4)],false⟩,⟨[0],[1,2,3,4,5,6,7,8,9,10],[(39,some 4),(40,some 5),(44,some 9),(45,some 10)],false⟩,⟨[0],[1,2,3,4,5,6,7,8,9,10,11],[(39,some 4),(46,some 11)],false⟩,⟨[0],[1,2,3,4,5,6,7,8,9,10,11,12],[(39,some 4),(47,some 12)],false⟩,⟨[0],[0,1,2,3,4,5,6,7,8,9,10,11],[(35,some 0)],false⟩,⟨[],[0,1,2,3,4,5,6,7,8,9,10,11,12,13,14],[],false⟩]
theorem DA {n:Nat} {a0:List Seen} {a1:Msg} {r:Int×Bool} (h:AL n a0 a1=some r):Sound Tryz.prog 49 [.l (.d true 3 (encSeen a0)),.g [.s (.int .i64 a1.kind),.s (.int .i64 a1.frm),.s (.int .i64 a1.to),.s (.int .i64 a1.epoch),.d false 4 (encClaim a1.claims),.d false 1 (encI a1.nodes),.s (.int .i64 a1.node),.s (.int .i64 a1.slot),.s (.int .i64 a1.num),.s (.int .i64 a1.rid.node),.s (.int .i64 a1.rid.epoch),.s (.int .i64 a1.prev.node),.s (.int .i64 a1.prev.epoch),.s (.int .i64 a1.off),.d false 7 (encEffect a1.effects)],.l (.s (.func (.func 50) #[] #[]))] [] (.t [(false,[.s (.int .i64 r.1)]),(false,[.s (.bool r.2)])]) []:=by
 unfold AL at h
 refine Sound.of_aw (fn:=Tryz.f49) (c:=_) Tryz.func49 rfl (by simp[Tryz.f49]) fun cx hG hnb=>?_
 rw[show Tryz.f49.ntmps=49 from rfl]
 have hn0:cx.nb=0:=hnb
 simp only[An,initTm,List.map_cons,List.map_nil]
 apply AW.step
 ·simp
  intros;rfl
 replace h:=ltE h;obtain⟨v1,e1,h⟩:=h
 apply AW.step
 ·simp[Aa e1]
  intros;rfl
 apply AW.step
 ·simp
  intros;rfl
 refine AW.seq ?_
 refine AW.block ?_
 replace h:=bnE h;obtain⟨y3,g3,h⟩:=h
 refine AW.iterP g3 (mk:=fun gh ls q=>(⟨[(0,.l (.d true 3 (encSeen a0))),(2,.l (.s (.func (.func 50) #[] #[]))),(4,.l (.p 0 0)),(8,.l (.s (.int .i64 v1))),(9,.l (.s (.int .i64 q.1))),(10,.l (.s (.int .i64 q.2)))],[some ⟨49,15,false,none,[.s (.int .i64 a1.kind),.s (.int .i64 a1.frm),.s (.int .i64 a1.to),.s (.int .i64 a1.epoch),.d false 4 (encClaim a1.claims),.d false 1 (encI a1.nodes),.s (.int .i64 a1.node),.s (.int .i64 a1.slot),.s (.int .i64 a1.num),.s (.int .i64 a1.rid.node),.s (.int .i64 a1.rid.epoch),.s (.int .i64 a1.prev.node),.s (.int .i64 a1.prev.epoch),.s (.int .i64 a1.off),.d false 7 (encEffect a1.effects)]⟩],49,gh,ls⟩:St)) (N:=fun gh ls=>(xP 0 (cx:=cx) (fun q=>(⟨[(0,.l (.d true 3 (encSeen a0))),(2,.l (.s (.func (.func 50) #[] #[]))),(4,.l (.p 0 0)),(8,.l (.s (.int .i64 v1))),(9,.l (.s (.int .i64 q)))],[some ⟨49,15,false,none,[.s (.int .i64 a1.kind),.s (.int .i64 a1.frm),.s (.int .i64 a1.to),.s (.int .i64 a1.epoch),.d false 4 (encClaim a1.claims),.d false 1 (encI a1.nodes),.s (.int .i64 a1.node),.s (.int .i64 a1.slot),.s (.int .i64 a1.num),.s (.int .i64 a1.rid.node),.s (.int .i64 a1.rid.epoch),.s (.int .i64 a1.prev.node),.s (.int .i64 a1.prev.epoch),.s (.int .i64 a1.off),.d false 7 (encEffect a1.effects)]⟩],49,gh,ls⟩:St)))) ?_ noX ?_ ?_
 ·refine Weak.mixN [some 0] hn0 (by decide) ?_ ?_ rfl
  all_goals first|(simp[Ab,Ac,pickOb];done)|rfl
 ·clear h;intro y2 y4 h
  refine AW.seq ?_
  replace h:=ltE h;obtain⟨v5,e5,h⟩:=h
  apply AW.step
  ·simp[← e5]
   intros;rfl
  cases v5 with
  |true =>
   replace h:=iteT rfl h
   refine AW.cond_true (by simp) ?_
   refine AW.skip ?_
   try simp only[nm]
   refine AW.block ?_
   replace h:=ltE h;obtain⟨v6,e6,h⟩:=h
   replace h:=ltE h;obtain⟨v7,e7,h⟩:=h
   replace h:=bnE h;obtain⟨v8,e8,h⟩:=h
   replace h:=ltE h;obtain⟨v9,e9,h⟩:=h
   apply AW.step
   ·simp[← e6,← e7,e8,← e9]
    intros;rfl
   replace h:=bnE h;obtain⟨v10,e10,h⟩:=h
   replace h:=bnE h;obtain⟨v11,e11,h⟩:=h
   replace h:=ltE h;obtain⟨v12,e12,h⟩:=h
   apply AW.drawnP (V:=[_,_,_,_,_,_]) mixed [⟨[0],[],[(2,none)],false⟩,⟨[0],[],[(0,none)],false⟩,⟨[0],[],[(11,none)],false⟩,⟨[0],[1,2],[(25,some 1),(26,some 2)],false⟩,⟨[0],[1,2,3],[(27,some 3)],false⟩,⟨[0],[],[(4,none)],false⟩,⟨[],[0,1,2,3,4,5],[],false⟩,⟨[],[0,1,2,3,4,5,6],[],false⟩] 6 (by kernel_rfl) (by kernel_rfl)
   ·refine⟨?_,?_,?_,?_,?_,?_,trivial⟩
    iterate 6 (· intro tm hr;simp[AllL,rdV] at hr;simp[hr,Ad e10,← e12];intros;first|exact KD.mk|exact KD.mkN)
   ·rfl
   ·simp[tmD,putD,Ad e10,← e12];rfl
   ·simp[Ad e10,← e12]
    intros
    refine Ae FY (Gl e11) rfl ⟨.same rfl,.same rfl,trivial⟩ ?_
    try simp[Ad e10,← e12]
    intros;rfl
   cases v12 with
   |true =>
    replace h:=iteT rfl h
    refine AW.cond_true (by simp) ?_
    replace h:=ltE h;obtain⟨v13,e13,h⟩:=h
    apply AW.last
    ·simp[← e13]
     intros;rfl
    obtain rfl:=oi h
    refine nP_i ?_
    refine Weak.mixN [some 0] hn0 (by decide) ?_ ?_ rfl
    all_goals first|(simp[Ab,Ac,pickOb];done)|rfl
   |false =>
    replace h:=iteF rfl h
    refine AW.cond_false (by simp) ?_
    apply AW.last
    ·simp
     intros;rfl
    obtain rfl:=oi h
    refine nP_i ?_
    refine Weak.mixN [some 0] hn0 (by decide) ?_ ?_ rfl
    all_goals first|(simp[Ab,Ac,pickOb];done)|rfl
  |false =>
   replace h:=iteF rfl h
   refine AW.cond_false (by simp) ?_
   refine AW.exit ?_
   try simp only[nm]
   obtain rfl:=oi h
   refine xP_i ?_
   refine Weak.mixN [some 0] hn0 (by decide) ?_ ?_ rfl
   all_goals first|(simp[Ab,Ac,pickOb];done)|rfl
 ·rintro e s hp
  obtain⟨rfl,hw⟩:=hp
  refine⟨_,hw,?_⟩
  try simp only[nm]
  replace h:=bnE h;obtain⟨y14,g14,h⟩:=h
  refine AW.flow (p:=fun gh ls=>(nP (cx:=cx) (fun q=>(⟨[(6,.l (.s (.int .i64 y3))),(7,.l (.s (.bool q)))],[],49,gh,ls⟩:St))) y14) ?_ ?_
  ·replace h:=g14;clear g14
   replace h:=ltE h;obtain⟨v15,e15,h⟩:=h
   cases v15 with
   |true =>
    replace h:=iteT rfl h
    replace h:=bnE h;obtain⟨v16,e16,h⟩:=h
    replace h:=bnE h;obtain⟨v17,e17,h⟩:=h
    replace h:=ltE h;obtain⟨v18,e18,h⟩:=h
    apply AW.drawnR (V:=[_,_,_,_,_,_,_,_,_,_,_,_,_,_,_]) mixed DY4t2 15 (by kernel_rfl) (by kernel_rfl)
    ·refine⟨?_,?_,?_,?_,?_,?_,?_,?_,?_,?_,?_,?_,?_,?_,?_,trivial⟩
     iterate 11 (· intro tm hr;simp[AllL,rdV] at hr;simp[hr,← e15,Ad e16,← e18];intros;first|exact KD.mk|exact KD.mkN)
     ·intro tm hr
      simp[AllL,rdV] at hr
      simp[hr,← e15,Ad e16,← e18]
      intros
      refine Ae FY (Gl e17) rfl ⟨.same rfl,.same rfl,trivial⟩ ?_
      try simp[← e15,Ad e16,← e18]
      intros;first|exact KD.mk|exact KD.mkN
     iterate 3 (· intro tm hr;simp[AllL,rdV] at hr;simp[hr,← e15,Ad e16,← e18];intros;first|exact KD.mk|exact KD.mkN)
    ·rfl
    ·simp[tmD,putD,← e15,Ad e16,← e18];rfl
    ·simp[← e15,Ad e16,← e18]
     intros;rfl
    obtain rfl:=oi h
    refine nP_i ?_
    refine Weak.mixN [] hn0 (by decide) ?_ ?_ rfl
    all_goals first|(simp[Ab,Ac,pickOb];done)|rfl
   |false =>
    replace h:=iteF rfl h
    apply AW.drawnR (V:=[_,_,_,_,_,_,_,_,_,_,_,_,_,_,_]) mixed DY4t2 15 (by kernel_rfl) (by kernel_rfl)
    ·refine⟨?_,?_,?_,?_,?_,?_,?_,?_,?_,?_,?_,?_,?_,?_,?_,trivial⟩
     iterate 15 (· intro tm hr;simp[AllL,rdV] at hr;simp[hr,← e15];intros;first|exact KD.mk|exact KD.mkN)
    ·rfl
    ·simp[tmD,putD,← e15];rfl
    ·simp[← e15]
     intros;rfl
    obtain rfl:=oi h
    refine nP_i ?_
    refine Weak.mixN [] hn0 (by decide) ?_ ?_ rfl
    all_goals first|(simp[Ab,Ac,pickOb];done)|rfl
  ·rintro e s hp
   obtain⟨rfl,hw⟩:=hp
   refine⟨_,hw,?_⟩
   try simp only[nm]
   obtain rfl:=oi h
   refine AW.ret ?_
   refine Left.plain hnb (by simp[Tryz.f49,resV,resC,comp];rfl) rfl rfl ?_
   simp
theorem Dn:Enters Tryz.prog 49:=enters Tryz.func49 (by kernel_rfl) rfl
def Bk (n:Nat) (a0:Node) (a1:List Effect):Option Node :=
bn (BU n a0.db a1) fun v1 =>
bn (CP n a0.feed a1) fun v2 =>
some (⟨a0.count,a0.id,a0.master,a0.epoch,a0.voted,a0.claims,v1,a0.moves,a0.last,a0.seen,v2,a0.watch,a0.asked,a0.votes,a0.wait⟩:Node)
theorem Hf {n:Nat} {a0:Node} {a1:List Effect} {r:Node} (h:Bk n a0 a1=some r):Sound Tryz.prog 41 [.g [.s (.int .i64 a0.count),.s (.int .i64 a0.id),.s (.int .i64 a0.master),.s (.int .i64 a0.epoch),.s (.int .i64 a0.voted),.d false 4 (encClaim a0.claims),.d false 6 (encPair a0.db),.d false 4 (encMove a0.moves),.s (.int .i64 a0.last),.r 0 3 0 a0.seen.length,.s (.int .i64 a0.feed.rid.node),.s (.int .i64 a0.feed.rid.epoch),.s (.int .i64 a0.feed.off),.d false 7 (encEffect a0.feed.back),.s (.int .i64 a0.feed.prev.node),.s (.int .i64 a0.feed.prev.epoch),.s (.int .i64 a0.feed.upto),.d false 1 (encI a0.watch.heard),.d false 1 (encLI a0.watch.says),.s (.int .i64 a0.asked),.d false 1 (encI a0.votes),.s (.int .i64 a0.wait)],.l (.d false 7 (encEffect a1))] [⟨100,3,true,none,lvs (encSeen a0.seen)⟩] (.g [.s (.int .i64 r.count),.s (.int .i64 r.id),.s (.int .i64 r.master),.s (.int .i64 r.epoch),.s (.int .i64 r.voted),.d false 4 (encClaim r.claims),.d false 6 (encPair r.db),.d false 4 (encMove r.moves),.s (.int .i64 r.last),.r 0 3 0 r.seen.length,.s (.int .i64 r.feed.rid.node),.s (.int .i64 r.feed.rid.epoch),.s (.int .i64 r.feed.off),.d false 7 (encEffect r.feed.back),.s (.int .i64 r.feed.prev.node),.s (.int .i64 r.feed.prev.epoch),.s (.int .i64 r.feed.upto),.d false 1 (encI r.watch.heard),.d false 1 (encLI r.watch.says),.s (.int .i64 r.asked),.d false 1 (encI r.votes),.s (.int .i64 r.wait)]) [some ⟨100,3,true,none,lvs (encSeen r.seen)⟩]:=by
 unfold Bk at h
 refine Sound.of_aw (fn:=Tryz.f41) (c:=_) Tryz.func41 rfl (by simp[Tryz.f41]) fun cx hG hnb=>?_
 rw[show Tryz.f41.ntmps=16 from rfl]
 have hn0:cx.nb=1:=hnb
 simp only[An,initTm,List.map_cons,List.map_nil]
 apply AW.step
 ·simp
  intros;rfl
 replace h:=bnE h;obtain⟨v1,e1,h⟩:=h
 replace h:=bnE h;obtain⟨v2,e2,h⟩:=h
 apply AW.drawnP (V:=[_,_,_,_,_,_,_,_,_]) mixed [⟨[0],[],[(2,none)],false⟩,⟨[0],[0],[(5,some 0)],false⟩,⟨[0],[],[(1,none)],false⟩,⟨[0],[0,1,2],[(6,some 1),(7,some 2)],false⟩,⟨[0],[],[(2,none)],false⟩,⟨[0],[4],[(9,some 4)],false⟩,⟨[0],[],[(1,none)],false⟩,⟨[0],[0,1,2,3,4,5,6],[(10,some 5),(11,some 6)],false⟩,⟨[0],[0,1,2,3,4,5],[(2,none)],false⟩,⟨[],[0,1,2,3,4,5,6,7,8],[],false⟩,⟨[],[0,1,2,3,4,5,6,7,8,9],[],false⟩,⟨[],[0,1,2,3,4,5,6,7,8,9,10],[],false⟩] 9 (by kernel_rfl) (by kernel_rfl)
 ·refine⟨?_,?_,?_,?_,?_,?_,?_,?_,?_,trivial⟩
  iterate 3 (· intro tm hr;simp[AllL,rdV] at hr;simp[hr];intros;first|exact KD.mk|exact KD.mkN)
  ·intro tm hr
   simp[AllL,rdV] at hr
   simp[hr]
   intros
   refine Ae ID (Jq e1) rfl ⟨.same rfl,.same rfl,trivial⟩ ?_
   try simp[]
   intros;first|exact KD.mk|exact KD.mkN
  iterate 3 (· intro tm hr;simp[AllL,rdV] at hr;simp[hr];intros;first|exact KD.mk|exact KD.mkN)
  ·intro tm hr
   simp[AllL,rdV] at hr
   simp[hr]
   intros
   refine Ae K7 (Mh e2) rfl ⟨.same rfl,.same rfl,trivial⟩ ?_
   try simp[]
   intros;first|exact KD.mk|exact KD.mkN
  ·intro tm hr;simp[AllL,rdV] at hr;simp[hr];intros;first|exact KD.mk|exact KD.mkN
 ·rfl
 ·simp[tmD,putD];rfl
 ·simp
  intros;rfl
 apply AW.step
 ·simp
  intros;rfl
 obtain rfl:=oi h
 refine AW.ret ?_
 refine Left.of (av:=_) (by simp[Tryz.f41,resV,resC,comp];rfl) ?_
 exact LeftV.mix 1 [some 0] hn0 rfl (by decide) rfl (by simp[pickOb,Ab,Ac]) (by simp[Ab,Ac])
theorem GO:Enters Tryz.prog 41:=enters Tryz.func41 (by kernel_rfl) rfl
def BG (n:Nat) (a0:Node) (a1:Msg):Option (Node×List Msg) :=
bn (A9 n a0) fun v1 =>
bn (lt (neI v1.master (-1)) fun v3 =>
ite' v3 (some (true)) (bn (Dz n a1) fun v4 =>
lt (notB v4) fun v5 =>
some (v5))) fun (y2:Bool) =>
lt (y2) fun v6 =>
ite' v6 (chk (room v1.moves.length 1) <|
chk (room v1.seen.length 1) <|
some (v1,[])) (chk (room v1.seen.length 1) <|
bn (AL n v1.seen a1) fun v10 =>
bn (bn (lt (notB v10.2) fun v13 =>
ite' v13 (some (true)) (bn (nth v1.seen v10.1) fun v14 =>
lt (ltI v14.num a1.num) fun v16 =>
some (v16))) fun (y12:Bool) =>
lt (y12) fun v17 =>
ite' v17 (chk (room v1.moves.length 1) <|
bn (Bk n v1 a1.effects) fun v19 =>
bn (lt (notB v10.2) fun v21 =>
ite' v21 (chk (insB v19.seen v10.1) <|
lt (insL v19.seen v10.1.toNat (⟨a1.frm,a1.slot,0⟩:Seen)) fun v23 =>
some (v23)) (some (v19.seen))) fun (y20:List Seen) =>
bn (nth y20 v10.1) fun v24 =>
lt (y20.set v10.1.toNat (⟨v24.node,v24.slot,a1.num⟩:Seen)) fun v26 =>
some ((v19.count,v19.id,v19.master,v19.epoch,v19.voted,v19.claims,v19.db,v19.moves,v19.last,v19.feed.rid.node,v19.feed.rid.epoch,v19.feed.off,v19.feed.back,v19.feed.prev.node,v19.feed.prev.epoch,v19.feed.upto,v19.watch.heard,v19.watch.says,v19.asked,v19.votes,v19.wait,v26))) (chk (room v1.moves.length 1) <|
some ((v1.count,v1.id,v1.master,v1.epoch,v1.voted,v1.claims,v1.db,v1.moves,v1.last,v1.feed.rid.node,v1.feed.rid.epoch,v1.feed.off,v1.feed.back,v1.feed.prev.node,v1.feed.prev.epoch,v1.feed.upto,v1.watch.heard,v1.watch.says,v1.asked,v1.votes,v1.wait,v1.seen)))) fun (y11:Int×Int×Int×Int×Int×List Claim×List Pair×List Move×Int×Int×Int×Int×List Effect×Int×Int×Int×List Int×List (List Int)×Int×List Int×Int×List Seen) =>
chk (room y11.2.2.2.2.2.2.2.2.2.2.2.2.2.2.2.2.2.2.2.2.2.length 1) <|
some ((⟨y11.1,y11.2.1,y11.2.2.1,y11.2.2.2.1,y11.2.2.2.2.1,y11.2.2.2.2.2.1,y11.2.2.2.2.2.2.1,y11.2.2.2.2.2.2.2.1,y11.2.2.2.2.2.2.2.2.1,y11.2.2.2.2.2.2.2.2.2.2.2.2.2.2.2.2.2.2.2.2.2,(⟨(⟨y11.2.2.2.2.2.2.2.2.2.1,y11.2.2.2.2.2.2.2.2.2.2.1⟩:Rid),y11.2.2.2.2.2.2.2.2.2.2.2.1,y11.2.2.2.2.2.2.2.2.2.2.2.2.1,(⟨y11.2.2.2.2.2.2.2.2.2.2.2.2.2.1,y11.2.2.2.2.2.2.2.2.2.2.2.2.2.2.1⟩:Rid),y11.2.2.2.2.2.2.2.2.2.2.2.2.2.2.2.1⟩:Feed),(⟨y11.2.2.2.2.2.2.2.2.2.2.2.2.2.2.2.2.1,y11.2.2.2.2.2.2.2.2.2.2.2.2.2.2.2.2.2.1⟩:Watch),y11.2.2.2.2.2.2.2.2.2.2.2.2.2.2.2.2.2.2.1,y11.2.2.2.2.2.2.2.2.2.2.2.2.2.2.2.2.2.2.2.1,y11.2.2.2.2.2.2.2.2.2.2.2.2.2.2.2.2.2.2.2.2.1⟩:Node),[(⟨3,y11.2.1,a1.frm,0,[],[],0,a1.slot,a1.num,(⟨0,0⟩:Rid),(⟨0,0⟩:Rid),0,[]⟩:Msg)]))
def DY4t3:List DI:=[⟨[0],[],[(7,none)],false⟩,⟨[0],[0],[(26,some 0)],false⟩,⟨[0],[0,1],[(27,some 1)],false⟩,⟨[0],[0,1,2],[(2,none),(28,some 2)],false⟩,⟨[0],[0,1,2,3],[(28,some 2),(29,some 3)],false⟩,⟨[0],[0,1,2],[(6,none),(28,some 2)],false⟩,⟨[0],[0,1,2,3,4,5],[(28,some 2),(30,some 4),(31,some 5)],false⟩,⟨[0],[0,1,2,3,4,5,6],[(28,some 2),(32,some 6)],false⟩,⟨[0],[0,1,2,3,4,5,6,7],[(28,some 2),(33,some 7)],false⟩,⟨[0],[0,1,2],[(3,none),(28,some 2)],false⟩,⟨[0],[0,1,2,9],[(28,some 2),(35,some 9)],false⟩,⟨[],[0,1,2,3,4,5,6,7,8,9,10],[],false⟩,⟨[],[0,1,2,3,4,5,6,7,8,9,10,11],[],false⟩]
theorem Eu {n:Nat} {a0:Node} {a1:Msg} {r:Node×List Msg} (h:BG n a0 a1=some r):Sound Tryz.prog 16 [.g [.s (.int .i64 a0.count),.s (.int .i64 a0.id),.s (.int .i64 a0.master),.s (.int .i64 a0.epoch),.s (.int .i64 a0.voted),.d false 4 (encClaim a0.claims),.d false 6 (encPair a0.db),.d false 4 (encMove a0.moves),.s (.int .i64 a0.last),.d false 3 (encSeen a0.seen),.s (.int .i64 a0.feed.rid.node),.s (.int .i64 a0.feed.rid.epoch),.s (.int .i64 a0.feed.off),.d false 7 (encEffect a0.feed.back),.s (.int .i64 a0.feed.prev.node),.s (.int .i64 a0.feed.prev.epoch),.s (.int .i64 a0.feed.upto),.d false 1 (encI a0.watch.heard),.d false 1 (encLI a0.watch.says),.s (.int .i64 a0.asked),.d false 1 (encI a0.votes),.s (.int .i64 a0.wait)],.g [.s (.int .i64 a1.kind),.s (.int .i64 a1.frm),.s (.int .i64 a1.to),.s (.int .i64 a1.epoch),.d false 4 (encClaim a1.claims),.d false 1 (encI a1.nodes),.s (.int .i64 a1.node),.s (.int .i64 a1.slot),.s (.int .i64 a1.num),.s (.int .i64 a1.rid.node),.s (.int .i64 a1.rid.epoch),.s (.int .i64 a1.prev.node),.s (.int .i64 a1.prev.epoch),.s (.int .i64 a1.off),.d false 7 (encEffect a1.effects)]] [] (.t [(true,[.s (.int .i64 r.1.count),.s (.int .i64 r.1.id),.s (.int .i64 r.1.master),.s (.int .i64 r.1.epoch),.s (.int .i64 r.1.voted),.d false 4 (encClaim r.1.claims),.d false 6 (encPair r.1.db),.d false 4 (encMove r.1.moves),.s (.int .i64 r.1.last),.d false 3 (encSeen r.1.seen),.s (.int .i64 r.1.feed.rid.node),.s (.int .i64 r.1.feed.rid.epoch),.s (.int .i64 r.1.feed.off),.d false 7 (encEffect r.1.feed.back),.s (.int .i64 r.1.feed.prev.node),.s (.int .i64 r.1.feed.prev.epoch),.s (.int .i64 r.1.feed.upto),.d false 1 (encI r.1.watch.heard),.d false 1 (encLI r.1.watch.says),.s (.int .i64 r.1.asked),.d false 1 (encI r.1.votes),.s (.int .i64 r.1.wait)]),(false,[.d false 15 (encMsg r.2)])]) []:=by
 unfold BG at h
 refine Sound.of_aw (fn:=Tryz.f16) (c:=_) Tryz.func16 rfl (by simp[Tryz.f16]) fun cx hG hnb=>?_
 rw[show Tryz.f16.ntmps=74 from rfl]
 have hn0:cx.nb=0:=hnb
 simp only[An,initTm,List.map_cons,List.map_nil]
 apply AW.step
 ·simp
  intros;rfl
 replace h:=bnE h;obtain⟨v1,e1,h⟩:=h
 apply AW.step
 ·simp[outR]
  intros
  refine AF Dm (DM e1) rfl (by simp) ⟨.same rfl,trivial⟩ ?_
  try simp[outR]
  intros;rfl
 refine AW.seq ?_
 replace h:=bnE h;obtain⟨y2,g2,h⟩:=h
 refine AW.flow (p:=fun gh ls=>(nP (cx:=cx) (fun q=>(⟨[(2,.l (.p 0 0)),(3,.l (.p 1 0)),(4,.l (.p 2 0)),(17,.l (.s (.bool q)))],[some ⟨38,22,false,none,[.s (.int .i64 v1.count),.s (.int .i64 v1.id),.s (.int .i64 v1.master),.s (.int .i64 v1.epoch),.s (.int .i64 v1.voted),.d false 4 (encClaim v1.claims),.d false 6 (encPair v1.db),.r 3 4 0 v1.moves.length,.s (.int .i64 v1.last),.r 4 3 0 v1.seen.length,.s (.int .i64 v1.feed.rid.node),.s (.int .i64 v1.feed.rid.epoch),.s (.int .i64 v1.feed.off),.d false 7 (encEffect v1.feed.back),.s (.int .i64 v1.feed.prev.node),.s (.int .i64 v1.feed.prev.epoch),.s (.int .i64 v1.feed.upto),.d false 1 (encI v1.watch.heard),.d false 1 (encLI v1.watch.says),.s (.int .i64 v1.asked),.d false 1 (encI v1.votes),.s (.int .i64 v1.wait)]⟩,some ⟨49,15,false,none,[.s (.int .i64 a1.kind),.s (.int .i64 a1.frm),.s (.int .i64 a1.to),.s (.int .i64 a1.epoch),.d false 4 (encClaim a1.claims),.d false 1 (encI a1.nodes),.s (.int .i64 a1.node),.s (.int .i64 a1.slot),.s (.int .i64 a1.num),.s (.int .i64 a1.rid.node),.s (.int .i64 a1.rid.epoch),.s (.int .i64 a1.prev.node),.s (.int .i64 a1.prev.epoch),.s (.int .i64 a1.off),.d false 7 (encEffect a1.effects)]⟩,some ⟨38,22,false,none,[.s (.int .i64 0),.s (.int .i64 0),.s (.int .i64 0),.s (.int .i64 0),.s (.int .i64 0),.s (.slice none 0 0),.s (.slice none 0 0),.s (.slice none 0 0),.s (.int .i64 0),.s (.slice none 0 0),.s (.int .i64 0),.s (.int .i64 0),.s (.int .i64 0),.s (.slice none 0 0),.s (.int .i64 0),.s (.int .i64 0),.s (.int .i64 0),.s (.slice none 0 0),.s (.slice none 0 0),.s (.int .i64 0),.s (.slice none 0 0),.s (.int .i64 0)]⟩,some ⟨92,4,true,none,lvs (encMove v1.moves)⟩,some ⟨100,3,true,none,lvs (encSeen v1.seen)⟩],74,gh,ls⟩:St))) y2) ?_ ?_
 ·replace h:=g2;clear g2
  replace h:=ltE h;obtain⟨v3,e3,h⟩:=h
  cases v3 with
  |true =>
   replace h:=iteT rfl h
   apply AW.last
   ·simp[← e3]
    intros;rfl
   obtain rfl:=oi h
   refine nP_i ?_
   refine Weak.mixN [some 0,some 1,some 2,some 3,some 4] hn0 (by decide) ?_ ?_ rfl
   all_goals first|(simp[Ab,Ac,pickOb];done)|rfl
  |false =>
   replace h:=iteF rfl h
   replace h:=bnE h;obtain⟨v4,e4,h⟩:=h
   replace h:=ltE h;obtain⟨v5,e5,h⟩:=h
   apply AW.last
   ·simp[← e3,← e5]
    intros
    refine Ae Ld (Mo e4) rfl ⟨.same rfl,trivial⟩ ?_
    try simp[← e3,← e5]
    intros;rfl
   obtain rfl:=oi h
   refine nP_i ?_
   refine Weak.mixN [some 0,some 1,some 2,some 3,some 4] hn0 (by decide) ?_ ?_ rfl
   all_goals first|(simp[Ab,Ac,pickOb];done)|rfl
 ·rintro e s hp
  obtain⟨rfl,hw⟩:=hp
  refine⟨_,hw,?_⟩
  try simp only[nm]
  replace h:=ltE h;obtain⟨v6,e6,h⟩:=h
  rw[← e6]
  cases v6 with
  |true =>
   replace h:=iteT rfl h
   refine AW.cond_true (by simp) ?_
   apply AW.step
   ·simp
    intros;rfl
   replace h:=chkE h;obtain⟨e7,h⟩:=h
   refine AW.frzRow 3 (ty:=92) (cap:=none) (sz:=4) (es:=encMove v1.moves) (by simp) (by omega) (Az _) (by first|exact (Ah e7).2|simpa using (Ah e7).2|simp) (by simp[Tm.frz,AV.frz,LV.frz];rfl) (by simp[Ob.frz,LV.frz];rfl) rfl ?_
   replace h:=chkE h;obtain⟨e8,h⟩:=h
   refine AW.frzRow 4 (ty:=100) (cap:=none) (sz:=3) (es:=encSeen v1.seen) (by simp) (by omega) (AA _) (by first|exact (Ah e8).2|simpa using (Ah e8).2|simp) (by simp[Tm.frz,AV.frz,LV.frz];rfl) (by simp[Ob.frz,LV.frz];rfl) rfl ?_
   refine AW.nilD 5 15 (by simp) ?_
   obtain rfl:=oi h
   refine AW.ret ?_
   refine Left.plain hnb (by simp[Tryz.f16,resV,resC,comp];rfl) rfl rfl ?_
   simp
  |false =>
   replace h:=iteF rfl h
   refine AW.cond_false (by simp) ?_
   refine AW.skip ?_
   try simp only[nm]
   replace h:=chkE h;obtain⟨e9,h⟩:=h
   replace h:=bnE h;obtain⟨v10,e10,h⟩:=h
   apply AW.step
   ·simp
    intros
    refine Ae Dn (DA e10) rfl ⟨.rowd (by simp) rfl (by omega) (AA _) (by simp) (by first|exact (Ah e9).2|simpa using (Ah e9).2|simp),.same rfl,.same rfl,trivial⟩ ?_
    try simp
    intros;rfl
   replace h:=bnE h;obtain⟨y11,g11,h⟩:=h
   refine AW.flow (p:=fun gh ls=>(nP (cx:=cx) (fun q=>(⟨[(2,.l (.p 0 0)),(3,.l (.p 1 0)),(4,.l (.p 2 0))],[some ⟨38,22,false,none,[.s (.int .i64 q.1),.s (.int .i64 q.2.1),.s (.int .i64 q.2.2.1),.s (.int .i64 q.2.2.2.1),.s (.int .i64 q.2.2.2.2.1),.d false 4 (encClaim q.2.2.2.2.2.1),.d false 6 (encPair q.2.2.2.2.2.2.1),.d false 4 (encMove q.2.2.2.2.2.2.2.1),.s (.int .i64 q.2.2.2.2.2.2.2.2.1),.r 3 3 0 q.2.2.2.2.2.2.2.2.2.2.2.2.2.2.2.2.2.2.2.2.2.length,.s (.int .i64 q.2.2.2.2.2.2.2.2.2.1),.s (.int .i64 q.2.2.2.2.2.2.2.2.2.2.1),.s (.int .i64 q.2.2.2.2.2.2.2.2.2.2.2.1),.d false 7 (encEffect q.2.2.2.2.2.2.2.2.2.2.2.2.1),.s (.int .i64 q.2.2.2.2.2.2.2.2.2.2.2.2.2.1),.s (.int .i64 q.2.2.2.2.2.2.2.2.2.2.2.2.2.2.1),.s (.int .i64 q.2.2.2.2.2.2.2.2.2.2.2.2.2.2.2.1),.d false 1 (encI q.2.2.2.2.2.2.2.2.2.2.2.2.2.2.2.2.1),.d false 1 (encLI q.2.2.2.2.2.2.2.2.2.2.2.2.2.2.2.2.2.1),.s (.int .i64 q.2.2.2.2.2.2.2.2.2.2.2.2.2.2.2.2.2.2.1),.d false 1 (encI q.2.2.2.2.2.2.2.2.2.2.2.2.2.2.2.2.2.2.2.1),.s (.int .i64 q.2.2.2.2.2.2.2.2.2.2.2.2.2.2.2.2.2.2.2.2.1)]⟩,some ⟨49,15,false,none,[.s (.int .i64 a1.kind),.s (.int .i64 a1.frm),.s (.int .i64 a1.to),.s (.int .i64 a1.epoch),.d false 4 (encClaim a1.claims),.d false 1 (encI a1.nodes),.s (.int .i64 a1.node),.s (.int .i64 a1.slot),.s (.int .i64 a1.num),.s (.int .i64 a1.rid.node),.s (.int .i64 a1.rid.epoch),.s (.int .i64 a1.prev.node),.s (.int .i64 a1.prev.epoch),.s (.int .i64 a1.off),.d false 7 (encEffect a1.effects)]⟩,some ⟨38,22,false,none,[.s (.int .i64 0),.s (.int .i64 0),.s (.int .i64 0),.s (.int .i64 0),.s (.int .i64 0),.s (.slice none 0 0),.s (.slice none 0 0),.s (.slice none 0 0),.s (.int .i64 0),.s (.slice none 0 0),.s (.int .i64 0),.s (.int .i64 0),.s (.int .i64 0),.s (.slice none 0 0),.s (.int .i64 0),.s (.int .i64 0),.s (.int .i64 0),.s (.slice none 0 0),.s (.slice none 0 0),.s (.int .i64 0),.s (.slice none 0 0),.s (.int .i64 0)]⟩,some ⟨100,3,true,none,lvs (encSeen q.2.2.2.2.2.2.2.2.2.2.2.2.2.2.2.2.2.2.2.2.2)⟩],74,gh,ls⟩:St))) y11) ?_ ?_
   ·replace h:=g11;clear g11
    replace h:=bnE h;obtain⟨y12,g12,h⟩:=h
    refine AW.flow (p:=fun gh ls=>(nP (cx:=cx) (fun q=>(⟨[(2,.l (.p 0 0)),(3,.l (.p 1 0)),(4,.l (.p 2 0)),(6,.l (.s (.int .i64 v10.1))),(7,.l (.s (.bool v10.2))),(38,.l (.s (.bool q)))],[some ⟨38,22,false,none,[.s (.int .i64 v1.count),.s (.int .i64 v1.id),.s (.int .i64 v1.master),.s (.int .i64 v1.epoch),.s (.int .i64 v1.voted),.d false 4 (encClaim v1.claims),.d false 6 (encPair v1.db),.r 3 4 0 v1.moves.length,.s (.int .i64 v1.last),.r 4 3 0 v1.seen.length,.s (.int .i64 v1.feed.rid.node),.s (.int .i64 v1.feed.rid.epoch),.s (.int .i64 v1.feed.off),.d false 7 (encEffect v1.feed.back),.s (.int .i64 v1.feed.prev.node),.s (.int .i64 v1.feed.prev.epoch),.s (.int .i64 v1.feed.upto),.d false 1 (encI v1.watch.heard),.d false 1 (encLI v1.watch.says),.s (.int .i64 v1.asked),.d false 1 (encI v1.votes),.s (.int .i64 v1.wait)]⟩,some ⟨49,15,false,none,[.s (.int .i64 a1.kind),.s (.int .i64 a1.frm),.s (.int .i64 a1.to),.s (.int .i64 a1.epoch),.d false 4 (encClaim a1.claims),.d false 1 (encI a1.nodes),.s (.int .i64 a1.node),.s (.int .i64 a1.slot),.s (.int .i64 a1.num),.s (.int .i64 a1.rid.node),.s (.int .i64 a1.rid.epoch),.s (.int .i64 a1.prev.node),.s (.int .i64 a1.prev.epoch),.s (.int .i64 a1.off),.d false 7 (encEffect a1.effects)]⟩,some ⟨38,22,false,none,[.s (.int .i64 0),.s (.int .i64 0),.s (.int .i64 0),.s (.int .i64 0),.s (.int .i64 0),.s (.slice none 0 0),.s (.slice none 0 0),.s (.slice none 0 0),.s (.int .i64 0),.s (.slice none 0 0),.s (.int .i64 0),.s (.int .i64 0),.s (.int .i64 0),.s (.slice none 0 0),.s (.int .i64 0),.s (.int .i64 0),.s (.int .i64 0),.s (.slice none 0 0),.s (.slice none 0 0),.s (.int .i64 0),.s (.slice none 0 0),.s (.int .i64 0)]⟩,some ⟨92,4,true,none,lvs (encMove v1.moves)⟩,some ⟨100,3,true,none,lvs (encSeen v1.seen)⟩],74,gh,ls⟩:St))) y12) ?_ ?_
    ·replace h:=g12;clear g12
     replace h:=ltE h;obtain⟨v13,e13,h⟩:=h
     cases v13 with
     |true =>
      replace h:=iteT rfl h
      apply AW.drawnR (V:=[_,_,_,_,_,_,_,_,_,_,_]) mixed DY4t3 11 (by kernel_rfl) (by kernel_rfl)
      ·refine⟨?_,?_,?_,?_,?_,?_,?_,?_,?_,?_,?_,trivial⟩
       iterate 11 (· intro tm hr;simp[AllL,rdV] at hr;simp[hr,← e13];intros;first|exact KD.mk|exact KD.mkN)
      ·rfl
      ·simp[tmD,putD,← e13];rfl
      ·simp[← e13]
       intros;rfl
      obtain rfl:=oi h
      refine nP_i ?_
      refine Weak.mixN [some 0,some 1,some 2,some 3,some 4] hn0 (by decide) ?_ ?_ rfl
      all_goals first|(simp[Ab,Ac,pickOb];done)|rfl
     |false =>
      replace h:=iteF rfl h
      replace h:=bnE h;obtain⟨v14,e14,h⟩:=h
      have f15:=A0 e14
      try simp[← e13,Ad e14] at f15
      replace h:=ltE h;obtain⟨v16,e16,h⟩:=h
      apply AW.drawnR (V:=[_,_,_,_,_,_,_,_,_,_,_]) mixed DY4t3 11 (by kernel_rfl) (by kernel_rfl)
      ·refine⟨?_,?_,?_,?_,?_,?_,?_,?_,?_,?_,?_,trivial⟩
       iterate 11 (· intro tm hr;simp[AllL,rdV] at hr;simp[hr,← e13,Ad e14,f15,E6 (Ad e14).2 (j:=2) (by decide),lvs1,← e16];intros;first|exact KD.mk|exact KD.mkN)
      ·rfl
      ·simp[tmD,putD,← e13,Ad e14,f15,E6 (Ad e14).2 (j:=2) (by decide),lvs1,← e16];rfl
      ·simp[← e13,Ad e14,f15,E6 (Ad e14).2 (j:=2) (by decide),lvs1,← e16]
       intros;rfl
      obtain rfl:=oi h
      refine nP_i ?_
      refine Weak.mixN [some 0,some 1,some 2,some 3,some 4] hn0 (by decide) ?_ ?_ rfl
      all_goals first|(simp[Ab,Ac,pickOb];done)|rfl
    ·rintro e s hp
     obtain⟨rfl,hw⟩:=hp
     refine⟨_,hw,?_⟩
     try simp only[nm]
     replace h:=ltE h;obtain⟨v17,e17,h⟩:=h
     rw[← e17]
     cases v17 with
     |true =>
      replace h:=iteT rfl h
      refine AW.cond_true (by simp) ?_
      replace h:=chkE h;obtain⟨e18,h⟩:=h
      refine AW.frzRow 3 (ty:=92) (cap:=none) (sz:=4) (es:=encMove v1.moves) (by simp) (by omega) (Az _) (by first|exact (Ah e18).2|simpa using (Ah e18).2|simp) (by simp[Tm.frz,AV.frz,LV.frz];rfl) (by simp[Ob.frz,LV.frz];rfl) rfl ?_
      replace h:=bnE h;obtain⟨v19,e19,h⟩:=h
      apply AW.step
      ·simp[obAfter,outR,keptR,Ab,Ac]
       intros
       refine Ca [4] GO (Hf e19) (by decide) (by simp[pickOb,Ab,Ac]) rfl rfl (by simp) ⟨.g ⟨.s _,.s _,.s _,.s _,.s _,.e _ _,.e _ _,.e _ _,.s _,(.own' (by simp[Ab,Ac]) (by simp)),.s _,.s _,.s _,.e _ _,.s _,.s _,.s _,.e _ _,.e _ _,.s _,.e _ _,.s _,trivial⟩,.l (.e _ _),trivial⟩ ?_
       try simp[obAfter,outR,keptR,Ab,Ac]
       intros;rfl
      replace h:=bnE h;obtain⟨y20,g20,h⟩:=h
      refine AW.flow (p:=fun gh ls=>(nP (cx:=cx) (fun q=>(⟨[(2,.l (.p 0 0)),(3,.l (.p 1 0)),(4,.l (.p 2 0)),(6,.l (.s (.int .i64 v10.1)))],[some ⟨38,22,false,none,[.s (.int .i64 v19.count),.s (.int .i64 v19.id),.s (.int .i64 v19.master),.s (.int .i64 v19.epoch),.s (.int .i64 v19.voted),.d false 4 (encClaim v19.claims),.d false 6 (encPair v19.db),.d false 4 (encMove v19.moves),.s (.int .i64 v19.last),.r 3 3 0 q.length,.s (.int .i64 v19.feed.rid.node),.s (.int .i64 v19.feed.rid.epoch),.s (.int .i64 v19.feed.off),.d false 7 (encEffect v19.feed.back),.s (.int .i64 v19.feed.prev.node),.s (.int .i64 v19.feed.prev.epoch),.s (.int .i64 v19.feed.upto),.d false 1 (encI v19.watch.heard),.d false 1 (encLI v19.watch.says),.s (.int .i64 v19.asked),.d false 1 (encI v19.votes),.s (.int .i64 v19.wait)]⟩,some ⟨49,15,false,none,[.s (.int .i64 a1.kind),.s (.int .i64 a1.frm),.s (.int .i64 a1.to),.s (.int .i64 a1.epoch),.d false 4 (encClaim a1.claims),.d false 1 (encI a1.nodes),.s (.int .i64 a1.node),.s (.int .i64 a1.slot),.s (.int .i64 a1.num),.s (.int .i64 a1.rid.node),.s (.int .i64 a1.rid.epoch),.s (.int .i64 a1.prev.node),.s (.int .i64 a1.prev.epoch),.s (.int .i64 a1.off),.d false 7 (encEffect a1.effects)]⟩,some ⟨38,22,false,none,[.s (.int .i64 0),.s (.int .i64 0),.s (.int .i64 0),.s (.int .i64 0),.s (.int .i64 0),.s (.slice none 0 0),.s (.slice none 0 0),.s (.slice none 0 0),.s (.int .i64 0),.s (.slice none 0 0),.s (.int .i64 0),.s (.int .i64 0),.s (.int .i64 0),.s (.slice none 0 0),.s (.int .i64 0),.s (.int .i64 0),.s (.int .i64 0),.s (.slice none 0 0),.s (.slice none 0 0),.s (.int .i64 0),.s (.slice none 0 0),.s (.int .i64 0)]⟩,some ⟨100,3,true,none,lvs (encSeen q)⟩],74,gh,ls⟩:St))) y20) ?_ ?_
      ·replace h:=g20;clear g20
       replace h:=ltE h;obtain⟨v21,e21,h⟩:=h
       apply AW.step
       ·simp[← e21]
        intros;rfl
       cases v21 with
       |true =>
        replace h:=iteT rfl h
        refine AW.cond_true (by simp) ?_
        replace h:=chkE h;obtain⟨e22,h⟩:=h
        replace h:=ltE h;obtain⟨v23,e23,h⟩:=h
        apply AW.last
        ·simp[obAfter,outR,keptR,Ab,Ac,← e23,Bf e22 e23]
         intros
         refine Av ?_
         try simp[obAfter,outR,keptR,Ab,Ac,← e23,Bf e22 e23]
         intros
         refine Dp [4,5] [6,7] ⟨_,rfl,rfl,_,rfl,rfl,rfl,rfl⟩ L9 (OG v19.seen v10.1 (⟨a1.frm,a1.slot,0⟩:Seen) e22) (by decide) rfl rfl (by simp[pickOb,Ka]) rfl rfl rfl (by simp) (by simp) ⟨.l (.own (by simp[Ab,Ac])),.l (.s _),.l (.own (by simp[Ab,Ac])),trivial⟩ ?_
         try simp[obAfter,outR,keptR,Ab,Ac,← e23,Bf e22 e23]
         intros;rfl
        obtain rfl:=oi h
        refine nP_i ?_
        refine Weak.mixN [some 0,some 1,some 2,some 6] hn0 (by decide) ?_ ?_ rfl
        all_goals first|(simp[Ab,Ac,pickOb];done)|rfl
       |false =>
        replace h:=iteF rfl h
        refine AW.cond_false (by simp) ?_
        refine AW.skip ?_
        try simp only[nm]
        obtain rfl:=oi h
        refine nP_i ?_
        refine Weak.mixN [some 0,some 1,some 2,some 4] hn0 (by decide) ?_ ?_ rfl
        all_goals first|(simp[Ab,Ac,pickOb];done)|rfl
      ·rintro e s hp
       obtain⟨rfl,hw⟩:=hp
       refine⟨_,hw,?_⟩
       try simp only[nm]
       replace h:=bnE h;obtain⟨v24,e24,h⟩:=h
       have f25:=A0 e24
       try simp[Ad e24] at f25
       replace h:=ltE h;obtain⟨v26,e26,h⟩:=h
       have f27:=KQ (Ad e24).2 e26 (j:=2) (cs:=[.s (.int .i64 a1.num)]) (by simp) rfl
       try simp at f27
       have f28:=f25
       try simp only[AC e26] at f28
       apply AW.last
       ·simp[Ad e24,f25,Kb (Ad e24).2 (j:=2) (m:=1) (by decide),f27,f28]
        intros;rfl
       obtain rfl:=oi h
       refine nP_i ?_
       refine Weak.mixN [some 0,some 1,some 2,some 3] hn0 (by decide) ?_ ?_ rfl
       all_goals first|(simp[Ab,Ac,pickOb,AC e26];done)|rfl
     |false =>
      replace h:=iteF rfl h
      refine AW.cond_false (by simp) ?_
      refine AW.skip ?_
      try simp only[nm]
      replace h:=chkE h;obtain⟨e29,h⟩:=h
      obtain rfl:=oi h
      refine nP_i ?_
      refine W.frzRow 3 (ty:=92) (cap:=none) (sz:=4) (es:=encMove v1.moves) (by simp) (by omega) (Az _) (by first|exact (Ah e29).2|simpa using (Ah e29).2|simp) (by simp[Tm.frz,AV.frz,LV.frz];rfl) (by simp[Ob.frz,LV.frz];rfl) rfl ?_
      refine Weak.mixN [some 0,some 1,some 2,some 4] hn0 (by decide) ?_ ?_ rfl
      all_goals first|(simp[Ab,Ac,pickOb];done)|rfl
   ·rintro e s hp
    obtain⟨rfl,hw⟩:=hp
    refine⟨_,hw,?_⟩
    try simp only[nm]
    apply AW.drawnE (V:=[_,_,_,_,_,_,_,_,_,_,_,_]) (M:=[[some ⟨38,22,false,none,[.s (.int .i64 y11.1),.s (.int .i64 y11.2.1),.s (.int .i64 y11.2.2.1),.s (.int .i64 y11.2.2.2.1),.s (.int .i64 y11.2.2.2.2.1),.d false 4 (encClaim y11.2.2.2.2.2.1),.d false 6 (encPair y11.2.2.2.2.2.2.1),.d false 4 (encMove y11.2.2.2.2.2.2.2.1),.s (.int .i64 y11.2.2.2.2.2.2.2.2.1),.r 3 3 0 y11.2.2.2.2.2.2.2.2.2.2.2.2.2.2.2.2.2.2.2.2.2.length,.s (.int .i64 y11.2.2.2.2.2.2.2.2.2.1),.s (.int .i64 y11.2.2.2.2.2.2.2.2.2.2.1),.s (.int .i64 y11.2.2.2.2.2.2.2.2.2.2.2.1),.d false 7 (encEffect y11.2.2.2.2.2.2.2.2.2.2.2.2.1),.s (.int .i64 y11.2.2.2.2.2.2.2.2.2.2.2.2.2.1),.s (.int .i64 y11.2.2.2.2.2.2.2.2.2.2.2.2.2.2.1),.s (.int .i64 y11.2.2.2.2.2.2.2.2.2.2.2.2.2.2.2.1),.d false 1 (encI y11.2.2.2.2.2.2.2.2.2.2.2.2.2.2.2.2.1),.d false 1 (encLI y11.2.2.2.2.2.2.2.2.2.2.2.2.2.2.2.2.2.1),.s (.int .i64 y11.2.2.2.2.2.2.2.2.2.2.2.2.2.2.2.2.2.2.1),.d false 1 (encI y11.2.2.2.2.2.2.2.2.2.2.2.2.2.2.2.2.2.2.2.1),.s (.int .i64 y11.2.2.2.2.2.2.2.2.2.2.2.2.2.2.2.2.2.2.2.2.1)]⟩,some ⟨49,15,false,none,[.s (.int .i64 a1.kind),.s (.int .i64 a1.frm),.s (.int .i64 a1.to),.s (.int .i64 a1.epoch),.d false 4 (encClaim a1.claims),.d false 1 (encI a1.nodes),.s (.int .i64 a1.node),.s (.int .i64 a1.slot),.s (.int .i64 a1.num),.s (.int .i64 a1.rid.node),.s (.int .i64 a1.rid.epoch),.s (.int .i64 a1.prev.node),.s (.int .i64 a1.prev.epoch),.s (.int .i64 a1.off),.d false 7 (encEffect a1.effects)]⟩,some ⟨38,22,false,none,[.s (.int .i64 0),.s (.int .i64 0),.s (.int .i64 0),.s (.int .i64 0),.s (.int .i64 0),.s (.slice none 0 0),.s (.slice none 0 0),.s (.slice none 0 0),.s (.int .i64 0),.s (.slice none 0 0),.s (.int .i64 0),.s (.int .i64 0),.s (.int .i64 0),.s (.slice none 0 0),.s (.int .i64 0),.s (.int .i64 0),.s (.int .i64 0),.s (.slice none 0 0),.s (.slice none 0 0),.s (.int .i64 0),.s (.slice none 0 0),.s (.int .i64 0)]⟩,some ⟨100,3,true,none,lvs (encSeen y11.2.2.2.2.2.2.2.2.2.2.2.2.2.2.2.2.2.2.2.2.2)⟩],[some ⟨38,22,false,none,[.s (.int .i64 y11.1),.s (.int .i64 y11.2.1),.s (.int .i64 y11.2.2.1),.s (.int .i64 y11.2.2.2.1),.s (.int .i64 y11.2.2.2.2.1),.d false 4 (encClaim y11.2.2.2.2.2.1),.d false 6 (encPair y11.2.2.2.2.2.2.1),.d false 4 (encMove y11.2.2.2.2.2.2.2.1),.s (.int .i64 y11.2.2.2.2.2.2.2.2.1),.r 3 3 0 y11.2.2.2.2.2.2.2.2.2.2.2.2.2.2.2.2.2.2.2.2.2.length,.s (.int .i64 y11.2.2.2.2.2.2.2.2.2.1),.s (.int .i64 y11.2.2.2.2.2.2.2.2.2.2.1),.s (.int .i64 y11.2.2.2.2.2.2.2.2.2.2.2.1),.d false 7 (encEffect y11.2.2.2.2.2.2.2.2.2.2.2.2.1),.s (.int .i64 y11.2.2.2.2.2.2.2.2.2.2.2.2.2.1),.s (.int .i64 y11.2.2.2.2.2.2.2.2.2.2.2.2.2.2.1),.s (.int .i64 y11.2.2.2.2.2.2.2.2.2.2.2.2.2.2.2.1),.d false 1 (encI y11.2.2.2.2.2.2.2.2.2.2.2.2.2.2.2.2.1),.d false 1 (encLI y11.2.2.2.2.2.2.2.2.2.2.2.2.2.2.2.2.2.1),.s (.int .i64 y11.2.2.2.2.2.2.2.2.2.2.2.2.2.2.2.2.2.2.1),.d false 1 (encI y11.2.2.2.2.2.2.2.2.2.2.2.2.2.2.2.2.2.2.2.1),.s (.int .i64 y11.2.2.2.2.2.2.2.2.2.2.2.2.2.2.2.2.2.2.2.2.1)]⟩,some ⟨49,15,false,none,[.s (.int .i64 a1.kind),.s (.int .i64 a1.frm),.s (.int .i64 a1.to),.s (.int .i64 a1.epoch),.d false 4 (encClaim a1.claims),.d false 1 (encI a1.nodes),.s (.int .i64 a1.node),.s (.int .i64 a1.slot),.s (.int .i64 a1.num),.s (.int .i64 a1.rid.node),.s (.int .i64 a1.rid.epoch),.s (.int .i64 a1.prev.node),.s (.int .i64 a1.prev.epoch),.s (.int .i64 a1.off),.d false 7 (encEffect a1.effects)]⟩,some ⟨38,22,false,none,[.s (.int .i64 y11.1),.s (.int .i64 y11.2.1),.s (.int .i64 y11.2.2.1),.s (.int .i64 y11.2.2.2.1),.s (.int .i64 y11.2.2.2.2.1),.d false 4 (encClaim y11.2.2.2.2.2.1),.d false 6 (encPair y11.2.2.2.2.2.2.1),.d false 4 (encMove y11.2.2.2.2.2.2.2.1),.s (.int .i64 y11.2.2.2.2.2.2.2.2.1),.r 3 3 0 y11.2.2.2.2.2.2.2.2.2.2.2.2.2.2.2.2.2.2.2.2.2.length,.s (.int .i64 y11.2.2.2.2.2.2.2.2.2.1),.s (.int .i64 y11.2.2.2.2.2.2.2.2.2.2.1),.s (.int .i64 y11.2.2.2.2.2.2.2.2.2.2.2.1),.d false 7 (encEffect y11.2.2.2.2.2.2.2.2.2.2.2.2.1),.s (.int .i64 y11.2.2.2.2.2.2.2.2.2.2.2.2.2.1),.s (.int .i64 y11.2.2.2.2.2.2.2.2.2.2.2.2.2.2.1),.s (.int .i64 y11.2.2.2.2.2.2.2.2.2.2.2.2.2.2.2.1),.d false 1 (encI y11.2.2.2.2.2.2.2.2.2.2.2.2.2.2.2.2.1),.d false 1 (encLI y11.2.2.2.2.2.2.2.2.2.2.2.2.2.2.2.2.2.1),.s (.int .i64 y11.2.2.2.2.2.2.2.2.2.2.2.2.2.2.2.2.2.2.1),.d false 1 (encI y11.2.2.2.2.2.2.2.2.2.2.2.2.2.2.2.2.2.2.2.1),.s (.int .i64 y11.2.2.2.2.2.2.2.2.2.2.2.2.2.2.2.2.2.2.2.2.1)]⟩,some ⟨100,3,true,none,lvs (encSeen y11.2.2.2.2.2.2.2.2.2.2.2.2.2.2.2.2.2.2.2.2.2)⟩]]) mixed [⟨[0],[],[(2,none)],false⟩,⟨[0,1],[],[(2,none)],false⟩,⟨[0,1],[1],[(64,some 1)],false⟩,⟨[0,1],[],[(3,none)],false⟩,⟨[0,1],[3],[(66,some 3)],false⟩,⟨[0,1],[],[(3,none)],false⟩,⟨[0,1],[5],[(68,some 5)],false⟩,⟨[0,1],[],[(3,none)],false⟩,⟨[0,1],[7],[(70,some 7)],false⟩,⟨[0,1],[1,2,3,4,5,6,7,8],[(65,some 2),(67,some 4),(69,some 6),(71,some 8)],false⟩,⟨[0,1],[1,2,3,4,5,6,7,8,9],[(72,some 9)],false⟩,⟨[0],[0],[(4,none),(63,some 0)],true⟩,⟨[],[0,1,2,3,4,5,6,7,8,9,10,11],[],false⟩] 12 1 (by kernel_rfl) (by kernel_rfl)
    ·rfl
    ·refine⟨?_,⟨?_,?_⟩,⟨?_,?_⟩,⟨?_,?_⟩,⟨?_,?_⟩,⟨?_,?_⟩,⟨?_,?_⟩,⟨?_,?_⟩,⟨?_,?_⟩,⟨?_,?_⟩,⟨?_,?_⟩,?_,trivial⟩
     iterate 19 (· intro tm hr;simp[AllL,rdV] at hr;simp[hr];intros;first|exact KD.mk|exact KD.mkN)
     ·intro tm hr
      simp[AllL,rdV] at hr
      simp[hr]
      intros
      refine Fv (es:=encMsg [(⟨3,y11.2.1,a1.frm,0,[],[],0,a1.slot,a1.num,(⟨0,0⟩:Rid),(⟨0,0⟩:Rid),0,[]⟩:Msg)]) (by simp[encMsg,lvs,All2]) (Ft _) (by omega) (by simp) ?_
      try simp[]
      intros;first|exact KD.mk|exact KD.mkN
     ·intro tm hr
      simp[AllL,rdV] at hr
      simp[hr]
      intros
      refine Fv (es:=encMsg [(⟨3,y11.2.1,a1.frm,0,[],[],0,a1.slot,a1.num,(⟨0,0⟩:Rid),(⟨0,0⟩:Rid),0,[]⟩:Msg)]) (by simp[encMsg,lvs,All2]) (Ft _) (by omega) (by simp) ?_
      try simp[]
      intros;first|exact KD.mk|exact KD.mkN
     ·intro tm hr;simp[AllL,rdV] at hr;simp[hr];intros;first|exact KD.mk|exact KD.mkN
    ·rfl
    ·simp[tmD,putD];rfl
    ·simp
     intros;rfl
    replace h:=chkE h;obtain⟨e30,h⟩:=h
    refine AW.frzRow 3 (ty:=100) (cap:=none) (sz:=3) (es:=encSeen y11.2.2.2.2.2.2.2.2.2.2.2.2.2.2.2.2.2.2.2.2.2) (by simp) (by omega) (AA _) (by first|exact (Ah e30).2|simpa using (Ah e30).2|simp) (by simp[Tm.frz,AV.frz,LV.frz];rfl) (by simp[Ob.frz,LV.frz];rfl) rfl ?_
    obtain rfl:=oi h
    refine AW.ret ?_
    refine Left.plain hnb (by simp[Tryz.f16,resV,resC,comp];rfl) rfl rfl ?_
    simp
theorem Eb:Enters Tryz.prog 16:=enters Tryz.func16 (by kernel_rfl) rfl
end Go.Proofs.YtlbdhlbbkibgpaaGreat
namespace Go.Proofs.YtlbdhlbbkibgpaaGreat
open Go Go.RowKit
def B1 (n:Nat) (a0:List Field) (a1:List Field):Option Bool :=
lt (lenI a0) fun v1 =>
lt (lenI a1) fun v2 =>
lt (neI v1 v2) fun v3 =>
ite' v3 (some false) (bn (iter n (fun (y4:Int) =>
lt (lenI a0) fun v7 =>
lt (ltI y4 v7) fun v8 =>
ite' v8 (bn (nth a0 y4) fun v9 =>
bn (nth a1 y4) fun v10 =>
lt (notB (andB (eqS v9.name v10.name) (andB (eqS v9.val v10.val) true))) fun v11 =>
ite' v11 (some (.inr (.inr false))) (lt (addI .i64 y4 1) fun v12 =>
some (.inl v12))) (some (.inr (.inl ())))) 0) fun (y5:Unit ⊕ Bool) =>
sm y5 (fun y13=>some true) (fun y14=>some y14))
def DY5t1:List DI:=[⟨[0],[],[(0,none)],false⟩,⟨[0],[],[(5,none)],false⟩,⟨[0],[0,1],[(17,some 0),(18,some 1)],false⟩,⟨[0],[0,1,2],[(19,some 2)],false⟩,⟨[0],[],[(1,none)],false⟩,⟨[0],[],[(5,none)],false⟩,⟨[0],[4,5],[(21,some 4),(22,some 5)],false⟩,⟨[0],[4,5,6],[(23,some 6)],false⟩,⟨[],[0,1,2,3,4,5,6,7],[],false⟩]
theorem Fz {n:Nat} {a0:List Field} {a1:List Field} {r:Bool} (h:B1 n a0 a1=some r):Sound Tryz.prog 54 [.l (.d false 2 (encField a0)),.l (.d false 2 (encField a1))] [] (.l (.s (.bool r))) []:=by
 unfold B1 at h
 refine Sound.of_aw (fn:=Tryz.f54) (c:=_) Tryz.func54 rfl (by simp[Tryz.f54]) fun cx hG hnb=>?_
 rw[show Tryz.f54.ntmps=26 from rfl]
 have hn0:cx.nb=0:=hnb
 simp only[An,initTm,List.map_cons,List.map_nil]
 apply AW.step
 ·simp
  intros;rfl
 refine AW.seq ?_
 replace h:=ltE h;obtain⟨v1,e1,h⟩:=h
 replace h:=ltE h;obtain⟨v2,e2,h⟩:=h
 replace h:=ltE h;obtain⟨v3,e3,h⟩:=h
 apply AW.step
 ·simp[Aa e1,Aa e2,← e3]
  intros;rfl
 cases v3 with
 |true =>
  replace h:=iteT rfl h
  refine AW.cond_true (by simp) ?_
  apply AW.step
  ·simp
   intros;rfl
  obtain rfl:=oi h
  refine AW.ret ?_
  refine Left.plain hnb (by simp[Tryz.f54,resV,resC,comp];rfl) rfl rfl ?_
  simp
 |false =>
  replace h:=iteF rfl h
  refine AW.cond_false (by simp) ?_
  refine AW.skip ?_
  try simp only[nm]
  refine AW.seq ?_
  apply AW.step
  ·simp
   intros;rfl
  refine AW.block ?_
  replace h:=bnE h;obtain⟨y5,g5,h⟩:=h
  refine AW.iterP g5 (mk:=fun gh ls q=>(⟨[(0,.l (.d false 2 (encField a0))),(1,.l (.d false 2 (encField a1))),(5,.l (.s (.int .i64 q)))],[],26,gh,ls⟩:St)) (N:=fun gh ls=>(sp (xP 0 (cx:=cx) (fun _=>(⟨[],[],26,gh,ls⟩:St))) (rP (cx:=cx) (P:=Tryz.prog) Tryz.f54 (fun q=>.l (.s (.bool q))) (fun q=>[])))) ?_ (noS noX noR) ?_ ?_
  ·refine Weak.mixN [] hn0 (by decide) ?_ ?_ rfl
   all_goals first|(simp[Ab,Ac,pickOb];done)|rfl
  ·clear h;intro y4 y6 h
   refine AW.seq ?_
   replace h:=ltE h;obtain⟨v7,e7,h⟩:=h
   replace h:=ltE h;obtain⟨v8,e8,h⟩:=h
   apply AW.step
   ·simp[Aa e7,← e8]
    intros;rfl
   cases v8 with
   |true =>
    replace h:=iteT rfl h
    refine AW.cond_true (by simp) ?_
    refine AW.skip ?_
    try simp only[nm]
    refine AW.seq ?_
    refine AW.block ?_
    replace h:=bnE h;obtain⟨v9,e9,h⟩:=h
    replace h:=bnE h;obtain⟨v10,e10,h⟩:=h
    replace h:=ltE h;obtain⟨v11,e11,h⟩:=h
    apply AW.drawnP (V:=[_,_,_,_,_,_,_,_]) mixed DY5t1 8 (by kernel_rfl) (by kernel_rfl)
    ·refine⟨?_,?_,?_,?_,?_,?_,?_,?_,trivial⟩
     iterate 8 (· intro tm hr;simp[AllL,rdV] at hr;simp[hr,Ad e9,Ad e10,← e11];intros;first|exact KD.mk|exact KD.mkN)
    ·rfl
    ·simp[tmD,putD,Ad e9,Ad e10,← e11];rfl
    ·simp[Ad e9,Ad e10,← e11]
     intros;rfl
    cases v11 with
    |true =>
     replace h:=iteT rfl h
     refine AW.cond_true (by simp) ?_
     apply AW.step
     ·simp
      intros;rfl
     obtain rfl:=oi h
     refine AW.ret ?_
     try simp only[nm]
     refine rP_i ?_
     refine Left.plain hnb (by simp[Tryz.f54,resV,resC,comp];rfl) rfl rfl ?_
     simp
    |false =>
     replace h:=iteF rfl h
     refine AW.cond_false (by simp) ?_
     refine AW.skip ?_
     try simp only[nm]
     replace h:=ltE h;obtain⟨v12,e12,h⟩:=h
     apply AW.last
     ·simp[← e12]
      intros;rfl
     obtain rfl:=oi h
     refine nP_i ?_
     refine Weak.mixN [] hn0 (by decide) ?_ ?_ rfl
     all_goals first|(simp[Ab,Ac,pickOb];done)|rfl
   |false =>
    replace h:=iteF rfl h
    refine AW.cond_false (by simp) ?_
    refine AW.exit ?_
    try simp only[nm]
    obtain rfl:=oi h
    try simp only[sp_l,sp_r]
    refine xP_i ?_
    refine Weak.mixN [] hn0 (by decide) ?_ ?_ rfl
    all_goals first|(simp[Ab,Ac,pickOb];done)|rfl
  ·rintro e s hp
   rcases y5 with y13|y14
   ·replace h:=smL h
    obtain⟨rfl,hw⟩:=hp
    refine⟨_,hw,?_⟩
    try simp only[nm]
    apply AW.step
    ·simp
     intros;rfl
    obtain rfl:=oi h
    refine AW.ret ?_
    refine Left.plain hnb (by simp[Tryz.f54,resV,resC,comp];rfl) rfl rfl ?_
    simp
   ·replace h:=smR h
    obtain⟨rfl,hl⟩:=hp
    refine⟨_,Weak.refl _,?_⟩
    obtain rfl:=oi h
    exact hl
theorem Fh:Enters Tryz.prog 54:=enters Tryz.func54 (by kernel_rfl) rfl
def DB (n:Nat) (a0:List ByteArray) (a1:List ByteArray):Option Bool :=
lt (lenI a0) fun v1 =>
lt (lenI a1) fun v2 =>
lt (neI v1 v2) fun v3 =>
ite' v3 (some false) (bn (iter n (fun (y4:Int) =>
lt (lenI a0) fun v7 =>
lt (ltI y4 v7) fun v8 =>
ite' v8 (bn (nth a0 y4) fun v9 =>
bn (nth a1 y4) fun v10 =>
lt (neS v9 v10) fun v11 =>
ite' v11 (some (.inr (.inr false))) (lt (addI .i64 y4 1) fun v12 =>
some (.inl v12))) (some (.inr (.inl ())))) 0) fun (y5:Unit ⊕ Bool) =>
sm y5 (fun y13=>some true) (fun y14=>some y14))
theorem Mp {n:Nat} {a0:List ByteArray} {a1:List ByteArray} {r:Bool} (h:DB n a0 a1=some r):Sound Tryz.prog 55 [.l (.d false 1 (encS a0)),.l (.d false 1 (encS a1))] [] (.l (.s (.bool r))) []:=by
 unfold DB at h
 refine Sound.of_aw (fn:=Tryz.f55) (c:=_) Tryz.func55 rfl (by simp[Tryz.f55]) fun cx hG hnb=>?_
 rw[show Tryz.f55.ntmps=26 from rfl]
 have hn0:cx.nb=0:=hnb
 simp only[An,initTm,List.map_cons,List.map_nil]
 apply AW.step
 ·simp
  intros;rfl
 refine AW.seq ?_
 replace h:=ltE h;obtain⟨v1,e1,h⟩:=h
 replace h:=ltE h;obtain⟨v2,e2,h⟩:=h
 replace h:=ltE h;obtain⟨v3,e3,h⟩:=h
 apply AW.step
 ·simp[Aa e1,Aa e2,← e3]
  intros;rfl
 cases v3 with
 |true =>
  replace h:=iteT rfl h
  refine AW.cond_true (by simp) ?_
  apply AW.step
  ·simp
   intros;rfl
  obtain rfl:=oi h
  refine AW.ret ?_
  refine Left.plain hnb (by simp[Tryz.f55,resV,resC,comp];rfl) rfl rfl ?_
  simp
 |false =>
  replace h:=iteF rfl h
  refine AW.cond_false (by simp) ?_
  refine AW.skip ?_
  try simp only[nm]
  refine AW.seq ?_
  apply AW.step
  ·simp
   intros;rfl
  refine AW.block ?_
  replace h:=bnE h;obtain⟨y5,g5,h⟩:=h
  refine AW.iterP g5 (mk:=fun gh ls q=>(⟨[(0,.l (.d false 1 (encS a0))),(1,.l (.d false 1 (encS a1))),(5,.l (.s (.int .i64 q)))],[],26,gh,ls⟩:St)) (N:=fun gh ls=>(sp (xP 0 (cx:=cx) (fun _=>(⟨[],[],26,gh,ls⟩:St))) (rP (cx:=cx) (P:=Tryz.prog) Tryz.f55 (fun q=>.l (.s (.bool q))) (fun q=>[])))) ?_ (noS noX noR) ?_ ?_
  ·refine Weak.mixN [] hn0 (by decide) ?_ ?_ rfl
   all_goals first|(simp[Ab,Ac,pickOb];done)|rfl
  ·clear h;intro y4 y6 h
   refine AW.seq ?_
   replace h:=ltE h;obtain⟨v7,e7,h⟩:=h
   replace h:=ltE h;obtain⟨v8,e8,h⟩:=h
   apply AW.step
   ·simp[Aa e7,← e8]
    intros;rfl
   cases v8 with
   |true =>
    replace h:=iteT rfl h
    refine AW.cond_true (by simp) ?_
    refine AW.skip ?_
    try simp only[nm]
    refine AW.seq ?_
    refine AW.block ?_
    replace h:=bnE h;obtain⟨v9,e9,h⟩:=h
    replace h:=bnE h;obtain⟨v10,e10,h⟩:=h
    replace h:=ltE h;obtain⟨v11,e11,h⟩:=h
    apply AW.drawnP (V:=[_,_,_,_,_,_,_,_]) mixed DY5t1 8 (by kernel_rfl) (by kernel_rfl)
    ·refine⟨?_,?_,?_,?_,?_,?_,?_,?_,trivial⟩
     iterate 8 (· intro tm hr;simp[AllL,rdV] at hr;simp[hr,Ad e9,Ad e10,← e11];intros;first|exact KD.mk|exact KD.mkN)
    ·rfl
    ·simp[tmD,putD,Ad e9,Ad e10,← e11];rfl
    ·simp[Ad e9,Ad e10,← e11]
     intros;rfl
    cases v11 with
    |true =>
     replace h:=iteT rfl h
     refine AW.cond_true (by simp) ?_
     apply AW.step
     ·simp
      intros;rfl
     obtain rfl:=oi h
     refine AW.ret ?_
     try simp only[nm]
     refine rP_i ?_
     refine Left.plain hnb (by simp[Tryz.f55,resV,resC,comp];rfl) rfl rfl ?_
     simp
    |false =>
     replace h:=iteF rfl h
     refine AW.cond_false (by simp) ?_
     refine AW.skip ?_
     try simp only[nm]
     replace h:=ltE h;obtain⟨v12,e12,h⟩:=h
     apply AW.last
     ·simp[← e12]
      intros;rfl
     obtain rfl:=oi h
     refine nP_i ?_
     refine Weak.mixN [] hn0 (by decide) ?_ ?_ rfl
     all_goals first|(simp[Ab,Ac,pickOb];done)|rfl
   |false =>
    replace h:=iteF rfl h
    refine AW.cond_false (by simp) ?_
    refine AW.exit ?_
    try simp only[nm]
    obtain rfl:=oi h
    try simp only[sp_l,sp_r]
    refine xP_i ?_
    refine Weak.mixN [] hn0 (by decide) ?_ ?_ rfl
    all_goals first|(simp[Ab,Ac,pickOb];done)|rfl
  ·rintro e s hp
   rcases y5 with y13|y14
   ·replace h:=smL h
    obtain⟨rfl,hw⟩:=hp
    refine⟨_,hw,?_⟩
    try simp only[nm]
    apply AW.step
    ·simp
     intros;rfl
    obtain rfl:=oi h
    refine AW.ret ?_
    refine Left.plain hnb (by simp[Tryz.f55,resV,resC,comp];rfl) rfl rfl ?_
    simp
   ·replace h:=smR h
    obtain⟨rfl,hl⟩:=hp
    refine⟨_,Weak.refl _,?_⟩
    obtain rfl:=oi h
    exact hl
theorem Le:Enters Tryz.prog 55:=enters Tryz.func55 (by kernel_rfl) rfl
def Bz (n:Nat) (a0:Item) (a1:Item):Option Bool :=
bn (lt (eqI a0.kind a1.kind) fun v2 =>
ite' v2 (lt (eqS a0.s a1.s) fun v3 =>
ite' v3 (lt (eqI a0.exp a1.exp) fun v4 =>
ite' v4 (bn (B1 n a0.f a1.f) fun v5 =>
ite' v5 (bn (DB n a0.l a1.l) fun v6 =>
some (v6)) (some (false))) (some (false))) (some (false))) (some (false))) fun (y1:Bool) =>
some y1
theorem B7 {n:Nat} {a0:Item} {a1:Item} {r:Bool} (h:Bz n a0 a1=some r):Sound Tryz.prog 18 [.g [.s (.int .i64 a0.kind),.s (.string a0.s),.d false 2 (encField a0.f),.d false 1 (encS a0.l),.s (.int .i64 a0.exp)],.g [.s (.int .i64 a1.kind),.s (.string a1.s),.d false 2 (encField a1.f),.d false 1 (encS a1.l),.s (.int .i64 a1.exp)]] [] (.l (.s (.bool r))) []:=by
 unfold Bz at h
 refine Sound.of_aw (fn:=Tryz.f18) (c:=_) Tryz.func18 rfl (by simp[Tryz.f18]) fun cx hG hnb=>?_
 rw[show Tryz.f18.ntmps=38 from rfl]
 have hn0:cx.nb=0:=hnb
 simp only[An,initTm,List.map_cons,List.map_nil]
 apply AW.step
 ·simp
  intros;rfl
 replace h:=bnE h;obtain⟨y1,g1,h⟩:=h
 refine AW.flow (p:=fun gh ls=>(nP (cx:=cx) (fun q=>(⟨[(4,.l (.s (.bool q)))],[],38,gh,ls⟩:St))) y1) ?_ ?_
 ·replace h:=g1;clear g1
  replace h:=ltE h;obtain⟨v2,e2,h⟩:=h
  cases v2 with
  |true =>
   replace h:=iteT rfl h
   replace h:=ltE h;obtain⟨v3,e3,h⟩:=h
   cases v3 with
   |true =>
    replace h:=iteT rfl h
    replace h:=ltE h;obtain⟨v4,e4,h⟩:=h
    cases v4 with
    |true =>
     replace h:=iteT rfl h
     replace h:=bnE h;obtain⟨v5,e5,h⟩:=h
     cases v5 with
     |true =>
      replace h:=iteT rfl h
      replace h:=bnE h;obtain⟨v6,e6,h⟩:=h
      apply AW.last
      ·simp[← e2,← e3,← e4]
       intros
       refine Ae Fh (Fz e5) rfl ⟨.same rfl,.same rfl,trivial⟩ ?_
       try simp[← e2,← e3,← e4]
       intros
       refine Ae Le (Mp e6) rfl ⟨.same rfl,.same rfl,trivial⟩ ?_
       try simp[← e2,← e3,← e4]
       intros;rfl
      obtain rfl:=oi h
      refine nP_i ?_
      refine Weak.mixN [] hn0 (by decide) ?_ ?_ rfl
      all_goals first|(simp[Ab,Ac,pickOb];done)|rfl
     |false =>
      replace h:=iteF rfl h
      apply AW.last
      ·simp[← e2,← e3,← e4]
       intros
       refine Ae Fh (Fz e5) rfl ⟨.same rfl,.same rfl,trivial⟩ ?_
       try simp[← e2,← e3,← e4]
       intros;rfl
      obtain rfl:=oi h
      refine nP_i ?_
      refine Weak.mixN [] hn0 (by decide) ?_ ?_ rfl
      all_goals first|(simp[Ab,Ac,pickOb];done)|rfl
    |false =>
     replace h:=iteF rfl h
     apply AW.last
     ·simp[← e2,← e3,← e4]
      intros;rfl
     obtain rfl:=oi h
     refine nP_i ?_
     refine Weak.mixN [] hn0 (by decide) ?_ ?_ rfl
     all_goals first|(simp[Ab,Ac,pickOb];done)|rfl
   |false =>
    replace h:=iteF rfl h
    apply AW.last
    ·simp[← e2,← e3]
     intros;rfl
    obtain rfl:=oi h
    refine nP_i ?_
    refine Weak.mixN [] hn0 (by decide) ?_ ?_ rfl
    all_goals first|(simp[Ab,Ac,pickOb];done)|rfl
  |false =>
   replace h:=iteF rfl h
   apply AW.last
   ·simp[← e2]
    intros;rfl
   obtain rfl:=oi h
   refine nP_i ?_
   refine Weak.mixN [] hn0 (by decide) ?_ ?_ rfl
   all_goals first|(simp[Ab,Ac,pickOb];done)|rfl
 ·rintro e s hp
  obtain⟨rfl,hw⟩:=hp
  refine⟨_,hw,?_⟩
  try simp only[nm]
  obtain rfl:=oi h
  refine AW.ret ?_
  refine Left.plain hnb (by simp[Tryz.f18,resV,resC,comp];rfl) rfl rfl ?_
  simp
theorem BV:Enters Tryz.prog 18:=enters Tryz.func18 (by kernel_rfl) rfl
def Cf (n:Nat) (a0:List Pair) (a1:List Pair):Option Bool :=
lt (lenI a0) fun v1 =>
lt (lenI a1) fun v2 =>
lt (neI v1 v2) fun v3 =>
ite' v3 (some false) (bn (iter n (fun (y4:Int) =>
lt (lenI a0) fun v7 =>
lt (ltI y4 v7) fun v8 =>
ite' v8 (bn (bn (nth a0 y4) fun v10 =>
bn (nth a1 y4) fun v11 =>
lt (neS v10.key v11.key) fun v12 =>
ite' v12 (some (true)) (bn (Bz n v10.item v11.item) fun v13 =>
lt (notB v13) fun v14 =>
some (v14))) fun (y9:Bool) =>
lt (y9) fun v15 =>
ite' v15 (some (.inr (.inr false))) (lt (addI .i64 y4 1) fun v16 =>
some (.inl v16))) (some (.inr (.inl ())))) 0) fun (y5:Unit ⊕ Bool) =>
sm y5 (fun y17=>some true) (fun y18=>some y18))
def DY5t2:List DI:=[⟨[0],[],[(0,none)],false⟩,⟨[0],[],[(5,none)],false⟩,⟨[0],[0,1],[(17,some 0),(18,some 1)],false⟩,⟨[0],[0,1,2],[(19,some 2)],false⟩,⟨[0],[0,1,2,3],[(20,some 3)],false⟩,⟨[0],[],[(1,none)],false⟩,⟨[0],[],[(5,none)],false⟩,⟨[0],[5,6],[(22,some 5),(23,some 6)],false⟩,⟨[0],[5,6,7],[(24,some 7)],false⟩,⟨[0],[5,6,7,8],[(25,some 8)],false⟩,⟨[0],[0,1,2,3,4,5,6,7,8,9],[(21,some 4),(26,some 9)],false⟩,⟨[0],[0,1,2,3,4,5,6,7,8,9,10],[(27,some 10)],false⟩,⟨[0],[0,1,2,3,4,5,6,7,8,9,10,11],[(0,none),(28,some 11)],false⟩,⟨[0],[0,1,2,3,4,5,6,7,8,9,10,11],[(5,none),(28,some 11)],false⟩,⟨[0],[0,1,2,3,4,5,6,7,8,9,10,11,12,13],[(28,some 11),(29,some 12),(30,some 13)],false⟩,⟨[0],[0,1,2,3,4,5,6,7,8,9,10,11,12,13,14],[(28,some 11),(31,some 14)],false⟩,⟨[0],[0,1,2,3,4,5,6,7,8,9,10,11,12,13,14,15],[(28,some 11),(32,some 15)],false⟩,⟨[0],[0,1,2,3,4,5,6,7,8,9,10,11],[(1,none),(28,some 11)],false⟩,⟨[0],[0,1,2,3,4,5,6,7,8,9,10,11],[(5,none),(28,some 11)],false⟩,⟨[0],[0,1,2,3,4,5,6,7,8,9,10,11,17,18],[(28,some 11),(34,some 17),(35,some 18)],false⟩,⟨[0],[0,1,2,3,4,5,6,7,8,9,10,11,17,18,19],[(28,some 11),(36,some 19)],false⟩,⟨[0],[0,1,2,3,4,5,6,7,8,9,10,11,17,18,19,20],[(28,some 11),(37,some 20)],false⟩,⟨[],[0,1,2,3,4,5,6,7,8,9,10,11,12,13,14,15,16,17,18,19,20,21],[],false⟩,⟨[],[0,1,2,3,4,5,6,7,8,9,10,11,12,13,14,15,16,17,18,19,20,21,22],[],false⟩,⟨[],[0,1,2,3,4,5,6,7,8,9,10,11,12,13,14,15,16,17,18,19,20,21,22,23],[],false⟩]
theorem Dj {n:Nat} {a0:List Pair} {a1:List Pair} {r:Bool} (h:Cf n a0 a1=some r):Sound Tryz.prog 43 [.l (.d false 6 (encPair a0)),.l (.d false 6 (encPair a1))] [] (.l (.s (.bool r))) []:=by
 unfold Cf at h
 refine Sound.of_aw (fn:=Tryz.f43) (c:=_) Tryz.func43 rfl (by simp[Tryz.f43]) fun cx hG hnb=>?_
 rw[show Tryz.f43.ntmps=42 from rfl]
 have hn0:cx.nb=0:=hnb
 simp only[An,initTm,List.map_cons,List.map_nil]
 apply AW.step
 ·simp
  intros;rfl
 refine AW.seq ?_
 replace h:=ltE h;obtain⟨v1,e1,h⟩:=h
 replace h:=ltE h;obtain⟨v2,e2,h⟩:=h
 replace h:=ltE h;obtain⟨v3,e3,h⟩:=h
 apply AW.step
 ·simp[Aa e1,Aa e2,← e3]
  intros;rfl
 cases v3 with
 |true =>
  replace h:=iteT rfl h
  refine AW.cond_true (by simp) ?_
  apply AW.step
  ·simp
   intros;rfl
  obtain rfl:=oi h
  refine AW.ret ?_
  refine Left.plain hnb (by simp[Tryz.f43,resV,resC,comp];rfl) rfl rfl ?_
  simp
 |false =>
  replace h:=iteF rfl h
  refine AW.cond_false (by simp) ?_
  refine AW.skip ?_
  try simp only[nm]
  refine AW.seq ?_
  apply AW.step
  ·simp
   intros;rfl
  refine AW.block ?_
  replace h:=bnE h;obtain⟨y5,g5,h⟩:=h
  refine AW.iterP g5 (mk:=fun gh ls q=>(⟨[(0,.l (.d false 6 (encPair a0))),(1,.l (.d false 6 (encPair a1))),(5,.l (.s (.int .i64 q)))],[],42,gh,ls⟩:St)) (N:=fun gh ls=>(sp (xP 0 (cx:=cx) (fun _=>(⟨[],[],42,gh,ls⟩:St))) (rP (cx:=cx) (P:=Tryz.prog) Tryz.f43 (fun q=>.l (.s (.bool q))) (fun q=>[])))) ?_ (noS noX noR) ?_ ?_
  ·refine Weak.mixN [] hn0 (by decide) ?_ ?_ rfl
   all_goals first|(simp[Ab,Ac,pickOb];done)|rfl
  ·clear h;intro y4 y6 h
   refine AW.seq ?_
   replace h:=ltE h;obtain⟨v7,e7,h⟩:=h
   replace h:=ltE h;obtain⟨v8,e8,h⟩:=h
   apply AW.step
   ·simp[Aa e7,← e8]
    intros;rfl
   cases v8 with
   |true =>
    replace h:=iteT rfl h
    refine AW.cond_true (by simp) ?_
    refine AW.skip ?_
    try simp only[nm]
    refine AW.seq ?_
    refine AW.block ?_
    replace h:=bnE h;obtain⟨y9,g9,h⟩:=h
    refine AW.flow (p:=fun gh ls=>(nP (cx:=cx) (fun q=>(⟨[(0,.l (.d false 6 (encPair a0))),(1,.l (.d false 6 (encPair a1))),(5,.l (.s (.int .i64 y4))),(41,.l (.s (.bool q)))],[],42,gh,ls⟩:St))) y9) ?_ ?_
    ·replace h:=g9;clear g9
     replace h:=bnE h;obtain⟨v10,e10,h⟩:=h
     replace h:=bnE h;obtain⟨v11,e11,h⟩:=h
     replace h:=ltE h;obtain⟨v12,e12,h⟩:=h
     cases v12 with
     |true =>
      replace h:=iteT rfl h
      apply AW.drawnR (V:=[_,_,_,_,_,_,_,_,_,_,_,_,_,_,_,_,_,_,_,_,_,_]) mixed DY5t2 22 (by kernel_rfl) (by kernel_rfl)
      ·refine⟨?_,?_,?_,?_,?_,?_,?_,?_,?_,?_,?_,?_,?_,?_,?_,?_,?_,?_,?_,?_,?_,?_,trivial⟩
       iterate 22 (· intro tm hr;simp[AllL,rdV] at hr;simp[hr,Ad e10,Ad e11,← e12];intros;first|exact KD.mk|exact KD.mkN)
      ·rfl
      ·simp[tmD,putD,Ad e10,Ad e11,← e12];rfl
      ·simp[Ad e10,Ad e11,← e12]
       intros;rfl
      obtain rfl:=oi h
      refine nP_i ?_
      refine Weak.mixN [] hn0 (by decide) ?_ ?_ rfl
      all_goals first|(simp[Ab,Ac,pickOb];done)|rfl
     |false =>
      replace h:=iteF rfl h
      replace h:=bnE h;obtain⟨v13,e13,h⟩:=h
      replace h:=ltE h;obtain⟨v14,e14,h⟩:=h
      apply AW.drawnR (V:=[_,_,_,_,_,_,_,_,_,_,_,_,_,_,_,_,_,_,_,_,_,_]) mixed DY5t2 22 (by kernel_rfl) (by kernel_rfl)
      ·refine⟨?_,?_,?_,?_,?_,?_,?_,?_,?_,?_,?_,?_,?_,?_,?_,?_,?_,?_,?_,?_,?_,?_,trivial⟩
       iterate 22 (· intro tm hr;simp[AllL,rdV] at hr;simp[hr,Ad e10,Ad e11,← e12,← e14];intros;first|exact KD.mk|exact KD.mkN)
      ·rfl
      ·simp[tmD,putD,Ad e10,Ad e11,← e12,← e14];rfl
      ·simp[Ad e10,Ad e11,← e12,← e14]
       intros
       refine Ae BV (B7 e13) rfl ⟨.same rfl,.same rfl,trivial⟩ ?_
       try simp[Ad e10,Ad e11,← e12,← e14]
       intros;rfl
      obtain rfl:=oi h
      refine nP_i ?_
      refine Weak.mixN [] hn0 (by decide) ?_ ?_ rfl
      all_goals first|(simp[Ab,Ac,pickOb];done)|rfl
    ·rintro e s hp
     obtain⟨rfl,hw⟩:=hp
     refine⟨_,hw,?_⟩
     try simp only[nm]
     replace h:=ltE h;obtain⟨v15,e15,h⟩:=h
     rw[← e15]
     cases v15 with
     |true =>
      replace h:=iteT rfl h
      refine AW.cond_true (by simp) ?_
      apply AW.step
      ·simp
       intros;rfl
      obtain rfl:=oi h
      refine AW.ret ?_
      try simp only[nm]
      refine rP_i ?_
      refine Left.plain hnb (by simp[Tryz.f43,resV,resC,comp];rfl) rfl rfl ?_
      simp
     |false =>
      replace h:=iteF rfl h
      refine AW.cond_false (by simp) ?_
      refine AW.skip ?_
      try simp only[nm]
      replace h:=ltE h;obtain⟨v16,e16,h⟩:=h
      apply AW.last
      ·simp[← e16]
       intros;rfl
      obtain rfl:=oi h
      refine nP_i ?_
      refine Weak.mixN [] hn0 (by decide) ?_ ?_ rfl
      all_goals first|(simp[Ab,Ac,pickOb];done)|rfl
   |false =>
    replace h:=iteF rfl h
    refine AW.cond_false (by simp) ?_
    refine AW.exit ?_
    try simp only[nm]
    obtain rfl:=oi h
    try simp only[sp_l,sp_r]
    refine xP_i ?_
    refine Weak.mixN [] hn0 (by decide) ?_ ?_ rfl
    all_goals first|(simp[Ab,Ac,pickOb];done)|rfl
  ·rintro e s hp
   rcases y5 with y17|y18
   ·replace h:=smL h
    obtain⟨rfl,hw⟩:=hp
    refine⟨_,hw,?_⟩
    try simp only[nm]
    apply AW.step
    ·simp
     intros;rfl
    obtain rfl:=oi h
    refine AW.ret ?_
    refine Left.plain hnb (by simp[Tryz.f43,resV,resC,comp];rfl) rfl rfl ?_
    simp
   ·replace h:=smR h
    obtain⟨rfl,hl⟩:=hp
    refine⟨_,Weak.refl _,?_⟩
    obtain rfl:=oi h
    exact hl
theorem CX:Enters Tryz.prog 43:=enters Tryz.func43 (by kernel_rfl) rfl
def BN (n:Nat) (a0:List Effect) (a1:List Effect):Option Bool :=
lt (lenI a0) fun v1 =>
lt (lenI a1) fun v2 =>
lt (neI v1 v2) fun v3 =>
ite' v3 (some false) (bn (iter n (fun (y4:Int) =>
lt (lenI a0) fun v7 =>
lt (ltI y4 v7) fun v8 =>
ite' v8 (bn (bn (nth a0 y4) fun v10 =>
bn (nth a1 y4) fun v11 =>
lt (neS v10.key v11.key) fun v12 =>
ite' v12 (some (true)) (lt (neB v10.gone v11.gone) fun v13 =>
ite' v13 (some (true)) (bn (Bz n v10.item v11.item) fun v14 =>
lt (notB v14) fun v15 =>
some (v15)))) fun (y9:Bool) =>
lt (y9) fun v16 =>
ite' v16 (some (.inr (.inr false))) (lt (addI .i64 y4 1) fun v17 =>
some (.inl v17))) (some (.inr (.inl ())))) 0) fun (y5:Unit ⊕ Bool) =>
sm y5 (fun y18=>some true) (fun y19=>some y19))
def DY5t3:List DI:=[⟨[0],[],[(0,none)],false⟩,⟨[0],[],[(5,none)],false⟩,⟨[0],[0,1],[(17,some 0),(18,some 1)],false⟩,⟨[0],[0,1,2],[(19,some 2)],false⟩,⟨[0],[0,1,2,3],[(20,some 3)],false⟩,⟨[0],[],[(1,none)],false⟩,⟨[0],[],[(5,none)],false⟩,⟨[0],[5,6],[(22,some 5),(23,some 6)],false⟩,⟨[0],[5,6,7],[(24,some 7)],false⟩,⟨[0],[5,6,7,8],[(25,some 8)],false⟩,⟨[0],[0,1,2,3,4,5,6,7,8,9],[(21,some 4),(26,some 9)],false⟩,⟨[0],[0,1,2,3,4,5,6,7,8,9,10],[(27,some 10)],false⟩,⟨[0],[0,1,2,3,4,5,6,7,8,9,10,11],[(0,none),(28,some 11)],false⟩,⟨[0],[0,1,2,3,4,5,6,7,8,9,10,11],[(5,none),(28,some 11)],false⟩,⟨[0],[0,1,2,3,4,5,6,7,8,9,10,11,12,13],[(28,some 11),(29,some 12),(30,some 13)],false⟩,⟨[0],[0,1,2,3,4,5,6,7,8,9,10,11,12,13,14],[(28,some 11),(31,some 14)],false⟩,⟨[0],[0,1,2,3,4,5,6,7,8,9,10,11,12,13,14,15],[(28,some 11),(32,some 15)],false⟩,⟨[0],[0,1,2,3,4,5,6,7,8,9,10,11],[(1,none),(28,some 11)],false⟩,⟨[0],[0,1,2,3,4,5,6,7,8,9,10,11],[(5,none),(28,some 11)],false⟩,⟨[0],[0,1,2,3,4,5,6,7,8,9,10,11,17,18],[(28,some 11),(34,some 17),(35,some 18)],false⟩,⟨[0],[0,1,2,3,4,5,6,7,8,9,10,11,17,18,19],[(28,some 11),(36,some 19)],false⟩,⟨[0],[0,1,2,3,4,5,6,7,8,9,10,11,17,18,19,20],[(28,some 11),(37,some 20)],false⟩,⟨[0],[0,1,2,3,4,5,6,7,8,9,10,11,12,13,14,15,16,17,18,19,20,21],[(28,some 11),(33,some 16),(38,some 21)],false⟩,⟨[0],[0,1,2,3,4,5,6,7,8,9,10,11,12,13,14,15,16,17,18,19,20,21,22],[(28,some 11),(39,some 22)],false⟩,⟨[0],[0,1,2,3,4,5,6,7,8,9,10,11,12,13,14,15,16,17,18,19,20,21,22,23],[(40,some 23)],false⟩,⟨[0],[0,1,2,3,4,5,6,7,8,9,10,11,12,13,14,15,16,17,18,19,20,21,22,23,24],[(0,none),(41,some 24)],false⟩,⟨[0],[0,1,2,3,4,5,6,7,8,9,10,11,12,13,14,15,16,17,18,19,20,21,22,23,24],[(5,none),(41,some 24)],false⟩,⟨[0],[0,1,2,3,4,5,6,7,8,9,10,11,12,13,14,15,16,17,18,19,20,21,22,23,24,25,26],[(41,some 24),(42,some 25),(43,some 26)],false⟩,⟨[0],[0,1,2,3,4,5,6,7,8,9,10,11,12,13,14,15,16,17,18,19,20,21,22,23,24,25,26,27],[(41,some 24),(44,some 27)],false⟩,⟨[0],[0,1,2,3,4,5,6,7,8,9,10,11,12,13,14,15,16,17,18,19,20,21,22,23,24,25,26,27,28],[(41,some 24),(45,some 28)],false⟩,⟨[0],[0,1,2,3,4,5,6,7,8,9,10,11,12,13,14,15,16,17,18,19,20,21,22,23,24],[(1,none),(41,some 24)],false⟩,⟨[0],[0,1,2,3,4,5,6,7,8,9,10,11,12,13,14,15,16,17,18,19,20,21,22,23,24],[(5,none),(41,some 24)],false⟩,⟨[0],[0,1,2,3,4,5,6,7,8,9,10,11,12,13,14,15,16,17,18,19,20,21,22,23,24,30,31],[(41,some 24),(47,some 30),(48,some 31)],false⟩,⟨[0],[0,1,2,3,4,5,6,7,8,9,10,11,12,13,14,15,16,17,18,19,20,21,22,23,24,30,31,32],[(41,some 24),(49,some 32)],false⟩,⟨[0],[0,1,2,3,4,5,6,7,8,9,10,11,12,13,14,15,16,17,18,19,20,21,22,23,24,30,31,32,33],[(41,some 24),(50,some 33)],false⟩,⟨[],[0,1,2,3,4,5,6,7,8,9,10,11,12,13,14,15,16,17,18,19,20,21,22,23,24,25,26,27,28,29,30,31,32,33,34],[],false⟩,⟨[],[0,1,2,3,4,5,6,7,8,9,10,11,12,13,14,15,16,17,18,19,20,21,22,23,24,25,26,27,28,29,30,31,32,33,34,35],[],false⟩,⟨[],[0,1,2,3,4,5,6,7,8,9,10,11,12,13,14,15,16,17,18,19,20,21,22,23,24,25,26,27,28,29,30,31,32,33,34,35,36],[],false⟩]
theorem HG {n:Nat} {a0:List Effect} {a1:List Effect} {r:Bool} (h:BN n a0 a1=some r):Sound Tryz.prog 83 [.l (.d false 7 (encEffect a0)),.l (.d false 7 (encEffect a1))] [] (.l (.s (.bool r))) []:=by
 unfold BN at h
 refine Sound.of_aw (fn:=Tryz.f83) (c:=_) Tryz.func83 rfl (by simp[Tryz.f83]) fun cx hG hnb=>?_
 rw[show Tryz.f83.ntmps=55 from rfl]
 have hn0:cx.nb=0:=hnb
 simp only[An,initTm,List.map_cons,List.map_nil]
 apply AW.step
 ·simp
  intros;rfl
 refine AW.seq ?_
 replace h:=ltE h;obtain⟨v1,e1,h⟩:=h
 replace h:=ltE h;obtain⟨v2,e2,h⟩:=h
 replace h:=ltE h;obtain⟨v3,e3,h⟩:=h
 apply AW.step
 ·simp[Aa e1,Aa e2,← e3]
  intros;rfl
 cases v3 with
 |true =>
  replace h:=iteT rfl h
  refine AW.cond_true (by simp) ?_
  apply AW.step
  ·simp
   intros;rfl
  obtain rfl:=oi h
  refine AW.ret ?_
  refine Left.plain hnb (by simp[Tryz.f83,resV,resC,comp];rfl) rfl rfl ?_
  simp
 |false =>
  replace h:=iteF rfl h
  refine AW.cond_false (by simp) ?_
  refine AW.skip ?_
  try simp only[nm]
  refine AW.seq ?_
  apply AW.step
  ·simp
   intros;rfl
  refine AW.block ?_
  replace h:=bnE h;obtain⟨y5,g5,h⟩:=h
  refine AW.iterP g5 (mk:=fun gh ls q=>(⟨[(0,.l (.d false 7 (encEffect a0))),(1,.l (.d false 7 (encEffect a1))),(5,.l (.s (.int .i64 q)))],[],55,gh,ls⟩:St)) (N:=fun gh ls=>(sp (xP 0 (cx:=cx) (fun _=>(⟨[],[],55,gh,ls⟩:St))) (rP (cx:=cx) (P:=Tryz.prog) Tryz.f83 (fun q=>.l (.s (.bool q))) (fun q=>[])))) ?_ (noS noX noR) ?_ ?_
  ·refine Weak.mixN [] hn0 (by decide) ?_ ?_ rfl
   all_goals first|(simp[Ab,Ac,pickOb];done)|rfl
  ·clear h;intro y4 y6 h
   refine AW.seq ?_
   replace h:=ltE h;obtain⟨v7,e7,h⟩:=h
   replace h:=ltE h;obtain⟨v8,e8,h⟩:=h
   apply AW.step
   ·simp[Aa e7,← e8]
    intros;rfl
   cases v8 with
   |true =>
    replace h:=iteT rfl h
    refine AW.cond_true (by simp) ?_
    refine AW.skip ?_
    try simp only[nm]
    refine AW.seq ?_
    refine AW.block ?_
    replace h:=bnE h;obtain⟨y9,g9,h⟩:=h
    refine AW.flow (p:=fun gh ls=>(nP (cx:=cx) (fun q=>(⟨[(0,.l (.d false 7 (encEffect a0))),(1,.l (.d false 7 (encEffect a1))),(5,.l (.s (.int .i64 y4))),(54,.l (.s (.bool q)))],[],55,gh,ls⟩:St))) y9) ?_ ?_
    ·replace h:=g9;clear g9
     replace h:=bnE h;obtain⟨v10,e10,h⟩:=h
     replace h:=bnE h;obtain⟨v11,e11,h⟩:=h
     replace h:=ltE h;obtain⟨v12,e12,h⟩:=h
     cases v12 with
     |true =>
      replace h:=iteT rfl h
      apply AW.drawnR (V:=[_,_,_,_,_,_,_,_,_,_,_,_,_,_,_,_,_,_,_,_,_,_,_,_,_,_,_,_,_,_,_,_,_,_,_]) mixed DY5t3 35 (by kernel_rfl) (by kernel_rfl)
      ·refine⟨?_,?_,?_,?_,?_,?_,?_,?_,?_,?_,?_,?_,?_,?_,?_,?_,?_,?_,?_,?_,?_,?_,?_,?_,?_,?_,?_,?_,?_,?_,?_,?_,?_,?_,?_,trivial⟩
       iterate 35 (· intro tm hr;simp[AllL,rdV] at hr;simp[hr,Ad e10,Ad e11,← e12];intros;first|exact KD.mk|exact KD.mkN)
      ·rfl
      ·simp[tmD,putD,Ad e10,Ad e11,← e12];rfl
      ·simp[Ad e10,Ad e11,← e12]
       intros;rfl
      obtain rfl:=oi h
      refine nP_i ?_
      refine Weak.mixN [] hn0 (by decide) ?_ ?_ rfl
      all_goals first|(simp[Ab,Ac,pickOb];done)|rfl
     |false =>
      replace h:=iteF rfl h
      replace h:=ltE h;obtain⟨v13,e13,h⟩:=h
      cases v13 with
      |true =>
       replace h:=iteT rfl h
       apply AW.drawnR (V:=[_,_,_,_,_,_,_,_,_,_,_,_,_,_,_,_,_,_,_,_,_,_,_,_,_,_,_,_,_,_,_,_,_,_,_]) mixed DY5t3 35 (by kernel_rfl) (by kernel_rfl)
       ·refine⟨?_,?_,?_,?_,?_,?_,?_,?_,?_,?_,?_,?_,?_,?_,?_,?_,?_,?_,?_,?_,?_,?_,?_,?_,?_,?_,?_,?_,?_,?_,?_,?_,?_,?_,?_,trivial⟩
        iterate 35 (· intro tm hr;simp[AllL,rdV] at hr;simp[hr,Ad e10,Ad e11,← e12,← e13];intros;first|exact KD.mk|exact KD.mkN)
       ·rfl
       ·simp[tmD,putD,Ad e10,Ad e11,← e12,← e13];rfl
       ·simp[Ad e10,Ad e11,← e12,← e13]
        intros;rfl
       obtain rfl:=oi h
       refine nP_i ?_
       refine Weak.mixN [] hn0 (by decide) ?_ ?_ rfl
       all_goals first|(simp[Ab,Ac,pickOb];done)|rfl
      |false =>
       replace h:=iteF rfl h
       replace h:=bnE h;obtain⟨v14,e14,h⟩:=h
       replace h:=ltE h;obtain⟨v15,e15,h⟩:=h
       apply AW.drawnR (V:=[_,_,_,_,_,_,_,_,_,_,_,_,_,_,_,_,_,_,_,_,_,_,_,_,_,_,_,_,_,_,_,_,_,_,_]) mixed DY5t3 35 (by kernel_rfl) (by kernel_rfl)
       ·refine⟨?_,?_,?_,?_,?_,?_,?_,?_,?_,?_,?_,?_,?_,?_,?_,?_,?_,?_,?_,?_,?_,?_,?_,?_,?_,?_,?_,?_,?_,?_,?_,?_,?_,?_,?_,trivial⟩
        iterate 35 (· intro tm hr;simp[AllL,rdV] at hr;simp[hr,Ad e10,Ad e11,← e12,← e13,← e15];intros;first|exact KD.mk|exact KD.mkN)
       ·rfl
       ·simp[tmD,putD,Ad e10,Ad e11,← e12,← e13,← e15];rfl
       ·simp[Ad e10,Ad e11,← e12,← e13,← e15]
        intros
        refine Ae BV (B7 e14) rfl ⟨.same rfl,.same rfl,trivial⟩ ?_
        try simp[Ad e10,Ad e11,← e12,← e13,← e15]
        intros;rfl
       obtain rfl:=oi h
       refine nP_i ?_
       refine Weak.mixN [] hn0 (by decide) ?_ ?_ rfl
       all_goals first|(simp[Ab,Ac,pickOb];done)|rfl
    ·rintro e s hp
     obtain⟨rfl,hw⟩:=hp
     refine⟨_,hw,?_⟩
     try simp only[nm]
     replace h:=ltE h;obtain⟨v16,e16,h⟩:=h
     rw[← e16]
     cases v16 with
     |true =>
      replace h:=iteT rfl h
      refine AW.cond_true (by simp) ?_
      apply AW.step
      ·simp
       intros;rfl
      obtain rfl:=oi h
      refine AW.ret ?_
      try simp only[nm]
      refine rP_i ?_
      refine Left.plain hnb (by simp[Tryz.f83,resV,resC,comp];rfl) rfl rfl ?_
      simp
     |false =>
      replace h:=iteF rfl h
      refine AW.cond_false (by simp) ?_
      refine AW.skip ?_
      try simp only[nm]
      replace h:=ltE h;obtain⟨v17,e17,h⟩:=h
      apply AW.last
      ·simp[← e17]
       intros;rfl
      obtain rfl:=oi h
      refine nP_i ?_
      refine Weak.mixN [] hn0 (by decide) ?_ ?_ rfl
      all_goals first|(simp[Ab,Ac,pickOb];done)|rfl
   |false =>
    replace h:=iteF rfl h
    refine AW.cond_false (by simp) ?_
    refine AW.exit ?_
    try simp only[nm]
    obtain rfl:=oi h
    try simp only[sp_l,sp_r]
    refine xP_i ?_
    refine Weak.mixN [] hn0 (by decide) ?_ ?_ rfl
    all_goals first|(simp[Ab,Ac,pickOb];done)|rfl
  ·rintro e s hp
   rcases y5 with y18|y19
   ·replace h:=smL h
    obtain⟨rfl,hw⟩:=hp
    refine⟨_,hw,?_⟩
    try simp only[nm]
    apply AW.step
    ·simp
     intros;rfl
    obtain rfl:=oi h
    refine AW.ret ?_
    refine Left.plain hnb (by simp[Tryz.f83,resV,resC,comp];rfl) rfl rfl ?_
    simp
   ·replace h:=smR h
    obtain⟨rfl,hl⟩:=hp
    refine⟨_,Weak.refl _,?_⟩
    obtain rfl:=oi h
    exact hl
theorem Hg:Enters Tryz.prog 83:=enters Tryz.func83 (by kernel_rfl) rfl
def Cg (n:Nat) (a0:Feed) (a1:Feed):Option Bool :=
bn (lt (andB (eqI a0.rid.node a1.rid.node) (andB (eqI a0.rid.epoch a1.rid.epoch) true)) fun v2 =>
ite' v2 (lt (eqI a0.off a1.off) fun v3 =>
ite' v3 (lt (andB (eqI a0.prev.node a1.prev.node) (andB (eqI a0.prev.epoch a1.prev.epoch) true)) fun v4 =>
ite' v4 (lt (eqI a0.upto a1.upto) fun v5 =>
ite' v5 (bn (BN n a0.back a1.back) fun v6 =>
some (v6)) (some (false))) (some (false))) (some (false))) (some (false))) fun (y1:Bool) =>
some y1
theorem Es {n:Nat} {a0:Feed} {a1:Feed} {r:Bool} (h:Cg n a0 a1=some r):Sound Tryz.prog 44 [.g [.s (.int .i64 a0.rid.node),.s (.int .i64 a0.rid.epoch),.s (.int .i64 a0.off),.d false 7 (encEffect a0.back),.s (.int .i64 a0.prev.node),.s (.int .i64 a0.prev.epoch),.s (.int .i64 a0.upto)],.g [.s (.int .i64 a1.rid.node),.s (.int .i64 a1.rid.epoch),.s (.int .i64 a1.off),.d false 7 (encEffect a1.back),.s (.int .i64 a1.prev.node),.s (.int .i64 a1.prev.epoch),.s (.int .i64 a1.upto)]] [] (.l (.s (.bool r))) []:=by
 unfold Cg at h
 refine Sound.of_aw (fn:=Tryz.f44) (c:=_) Tryz.func44 rfl (by simp[Tryz.f44]) fun cx hG hnb=>?_
 rw[show Tryz.f44.ntmps=38 from rfl]
 have hn0:cx.nb=0:=hnb
 simp only[An,initTm,List.map_cons,List.map_nil]
 apply AW.step
 ·simp
  intros;rfl
 replace h:=bnE h;obtain⟨y1,g1,h⟩:=h
 refine AW.flow (p:=fun gh ls=>(nP (cx:=cx) (fun q=>(⟨[(4,.l (.s (.bool q)))],[],38,gh,ls⟩:St))) y1) ?_ ?_
 ·replace h:=g1;clear g1
  replace h:=ltE h;obtain⟨v2,e2,h⟩:=h
  cases v2 with
  |true =>
   replace h:=iteT rfl h
   replace h:=ltE h;obtain⟨v3,e3,h⟩:=h
   cases v3 with
   |true =>
    replace h:=iteT rfl h
    replace h:=ltE h;obtain⟨v4,e4,h⟩:=h
    cases v4 with
    |true =>
     replace h:=iteT rfl h
     replace h:=ltE h;obtain⟨v5,e5,h⟩:=h
     cases v5 with
     |true =>
      replace h:=iteT rfl h
      replace h:=bnE h;obtain⟨v6,e6,h⟩:=h
      apply AW.last
      ·simp[← e2,← e3,← e4,← e5]
       intros
       refine Ae Hg (HG e6) rfl ⟨.same rfl,.same rfl,trivial⟩ ?_
       try simp[← e2,← e3,← e4,← e5]
       intros;rfl
      obtain rfl:=oi h
      refine nP_i ?_
      refine Weak.mixN [] hn0 (by decide) ?_ ?_ rfl
      all_goals first|(simp[Ab,Ac,pickOb];done)|rfl
     |false =>
      replace h:=iteF rfl h
      apply AW.last
      ·simp[← e2,← e3,← e4,← e5]
       intros;rfl
      obtain rfl:=oi h
      refine nP_i ?_
      refine Weak.mixN [] hn0 (by decide) ?_ ?_ rfl
      all_goals first|(simp[Ab,Ac,pickOb];done)|rfl
    |false =>
     replace h:=iteF rfl h
     apply AW.last
     ·simp[← e2,← e3,← e4]
      intros;rfl
     obtain rfl:=oi h
     refine nP_i ?_
     refine Weak.mixN [] hn0 (by decide) ?_ ?_ rfl
     all_goals first|(simp[Ab,Ac,pickOb];done)|rfl
   |false =>
    replace h:=iteF rfl h
    apply AW.last
    ·simp[← e2,← e3]
     intros;rfl
    obtain rfl:=oi h
    refine nP_i ?_
    refine Weak.mixN [] hn0 (by decide) ?_ ?_ rfl
    all_goals first|(simp[Ab,Ac,pickOb];done)|rfl
  |false =>
   replace h:=iteF rfl h
   apply AW.last
   ·simp[← e2]
    intros;rfl
   obtain rfl:=oi h
   refine nP_i ?_
   refine Weak.mixN [] hn0 (by decide) ?_ ?_ rfl
   all_goals first|(simp[Ab,Ac,pickOb];done)|rfl
 ·rintro e s hp
  obtain⟨rfl,hw⟩:=hp
  refine⟨_,hw,?_⟩
  try simp only[nm]
  obtain rfl:=oi h
  refine AW.ret ?_
  refine Left.plain hnb (by simp[Tryz.f44,resV,resC,comp];rfl) rfl rfl ?_
  simp
theorem Ec:Enters Tryz.prog 44:=enters Tryz.func44 (by kernel_rfl) rfl
def CG (n:Nat) (a0:List Int) (a1:List Int):Option Bool :=
lt (lenI a0) fun v1 =>
lt (lenI a1) fun v2 =>
lt (neI v1 v2) fun v3 =>
ite' v3 (some false) (bn (iter n (fun (y4:Int) =>
lt (lenI a0) fun v7 =>
lt (ltI y4 v7) fun v8 =>
ite' v8 (bn (nth a0 y4) fun v9 =>
bn (nth a1 y4) fun v10 =>
lt (neI v9 v10) fun v11 =>
ite' v11 (some (.inr (.inr false))) (lt (addI .i64 y4 1) fun v12 =>
some (.inl v12))) (some (.inr (.inl ())))) 0) fun (y5:Unit ⊕ Bool) =>
sm y5 (fun y13=>some true) (fun y14=>some y14))
theorem FA {n:Nat} {a0:List Int} {a1:List Int} {r:Bool} (h:CG n a0 a1=some r):Sound Tryz.prog 46 [.l (.d false 1 (encI a0)),.l (.d false 1 (encI a1))] [] (.l (.s (.bool r))) []:=by
 unfold CG at h
 refine Sound.of_aw (fn:=Tryz.f46) (c:=_) Tryz.func46 rfl (by simp[Tryz.f46]) fun cx hG hnb=>?_
 rw[show Tryz.f46.ntmps=26 from rfl]
 have hn0:cx.nb=0:=hnb
 simp only[An,initTm,List.map_cons,List.map_nil]
 apply AW.step
 ·simp
  intros;rfl
 refine AW.seq ?_
 replace h:=ltE h;obtain⟨v1,e1,h⟩:=h
 replace h:=ltE h;obtain⟨v2,e2,h⟩:=h
 replace h:=ltE h;obtain⟨v3,e3,h⟩:=h
 apply AW.step
 ·simp[Aa e1,Aa e2,← e3]
  intros;rfl
 cases v3 with
 |true =>
  replace h:=iteT rfl h
  refine AW.cond_true (by simp) ?_
  apply AW.step
  ·simp
   intros;rfl
  obtain rfl:=oi h
  refine AW.ret ?_
  refine Left.plain hnb (by simp[Tryz.f46,resV,resC,comp];rfl) rfl rfl ?_
  simp
 |false =>
  replace h:=iteF rfl h
  refine AW.cond_false (by simp) ?_
  refine AW.skip ?_
  try simp only[nm]
  refine AW.seq ?_
  apply AW.step
  ·simp
   intros;rfl
  refine AW.block ?_
  replace h:=bnE h;obtain⟨y5,g5,h⟩:=h
  refine AW.iterP g5 (mk:=fun gh ls q=>(⟨[(0,.l (.d false 1 (encI a0))),(1,.l (.d false 1 (encI a1))),(5,.l (.s (.int .i64 q)))],[],26,gh,ls⟩:St)) (N:=fun gh ls=>(sp (xP 0 (cx:=cx) (fun _=>(⟨[],[],26,gh,ls⟩:St))) (rP (cx:=cx) (P:=Tryz.prog) Tryz.f46 (fun q=>.l (.s (.bool q))) (fun q=>[])))) ?_ (noS noX noR) ?_ ?_
  ·refine Weak.mixN [] hn0 (by decide) ?_ ?_ rfl
   all_goals first|(simp[Ab,Ac,pickOb];done)|rfl
  ·clear h;intro y4 y6 h
   refine AW.seq ?_
   replace h:=ltE h;obtain⟨v7,e7,h⟩:=h
   replace h:=ltE h;obtain⟨v8,e8,h⟩:=h
   apply AW.step
   ·simp[Aa e7,← e8]
    intros;rfl
   cases v8 with
   |true =>
    replace h:=iteT rfl h
    refine AW.cond_true (by simp) ?_
    refine AW.skip ?_
    try simp only[nm]
    refine AW.seq ?_
    refine AW.block ?_
    replace h:=bnE h;obtain⟨v9,e9,h⟩:=h
    replace h:=bnE h;obtain⟨v10,e10,h⟩:=h
    replace h:=ltE h;obtain⟨v11,e11,h⟩:=h
    apply AW.drawnP (V:=[_,_,_,_,_,_,_,_]) mixed DY5t1 8 (by kernel_rfl) (by kernel_rfl)
    ·refine⟨?_,?_,?_,?_,?_,?_,?_,?_,trivial⟩
     iterate 8 (· intro tm hr;simp[AllL,rdV] at hr;simp[hr,Ad e9,Ad e10,← e11];intros;first|exact KD.mk|exact KD.mkN)
    ·rfl
    ·simp[tmD,putD,Ad e9,Ad e10,← e11];rfl
    ·simp[Ad e9,Ad e10,← e11]
     intros;rfl
    cases v11 with
    |true =>
     replace h:=iteT rfl h
     refine AW.cond_true (by simp) ?_
     apply AW.step
     ·simp
      intros;rfl
     obtain rfl:=oi h
     refine AW.ret ?_
     try simp only[nm]
     refine rP_i ?_
     refine Left.plain hnb (by simp[Tryz.f46,resV,resC,comp];rfl) rfl rfl ?_
     simp
    |false =>
     replace h:=iteF rfl h
     refine AW.cond_false (by simp) ?_
     refine AW.skip ?_
     try simp only[nm]
     replace h:=ltE h;obtain⟨v12,e12,h⟩:=h
     apply AW.last
     ·simp[← e12]
      intros;rfl
     obtain rfl:=oi h
     refine nP_i ?_
     refine Weak.mixN [] hn0 (by decide) ?_ ?_ rfl
     all_goals first|(simp[Ab,Ac,pickOb];done)|rfl
   |false =>
    replace h:=iteF rfl h
    refine AW.cond_false (by simp) ?_
    refine AW.exit ?_
    try simp only[nm]
    obtain rfl:=oi h
    try simp only[sp_l,sp_r]
    refine xP_i ?_
    refine Weak.mixN [] hn0 (by decide) ?_ ?_ rfl
    all_goals first|(simp[Ab,Ac,pickOb];done)|rfl
  ·rintro e s hp
   rcases y5 with y13|y14
   ·replace h:=smL h
    obtain⟨rfl,hw⟩:=hp
    refine⟨_,hw,?_⟩
    try simp only[nm]
    apply AW.step
    ·simp
     intros;rfl
    obtain rfl:=oi h
    refine AW.ret ?_
    refine Left.plain hnb (by simp[Tryz.f46,resV,resC,comp];rfl) rfl rfl ?_
    simp
   ·replace h:=smR h
    obtain⟨rfl,hl⟩:=hp
    refine⟨_,Weak.refl _,?_⟩
    obtain rfl:=oi h
    exact hl
theorem E0:Enters Tryz.prog 46:=enters Tryz.func46 (by kernel_rfl) rfl
def B2 (n:Nat) (a0:Watch) (a1:Watch):Option Bool :=
bn (bn (CG n a0.heard a1.heard) fun v2 =>
lt (notB v2) fun v3 =>
ite' v3 (some (true)) (lt (lenI a0.says) fun v4 =>
lt (lenI a1.says) fun v5 =>
lt (neI v4 v5) fun v6 =>
some (v6))) fun (y1:Bool) =>
lt (y1) fun v7 =>
ite' v7 (some false) (bn (iter n (fun (y8:Int) =>
lt (lenI a0.says) fun v11 =>
lt (ltI y8 v11) fun v12 =>
ite' v12 (bn (nth a0.says y8) fun v13 =>
bn (nth a1.says y8) fun v14 =>
bn (CG n v13 v14) fun v15 =>
lt (notB v15) fun v16 =>
ite' v16 (some (.inr (.inr false))) (lt (addI .i64 y8 1) fun v17 =>
some (.inl v17))) (some (.inr (.inl ())))) 0) fun (y9:Unit ⊕ Bool) =>
sm y9 (fun y18=>some true) (fun y19=>some y19))
theorem FB {n:Nat} {a0:Watch} {a1:Watch} {r:Bool} (h:B2 n a0 a1=some r):Sound Tryz.prog 45 [.g [.d false 1 (encI a0.heard),.d false 1 (encLI a0.says)],.g [.d false 1 (encI a1.heard),.d false 1 (encLI a1.says)]] [] (.l (.s (.bool r))) []:=by
 unfold B2 at h
 refine Sound.of_aw (fn:=Tryz.f45) (c:=_) Tryz.func45 rfl (by simp[Tryz.f45]) fun cx hG hnb=>?_
 rw[show Tryz.f45.ntmps=40 from rfl]
 have hn0:cx.nb=0:=hnb
 simp only[An,initTm,List.map_cons,List.map_nil]
 apply AW.step
 ·simp
  intros;rfl
 refine AW.seq ?_
 replace h:=bnE h;obtain⟨y1,g1,h⟩:=h
 refine AW.flow (p:=fun gh ls=>(nP (cx:=cx) (fun q=>(⟨[(2,.l (.p 0 0)),(3,.l (.p 1 0)),(20,.l (.s (.bool q)))],[some ⟨36,2,false,none,[.d false 1 (encI a0.heard),.d false 1 (encLI a0.says)]⟩,some ⟨36,2,false,none,[.d false 1 (encI a1.heard),.d false 1 (encLI a1.says)]⟩],40,gh,ls⟩:St))) y1) ?_ ?_
 ·replace h:=g1;clear g1
  replace h:=bnE h;obtain⟨v2,e2,h⟩:=h
  replace h:=ltE h;obtain⟨v3,e3,h⟩:=h
  cases v3 with
  |true =>
   replace h:=iteT rfl h
   apply AW.last
   ·simp[← e3]
    intros
    refine Ae E0 (FA e2) rfl ⟨.same rfl,.same rfl,trivial⟩ ?_
    try simp[← e3]
    intros;rfl
   obtain rfl:=oi h
   refine nP_i ?_
   refine Weak.mixN [some 0,some 1] hn0 (by decide) ?_ ?_ rfl
   all_goals first|(simp[Ab,Ac,pickOb];done)|rfl
  |false =>
   replace h:=iteF rfl h
   replace h:=ltE h;obtain⟨v4,e4,h⟩:=h
   replace h:=ltE h;obtain⟨v5,e5,h⟩:=h
   replace h:=ltE h;obtain⟨v6,e6,h⟩:=h
   apply AW.last
   ·simp[← e3,Aa e4,Aa e5,← e6]
    intros
    refine Ae E0 (FA e2) rfl ⟨.same rfl,.same rfl,trivial⟩ ?_
    try simp[← e3,Aa e4,Aa e5,← e6]
    intros;rfl
   obtain rfl:=oi h
   refine nP_i ?_
   refine Weak.mixN [some 0,some 1] hn0 (by decide) ?_ ?_ rfl
   all_goals first|(simp[Ab,Ac,pickOb];done)|rfl
 ·rintro e s hp
  obtain⟨rfl,hw⟩:=hp
  refine⟨_,hw,?_⟩
  try simp only[nm]
  replace h:=ltE h;obtain⟨v7,e7,h⟩:=h
  rw[← e7]
  cases v7 with
  |true =>
   replace h:=iteT rfl h
   refine AW.cond_true (by simp) ?_
   apply AW.step
   ·simp
    intros;rfl
   obtain rfl:=oi h
   refine AW.ret ?_
   refine Left.plain hnb (by simp[Tryz.f45,resV,resC,comp];rfl) rfl rfl ?_
   simp
  |false =>
   replace h:=iteF rfl h
   refine AW.cond_false (by simp) ?_
   refine AW.skip ?_
   try simp only[nm]
   refine AW.seq ?_
   apply AW.step
   ·simp
    intros;rfl
   refine AW.block ?_
   replace h:=bnE h;obtain⟨y9,g9,h⟩:=h
   refine AW.iterP g9 (mk:=fun gh ls q=>(⟨[(2,.l (.p 0 0)),(3,.l (.p 1 0)),(5,.l (.s (.int .i64 q)))],[some ⟨36,2,false,none,[.d false 1 (encI a0.heard),.d false 1 (encLI a0.says)]⟩,some ⟨36,2,false,none,[.d false 1 (encI a1.heard),.d false 1 (encLI a1.says)]⟩],40,gh,ls⟩:St)) (N:=fun gh ls=>(sp (xP 0 (cx:=cx) (fun _=>(⟨[],[],40,gh,ls⟩:St))) (rP (cx:=cx) (P:=Tryz.prog) Tryz.f45 (fun q=>.l (.s (.bool q))) (fun q=>[])))) ?_ (noS noX noR) ?_ ?_
   ·refine Weak.mixN [some 0,some 1] hn0 (by decide) ?_ ?_ rfl
    all_goals first|(simp[Ab,Ac,pickOb];done)|rfl
   ·clear h;intro y8 y10 h
    refine AW.seq ?_
    replace h:=ltE h;obtain⟨v11,e11,h⟩:=h
    replace h:=ltE h;obtain⟨v12,e12,h⟩:=h
    apply AW.step
    ·simp[Aa e11,← e12]
     intros;rfl
    cases v12 with
    |true =>
     replace h:=iteT rfl h
     refine AW.cond_true (by simp) ?_
     refine AW.skip ?_
     try simp only[nm]
     refine AW.seq ?_
     refine AW.block ?_
     replace h:=bnE h;obtain⟨v13,e13,h⟩:=h
     replace h:=bnE h;obtain⟨v14,e14,h⟩:=h
     replace h:=bnE h;obtain⟨v15,e15,h⟩:=h
     replace h:=ltE h;obtain⟨v16,e16,h⟩:=h
     apply AW.drawnP (V:=[_,_,_,_,_,_,_,_,_,_]) mixed [⟨[0],[],[(2,none)],false⟩,⟨[0],[0],[(28,some 0)],false⟩,⟨[0],[],[(5,none)],false⟩,⟨[0],[0,1,2],[(29,some 1),(30,some 2)],false⟩,⟨[0],[0,1,2,3],[(31,some 3)],false⟩,⟨[0],[],[(3,none)],false⟩,⟨[0],[5],[(33,some 5)],false⟩,⟨[0],[],[(5,none)],false⟩,⟨[0],[5,6,7],[(34,some 6),(35,some 7)],false⟩,⟨[0],[5,6,7,8],[(36,some 8)],false⟩,⟨[],[0,1,2,3,4,5,6,7,8,9],[],false⟩,⟨[],[0,1,2,3,4,5,6,7,8,9,10],[],false⟩] 10 (by kernel_rfl) (by kernel_rfl)
     ·refine⟨?_,?_,?_,?_,?_,?_,?_,?_,?_,?_,trivial⟩
      iterate 10 (· intro tm hr;simp[AllL,rdV] at hr;simp[hr,Ad e13,Ad e14,← e16];intros;first|exact KD.mk|exact KD.mkN)
     ·rfl
     ·simp[tmD,putD,Ad e13,Ad e14,← e16];rfl
     ·simp[Ad e13,Ad e14,← e16]
      intros
      refine Ae E0 (FA e15) rfl ⟨.same rfl,.same rfl,trivial⟩ ?_
      try simp[Ad e13,Ad e14,← e16]
      intros;rfl
     cases v16 with
     |true =>
      replace h:=iteT rfl h
      refine AW.cond_true (by simp) ?_
      apply AW.step
      ·simp
       intros;rfl
      obtain rfl:=oi h
      refine AW.ret ?_
      try simp only[nm]
      refine rP_i ?_
      refine Left.plain hnb (by simp[Tryz.f45,resV,resC,comp];rfl) rfl rfl ?_
      simp
     |false =>
      replace h:=iteF rfl h
      refine AW.cond_false (by simp) ?_
      refine AW.skip ?_
      try simp only[nm]
      replace h:=ltE h;obtain⟨v17,e17,h⟩:=h
      apply AW.last
      ·simp[← e17]
       intros;rfl
      obtain rfl:=oi h
      refine nP_i ?_
      refine Weak.mixN [some 0,some 1] hn0 (by decide) ?_ ?_ rfl
      all_goals first|(simp[Ab,Ac,pickOb];done)|rfl
    |false =>
     replace h:=iteF rfl h
     refine AW.cond_false (by simp) ?_
     refine AW.exit ?_
     try simp only[nm]
     obtain rfl:=oi h
     try simp only[sp_l,sp_r]
     refine xP_i ?_
     refine Weak.mixN [] hn0 (by decide) ?_ ?_ rfl
     all_goals first|(simp[Ab,Ac,pickOb];done)|rfl
   ·rintro e s hp
    rcases y9 with y18|y19
    ·replace h:=smL h
     obtain⟨rfl,hw⟩:=hp
     refine⟨_,hw,?_⟩
     try simp only[nm]
     apply AW.step
     ·simp
      intros;rfl
     obtain rfl:=oi h
     refine AW.ret ?_
     refine Left.plain hnb (by simp[Tryz.f45,resV,resC,comp];rfl) rfl rfl ?_
     simp
    ·replace h:=smR h
     obtain⟨rfl,hl⟩:=hp
     refine⟨_,Weak.refl _,?_⟩
     obtain rfl:=oi h
     exact hl
theorem Fi:Enters Tryz.prog 45:=enters Tryz.func45 (by kernel_rfl) rfl
def BI (n:Nat) (a0:Node) (a1:Node):Option Bool :=
bn (lt (neI a0.count a1.count) fun v2 =>
ite' v2 (some (true)) (lt (neI a0.id a1.id) fun v3 =>
ite' v3 (some (true)) (lt (neI a0.master a1.master) fun v4 =>
ite' v4 (some (true)) (lt (neI a0.epoch a1.epoch) fun v5 =>
ite' v5 (some (true)) (lt (neI a0.voted a1.voted) fun v6 =>
ite' v6 (some (true)) (lt (neI a0.last a1.last) fun v7 =>
ite' v7 (some (true)) (lt (neI a0.asked a1.asked) fun v8 =>
ite' v8 (some (true)) (lt (neI a0.wait a1.wait) fun v9 =>
ite' v9 (some (true)) (lt (lenI a0.moves) fun v10 =>
lt (lenI a1.moves) fun v11 =>
lt (neI v10 v11) fun v12 =>
ite' v12 (some (true)) (lt (lenI a0.seen) fun v13 =>
lt (lenI a1.seen) fun v14 =>
lt (neI v13 v14) fun v15 =>
some (v15))))))))))) fun (y1:Bool) =>
lt (y1) fun v16 =>
ite' v16 (some false) (bn (iter n (fun (y17:Int) =>
lt (lenI a0.moves) fun v20 =>
lt (ltI y17 v20) fun v21 =>
ite' v21 (bn (nth a0.moves y17) fun v22 =>
bn (nth a1.moves y17) fun v23 =>
lt (notB (andB (eqI v22.slot v23.slot) (andB (eqI v22.to v23.to) (andB (eqI v22.num v23.num) (andB (eqS v22.key v23.key) true))))) fun v24 =>
ite' v24 (some (.inr (.inr false))) (lt (addI .i64 y17 1) fun v25 =>
some (.inl v25))) (some (.inr (.inl ())))) 0) fun (y18:Unit ⊕ Bool) =>
sm y18 (fun y26=>bn (iter n (fun (y28:Int) =>
lt (lenI a0.seen) fun v31 =>
lt (ltI y28 v31) fun v32 =>
ite' v32 (bn (nth a0.seen y28) fun v33 =>
bn (nth a1.seen y28) fun v34 =>
lt (notB (andB (eqI v33.node v34.node) (andB (eqI v33.slot v34.slot) (andB (eqI v33.num v34.num) true)))) fun v35 =>
ite' v35 (some (.inr (.inr false))) (lt (addI .i64 y28 1) fun v36 =>
some (.inl v36))) (some (.inr (.inl ())))) 0) fun (y29:Unit ⊕ Bool) =>
sm y29 (fun y37=>bn (bn (BL n a0.claims a1.claims) fun v40 =>
ite' v40 (bn (Cf n a0.db a1.db) fun v41 =>
ite' v41 (bn (Cg n a0.feed a1.feed) fun v42 =>
ite' v42 (bn (B2 n a0.watch a1.watch) fun v43 =>
ite' v43 (bn (CG n a0.votes a1.votes) fun v44 =>
some (v44)) (some (false))) (some (false))) (some (false))) (some (false))) fun (y39:Bool) =>
some y39) (fun y38=>some y38)) (fun y27=>some y27))
theorem AN {n:Nat} {a0:Node} {a1:Node} {r:Bool} (h:BI n a0 a1=some r):Sound Tryz.prog 14 [.g [.s (.int .i64 a0.count),.s (.int .i64 a0.id),.s (.int .i64 a0.master),.s (.int .i64 a0.epoch),.s (.int .i64 a0.voted),.d false 4 (encClaim a0.claims),.d false 6 (encPair a0.db),.d false 4 (encMove a0.moves),.s (.int .i64 a0.last),.d false 3 (encSeen a0.seen),.s (.int .i64 a0.feed.rid.node),.s (.int .i64 a0.feed.rid.epoch),.s (.int .i64 a0.feed.off),.d false 7 (encEffect a0.feed.back),.s (.int .i64 a0.feed.prev.node),.s (.int .i64 a0.feed.prev.epoch),.s (.int .i64 a0.feed.upto),.d false 1 (encI a0.watch.heard),.d false 1 (encLI a0.watch.says),.s (.int .i64 a0.asked),.d false 1 (encI a0.votes),.s (.int .i64 a0.wait)],.g [.s (.int .i64 a1.count),.s (.int .i64 a1.id),.s (.int .i64 a1.master),.s (.int .i64 a1.epoch),.s (.int .i64 a1.voted),.d false 4 (encClaim a1.claims),.d false 6 (encPair a1.db),.d false 4 (encMove a1.moves),.s (.int .i64 a1.last),.d false 3 (encSeen a1.seen),.s (.int .i64 a1.feed.rid.node),.s (.int .i64 a1.feed.rid.epoch),.s (.int .i64 a1.feed.off),.d false 7 (encEffect a1.feed.back),.s (.int .i64 a1.feed.prev.node),.s (.int .i64 a1.feed.prev.epoch),.s (.int .i64 a1.feed.upto),.d false 1 (encI a1.watch.heard),.d false 1 (encLI a1.watch.says),.s (.int .i64 a1.asked),.d false 1 (encI a1.votes),.s (.int .i64 a1.wait)]] [] (.l (.s (.bool r))) []:=by
 unfold BI at h
 refine Sound.of_aw (fn:=Tryz.f14) (c:=_) Tryz.func14 rfl (by simp[Tryz.f14]) fun cx hG hnb=>?_
 rw[show Tryz.f14.ntmps=148 from rfl]
 have hn0:cx.nb=0:=hnb
 simp only[An,initTm,List.map_cons,List.map_nil]
 apply AW.step
 ·simp
  intros;rfl
 refine AW.seq ?_
 replace h:=bnE h;obtain⟨y1,g1,h⟩:=h
 refine AW.flow (p:=fun gh ls=>(nP (cx:=cx) (fun q=>(⟨[(2,.l (.p 0 0)),(3,.l (.p 1 0)),(78,.l (.s (.bool q)))],[some ⟨38,22,false,none,[.s (.int .i64 a0.count),.s (.int .i64 a0.id),.s (.int .i64 a0.master),.s (.int .i64 a0.epoch),.s (.int .i64 a0.voted),.d false 4 (encClaim a0.claims),.d false 6 (encPair a0.db),.d false 4 (encMove a0.moves),.s (.int .i64 a0.last),.d false 3 (encSeen a0.seen),.s (.int .i64 a0.feed.rid.node),.s (.int .i64 a0.feed.rid.epoch),.s (.int .i64 a0.feed.off),.d false 7 (encEffect a0.feed.back),.s (.int .i64 a0.feed.prev.node),.s (.int .i64 a0.feed.prev.epoch),.s (.int .i64 a0.feed.upto),.d false 1 (encI a0.watch.heard),.d false 1 (encLI a0.watch.says),.s (.int .i64 a0.asked),.d false 1 (encI a0.votes),.s (.int .i64 a0.wait)]⟩,some ⟨38,22,false,none,[.s (.int .i64 a1.count),.s (.int .i64 a1.id),.s (.int .i64 a1.master),.s (.int .i64 a1.epoch),.s (.int .i64 a1.voted),.d false 4 (encClaim a1.claims),.d false 6 (encPair a1.db),.d false 4 (encMove a1.moves),.s (.int .i64 a1.last),.d false 3 (encSeen a1.seen),.s (.int .i64 a1.feed.rid.node),.s (.int .i64 a1.feed.rid.epoch),.s (.int .i64 a1.feed.off),.d false 7 (encEffect a1.feed.back),.s (.int .i64 a1.feed.prev.node),.s (.int .i64 a1.feed.prev.epoch),.s (.int .i64 a1.feed.upto),.d false 1 (encI a1.watch.heard),.d false 1 (encLI a1.watch.says),.s (.int .i64 a1.asked),.d false 1 (encI a1.votes),.s (.int .i64 a1.wait)]⟩],148,gh,ls⟩:St))) y1) ?_ ?_
 ·replace h:=g1;clear g1
  replace h:=ltE h;obtain⟨v2,e2,h⟩:=h
  cases v2 with
  |true =>
   replace h:=iteT rfl h
   apply AW.last
   ·simp[← e2]
    intros;rfl
   obtain rfl:=oi h
   refine nP_i ?_
   refine Weak.mixN [some 0,some 1] hn0 (by decide) ?_ ?_ rfl
   all_goals first|(simp[Ab,Ac,pickOb];done)|rfl
  |false =>
   replace h:=iteF rfl h
   replace h:=ltE h;obtain⟨v3,e3,h⟩:=h
   cases v3 with
   |true =>
    replace h:=iteT rfl h
    apply AW.last
    ·simp[← e2,← e3]
     intros;rfl
    obtain rfl:=oi h
    refine nP_i ?_
    refine Weak.mixN [some 0,some 1] hn0 (by decide) ?_ ?_ rfl
    all_goals first|(simp[Ab,Ac,pickOb];done)|rfl
   |false =>
    replace h:=iteF rfl h
    replace h:=ltE h;obtain⟨v4,e4,h⟩:=h
    cases v4 with
    |true =>
     replace h:=iteT rfl h
     apply AW.last
     ·simp[← e2,← e3,← e4]
      intros;rfl
     obtain rfl:=oi h
     refine nP_i ?_
     refine Weak.mixN [some 0,some 1] hn0 (by decide) ?_ ?_ rfl
     all_goals first|(simp[Ab,Ac,pickOb];done)|rfl
    |false =>
     replace h:=iteF rfl h
     replace h:=ltE h;obtain⟨v5,e5,h⟩:=h
     cases v5 with
     |true =>
      replace h:=iteT rfl h
      apply AW.last
      ·simp[← e2,← e3,← e4,← e5]
       intros;rfl
      obtain rfl:=oi h
      refine nP_i ?_
      refine Weak.mixN [some 0,some 1] hn0 (by decide) ?_ ?_ rfl
      all_goals first|(simp[Ab,Ac,pickOb];done)|rfl
     |false =>
      replace h:=iteF rfl h
      replace h:=ltE h;obtain⟨v6,e6,h⟩:=h
      cases v6 with
      |true =>
       replace h:=iteT rfl h
       apply AW.last
       ·simp[← e2,← e3,← e4,← e5,← e6]
        intros;rfl
       obtain rfl:=oi h
       refine nP_i ?_
       refine Weak.mixN [some 0,some 1] hn0 (by decide) ?_ ?_ rfl
       all_goals first|(simp[Ab,Ac,pickOb];done)|rfl
      |false =>
       replace h:=iteF rfl h
       replace h:=ltE h;obtain⟨v7,e7,h⟩:=h
       cases v7 with
       |true =>
        replace h:=iteT rfl h
        apply AW.last
        ·simp[← e2,← e3,← e4,← e5,← e6,← e7]
         intros;rfl
        obtain rfl:=oi h
        refine nP_i ?_
        refine Weak.mixN [some 0,some 1] hn0 (by decide) ?_ ?_ rfl
        all_goals first|(simp[Ab,Ac,pickOb];done)|rfl
       |false =>
        replace h:=iteF rfl h
        replace h:=ltE h;obtain⟨v8,e8,h⟩:=h
        cases v8 with
        |true =>
         replace h:=iteT rfl h
         apply AW.last
         ·simp[← e2,← e3,← e4,← e5,← e6,← e7,← e8]
          intros;rfl
         obtain rfl:=oi h
         refine nP_i ?_
         refine Weak.mixN [some 0,some 1] hn0 (by decide) ?_ ?_ rfl
         all_goals first|(simp[Ab,Ac,pickOb];done)|rfl
        |false =>
         replace h:=iteF rfl h
         replace h:=ltE h;obtain⟨v9,e9,h⟩:=h
         cases v9 with
         |true =>
          replace h:=iteT rfl h
          apply AW.last
          ·simp[← e2,← e3,← e4,← e5,← e6,← e7,← e8,← e9]
           intros;rfl
          obtain rfl:=oi h
          refine nP_i ?_
          refine Weak.mixN [some 0,some 1] hn0 (by decide) ?_ ?_ rfl
          all_goals first|(simp[Ab,Ac,pickOb];done)|rfl
         |false =>
          replace h:=iteF rfl h
          replace h:=ltE h;obtain⟨v10,e10,h⟩:=h
          replace h:=ltE h;obtain⟨v11,e11,h⟩:=h
          replace h:=ltE h;obtain⟨v12,e12,h⟩:=h
          cases v12 with
          |true =>
           replace h:=iteT rfl h
           apply AW.last
           ·simp[← e2,← e3,← e4,← e5,← e6,← e7,← e8,← e9,Aa e10,Aa e11,← e12]
            intros;rfl
           obtain rfl:=oi h
           refine nP_i ?_
           refine Weak.mixN [some 0,some 1] hn0 (by decide) ?_ ?_ rfl
           all_goals first|(simp[Ab,Ac,pickOb];done)|rfl
          |false =>
           replace h:=iteF rfl h
           replace h:=ltE h;obtain⟨v13,e13,h⟩:=h
           replace h:=ltE h;obtain⟨v14,e14,h⟩:=h
           replace h:=ltE h;obtain⟨v15,e15,h⟩:=h
           apply AW.last
           ·simp[← e2,← e3,← e4,← e5,← e6,← e7,← e8,← e9,Aa e10,Aa e11,← e12,Aa e13,Aa e14,← e15]
            intros;rfl
           obtain rfl:=oi h
           refine nP_i ?_
           refine Weak.mixN [some 0,some 1] hn0 (by decide) ?_ ?_ rfl
           all_goals first|(simp[Ab,Ac,pickOb];done)|rfl
 ·rintro e s hp
  obtain⟨rfl,hw⟩:=hp
  refine⟨_,hw,?_⟩
  try simp only[nm]
  replace h:=ltE h;obtain⟨v16,e16,h⟩:=h
  rw[← e16]
  cases v16 with
  |true =>
   replace h:=iteT rfl h
   refine AW.cond_true (by simp) ?_
   apply AW.step
   ·simp
    intros;rfl
   obtain rfl:=oi h
   refine AW.ret ?_
   refine Left.plain hnb (by simp[Tryz.f14,resV,resC,comp];rfl) rfl rfl ?_
   simp
  |false =>
   replace h:=iteF rfl h
   refine AW.cond_false (by simp) ?_
   refine AW.skip ?_
   try simp only[nm]
   refine AW.seq ?_
   apply AW.step
   ·simp
    intros;rfl
   refine AW.block ?_
   replace h:=bnE h;obtain⟨y18,g18,h⟩:=h
   refine AW.iterP g18 (mk:=fun gh ls q=>(⟨[(2,.l (.p 0 0)),(3,.l (.p 1 0)),(5,.l (.s (.int .i64 q)))],[some ⟨38,22,false,none,[.s (.int .i64 a0.count),.s (.int .i64 a0.id),.s (.int .i64 a0.master),.s (.int .i64 a0.epoch),.s (.int .i64 a0.voted),.d false 4 (encClaim a0.claims),.d false 6 (encPair a0.db),.d false 4 (encMove a0.moves),.s (.int .i64 a0.last),.d false 3 (encSeen a0.seen),.s (.int .i64 a0.feed.rid.node),.s (.int .i64 a0.feed.rid.epoch),.s (.int .i64 a0.feed.off),.d false 7 (encEffect a0.feed.back),.s (.int .i64 a0.feed.prev.node),.s (.int .i64 a0.feed.prev.epoch),.s (.int .i64 a0.feed.upto),.d false 1 (encI a0.watch.heard),.d false 1 (encLI a0.watch.says),.s (.int .i64 a0.asked),.d false 1 (encI a0.votes),.s (.int .i64 a0.wait)]⟩,some ⟨38,22,false,none,[.s (.int .i64 a1.count),.s (.int .i64 a1.id),.s (.int .i64 a1.master),.s (.int .i64 a1.epoch),.s (.int .i64 a1.voted),.d false 4 (encClaim a1.claims),.d false 6 (encPair a1.db),.d false 4 (encMove a1.moves),.s (.int .i64 a1.last),.d false 3 (encSeen a1.seen),.s (.int .i64 a1.feed.rid.node),.s (.int .i64 a1.feed.rid.epoch),.s (.int .i64 a1.feed.off),.d false 7 (encEffect a1.feed.back),.s (.int .i64 a1.feed.prev.node),.s (.int .i64 a1.feed.prev.epoch),.s (.int .i64 a1.feed.upto),.d false 1 (encI a1.watch.heard),.d false 1 (encLI a1.watch.says),.s (.int .i64 a1.asked),.d false 1 (encI a1.votes),.s (.int .i64 a1.wait)]⟩],148,gh,ls⟩:St)) (N:=fun gh ls=>(sp (xP 0 (cx:=cx) (fun _=>(⟨[(2,.l (.p 0 0)),(3,.l (.p 1 0))],[some ⟨38,22,false,none,[.s (.int .i64 a0.count),.s (.int .i64 a0.id),.s (.int .i64 a0.master),.s (.int .i64 a0.epoch),.s (.int .i64 a0.voted),.d false 4 (encClaim a0.claims),.d false 6 (encPair a0.db),.d false 4 (encMove a0.moves),.s (.int .i64 a0.last),.d false 3 (encSeen a0.seen),.s (.int .i64 a0.feed.rid.node),.s (.int .i64 a0.feed.rid.epoch),.s (.int .i64 a0.feed.off),.d false 7 (encEffect a0.feed.back),.s (.int .i64 a0.feed.prev.node),.s (.int .i64 a0.feed.prev.epoch),.s (.int .i64 a0.feed.upto),.d false 1 (encI a0.watch.heard),.d false 1 (encLI a0.watch.says),.s (.int .i64 a0.asked),.d false 1 (encI a0.votes),.s (.int .i64 a0.wait)]⟩,some ⟨38,22,false,none,[.s (.int .i64 a1.count),.s (.int .i64 a1.id),.s (.int .i64 a1.master),.s (.int .i64 a1.epoch),.s (.int .i64 a1.voted),.d false 4 (encClaim a1.claims),.d false 6 (encPair a1.db),.d false 4 (encMove a1.moves),.s (.int .i64 a1.last),.d false 3 (encSeen a1.seen),.s (.int .i64 a1.feed.rid.node),.s (.int .i64 a1.feed.rid.epoch),.s (.int .i64 a1.feed.off),.d false 7 (encEffect a1.feed.back),.s (.int .i64 a1.feed.prev.node),.s (.int .i64 a1.feed.prev.epoch),.s (.int .i64 a1.feed.upto),.d false 1 (encI a1.watch.heard),.d false 1 (encLI a1.watch.says),.s (.int .i64 a1.asked),.d false 1 (encI a1.votes),.s (.int .i64 a1.wait)]⟩],148,gh,ls⟩:St))) (rP (cx:=cx) (P:=Tryz.prog) Tryz.f14 (fun q=>.l (.s (.bool q))) (fun q=>[])))) ?_ (noS noX noR) ?_ ?_
   ·refine Weak.mixN [some 0,some 1] hn0 (by decide) ?_ ?_ rfl
    all_goals first|(simp[Ab,Ac,pickOb];done)|rfl
   ·clear h;intro y17 y19 h
    refine AW.seq ?_
    replace h:=ltE h;obtain⟨v20,e20,h⟩:=h
    replace h:=ltE h;obtain⟨v21,e21,h⟩:=h
    apply AW.step
    ·simp[Aa e20,← e21]
     intros;rfl
    cases v21 with
    |true =>
     replace h:=iteT rfl h
     refine AW.cond_true (by simp) ?_
     refine AW.skip ?_
     try simp only[nm]
     refine AW.seq ?_
     refine AW.block ?_
     replace h:=bnE h;obtain⟨v22,e22,h⟩:=h
     replace h:=bnE h;obtain⟨v23,e23,h⟩:=h
     replace h:=ltE h;obtain⟨v24,e24,h⟩:=h
     apply AW.drawnP (V:=[_,_,_,_,_,_,_,_,_,_]) mixed [⟨[0],[],[(2,none)],false⟩,⟨[0],[0],[(86,some 0)],false⟩,⟨[0],[],[(5,none)],false⟩,⟨[0],[0,1,2],[(87,some 1),(88,some 2)],false⟩,⟨[0],[0,1,2,3],[(89,some 3)],false⟩,⟨[0],[],[(3,none)],false⟩,⟨[0],[5],[(91,some 5)],false⟩,⟨[0],[],[(5,none)],false⟩,⟨[0],[5,6,7],[(92,some 6),(93,some 7)],false⟩,⟨[0],[5,6,7,8],[(94,some 8)],false⟩,⟨[],[0,1,2,3,4,5,6,7,8,9],[],false⟩] 10 (by kernel_rfl) (by kernel_rfl)
     ·refine⟨?_,?_,?_,?_,?_,?_,?_,?_,?_,?_,trivial⟩
      iterate 10 (· intro tm hr;simp[AllL,rdV] at hr;simp[hr,Ad e22,Ad e23,← e24];intros;first|exact KD.mk|exact KD.mkN)
     ·rfl
     ·simp[tmD,putD,Ad e22,Ad e23,← e24];rfl
     ·simp[Ad e22,Ad e23,← e24]
      intros;rfl
     cases v24 with
     |true =>
      replace h:=iteT rfl h
      refine AW.cond_true (by simp) ?_
      apply AW.step
      ·simp
       intros;rfl
      obtain rfl:=oi h
      refine AW.ret ?_
      try simp only[nm]
      refine rP_i ?_
      refine Left.plain hnb (by simp[Tryz.f14,resV,resC,comp];rfl) rfl rfl ?_
      simp
     |false =>
      replace h:=iteF rfl h
      refine AW.cond_false (by simp) ?_
      refine AW.skip ?_
      try simp only[nm]
      replace h:=ltE h;obtain⟨v25,e25,h⟩:=h
      apply AW.last
      ·simp[← e25]
       intros;rfl
      obtain rfl:=oi h
      refine nP_i ?_
      refine Weak.mixN [some 0,some 1] hn0 (by decide) ?_ ?_ rfl
      all_goals first|(simp[Ab,Ac,pickOb];done)|rfl
    |false =>
     replace h:=iteF rfl h
     refine AW.cond_false (by simp) ?_
     refine AW.exit ?_
     try simp only[nm]
     obtain rfl:=oi h
     try simp only[sp_l,sp_r]
     refine xP_i ?_
     refine Weak.mixN [some 0,some 1] hn0 (by decide) ?_ ?_ rfl
     all_goals first|(simp[Ab,Ac,pickOb];done)|rfl
   ·rintro e s hp
    rcases y18 with y26|y27
    ·replace h:=smL h
     obtain⟨rfl,hw⟩:=hp
     refine⟨_,hw,?_⟩
     try simp only[nm]
     refine AW.seq ?_
     apply AW.step
     ·simp
      intros;rfl
     refine AW.block ?_
     replace h:=bnE h;obtain⟨y29,g29,h⟩:=h
     refine AW.iterP g29 (mk:=fun gh ls q=>(⟨[(2,.l (.p 0 0)),(3,.l (.p 1 0)),(6,.l (.s (.int .i64 q)))],[some ⟨38,22,false,none,[.s (.int .i64 a0.count),.s (.int .i64 a0.id),.s (.int .i64 a0.master),.s (.int .i64 a0.epoch),.s (.int .i64 a0.voted),.d false 4 (encClaim a0.claims),.d false 6 (encPair a0.db),.d false 4 (encMove a0.moves),.s (.int .i64 a0.last),.d false 3 (encSeen a0.seen),.s (.int .i64 a0.feed.rid.node),.s (.int .i64 a0.feed.rid.epoch),.s (.int .i64 a0.feed.off),.d false 7 (encEffect a0.feed.back),.s (.int .i64 a0.feed.prev.node),.s (.int .i64 a0.feed.prev.epoch),.s (.int .i64 a0.feed.upto),.d false 1 (encI a0.watch.heard),.d false 1 (encLI a0.watch.says),.s (.int .i64 a0.asked),.d false 1 (encI a0.votes),.s (.int .i64 a0.wait)]⟩,some ⟨38,22,false,none,[.s (.int .i64 a1.count),.s (.int .i64 a1.id),.s (.int .i64 a1.master),.s (.int .i64 a1.epoch),.s (.int .i64 a1.voted),.d false 4 (encClaim a1.claims),.d false 6 (encPair a1.db),.d false 4 (encMove a1.moves),.s (.int .i64 a1.last),.d false 3 (encSeen a1.seen),.s (.int .i64 a1.feed.rid.node),.s (.int .i64 a1.feed.rid.epoch),.s (.int .i64 a1.feed.off),.d false 7 (encEffect a1.feed.back),.s (.int .i64 a1.feed.prev.node),.s (.int .i64 a1.feed.prev.epoch),.s (.int .i64 a1.feed.upto),.d false 1 (encI a1.watch.heard),.d false 1 (encLI a1.watch.says),.s (.int .i64 a1.asked),.d false 1 (encI a1.votes),.s (.int .i64 a1.wait)]⟩],148,gh,ls⟩:St)) (N:=fun gh ls=>(sp (xP 2 (cx:=cx) (fun _=>(⟨[(2,.l (.p 0 0)),(3,.l (.p 1 0))],[some ⟨38,22,false,none,[.s (.int .i64 a0.count),.s (.int .i64 a0.id),.s (.int .i64 a0.master),.s (.int .i64 a0.epoch),.s (.int .i64 a0.voted),.d false 4 (encClaim a0.claims),.d false 6 (encPair a0.db),.d false 4 (encMove a0.moves),.s (.int .i64 a0.last),.d false 3 (encSeen a0.seen),.s (.int .i64 a0.feed.rid.node),.s (.int .i64 a0.feed.rid.epoch),.s (.int .i64 a0.feed.off),.d false 7 (encEffect a0.feed.back),.s (.int .i64 a0.feed.prev.node),.s (.int .i64 a0.feed.prev.epoch),.s (.int .i64 a0.feed.upto),.d false 1 (encI a0.watch.heard),.d false 1 (encLI a0.watch.says),.s (.int .i64 a0.asked),.d false 1 (encI a0.votes),.s (.int .i64 a0.wait)]⟩,some ⟨38,22,false,none,[.s (.int .i64 a1.count),.s (.int .i64 a1.id),.s (.int .i64 a1.master),.s (.int .i64 a1.epoch),.s (.int .i64 a1.voted),.d false 4 (encClaim a1.claims),.d false 6 (encPair a1.db),.d false 4 (encMove a1.moves),.s (.int .i64 a1.last),.d false 3 (encSeen a1.seen),.s (.int .i64 a1.feed.rid.node),.s (.int .i64 a1.feed.rid.epoch),.s (.int .i64 a1.feed.off),.d false 7 (encEffect a1.feed.back),.s (.int .i64 a1.feed.prev.node),.s (.int .i64 a1.feed.prev.epoch),.s (.int .i64 a1.feed.upto),.d false 1 (encI a1.watch.heard),.d false 1 (encLI a1.watch.says),.s (.int .i64 a1.asked),.d false 1 (encI a1.votes),.s (.int .i64 a1.wait)]⟩],148,gh,ls⟩:St))) (rP (cx:=cx) (P:=Tryz.prog) Tryz.f14 (fun q=>.l (.s (.bool q))) (fun q=>[])))) ?_ (noS noX noR) ?_ ?_
     ·refine Weak.mixN [some 0,some 1] hn0 (by decide) ?_ ?_ rfl
      all_goals first|(simp[Ab,Ac,pickOb];done)|rfl
     ·clear h;intro y28 y30 h
      refine AW.seq ?_
      replace h:=ltE h;obtain⟨v31,e31,h⟩:=h
      replace h:=ltE h;obtain⟨v32,e32,h⟩:=h
      apply AW.step
      ·simp[Aa e31,← e32]
       intros;rfl
      cases v32 with
      |true =>
       replace h:=iteT rfl h
       refine AW.cond_true (by simp) ?_
       refine AW.skip ?_
       try simp only[nm]
       refine AW.seq ?_
       refine AW.block ?_
       replace h:=bnE h;obtain⟨v33,e33,h⟩:=h
       replace h:=bnE h;obtain⟨v34,e34,h⟩:=h
       replace h:=ltE h;obtain⟨v35,e35,h⟩:=h
       apply AW.drawnP (V:=[_,_,_,_,_,_,_,_,_,_]) mixed [⟨[0],[],[(2,none)],false⟩,⟨[0],[0],[(104,some 0)],false⟩,⟨[0],[],[(6,none)],false⟩,⟨[0],[0,1,2],[(105,some 1),(106,some 2)],false⟩,⟨[0],[0,1,2,3],[(107,some 3)],false⟩,⟨[0],[],[(3,none)],false⟩,⟨[0],[5],[(109,some 5)],false⟩,⟨[0],[],[(6,none)],false⟩,⟨[0],[5,6,7],[(110,some 6),(111,some 7)],false⟩,⟨[0],[5,6,7,8],[(112,some 8)],false⟩,⟨[],[0,1,2,3,4,5,6,7,8,9],[],false⟩] 10 (by kernel_rfl) (by kernel_rfl)
       ·refine⟨?_,?_,?_,?_,?_,?_,?_,?_,?_,?_,trivial⟩
        iterate 10 (· intro tm hr;simp[AllL,rdV] at hr;simp[hr,Ad e33,Ad e34,← e35];intros;first|exact KD.mk|exact KD.mkN)
       ·rfl
       ·simp[tmD,putD,Ad e33,Ad e34,← e35];rfl
       ·simp[Ad e33,Ad e34,← e35]
        intros;rfl
       cases v35 with
       |true =>
        replace h:=iteT rfl h
        refine AW.cond_true (by simp) ?_
        apply AW.step
        ·simp
         intros;rfl
        obtain rfl:=oi h
        refine AW.ret ?_
        try simp only[nm]
        refine rP_i ?_
        refine Left.plain hnb (by simp[Tryz.f14,resV,resC,comp];rfl) rfl rfl ?_
        simp
       |false =>
        replace h:=iteF rfl h
        refine AW.cond_false (by simp) ?_
        refine AW.skip ?_
        try simp only[nm]
        replace h:=ltE h;obtain⟨v36,e36,h⟩:=h
        apply AW.last
        ·simp[← e36]
         intros;rfl
        obtain rfl:=oi h
        refine nP_i ?_
        refine Weak.mixN [some 0,some 1] hn0 (by decide) ?_ ?_ rfl
        all_goals first|(simp[Ab,Ac,pickOb];done)|rfl
      |false =>
       replace h:=iteF rfl h
       refine AW.cond_false (by simp) ?_
       refine AW.exit ?_
       try simp only[nm]
       obtain rfl:=oi h
       try simp only[sp_l,sp_r]
       refine xP_i ?_
       refine Weak.mixN [some 0,some 1] hn0 (by decide) ?_ ?_ rfl
       all_goals first|(simp[Ab,Ac,pickOb];done)|rfl
     ·rintro e s hp
      rcases y29 with y37|y38
      ·replace h:=smL h
       obtain⟨rfl,hw⟩:=hp
       refine⟨_,hw,?_⟩
       try simp only[nm]
       replace h:=bnE h;obtain⟨y39,g39,h⟩:=h
       refine AW.flow (p:=fun gh ls=>(nP (cx:=cx) (fun q=>(⟨[(4,.l (.s (.bool q)))],[],148,gh,ls⟩:St))) y39) ?_ ?_
       ·replace h:=g39;clear g39
        replace h:=bnE h;obtain⟨v40,e40,h⟩:=h
        cases v40 with
        |true =>
         replace h:=iteT rfl h
         replace h:=bnE h;obtain⟨v41,e41,h⟩:=h
         cases v41 with
         |true =>
          replace h:=iteT rfl h
          replace h:=bnE h;obtain⟨v42,e42,h⟩:=h
          cases v42 with
          |true =>
           replace h:=iteT rfl h
           replace h:=bnE h;obtain⟨v43,e43,h⟩:=h
           cases v43 with
           |true =>
            replace h:=iteT rfl h
            replace h:=bnE h;obtain⟨v44,e44,h⟩:=h
            apply AW.last
            ·simp
             intros
             refine Ae BM (BY e40) rfl ⟨.same rfl,.same rfl,trivial⟩ ?_
             try simp
             intros
             refine Ae CX (Dj e41) rfl ⟨.same rfl,.same rfl,trivial⟩ ?_
             try simp
             intros
             refine Ae Ec (Es e42) rfl ⟨.same rfl,.same rfl,trivial⟩ ?_
             try simp
             intros
             refine Ae Fi (FB e43) rfl ⟨.same rfl,.same rfl,trivial⟩ ?_
             try simp
             intros
             refine Ae E0 (FA e44) rfl ⟨.same rfl,.same rfl,trivial⟩ ?_
             try simp
             intros;rfl
            obtain rfl:=oi h
            refine nP_i ?_
            refine Weak.mixN [] hn0 (by decide) ?_ ?_ rfl
            all_goals first|(simp[Ab,Ac,pickOb];done)|rfl
           |false =>
            replace h:=iteF rfl h
            apply AW.last
            ·simp
             intros
             refine Ae BM (BY e40) rfl ⟨.same rfl,.same rfl,trivial⟩ ?_
             try simp
             intros
             refine Ae CX (Dj e41) rfl ⟨.same rfl,.same rfl,trivial⟩ ?_
             try simp
             intros
             refine Ae Ec (Es e42) rfl ⟨.same rfl,.same rfl,trivial⟩ ?_
             try simp
             intros
             refine Ae Fi (FB e43) rfl ⟨.same rfl,.same rfl,trivial⟩ ?_
             try simp
             intros;rfl
            obtain rfl:=oi h
            refine nP_i ?_
            refine Weak.mixN [] hn0 (by decide) ?_ ?_ rfl
            all_goals first|(simp[Ab,Ac,pickOb];done)|rfl
          |false =>
           replace h:=iteF rfl h
           apply AW.last
           ·simp
            intros
            refine Ae BM (BY e40) rfl ⟨.same rfl,.same rfl,trivial⟩ ?_
            try simp
            intros
            refine Ae CX (Dj e41) rfl ⟨.same rfl,.same rfl,trivial⟩ ?_
            try simp
            intros
            refine Ae Ec (Es e42) rfl ⟨.same rfl,.same rfl,trivial⟩ ?_
            try simp
            intros;rfl
           obtain rfl:=oi h
           refine nP_i ?_
           refine Weak.mixN [] hn0 (by decide) ?_ ?_ rfl
           all_goals first|(simp[Ab,Ac,pickOb];done)|rfl
         |false =>
          replace h:=iteF rfl h
          apply AW.last
          ·simp
           intros
           refine Ae BM (BY e40) rfl ⟨.same rfl,.same rfl,trivial⟩ ?_
           try simp
           intros
           refine Ae CX (Dj e41) rfl ⟨.same rfl,.same rfl,trivial⟩ ?_
           try simp
           intros;rfl
          obtain rfl:=oi h
          refine nP_i ?_
          refine Weak.mixN [] hn0 (by decide) ?_ ?_ rfl
          all_goals first|(simp[Ab,Ac,pickOb];done)|rfl
        |false =>
         replace h:=iteF rfl h
         apply AW.last
         ·simp
          intros
          refine Ae BM (BY e40) rfl ⟨.same rfl,.same rfl,trivial⟩ ?_
          try simp
          intros;rfl
         obtain rfl:=oi h
         refine nP_i ?_
         refine Weak.mixN [] hn0 (by decide) ?_ ?_ rfl
         all_goals first|(simp[Ab,Ac,pickOb];done)|rfl
       ·rintro e s hp
        obtain⟨rfl,hw⟩:=hp
        refine⟨_,hw,?_⟩
        try simp only[nm]
        obtain rfl:=oi h
        refine AW.ret ?_
        refine Left.plain hnb (by simp[Tryz.f14,resV,resC,comp];rfl) rfl rfl ?_
        simp
      ·replace h:=smR h
       obtain⟨rfl,hl⟩:=hp
       refine⟨_,Weak.refl _,?_⟩
       obtain rfl:=oi h
       exact hl
    ·replace h:=smR h
     obtain⟨rfl,hl⟩:=hp
     refine⟨_,Weak.refl _,?_⟩
     obtain rfl:=oi h
     exact hl
theorem AK:Enters Tryz.prog 14:=enters Tryz.func14 (by kernel_rfl) rfl
end Go.Proofs.YtlbdhlbbkibgpaaGreat
namespace Go.Proofs.YtlbdhlbbkibgpaaGreat
open Go Go.RowKit
end Go.Proofs.YtlbdhlbbkibgpaaGreat

namespace Go.Proofs.YtlbdhlbbkibgpaaGreat
open Go Go.RowKit
def big:Nat:=281474976710656
section
variable {α β γ:Type}
theorem LE {f:α→Option (α ⊕ β)} (Q:β→Prop) (I:Nat→α→Prop) (N:Nat)
  (h:∀ k a,k≤N→I k a→(∃ a',k<N∧f a=some (.inl a')∧I (k+1) a')∨∃ b,f a=some (.inr b)∧Q b) :
  ∀ (d k:Nat) (a:α),k+d=N→I k a→∀ n,d<n→∃ b,iter n f a=some b∧Q b
 |d,k,a,hd,hI,0,hn=>by omega
 |d,k,a,hd,hI,n+1,hn=>by
  rcases h k a (by omega) hI with ⟨a',hk,h1,h2⟩|⟨b,h1,h2⟩
  ·rw[NJ h1]
   match d with
   |0=>omega
   |d+1=>exact LE Q I N h d (k+1) a' (by omega) h2 n (by omega)
  ·exact⟨b,NK h1,h2⟩
theorem Kz {f:α→Option (α ⊕ β)} {a:α} (Q:β→Prop) (I:Nat→α→Prop) (N:Nat) (hN:N<big)
  (h0:I 0 a) (h:∀ k a,k≤N→I k a→(∃ a',k<N∧f a=some (.inl a')∧I (k+1) a')∨∃ b,f a=some (.inr b)∧Q b):∃ b,iter big f a=some b∧Q b :=
 LE Q I N h N 0 a (by omega) h0 big hN
theorem F9 {f:α→Option (α ⊕ β)} {a:α} {b:β} (s:Nat→α) (N:Nat) (hN:N<big) (h0:a=s 0) (h:∀ i,i<N→f (s i)=some (.inl (s (i+1)))) (he:f (s N)=some (.inr b)):iter big f a=some b:=by
 obtain⟨b',h1,h2⟩:=Kz (f:=f) (a:=a) (·=b) (fun k x=>x=s k) N hN h0 fun k x hk hx=>by
  subst hx
  by_cases hl:k<N
  ·exact .inl ⟨_,hl,h k hl,rfl⟩
  ·have:k=N:=by omega
   subst this
   exact .inr ⟨b,he,rfl⟩
 rw[h1,h2]
theorem A7 {f:α→Option (α ⊕ β)} {a:α} {k:β→Option γ} {r:Option γ} (b:β) (s:Nat→α) (N:Nat) (hN:N<big) (h0:a=s 0) (h:∀ i,i<N→f (s i)=some (.inl (s (i+1)))) (he:f (s N)=some (.inr b)) (hk:k b=r):bn (iter big f a) k=r:=by
 rw[F9 s N hN h0 h he]
 exact hk
theorem G6 {b:Bool} {k:Option β} (h:b=true):chk b k=k:=by subst h;rfl
def Rn (m:Option α) (Q:α→Prop):Prop:=∃ v,m=some v∧Q v
theorem Rn.some {v:α} {Q:α→Prop} (h:Q v):Rn (some v) Q:=⟨v,rfl,h⟩
theorem Rn.mono {m:Option α} {Q R:α→Prop} (h:Rn m Q) (hk:∀ v,Q v→R v):Rn m R:=⟨h.choose,h.choose_spec.1,hk _ h.choose_spec.2⟩
theorem Rn.lt {a:α} {k:α→Option β} {Q:β→Prop} (h:Rn (k a) Q):Rn (lt a k) Q:=h
theorem Rn.bn {m:Option α} {k:α→Option β} {P:α→Prop} {Q:β→Prop} (h:Rn m P) (hk:∀ v,P v→Rn (k v) Q):Rn (bn m k) Q:=by
 obtain⟨v,rfl,hv⟩:=h
 exact hk v hv
theorem Rn.bnE {m:Option α} {k:α→Option β} {v:α} {Q:β→Prop} (h:m=Option.some v) (hk:Rn (k v) Q):Rn (Go.Proofs.YtlbdhlbbkibgpaaGreat.bn m k) Q:=by
 subst h
 exact hk
theorem Rn.chk {b:Bool} {k:Option β} {Q:β→Prop} (h:b=true) (hk:Rn k Q):Rn (chk b k) Q:=by
 subst h
 exact hk
theorem Rn.room {m c:Nat} {k:Option β} {Q:β→Prop} (h:m*c≤140737488355328) (h2:m≤140737488355328) (hk:Rn k Q):Rn (Go.Proofs.YtlbdhlbbkibgpaaGreat.chk (Go.Proofs.YtlbdhlbbkibgpaaGreat.room m c) k) Q:=Rn.chk (by simp[Go.Proofs.YtlbdhlbbkibgpaaGreat.room,h,h2]) hk
theorem Rn.ite {b:Bool} {x y:Option β} {Q:β→Prop} (h:b=true→Rn x Q) (h2:b=false→Rn y Q):Rn (ite' b x y) Q:=by
 cases b
 ·exact h2 rfl
 ·exact h rfl
theorem Rn.sm {s:α ⊕ β} {f:α→Option γ} {g:β→Option γ} {Q:γ→Prop} (h:∀ a,s=.inl a→Rn (f a) Q) (h2:∀ b,s=.inr b→Rn (g b) Q):Rn (sm s f g) Q:=by
 cases s with
 |inl a=>exact h a rfl
 |inr b=>exact h2 b rfl
theorem Rn.iter {f:α→Option (α ⊕ β)} {a:α} (Q:β→Prop) (I:Nat→α→Prop) (N:Nat) (hN:N<big) (h0:I 0 a)
  (h:∀ k a,k≤N→I k a→Rn (f a) fun x=>match x with|.inl a'=>k<N∧I (k+1) a'|.inr b=>Q b):Rn (iter big f a) Q:=by
 refine Kz Q I N hN h0 fun k a hk hI=>?_
 obtain⟨x,h1,h2⟩:=h k a hk hI
 cases x with
 |inl a'=>exact .inl ⟨a',h2.1,h1,h2.2⟩
 |inr b=>exact .inr ⟨b,h1,h2⟩
theorem AR {m c:Nat} {k:Option β} (h:m*c≤140737488355328) (h2:m≤140737488355328):chk (room m c) k=k:=G6 (by simp[room,h,h2])
theorem C9 {c:Nat} {l:List α} {k:Option β} (h:l.length*c≤140737488355328) (h2:l.length≤140737488355328):chk (small c l) k=k:=G6 (by simp[small,h,h2])
theorem Ag (l:List α):lenI l=(l.length:Int):=rfl
theorem Aq {l:List α} {i:Nat} (h:i<l.length):nth l (i:Int)=some l[i]:=by rw[Iw,List.getElem?_eq_getElem h]
theorem HH {l:List α} {i:Nat} (h:i≤l.length):segl l (i:Int)=some (l.drop i):=by simp[segl,h]
theorem KA {l:List α} {i:Nat} (h:i≤l.length):segh l (i:Int)=some (l.take i):=by simp[segh,h]
theorem Ja {l:List α} {i j:Nat} (h:i≤j) (h2:j≤l.length):seglh l (i:Int) (j:Int)=some ((l.drop i).take (j - i)):=by
 have h3:(i:Int)≤j:=by omega
 have h4:(j:Int)≤l.length:=by omega
 simp[seglh,seg,h3,h4]
end
theorem wrap64 {a:Int} (h:-9223372036854775808≤a) (h2:a≤9223372036854775807):IntKind.i64.wrap a=a:=by
 simp[IntKind.wrap,IntKind.bits,IntKind.signed]
 omega
theorem Ar {a b:Int} (h:-9223372036854775808≤a+b) (h2:a+b≤9223372036854775807):addI .i64 a b=a+b:=wrap64 h h2
theorem IL {a b:Int} (h:-9223372036854775808≤a - b) (h2:a - b≤9223372036854775807):subI .i64 a b=a - b:=wrap64 h h2
theorem Ch {a:Int} (h:-9223372036854775808≤a) (h2:a≤9223372036854775807):cvI .i64 a=a:=wrap64 h h2
end Go.Proofs.YtlbdhlbbkibgpaaGreat
namespace Go.Proofs.YtlbdhlbbkibgpaaGreat
open Go Go.RowKit
@[simp] theorem Ga (a:ByteArray):eqS a a=true:=by simp[eqS]
@[simp] theorem Fj (a:ByteArray):neS a a=false:=by simp[neS]
@[simp] theorem Fk (a:Int):eqI a a=true:=by simp[eqI]
@[simp] theorem Cl (a:Int):neI a a=false:=by simp[neI]
@[simp] theorem NQ (a:Bool):neB a a=false:=by simp[neB]
@[simp] theorem FZ:andB true true=true:=rfl
theorem A4 {a b:Int} (h:a<b):ltI a b=true:=by simp[ltI,h]
theorem A5 {a b:Int} (h:¬ a<b):ltI a b=false:=by simp[ltI];omega
def okI (i:Item):Prop:=i.f.length≤4398046511104∧i.l.length≤8796093022208
theorem Ed (i:Item) (h:okI i):Bm big i=some i:=by
 unfold Bm
 have h1:=h.1
 have h2:=h.2
 rw[C9 (by omega) (by omega),C9 (by omega) (by omega),AR (by omega) (by omega),AR (by omega) (by omega)]
theorem Mq (l:List Field) (h:l.length≤10000000000000):B1 big l l=some true:=by
 unfold B1
 simp only[Ai,Af,Al,Am,Ak,Aj,Ag,Option.some.injEq,Cl]
 refine A7 (.inl ()) (fun i=>(i:Int)) l.length (by unfold big;omega) rfl (fun i hi=>?_) ?_ ?_
 rotate_left 2
 ·rfl
 ·rw[A4 (by omega)]
  simp only[Ai,Af,Al,Am,Ak,Aj,Ag,Option.some.injEq,Aq hi,Ga,FZ,Cb]
  rw[Ar (by omega) (by omega)]
  rfl
 ·rw[A5 (by omega)];rfl
theorem Mr (l:List ByteArray) (h:l.length≤10000000000000):DB big l l=some true:=by
 unfold DB
 simp only[Ai,Af,Al,Am,Ak,Aj,Ag,Option.some.injEq,Cl]
 refine A7 (.inl ()) (fun i=>(i:Int)) l.length (by unfold big;omega) rfl (fun i hi=>?_) ?_ ?_
 rotate_left 2
 ·rfl
 ·rw[A4 (by omega)]
  simp only[Ai,Af,Al,Am,Ak,Aj,Ag,Option.some.injEq,Aq hi,Fj]
  rw[Ar (by omega) (by omega)]
  rfl
 ·rw[A5 (by omega)];rfl
theorem Ee (i:Item) (h:okI i):Bz big i i=some true:=by
 unfold Bz
 simp only[Ai,Af,Al,Am,Ak,Aj,Ag,Option.some.injEq,Fk,Ga,Mq i.f (by have:=h.1;omega),Mr i.l (by have:=h.2;omega)]
def okE (l:List Effect):Prop:=l.length≤1000000000∧∀ e∈l,okI e.item
theorem GP (l:List Effect) (h:okE l):BN big l l=some true:=by
 have hl:=h.1
 unfold BN
 simp only[Ai,Af,Al,Am,Ak,Aj,Ag,Option.some.injEq,Cl]
 refine A7 (.inl ()) (fun i=>(i:Int)) l.length (by unfold big;omega) rfl (fun i hi=>?_) ?_ ?_
 rotate_left 2
 ·rfl
 ·rw[A4 (by omega)]
  simp only[Ai,Af,Al,Am,Ak,Aj,Ag,Option.some.injEq,Aq hi,Fj,NQ,Ee _ (h.2 _ (List.getElem_mem hi)),Cb]
  rw[Ar (by omega) (by omega)]
  rfl
 ·rw[A5 (by omega)];rfl
theorem Ng (l:List Effect) (h:okE l):Co big l=some l:=by
 have hl:=h.1
 unfold Co
 rw[C9 (by omega) (by omega)]
 simp only[Ai,Af,Al,Am,Ak,Aj,Ag,Option.some.injEq]
 refine A7 (l) (fun i=>((i:Int),l)) l.length (by unfold big;omega) rfl (fun i hi=>?_) ?_ ?_
 rotate_left 2
 ·rw[AR (by omega) (by omega)]
 ·rw[A4 (by simp;omega)]
  simp only[Ai,Af,Al,Am,Ak,Aj,Ag,Option.some.injEq,Aq hi,Ed _ (h.2 _ (List.getElem_mem hi))]
  rw[Ar (by omega) (by omega)]
  have e:l.set i { key:=l[i].key,gone:=l[i].gone,item:=l[i].item }=l:=List.set_getElem_self hi
  simp[e]
 ·rw[A5 (by simp)];rfl
def lastN (l:List Effect):List Effect:=l.drop (l.length - 64)
theorem okE.drop {l:List Effect} (h:okE l) (k:Nat):okE (l.drop k):=⟨by have:=h.1;simp;omega,fun e he=>h.2 e (List.mem_of_mem_drop he)⟩
theorem okE.app {l m:List Effect} (h:okE l) (h2:okE m) (h3:l.length+m.length≤1000000000):okE (l++m):=⟨by simp;exact h3,fun e he=>by
 rcases List.mem_append.1 he with he|he
 ·exact h.2 e he
 ·exact h2.2 e he⟩
theorem KB (l:List Effect) (h:okE l):C7 big l 64=some (lastN l):=by
 have hl:=h.1
 unfold C7
 simp only[Ai,Af,Al,Am,Ak,Aj,Ag,Option.some.injEq]
 rw[IL (by omega) (by omega)]
 have e:maxI 0 ((l.length:Int) - 64)=((l.length - 64:Nat):Int):=by simp only[maxI];omega
 rw[e,HH (by omega)]
 simp only[Ai,Af,Al,Am,Ak,Aj,Ag,Option.some.injEq]
 rw[Ng _ (h.drop _)]
 rfl
end Go.Proofs.YtlbdhlbbkibgpaaGreat
namespace Go.Proofs.YtlbdhlbbkibgpaaGreat
open Go Go.RowKit
theorem AY {k:IntKind} {a b:Int} (h:0≤a) (hb:0<b):remI k a b=some (a % b):=by
 have:¬ b=0:=by omega
 simp only[remI,ne_eq,this,not_false_eq_true,if_true,Int.tmod_eq_emod_of_nonneg h]
theorem NR {a b:Int} (h:0≤a) (h2:a<18446744073709551616) (hb:0<b):quoI .u64 a b=some (a / b):=by
 have hne:¬ b=0:=by omega
 have h3:a / b≤a:=Int.ediv_le_self b h
 have h4:0≤a / b:=Int.ediv_nonneg h (by omega)
 simp only[quoI,ne_eq,hne,not_false_eq_true,if_true,Int.tdiv_eq_ediv_of_nonneg h,Hx]
 rw[Int.emod_eq_of_lt h4 (by omega)]
theorem IM {a b:Int} (h:0≤a) (h2:a<9223372036854775808) (hb:0<b):quoI .i64 a b=some (a / b):=by
 have hne:¬ b=0:=by omega
 have h3:a / b≤a:=Int.ediv_le_self b h
 have h4:0≤a / b:=Int.ediv_nonneg h (by omega)
 simp only[quoI,ne_eq,hne,not_false_eq_true,if_true,Int.tdiv_eq_ediv_of_nonneg h]
 rw[wrap64 (by omega) (by omega)]
theorem OH {a b:ByteArray} (h:a.size+b.size≤9223372036854775807):catS a b=some (a++b):=by simp[catS,h]
theorem strL1 (x:Int):(strL [x]).size=1:=rfl
theorem Rn.cat {β:Type} {a b:ByteArray} {k:ByteArray→Option β} {Q:β→Prop} (h:a.size+b.size≤9223372036854775807) (hk:Rn (k (a++b)) Q):Rn (Go.Proofs.YtlbdhlbbkibgpaaGreat.bn (catS a b) k) Q:=Rn.bnE (OH h) hk
theorem DW (a:Int) (h:-9223372036854775808≤a) (h2:a≤9223372036854775807):Rn (BE big a) fun s=>s.size≤30:=by
 unfold BE
 refine Rn.lt (Rn.bn (P:=fun v:Int=>0≤v∧v<18446744073709551616) ?_ fun v hv=>?_)
 ·refine Rn.lt (Rn.ite (fun _=>Rn.lt (Rn.some ?_)) (fun _=>Rn.some ?_)) <;> simp only[negI,cvI,Hx] <;> omega
 refine Rn.bn (P:=fun b:Int×ByteArray=>0≤b.1∧b.2.size≤20) (Rn.iter _ (fun k a=>0≤a.1∧a.1<18446744073709551616∧a.1<10 ^ (20 - k)∧a.2.size=k) 20 (by unfold big;omega) ⟨hv.1,hv.2,by simp only;omega,rfl⟩ fun k a hk hI=>?_) fun b hb=>?_
 ·obtain⟨i1,i2,i3,i4⟩:=hI
  refine Rn.lt (Rn.ite (fun hg=>?_) (fun hg=>Rn.some ⟨i1,by simp only;omega⟩))
  have hg:10≤a.1:=by simpa [geI] using hg
  have hk2:k<20:=by
   apply Nat.lt_of_not_le
   intro hk3
   have:20 - k=0:=by omega
   rw[this] at i3
   simp at i3
   omega
  refine Rn.bnE (AY i1 (by omega)) (Rn.lt (Rn.lt (Rn.lt (Rn.cat ?_ (Rn.bnE (NR i1 i2 (by omega)) (Rn.some ⟨hk2,?_,?_,?_,?_⟩))))))
  ·rw[strL1];omega
  ·simp only;omega
  ·simp only;omega
  ·have e:20 - k=(20 - (k+1))+1:=by omega
   rw[e,Int.pow_succ] at i3
   simp only
   omega
  ·simp[strL1,i4];omega
 ·refine Rn.lt (Rn.lt (Rn.lt (Rn.cat ?_ (Rn.lt (Rn.ite (fun _=>Rn.cat ?_ (Rn.some ?_)) (fun _=>Rn.some ?_))))))
  ·rw[strL1];omega
  ·have e1:(⟨#[45]⟩:ByteArray).size=1:=rfl
   simp only[ByteArray.size_append,strL1,e1];omega
  ·have e1:(⟨#[45]⟩:ByteArray).size=1:=rfl
   simp only[ByteArray.size_append,strL1,e1];omega
  ·simp[strL1];omega
theorem PD (a:Int) (h:0≤a) (h2:a≤255):Rn (A1 big a) fun _=>True:=by
 unfold A1
 refine Rn.bnE (AY h (by omega)) (Rn.lt (Rn.lt (Rn.cat ?_ (Rn.cat ?_ (Rn.lt ?_)))))
 ·rw[strL1];decide
 ·rw[ByteArray.size_append,strL1];decide
 rw[Ch (by omega) (by omega)]
 refine Rn.bnE (IM h (by omega) (by omega)) (Rn.bnE (AY (by omega) (by omega)) (Rn.bn (DW _ (by omega) (by omega)) fun s hs=>Rn.cat ?_ (Rn.some trivial)))
 have e1:(⟨#[123]⟩:ByteArray).size=1:=rfl
 have e2:(⟨#[125]⟩:ByteArray).size=1:=rfl
 simp only[ByteArray.size_append,strL1,e1,e2]
 omega
theorem OI (l:List Field) (x y:ByteArray) (h:l.length≤100):Rn (CF big l x y) fun m=>m.length≤l.length+1:=by
 unfold CF
 refine Rn.bn (P:=fun b:Bool×List Field=>b.2.length+(if b.1 then 0 else 1)≤l.length+1)
  (Rn.iter _ (fun k a=>a.2.1=(k:Int)∧a.2.2.length+(if a.1 then 0 else 1)≤k+1) l.length (by unfold big;omega) ⟨rfl,by simp⟩ fun k a hk hI=>?_) fun b hb=>?_
 ·obtain⟨d,i,m⟩:=a
  obtain⟨rfl,i2⟩:=hI
  simp only at i2
  refine Rn.lt (Rn.lt (Rn.ite (fun hg=>?_) (fun hg=>Rn.some ?_)))
  ·have hk2:k<l.length:=by
    have:((k:Int)<(l.length:Int)):=by simpa [ltI,lenI] using hg
    omega
   refine Rn.bn (P:=fun b:Bool×List Field=>b.2.length+(if b.1 then 0 else 1)≤k+2) ?_ fun b hb=>?_
   ·refine Rn.bn (P:=fun b:Bool×List Field=>b.2.length+(if b.1 then 0 else 1)≤k+1) ?_ fun b hb=>?_
    ·refine Rn.bn (P:=fun b:Bool=>b=true→d=false) ?_ fun b hb=>?_
     ·refine Rn.lt (Rn.ite (fun hd=>Rn.bnE (Aq hk2) (Rn.lt (Rn.some fun _=>?_))) (fun hd=>Rn.some (by simp)))
      simpa [notB] using hd
     ·refine Rn.lt (Rn.ite (fun hd=>Rn.room ?_ ?_ (Rn.lt (Rn.some ?_))) (fun hd=>Rn.some i2))
      ·simp only;split at i2 <;> omega
      ·simp only;split at i2 <;> omega
      ·rw[hb hd] at i2
       simpa using i2
    ·refine Rn.bnE (Aq hk2) (Rn.lt (Rn.ite (fun hd=>Rn.room ?_ ?_ (Rn.lt (Rn.some ?_))) (fun hd=>Rn.some ?_)))
     ·split at hb <;> omega
     ·split at hb <;> omega
     ·simp only[List.length_append,List.length_cons,List.length_nil]
      omega
     ·simp only;omega
   ·refine Rn.lt (Rn.some ⟨hk2,?_,?_⟩)
    ·simp only;rw[Ar (by omega) (by omega)];omega
    ·simpa using hb
  ·simp only
   split at i2 <;> simp_all <;> omega
 ·refine Rn.bn (P:=fun m:List Field=>m.length≤l.length+1) ?_ fun m hm=>Rn.room (by omega) (by omega) (Rn.some hm)
  refine Rn.lt (Rn.ite (fun hd=>Rn.room ?_ ?_ (Rn.lt (Rn.some ?_))) (fun hd=>Rn.some ?_))
  ·split at hb <;> omega
  ·split at hb <;> omega
  ·have:b.1=false:=by simpa [notB] using hd
   rw[this] at hb
   simpa using hb
  ·split at hb <;> omega
theorem OJ (l:List ByteArray) (x:ByteArray) (h:l.length≤1000000000):Rn (B6 big l x) fun _=>True:=by
 unfold B6
 refine Rn.bn (P:=fun _=>True) (Rn.iter _ (fun k a=>a=(k:Int)) l.length (by unfold big;omega) rfl fun k a hk hI=>?_) fun b _=>Rn.sm (fun _ _=>Rn.some trivial) (fun _ _=>Rn.some trivial)
 subst hI
 refine Rn.lt (Rn.lt (Rn.ite (fun hg=>?_) (fun hg=>Rn.some trivial)))
 have hk2:k<l.length:=by
  have:((k:Int)<(l.length:Int)):=by simpa [ltI,lenI] using hg
  omega
 refine Rn.bnE (Aq hk2) (Rn.lt (Rn.ite (fun _=>Rn.some trivial) (fun _=>Rn.lt (Rn.some ⟨hk2,?_⟩))))
 rw[Ar (by omega) (by omega)];omega
theorem OK (l:List ByteArray) (x:ByteArray) (h:l.length≤1000000000):Rn (BK big l x) fun m=>m.length≤l.length+1:=by
 unfold BK
 refine Rn.bn (OJ l x h) fun v _=>Rn.ite (fun _=>Rn.room (by omega) (by omega) (Rn.some (by omega))) (fun _=>?_)
 refine Rn.bn (P:=fun i:Int=>∃ k:Nat,k≤l.length∧i=k) (Rn.iter _ (fun k a=>a=(k:Int)) l.length (by unfold big;omega) rfl fun k a hk hI=>?_) fun b hb=>?_
 ·subst hI
  refine Rn.bn (P:=fun b:Bool=>b=true→k<l.length) ?_ fun b hb=>Rn.lt (Rn.ite (fun hd=>Rn.lt (Rn.some ⟨hb hd,?_⟩)) (fun _=>Rn.some ⟨k,hk,rfl⟩))
  ·refine Rn.lt (Rn.lt (Rn.ite (fun hg=>?_) (fun _=>Rn.some (by simp))))
   have hk2:k<l.length:=by
    have:((k:Int)<(l.length:Int)):=by simpa [ltI,lenI] using hg
    omega
   exact Rn.bnE (Aq hk2) (Rn.lt (Rn.some fun _=>hk2))
  ·have:=hb hd
   rw[Ar (by omega) (by omega)];omega
 ·obtain⟨k,hk,rfl⟩:=hb
  refine Rn.bnE (KA hk) (Rn.room ?_ ?_ (Rn.room ?_ ?_ (Rn.lt (Rn.bnE (HH hk) (Rn.room ?_ ?_ (Rn.lt (Rn.some ?_)))))))
  all_goals simp only[List.length_append,List.length_cons,List.length_nil,List.length_take,List.length_drop]
  all_goals omega
end Go.Proofs.YtlbdhlbbkibgpaaGreat
namespace Go.Proofs.YtlbdhlbbkibgpaaGreat
open Go Go.RowKit
def u8s (l:List Int):Prop:=∀ x∈l,0≤x∧x≤255
theorem Ef {a b:Int} (h:ltI a b=true):a<b:=by simpa [ltI] using h
theorem DH {a b:Int} (h:ltI a b=false):b≤a:=by simpa [ltI] using h
theorem Ms {a b:Int} (h:eqI a b=false):a≠b:=by simpa [eqI] using h
theorem NS (l:List Int) (x:Int) (hl:u8s l) (hx:0≤x) (hx2:x≤255):Rn (Cd big l x) fun i=>i.f.length≤9∧i.l.length≤9:=by
 unfold Cd
 refine Rn.lt (Rn.lt (Rn.ite (fun _=>Rn.some ⟨by simp,by simp⟩) (fun hne=>?_)))
 have h0:0<l.length:=by
  have:=Ms hne
  simp only[lenI] at this
  omega
 have hb0:=hl _ (List.getElem_mem h0)
 refine Rn.bnE (Aq (i:=0) h0) (Rn.lt ?_)
 rw[Ch (by omega) (by omega)]
 refine Rn.bnE (AY hb0.1 (by omega)) (Rn.lt (Rn.bn (P:=fun _=>True) ?_ fun v _=>?_))
 ·refine Rn.bnE (AY hx (by omega)) (Rn.lt (Rn.ite (fun _=>Rn.lt (Rn.some trivial)) (fun _=>Rn.some trivial)))
 generalize addI .i64 1 (l[0] % 4)=kd
 refine Rn.bn (P:=fun b:ByteArray×List Field×List ByteArray=>b.2.1.length≤9∧b.2.2.length≤9)
  (Rn.iter _ (fun k a=>a.1=((k+1:Nat):Int)∧a.2.1.size≤40*k∧a.2.2.1.length≤k∧a.2.2.2.length≤k) 8 (by unfold big;omega) ⟨rfl,Nat.le_refl _,by simp,by simp⟩ fun k a hk hI=>?_) fun b hb=>?_
 ·obtain⟨i,s,f,m⟩:=a
  obtain⟨rfl,i2,i3,i4⟩:=hI
  simp only at i2 i3 i4
  refine Rn.bn (P:=fun b:Bool=>b=true→k<8∧k+1<l.length) ?_ fun b hb=>Rn.lt (Rn.ite (fun hd=>?_) (fun _=>Rn.some ⟨by simp only;omega,by simp only;omega⟩))
  ·refine Rn.lt (Rn.lt (Rn.ite (fun hg=>Rn.lt (Rn.some fun hg2=>?_)) (fun _=>Rn.some (by simp))))
   have h1:=Ef hg
   have h2:=Ef hg2
   simp only[lenI] at h1 h2
   omega
  ·obtain⟨hk8,hkl⟩:=hb hd
   have hb1:=hl _ (List.getElem_mem hkl)
   refine Rn.bn (P:=fun b:ByteArray×List Field×List ByteArray=>b.1.size≤40*(k+1)∧b.2.1.length≤k+1∧b.2.2.length≤k+1) ?_ fun b hb=>Rn.lt (Rn.some ⟨hk8,?_,hb⟩)
   ·refine Rn.bnE (Aq hkl) (Rn.bnE (AY hb1.1 (by omega)) (Rn.lt (Rn.lt (Rn.lt ?_))))
    rw[Ch (by omega) (by omega)]
    refine Rn.bnE (AY hb1.1 (by omega)) ?_
    refine Rn.bn (DW _ (by omega) (by omega)) fun d hd=>?_
    refine Rn.cat (by rw[strL1];omega) ?_
    have hw:∀ x:Int,(strL [x]++d).size≤31:=fun x=>by
     rw[ByteArray.size_append,strL1];omega
    have hw:=hw (addI .u8 97 (l[k+1] % 5))
    revert hw
    generalize strL [addI .u8 97 (l[k+1] % 5)]++d=w
    intro hw
    refine Rn.lt ?_
    refine Rn.ite (fun _=>?_) (fun _=>?_)
    ·refine Rn.cat (by simp only;omega) (Rn.some ⟨?_,?_,?_⟩)
     ·rw[ByteArray.size_append];simp only;omega
     ·simp only;omega
     ·simp only;omega
    refine Rn.lt ?_
    refine Rn.ite (fun _=>?_) (fun _=>?_)
    ·refine Rn.lt ?_
     rw[IL (by omega) (by omega)]
     refine Rn.bn (DW _ (by omega) (by omega)) fun e he=>?_
     refine Rn.bn (OI _ _ _ (by simp only;omega)) fun z hz=>?_
     refine Rn.some ⟨?_,?_,?_⟩
     ·simp only;omega
     ·simp only at hz ⊢;omega
     ·simp only;omega
    refine Rn.lt ?_
    refine Rn.ite (fun _=>?_) (fun _=>?_)
    ·refine Rn.room (by simp only;omega) (by simp only;omega) (Rn.lt (Rn.some ⟨?_,?_,?_⟩))
     ·simp only;omega
     ·simp only;omega
     ·simp only[List.length_append,List.length_cons,List.length_nil];omega
    ·refine Rn.room (by simp only;omega) (by simp only;omega) ?_
     refine Rn.bn (OK _ _ (by simp only;omega)) fun z hz=>?_
     refine Rn.some ⟨?_,?_,?_⟩
     ·simp only;omega
     ·simp only;omega
     ·simp only at hz ⊢;omega
   ·show addI .i64 ((k+1:Nat):Int) 1=_
    rw[Ar (by omega) (by omega)];omega
 ·refine Rn.bn (P:=fun _=>True) ?_ fun c _=>?_
  rotate_left
  ·refine Rn.lt (Rn.ite (fun _=>?_) (fun _=>Rn.room (by omega) (by omega) (Rn.some hb)))
   refine Rn.bnE (Aq (i:=0) h0) (Rn.lt ?_)
   rw[Ch (by omega) (by omega)]
   exact Rn.bn (DW _ (by omega) (by omega)) fun d hd=>Rn.some ⟨by simp,by simp⟩
  ·exact Rn.lt (Rn.lt (Rn.ite (fun _=>Rn.lt (Rn.some trivial)) (fun _=>Rn.some trivial)))
theorem u8s.seg {l:List Int} (h:u8s l) (i j:Nat):u8s ((l.drop i).take j):=fun x hx=>h x (List.mem_of_mem_drop (List.mem_of_mem_take hx))
end Go.Proofs.YtlbdhlbbkibgpaaGreat
namespace Go.Proofs.YtlbdhlbbkibgpaaGreat
open Go Go.RowKit
theorem okE.lastN {l:List Effect} (h:okE l):okE (lastN l):=h.drop _
def allR (l:List Effect) (i:Nat):List Effect:=(List.replicate i l).flatten
def fdOf (off:Int) (b:List Effect):Feed:=⟨⟨0,0⟩,off,b,⟨0,0⟩,0⟩
end Go.Proofs.YtlbdhlbbkibgpaaGreat
namespace Go.Proofs.YtlbdhlbbkibgpaaGreat
open Go Go.RowKit
section
variable {α β γ σ:Type}
theorem G7 {f:α→Option (α ⊕ β)} {a0:α} {k:β→Option γ} {r:Option γ} {δ:Type} (l:List δ) (g:σ→δ→σ) (mk:Nat→σ→α) (s0:σ) (b:β) (hl:l.length≤140737488355328) (h0:a0=mk 0 s0)
  (h:∀ i (hi:i<l.length) a,a=(l.take i).foldl g s0→f (mk i a)=some (.inl (mk (i+1) (g a l[i])))) (he:f (mk l.length (l.foldl g s0))=some (.inr b)) (hk:k b=r):bn (iter big f a0) k=r:=by
 refine A7 b (fun i=>mk i ((l.take i).foldl g s0)) l.length (by unfold big;omega) h0 (fun i hi=>?_) ?_ hk
 ·rw[h i hi _ rfl,← List.take_append_getElem hi,List.foldl_append]
  rfl
 ·rw[List.take_length];exact he
theorem shapeG {key:α→ByteArray} (name:ByteArray):∀ l:List α,l.Pairwise (fun a b=>slt (key a) (key b)=true)→∃ A B C,l=A++B++C∧(∀ a∈A,slt (key a) name=true)∧(∀ c∈C,slt name (key c)=true)∧(B=[]∨∃ x,B=[x]∧key x=name)
 |[],_=>⟨[],[],[],rfl,by simp,by simp,.inl rfl⟩
 |a::l,h=>by
  obtain⟨h1,h2⟩:=List.pairwise_cons.1 h
  cases hs:slt (key a) name
  ·rcases (MS _ _).1 hs with e|e
   ·exact⟨[],[a],l,rfl,by simp,fun c hc=>e ▸ h1 c hc,.inr ⟨a,rfl,e⟩⟩
   ·refine⟨[],[],a::l,rfl,by simp,fun c hc=>?_,.inl rfl⟩
    rcases List.mem_cons.1 hc with rfl|hc
    ·exact e
    ·exact C3 e (h1 c hc)
  ·obtain⟨A,B,C,rfl,h3,h4,h5⟩:=shapeG name l h2
   exact⟨a::A,B,C,rfl,fun x hx=>by rcases List.mem_cons.1 hx with rfl|hx;exact hs;exact h3 x hx,h4,h5⟩
theorem Rn.eq {m:Option α} {v:α} (h:Rn m (·=v)):m=Option.some v:=by
 obtain⟨w,h1,rfl⟩:=h
 exact h1
end
def SrtP (l:List Pair):Prop:=l.Pairwise (fun a b=>slt a.key b.key=true)
def newP (e:Effect):List Pair:=if e.gone then [] else [⟨e.key,e.item⟩]
def applyP (l:List Pair) (e:Effect):List Pair:=l.filter (fun p=>slt p.key e.key)++newP e++l.filter (fun p=>slt e.key p.key)
theorem FC {α:Type} {p:α→Bool} {l:List α} (h:∀ a∈l,p a=true):l.filter p=l:=List.filter_eq_self.2 h
theorem Da {α:Type} {p:α→Bool} {l:List α} (h:∀ a∈l,p a=false):l.filter p=[]:=List.filter_eq_nil_iff.2 fun a ha=>by simp[h a ha]
theorem Eg {A B C:List Pair} {e:Effect} (hA:∀ a∈A,slt a.key e.key=true) (hC:∀ c∈C,slt e.key c.key=true) (hB:B=[]∨∃ x,B=[x]∧x.key=e.key):applyP (A++B++C) e=A++newP e++C:=by
 have hB1:∀ b∈B,slt b.key e.key=false:=fun b hb=>by
  rcases hB with rfl|⟨x,rfl,hx⟩
  ·simp at hb
  ·simp at hb;subst hb;rw[hx];exact BA _
 have hB2:∀ b∈B,slt e.key b.key=false:=fun b hb=>by
  rcases hB with rfl|⟨x,rfl,hx⟩
  ·simp at hb
  ·simp at hb;subst hb;rw[hx];exact BA _
 unfold applyP
 rw[List.filter_append,List.filter_append,List.filter_append,List.filter_append,FC hA,Da hB1,Da (fun c hc=>Cw (hC c hc)),Da (fun a ha=>Cw (hA a ha)),Da hB2,FC hC]
 simp
theorem Id {l:List Pair} (h:SrtP l) (e:Effect):SrtP (applyP l e):=by
 unfold SrtP applyP newP
 have h1:SrtP (l.filter (fun p=>slt p.key e.key)):=List.Pairwise.filter _ h
 have h2:SrtP (l.filter (fun p=>slt e.key p.key)):=List.Pairwise.filter _ h
 refine List.pairwise_append.2 ⟨List.pairwise_append.2 ⟨h1,?_,fun a ha b hb=>?_⟩,h2,fun a ha b hb=>?_⟩
 ·split <;> simp
 ·split at hb
  ·simp at hb
  ·simp at hb;subst hb;exact (List.mem_filter.1 ha).2
 ·have hb2:=(List.mem_filter.1 hb).2
  rcases List.mem_append.1 ha with ha|ha
  ·exact C3 (List.mem_filter.1 ha).2 hb2
  ·split at ha
   ·simp at ha
   ·simp at ha;subst ha;exact hb2
theorem Eh (l:List Pair) (e:Effect) (h:SrtP l):(applyP l e).length≤l.length+1:=by
 obtain⟨A,B,C,rfl,hA,hC,hB⟩:=shapeG (key:=Pair.key) e.key l h
 rw[Eg hA hC hB]
 have:(newP e).length≤1:=by unfold newP;split <;> simp
 simp;omega
def okP (l:List Pair):Prop:=∀ p∈l,okI p.item
theorem Jb {l:List Pair} {e:Effect} (h:okP l) (he:okI e.item):okP (applyP l e):=by
 intro p hp
 unfold applyP newP at hp
 rcases List.mem_append.1 hp with hp|hp
 ·rcases List.mem_append.1 hp with hp|hp
  ·exact h p (List.mem_filter.1 hp).1
  ·split at hp
   ·simp at hp
   ·simp at hp;subst hp;exact he
 ·exact h p (List.mem_filter.1 hp).1
def stepP (e:Effect) (a:Bool×List Pair) (x:Pair):Bool×List Pair :=
 let a1:=if a.1=false∧slt x.key e.key=false then (true,a.2++[⟨e.key,e.item⟩]) else a
 if x.key=e.key then a1 else (a1.1,a1.2++[x])
theorem Nh (e:Effect) (a:Bool×List Pair) (x:Pair):(stepP e a x).2.length≤a.2.length+2:=by
 unfold stepP
 dsimp only
 split <;> split <;> simp <;> omega
theorem GQ (e:Effect):∀ (l:List Pair) (a:Bool×List Pair),(l.foldl (stepP e) a).2.length≤a.2.length+2*l.length
 |[],a=>by simp
 |x::l,a=>by
  have h1:=GQ e l (stepP e a x)
  have h2:=Nh e a x
  simp only[List.foldl_cons,List.length_cons]
  omega
theorem Jc {e:Effect}:∀ (A:List Pair) (d:Bool) (out:List Pair),(∀ a∈A,slt a.key e.key=true)→A.foldl (stepP e) (d,out)=(d,out++A)
 |[],d,out,_=>by simp
 |a::A,d,out,h=>by
  have h1:=h a (by simp)
  have e1:stepP e (d,out) a=(d,out++[a]):=by simp[stepP,h1,D4 h1]
  rw[List.foldl_cons,e1,Jc A d (out++[a]) fun b hb=>h b (by simp[hb])]
  simp
theorem Ei {e:Effect}:∀ (A:List Pair) (out:List Pair),(∀ a∈A,slt e.key a.key=true)→A.foldl (stepP e) (true,out)=(true,out++A)
 |[],out,_=>by simp
 |a::A,out,h=>by
  have h1:=h a (by simp)
  have hne:¬ a.key=e.key:=fun h=>D4 h1 h.symm
  have e1:stepP e (true,out) a=(true,out++[a]):=by simp[stepP,hne]
  rw[List.foldl_cons,e1,Ei A (out++[a]) fun b hb=>h b (by simp[hb])]
  simp
theorem Ni {e:Effect} {l:List Pair} (h:SrtP l):(bif (l.foldl (stepP e) (e.gone,[])).1 then (l.foldl (stepP e) (e.gone,[])).2 else (l.foldl (stepP e) (e.gone,[])).2++[⟨e.key,e.item⟩])=applyP l e:=by
 obtain⟨A,B,C,rfl,hA,hC,hB⟩:=shapeG (key:=Pair.key) e.key l h
 rw[Eg hA hC hB,List.foldl_append,List.foldl_append,Jc A _ _ hA]
 cases hg:e.gone
 ·rcases hB with rfl|⟨x,rfl,hx⟩
  ·cases C with
   |nil=>simp[newP,hg]
   |cons c C =>
    have h1:=hC c (by simp)
    have hne:¬ c.key=e.key:=fun h=>D4 h1 h.symm
    have e1:stepP e (false,[]++A) c=(true,A++[⟨e.key,e.item⟩,c]):=by simp[stepP,Cw h1,hne]
    rw[List.foldl_nil,List.foldl_cons,e1,Ei C _ fun b hb=>hC b (by simp[hb])]
    simp[newP,hg]
  ·have e1:stepP e (false,[]++A) x=(true,A++[⟨e.key,e.item⟩]):=by simp[stepP,hx,BA]
   rw[List.foldl_cons,List.foldl_nil,e1,Ei C _ hC]
   simp[newP,hg]
 ·rcases hB with rfl|⟨x,rfl,hx⟩
  ·rw[List.foldl_nil,Ei C _ hC]
   simp[newP,hg]
  ·have e1:stepP e (true,[]++A) x=(true,A):=by simp[stepP,hx]
   rw[List.foldl_cons,List.foldl_nil,e1,Ei C _ hC]
   simp[newP,hg]
theorem Mt (l:List Pair) (e:Effect) (h:SrtP l) (hl:l.length≤100000000):Dq big l e=some (applyP l e):=by
 unfold Dq
 refine G7 l (stepP e) (fun i a=>(a.1,(i:Int),a.2)) (e.gone,[]) (l.foldl (stepP e) (e.gone,[])) (by omega) rfl (fun i hi a ha=>?_) ?_ ?_
 ·have hlen:a.2.length≤2*i:=by
   have:=GQ e (l.take i) (e.gone,[])
   rw[← ha] at this
   simp at this
   omega
  simp only[Ai,Af,Al,Am,Ak,Aj,Ag,Option.some.injEq]
  rw[A4 (by omega)]
  simp only[Ai,Af,Al,Am,Ak,Aj,Ag,Option.some.injEq,Aq hi]
  have e2:(ite' (ite' (notB a.1) (some (geS l[i].key e.key)) (some false)).get! (some (true,a.2++[(⟨e.key,e.item⟩:Pair)])) (some (a.1,a.2)))=some (if a.1=false∧slt l[i].key e.key=false then (true,a.2++[⟨e.key,e.item⟩]) else a):=by
   cases h1:a.1 <;> cases h2:slt l[i].key e.key <;> simp[notB,geS,h1,h2,ite'] <;> (rw[← h1])
  rw[AR (by omega) (by omega)]
  have e3:ite' (notB a.1) (some (geS l[i].key e.key)) (some false)=some (ite' (notB a.1) (some (geS l[i].key e.key)) (some false)).get!:=by
   cases a.1 <;> rfl
  rw[e3]
  simp only[Ai,Af,Al,Am,Ak,Aj,Ag,Option.some.injEq]
  rw[e2]
  simp only[Ai,Af,Al,Am,Ak,Aj,Ag,Option.some.injEq]
  rw[Ar (by omega) (by omega)]
  unfold stepP
  dsimp only
  generalize hq:(if a.1=false∧slt l[i].key e.key=false then (true,a.2++[(⟨e.key,e.item⟩:Pair)]) else a)=q
  have hq2:q.2.length≤2*i+1:=by
   rw[← hq]
   split
   ·simp only[List.length_append,List.length_cons,List.length_nil];omega
   ·omega
  by_cases hk:l[i].key=e.key
  ·rw[hk,Fj]
   simp[Am,Af]
  ·rw[show neS l[i].key e.key=true by simp[neS,hk],if_neg hk,Al,AR (by omega) (by omega)]
   simp only[Ai,Af,Al,Am,Ak,Aj,Ag,Option.some.injEq]
   simp
 ·simp only[Ai,Af,Al,Am,Ak,Aj,Ag,Option.some.injEq]
  rw[A5 (by omega)]
  rfl
 ·have hlen:(l.foldl (stepP e) (e.gone,[])).2.length≤2*l.length:=by
   have:=GQ e l (e.gone,[])
   simp at this
   omega
  have hA:=Ni (e:=e) h
  have hn:=Eh l e h
  simp only[Ai,Af,Al,Am,Ak,Aj,Ag,Option.some.injEq]
  rw[AR (by omega) (by omega)]
  revert hA
  cases (l.foldl (stepP e) (e.gone,[])).1 <;> intro hA <;> simp at hA <;> rw[hA] <;> simp[notB,ite',Af] <;> rw[AR (by omega) (by omega)]
end Go.Proofs.YtlbdhlbbkibgpaaGreat
namespace Go.Proofs.YtlbdhlbbkibgpaaGreat
open Go Go.RowKit
theorem shr1 {x:Int} (h:0≤x):shrI .u64 x 1=some (x / 2):=by
 simp[shrI,IntKind.bits,Int.fdiv_eq_ediv_of_nonneg]
theorem Nj {a:Int} (h:0≤a) (h2:a<18446744073709551616):cvI .u64 a=a:=by
 simp only[cvI,Hx];omega
theorem OL (A B C:List Pair) (k:ByteArray) (hA:∀ a∈A,slt a.key k=true) (hC:∀ c∈C,slt k c.key=true) (hB:B=[]∨∃ x,B=[x]∧x.key=k) (hl:(A++B++C).length≤1000000000) :
  AH big (A++B++C) k=some ((A.length:Int),!B.isEmpty):=by
 have hget:∀ i x,(A++B++C)[i]?=some x→slt x.key k=decide (i<A.length):=fun i x hx=>by
  rw[List.append_assoc] at hx
  by_cases h:i<A.length
  ·rw[List.getElem?_append_left h] at hx
   simp only[h,decide_true]
   exact hA _ (List.mem_of_getElem? hx)
  ·rw[List.getElem?_append_right (by omega)] at hx
   simp only[h,decide_false]
   rcases List.mem_append.1 (List.mem_of_getElem? hx) with hm|hm
   ·rcases hB with rfl|⟨y,rfl,hy⟩
    ·simp at hm
    ·simp at hm;rw[hm,hy];exact BA _
   ·exact Cw (hC _ hm)
 have hB2:(A++B++C)[A.length]?=(B++C)[0]?:=by rw[List.append_assoc,List.getElem?_append_right (Nat.le_refl _),Nat.sub_self]
 have hAL:A.length≤(A++B++C).length:=by simp
 generalize A++B++C=L at hget hB2 hl hAL ⊢
 refine Rn.eq ?_
 unfold AH
 refine Rn.lt (Rn.bn (P:=fun i=>i=(A.length:Int)) (Rn.iter _ (fun q a=>∃ lo hi:Nat,a=((lo:Int),(hi:Int))∧lo≤A.length∧A.length≤hi∧hi≤L.length∧hi - lo<2 ^ (48 - q)) 48 (by unfold big;omega) ⟨0,L.length,rfl,by omega,hAL,Nat.le_refl _,by omega⟩ fun q a hq hI=>?_) fun i hi=>?_)
 ·obtain⟨lo,hi,rfl,h1,h2,h3,h4⟩:=hI
  refine Rn.lt (Rn.ite (fun hg=>?_) (fun hg=>Rn.some ?_))
  ·have hg:=Ef hg
   simp only at hg
   have hq2:q<48:=by
    apply Nat.lt_of_not_le
    intro h
    have:48 - q=0:=by omega
    rw[this] at h4
    omega
   have e48:48 - q=(48 - (q+1))+1:=by omega
   rw[e48,Nat.pow_succ] at h4
   refine Rn.lt (Rn.lt ?_)
   rw[Ar (by simp only;omega) (by simp only;omega),Nj (by simp only;omega) (by simp only;omega)]
   refine Rn.bnE (shr1 (by simp only;omega)) (Rn.lt ?_)
   rw[Ch (by simp only;omega) (by simp only;omega)]
   have em:((lo:Int)+(hi:Int)) / 2=(((lo+hi) / 2:Nat):Int):=by omega
   simp only
   rw[em]
   have hm:(lo+hi) / 2<L.length:=by omega
   have hge:=hget _ _ (List.getElem?_eq_getElem hm)
   refine Rn.bnE (Aq hm) (Rn.bnE (v:=cmpB L[(lo+hi) / 2].key k) rfl (Rn.lt (Rn.ite (fun hc=>Rn.lt (Rn.some ⟨hq2,(lo+hi) / 2+1,hi,?_,?_⟩)) (fun hc=>Rn.some ⟨hq2,lo,(lo+hi) / 2,rfl,?_⟩))))
   ·rw[Ar (by omega) (by omega)]
    exact congrArg (·,(hi:Int)) (by omega)
   ·rw[(Lv _ _).1 (Ef hc)] at hge
    have:=of_decide_eq_true hge.symm
    refine⟨?_,h2,h3,?_⟩ <;> omega
   ·have hc2:slt L[(lo+hi) / 2].key k=false:=by
     cases h:slt L[(lo+hi) / 2].key k
     ·rfl
     ·have:=(Lv _ _).2 h
      have:=DH hc
      omega
    rw[hc2] at hge
    have:=of_decide_eq_false hge.symm
    refine⟨h1,?_,?_,?_⟩ <;> omega
  ·have hg:=DH hg
   simp only at hg ⊢
   omega
 ·subst hi
  refine Rn.bn (P:=fun b=>b=!B.isEmpty) ?_ fun b hb=>Rn.some (by rw[hb])
  refine Rn.lt (Rn.ite (fun hg=>?_) (fun hg=>Rn.some ?_))
  ·have hg:=Ef hg
   simp only[lenI] at hg
   have hm:A.length<L.length:=by omega
   refine Rn.bnE (Aq hm) (Rn.bnE (v:=cmpB L[A.length].key k) rfl (Rn.lt (Rn.some ?_)))
   rw[List.getElem?_eq_getElem hm] at hB2
   rcases hB with rfl|⟨y,rfl,hy⟩
   ·have hc:=hC L[A.length] (List.mem_of_getElem? (by simpa using hB2.symm))
    have hne:¬ cmpB L[A.length].key k=0:=fun h=>D4 hc ((Lw _ _).1 h).symm
    simp[eqI,hne]
   ·simp at hB2
    rw[hB2,hy]
    simp[eqI,(Lw k k).2 rfl]
  ·have hg:=DH hg
   simp only[lenI] at hg
   have e:L[A.length]?=none:=List.getElem?_eq_none (by omega)
   rw[e] at hB2
   rcases hB with rfl|⟨y,rfl,hy⟩
   ·rfl
   ·simp at hB2
theorem NT (A B C:List Pair) (k:ByteArray) (hA:∀ a∈A,slt a.key k=true) (hC:∀ c∈C,slt k c.key=true) (hB:B=[]∨∃ x,B=[x]∧x.key=k) (hl:(A++B++C).length≤1000000000) :
  Bw big (A++B++C) k=some ((A.length:Int),!B.isEmpty):=by
 have:=OL A B C k hA hC hB hl
 unfold Bw
 rw[show AM big (A++B++C) k=AH big (A++B++C) k from rfl,this]
 rfl
theorem EC:∀ (es:List Effect) (l:List Pair),SrtP l→okP l→(∀ e∈es,okI e.item)→SrtP (es.foldl applyP l)∧okP (es.foldl applyP l)∧(es.foldl applyP l).length≤l.length+es.length
 |[],l,h1,h2,_=>⟨h1,h2,by simp⟩
 |e::es,l,h1,h2,h3=>by
  obtain⟨g1,g2,g3⟩:=EC es (applyP l e) (Id h1 e) (Jb h2 (h3 e (by simp))) fun x hx=>h3 x (by simp[hx])
  have:=Eh l e h1
  exact⟨g1,g2,by simp only[List.foldl_cons,List.length_cons];omega⟩
theorem IN (l:List Pair) (es:List Effect) (h:SrtP l) (h2:okP l) (he:∀ e∈es,okI e.item) (hl:l.length+es.length≤100000000):BU big l es=some (es.foldl applyP l):=by
 unfold BU
 rw[C9 (by omega) (by omega)]
 simp only[Ai,Af,Al,Am,Ak,Aj,Ag,Option.some.injEq]
 refine A7 l (fun i=>((i:Int),l)) l.length (by unfold big;omega) rfl (fun i hi=>?_) ?_ ?_
 ·simp only[Ai,Af,Al,Am,Ak,Aj,Ag,Option.some.injEq]
  rw[A4 (by omega),Aq hi]
  simp only[Ai,Af,Al,Am,Ak,Aj,Ag,Option.some.injEq]
  rw[Ed _ (h2 _ (List.getElem_mem hi))]
  simp only[Ai,Af,Al,Am,Ak,Aj,Ag,Option.some.injEq]
  rw[Ar (by omega) (by omega)]
  have e:l.set i { key:=l[i].key,item:=l[i].item }=l:=List.set_getElem_self hi
  simp[e]
 ·simp only[Ai,Af,Al,Am,Ak,Aj,Ag,Option.some.injEq]
  rw[A5 (by omega)]
  rfl
 refine G7 es applyP (fun i a=>((i:Int),a)) l (es.foldl applyP l) (by omega) rfl (fun i hi a ha=>?_) ?_ ?_
 ·obtain⟨g1,g2,g3⟩:=EC (es.take i) l h h2 fun x hx=>he x (List.mem_of_mem_take hx)
  rw[← ha] at g1 g2 g3
  have hal:a.length≤100000000:=by rw[List.length_take] at g3;omega
  have hok:=he _ (List.getElem_mem hi)
  simp only[Ai,Af,Al,Am,Ak,Aj,Ag,Option.some.injEq]
  rw[A4 (by omega),Aq hi]
  simp only[Ai,Af,Al,Am,Ak,Aj,Ag,Option.some.injEq]
  rw[AR (by omega) (by omega)]
  obtain⟨A,B,C,e,hA,hC,hB⟩:=shapeG (key:=Pair.key) es[i].key a g1
  have hap:applyP a es[i]=A++newP es[i]++C:=by rw[e];exact Eg hA hC hB
  have hf:Bw big a es[i].key=some ((A.length:Int),!B.isEmpty):=by rw[e];exact NT A B C _ hA hC hB (by rw[← e];omega)
  rw[hf,hap]
  simp only[Ai,Af,Al,Am,Ak,Aj,Ag,Option.some.injEq]
  rw[Ar (a:=(i:Int)) (by omega) (by omega)]
  have hlen:A.length+B.length+C.length=a.length:=by rw[e];simp;omega
  rcases hB with rfl|⟨x,rfl,hx⟩
  ·simp only[List.isEmpty_nil,Bool.not_true,Ai,Af,Al,Am,Ak,Aj,Ag,Option.some.injEq]
   cases hg:es[i].gone
   ·simp only[GD,Ai,Af,Al,Am,Ak,Aj,Ag,Option.some.injEq]
    rw[Ed _ hok]
    simp only[Ai,Af,Al,Am,Ak,Aj,Ag,Option.some.injEq]
    rw[G6 (by simp[insB];simp at hlen;omega)]
    have e1:insL a A.length ⟨es[i].key,es[i].item⟩=A++newP es[i]++C:=by rw[e];simp[insL,newP,hg]
    simp[e1,Af]
   ·simp only[Cb,Ai,Af,Al,Am,Ak,Aj,Ag,Option.some.injEq]
    rw[e]
    simp[newP,hg]
  ·simp only[List.isEmpty_cons,Bool.not_false,Ai,Af,Al,Am,Ak,Aj,Ag,Option.some.injEq]
   have hn:(A++[x]++C)[A.length]?=some x:=by simp
   cases hg:es[i].gone
   ·simp only[Ai,Af,Al,Am,Ak,Aj,Ag,Option.some.injEq]
    rw[Ed _ hok]
    simp only[Ai,Af,Al,Am,Ak,Aj,Ag,Option.some.injEq]
    rw[Iw,e,hn]
    have e1:(A++[x]++C).set A.length ⟨x.key,es[i].item⟩=A++newP es[i]++C:=by simp[newP,hg,hx]
    simp[e1,Af,Ai]
    simp[newP,hg,hx]
   ·simp only[Ai,Af,Al,Am,Ak,Aj,Ag,Option.some.injEq]
    rw[Ar (by omega) (by omega),G6 (by simp[delB];simp at hlen;omega)]
    have e1:delL a A.length=A++newP es[i]++C:=by rw[e];simp[delL,newP,hg]
    simp[e1,Af]
 ·simp only[Ai,Af,Al,Am,Ak,Aj,Ag,Option.some.injEq]
  rw[A5 (by omega)]
  rfl
 ·obtain⟨g1,g2,g3⟩:=EC es l h h2 he
  rw[AR (by omega) (by omega)]
theorem Mu (l:List Pair) (es:List Effect) (h:SrtP l) (h2:okP l) (he:∀ e∈es,okI e.item) (hl:l.length+es.length≤100000000):Dr big l es=some (es.foldl applyP l):=by
 unfold Dr
 rw[AR (by omega) (by omega),AR (by omega) (by omega)]
 refine G7 es applyP (fun i a=>(a,(i:Int))) l (es.foldl applyP l) (by omega) rfl (fun i hi a ha=>?_) ?_ rfl
 ·obtain⟨g1,g2,g3⟩:=EC (es.take i) l h h2 fun x hx=>he x (List.mem_of_mem_take hx)
  rw[← ha] at g1 g2 g3
  rw[List.length_take] at g3
  simp only[Ai,Af,Al,Am,Ak,Aj,Ag,Option.some.injEq]
  rw[A4 (by omega),Aq hi]
  simp only[Ai,Af,Al,Am,Ak,Aj,Ag,Option.some.injEq]
  rw[Mt _ _ g1 (by omega)]
  simp only[Ai,Af,Al,Am,Ak,Aj,Ag,Option.some.injEq]
  rw[Ar (by omega) (by omega)]
  rfl
 ·simp only[Ai,Af,Al,Am,Ak,Aj,Ag,Option.some.injEq]
  rw[A5 (by omega)]
  rfl
end Go.Proofs.YtlbdhlbbkibgpaaGreat
namespace Go.Proofs.YtlbdhlbbkibgpaaGreat
open Go Go.RowKit
theorem OM (b c:Bool):ite' b (some c) (some false)=some (b && c):=by cases b <;> rfl
theorem PE (b c:Bool):ite' b (some true) (some c)=some (b || c):=by cases b <;> rfl
def addF (f:Feed) (l:List Effect):Feed:={ f with off:=addI .i64 f.off l.length,back:=lastN (f.back++l) }
theorem NU (f:Feed) (l:List Effect) (h:okE f.back) (h2:okE l) (h3:f.back.length+l.length≤1000000000):CP big f l=some (addF f l):=by
 have hl:=h2.1
 unfold CP
 simp only[Ai,Af,Al,Am,Ak,Aj,Ag,Option.some.injEq]
 rw[G6 (by simp[catB];omega)]
 simp only[Ai,Af,Al,Am,Ak,Aj,Ag,Option.some.injEq,List.flatten_cons,List.flatten_nil,List.append_nil]
 rw[KB _ (h.app h2 h3)]
 rfl
def allP (l:List Pair):List Effect:=l.map fun p=>⟨p.key,false,p.item⟩
def goesF (f:Feed) (rid:Rid) (off:Int):Bool:=(decide (rid=f.rid) || (decide (rid=f.prev) && decide (off≤f.upto))) && (decide (off≤f.off) && decide (f.off - f.back.length≤off))
def ansF (f:Feed) (db:List Pair) (rid:Rid) (off:Int):Msg :=
 bif goesF f rid off then ⟨5,0,0,0,[],[],0,0,0,f.rid,rid,off,(f.back.drop (off - (f.off - f.back.length)).toNat).take 16⟩ else ⟨6,0,0,0,[],[],0,0,0,f.rid,⟨0,0⟩,f.off,allP db⟩
def okF (f:Feed):Prop:=okE f.back∧f.back.length≤64∧(f.back.length:Int)≤f.off∧f.off≤9223372036854775807
theorem okE.take {l:List Effect} (h:okE l) (k:Nat):okE (l.take k):=⟨by have:=h.1;simp;omega,fun e he=>h.2 e (List.mem_of_mem_take he)⟩
end Go.Proofs.YtlbdhlbbkibgpaaGreat
namespace Go.Proofs.YtlbdhlbbkibgpaaGreat
open Go Go.RowKit
def newerF (f:Feed) (m:Msg):Bool:=!decide (m.rid.node=f.rid.node) || (decide (f.rid.epoch<m.rid.epoch) || (decide (m.rid=f.rid) && decide (f.off<m.off)))
def nextF (f:Feed) (m:Msg):Bool:=decide (m.kind=5) && (decide (m.prev=f.rid) && decide (m.off=f.off))
def gotF (f:Feed) (db:List Pair) (m:Msg):Feed×List Pair×Bool :=
 bif nextF f m then (addF (bif decide (m.rid=f.rid) then f else { f with rid:=m.rid,prev:=f.rid,upto:=f.off }) m.effects,m.effects.foldl applyP db,true)
 else bif decide (m.kind=6) && newerF f m then (⟨m.rid,m.off,[],⟨0,0⟩,0⟩,m.effects.foldl applyP [],true) else (f,db,false)
theorem NV (f:Feed) (h:f.back.length≤64) (h2:-9223372036854775808≤f.off) (h3:f.off≤9223372036854775807):addF f []=f:=by
 unfold addF lastN
 rw[Ar (by simp;omega) (by simp;omega),List.append_nil,show f.back.length - 64=0 by omega,List.drop_zero]
 simp
theorem HI (l:List Pair) (h:okP l) (hl:l.length≤1000000000):Cf big l l=some true:=by
 unfold Cf
 simp only[Ai,Af,Al,Am,Ak,Aj,Ag,Option.some.injEq,Cl]
 refine A7 (.inl ()) (fun i=>(i:Int)) l.length (by unfold big;omega) rfl (fun i hi=>?_) ?_ rfl
 ·rw[A4 (by omega)]
  simp only[Ai,Af,Al,Am,Ak,Aj,Ag,Option.some.injEq,Aq hi,Fj,Ee _ (h _ (List.getElem_mem hi)),Cb]
  rw[Ar (by omega) (by omega)]
  rfl
 ·rw[A5 (by omega)];rfl
theorem Ie (f:Feed) (h:okE f.back):Cg big f f=some true:=by
 unfold Cg
 simp only[Ai,Af,Al,Am,Ak,Aj,Ag,Option.some.injEq,Fk,FZ,GP _ h]
theorem JG (l:List Claim) (hl:l.length≤1000000000):BL big l l=some true:=by
 unfold BL
 simp only[Ai,Af,Al,Am,Ak,Aj,Ag,Option.some.injEq,Cl]
 refine A7 (.inl ()) (fun i=>(i:Int)) l.length (by unfold big;omega) rfl (fun i hi=>?_) ?_ rfl
 ·rw[A4 (by omega)]
  simp only[Ai,Af,Al,Am,Ak,Aj,Ag,Option.some.injEq,Aq hi,Fk,FZ,Cb]
  rw[Ar (by omega) (by omega)]
  rfl
 ·rw[A5 (by omega)];rfl
theorem FL (l:List Int) (hl:l.length≤1000000000):CG big l l=some true:=by
 unfold CG
 simp only[Ai,Af,Al,Am,Ak,Aj,Ag,Option.some.injEq,Cl]
 refine A7 (.inl ()) (fun i=>(i:Int)) l.length (by unfold big;omega) rfl (fun i hi=>?_) ?_ rfl
 ·rw[A4 (by omega)]
  simp only[Ai,Af,Al,Am,Ak,Aj,Ag,Option.some.injEq,Aq hi,Cl]
  rw[Ar (by omega) (by omega)]
  rfl
 ·rw[A5 (by omega)];rfl
end Go.Proofs.YtlbdhlbbkibgpaaGreat
namespace Go.Proofs.YtlbdhlbbkibgpaaGreat
open Go Go.RowKit
end Go.Proofs.YtlbdhlbbkibgpaaGreat
namespace Go.Proofs.YtlbdhlbbkibgpaaGreat
open Go Go.RowKit
def effAt (l:List Int) (i:Nat):Option Effect :=
 bn (nth l ((4*i:Nat):Int)) fun v11=>bn (A1 big v11) fun v12=>bn (nth l ((4*i+1:Nat):Int)) fun v14=>bn (remI .u8 v14 4) fun v15 =>
 bn (ite' (notB (eqI v15 0)) (bn (seglh l ((4*i+1:Nat):Int) ((4*i+4:Nat):Int)) fun v20=>bn (nth l ((4*i+2:Nat):Int)) fun v23=>bn (Cd big v20 v23) fun v24=>some ((⟨v12,eqI v15 0,v24⟩:Effect))) (some ((⟨v12,eqI v15 0,(⟨0,⟨#[]⟩,[],[],0⟩:Item)⟩:Effect)))) fun (y17:Effect) =>
 some y17
theorem NW (l:List Int) (hl:u8s l) (i:Nat) (h:4*i+3<l.length) (hlen:l.length≤1000000000):Rn (effAt l i) fun e=>okI e.item:=by
 have hb0:=hl _ (List.getElem_mem (show 4*i<l.length by omega))
 have hb1:=hl _ (List.getElem_mem (show 4*i+1<l.length by omega))
 have hb2:=hl _ (List.getElem_mem (show 4*i+2<l.length by omega))
 unfold effAt
 refine Rn.bnE (Aq (show 4*i<l.length by omega)) (Rn.bn (PD _ hb0.1 hb0.2) fun key _=>Rn.bnE (Aq (show 4*i+1<l.length by omega)) (Rn.bnE (AY hb1.1 (by omega)) (Rn.bn (P:=fun b:Effect=>b.item.f.length≤9∧b.item.l.length≤9) ?_ fun b hb=>Rn.some ?_)))
 ·refine Rn.ite (fun _=>?_) (fun _=>Rn.some ⟨by simp,by simp⟩)
  exact Rn.bnE (Ja (by omega) (by omega)) (Rn.bnE (Aq (show 4*i+2<l.length by omega)) (Rn.bn (NS _ _ (hl.seg _ _) hb2.1 hb2.2) fun it hit=>Rn.some hit))
 ·exact⟨by omega,by omega⟩
theorem GR (l:List Int) (hl:u8s l) (h:l.length≤1000000000):Rn (Bi big l) fun m=>m.length=min 40 (l.length / 4)∧(∀ i,i<m.length→effAt l i=m[i]?)∧∀ e∈m,okI e.item:=by
 unfold Bi
 refine Rn.bn (P:=fun m:List Effect=>m.length=min 40 (l.length / 4)∧(∀ i,i<m.length→effAt l i=m[i]?)∧∀ e∈m,okI e.item)
  (Rn.iter _ (fun k a=>a.1=((4*k:Nat):Int)∧a.2.length=k∧4*k≤l.length∧(∀ i,i<k→effAt l i=a.2[i]?)∧∀ e∈a.2,okI e.item) 40 (by unfold big;omega) ⟨rfl,rfl,by omega,by simp,by simp⟩ fun k a hk hI=>?_) fun m hm=>Rn.room (by omega) (by omega) (Rn.some hm)
 obtain⟨i,m⟩:=a
 obtain⟨rfl,i2,i5,i6,i3⟩:=hI
 simp only at i2 i3 i6
 refine Rn.bn (P:=fun b:Bool=>(b=true→k<40∧4*k+3<l.length)∧(b=false→k=min 40 (l.length / 4))) ?_ fun b hb=>Rn.lt (Rn.ite (fun hd=>?_) (fun hd=>Rn.some ⟨by simp only[i2];exact hb.2 hd,by simp only[i2];exact i6,i3⟩))
 ·refine Rn.lt ?_
  rw[Ar (by simp only;omega) (by simp only;omega)]
  refine Rn.lt (Rn.lt (Rn.ite (fun hg=>Rn.lt (Rn.lt (Rn.some ?_))) (fun hg=>Rn.some ?_)))
  ·have h1:=Ef hg
   simp only[lenI] at h1
   refine⟨fun h2=>?_,fun h2=>?_⟩
   ·have h2:=Ef h2
    simp only[lenI,i2] at h2
    omega
   ·have h2:=DH h2
    simp only[lenI,i2] at h2
    omega
  ·have h1:=DH hg
   simp only[lenI] at h1
   exact⟨fun h=>by simp at h,fun _=>by omega⟩
 ·obtain⟨h40,h4⟩:=hb.1 hd
  obtain⟨e,he,hok⟩:=NW l hl k h4 h
  have he':=he
  unfold effAt at he
  rw[show addI .i64 ((4*k:Nat):Int) 1=((4*k+1:Nat):Int) by rw[Ar (by omega) (by omega)];omega,show addI .i64 ((4*k:Nat):Int) 4=((4*k+4:Nat):Int) by rw[Ar (by omega) (by omega)];omega,show addI .i64 ((4*k:Nat):Int) 2=((4*k+2:Nat):Int) by rw[Ar (by omega) (by omega)];omega]
  obtain⟨w1,e1,he⟩:=bnE he
  obtain⟨w2,e2,he⟩:=bnE he
  obtain⟨w3,e3,he⟩:=bnE he
  obtain⟨w4,e4,he⟩:=bnE he
  obtain⟨w5,e5,he⟩:=bnE he
  have heq:=Option.some.inj he
  clear he
  subst heq
  refine Rn.bnE e1 (Rn.bnE e2 (Rn.lt (Rn.bnE e3 (Rn.bnE e4 (Rn.lt (Rn.bnE (v:=w5) e5 (Rn.room ?_ ?_ (Rn.lt (Rn.lt (Rn.some ⟨h40,?_,?_,by omega,?_,?_⟩))))))))))
  ·simp only;omega
  ·simp only;omega
  ·simp only;omega
  ·simp[i2]
  ·intro i hi
   show effAt l i=(m++[_])[i]?
   by_cases hik:i<k
   ·rw[i6 i hik,List.getElem?_append_left (by omega)]
   ·have:i=k:=by omega
    subst this
    rw[he',List.getElem?_append_right (by omega),i2,Nat.sub_self]
    rfl
  ·intro x hx
   rcases List.mem_append.1 hx with hx|hx
   ·exact i3 x hx
   ·simp only[List.mem_singleton] at hx
    rw[hx]
    exact hok
end Go.Proofs.YtlbdhlbbkibgpaaGreat
namespace Go.Proofs.YtlbdhlbbkibgpaaGreat
open Go Go.RowKit
def mkF (r:Int) (l:List Effect):Feed:=⟨⟨r % 4,r / 64⟩,l.length,l,⟨0,0⟩,0⟩
def dbOf (l:List Effect):List Pair:=l.foldl applyP []
theorem ON {l:List Effect} (h:∀ e∈l,okI e.item):SrtP (dbOf l)∧okP (dbOf l)∧(dbOf l).length≤l.length:=by
 obtain⟨g1,g2,g3⟩:=EC l [] .nil (by simp[okP]) h
 exact⟨g1,g2,by simp at g3;exact g3⟩
def harm (fr:Rid) (o:Nat) (m:Msg):Prop:=m.rid=fr∧okE m.effects∧m.effects.length≤100∧((m.kind=5∧(m.prev≠fr∨m.off<o∨m.effects=[]))∨(m.kind=6∧m.off≤o))
theorem harm.mono {fr:Rid} {o o':Nat} {m:Msg} (h:harm fr o m) (ho:o≤o'):harm fr o' m:=by
 obtain⟨h1,h2,h3,h4⟩:=h
 refine⟨h1,h2,h3,?_⟩
 rcases h4 with ⟨a,b|b|b⟩|⟨a,b⟩
 ·exact .inl ⟨a,.inl b⟩
 ·exact .inl ⟨a,.inr (.inl (by omega))⟩
 ·exact .inl ⟨a,.inr (.inr b)⟩
 ·exact .inr ⟨a,by omega⟩
theorem harm.got {g:Feed} {own:List Pair} {o:Nat} {m:Msg} (h:harm g.rid o m) (ho:g.off=o) (hb:g.back.length≤64) (hs:o≤1000000):(gotF g own m).1=g∧(gotF g own m).2.1=own:=by
 obtain⟨h1,h2,h3,h4⟩:=h
 unfold gotF
 cases hn:nextF g m
 ·have hw:(decide (m.kind=6) && newerF g m)=false:=by
   rcases h4 with ⟨a,b⟩|⟨a,b⟩
   ·simp[a]
   ·simp only[newerF,h1,ho]
    have:¬ (o:Int)<m.off:=by omega
    simp[this]
  rw[hw]
  exact⟨rfl,rfl⟩
 ·have he:m.effects=[]:=by
   simp only[nextF,Bool.and_eq_true,decide_eq_true_eq] at hn
   obtain⟨n1,n2,n3⟩:=hn
   rcases h4 with ⟨a,b|b|b⟩|⟨a,b⟩
   ·exact absurd n2 b
   ·omega
   ·exact b
   ·omega
  rw[he,show decide (m.rid=g.rid)=true by simp[h1]]
  exact⟨NV g hb (by omega) (by omega),rfl⟩
def At (r other:Int) (l:List Effect) (k i:Nat) (g:Feed) (own:List Pair) (sent:List Msg):Prop :=
 sent.length=i∧okE g.back∧g.back.length≤64∧((i=0∧g.rid≠(mkF r l).rid∧g=mkF other (l.take k)∧own=dbOf (l.take k)) ∨
 ∃ o:Nat,g.rid=(mkF r l).rid∧g.off=o∧o≤l.length∧min l.length (16*i)≤o∧own=dbOf (l.take o)∧∀ m∈sent,harm (mkF r l).rid o m)
end Go.Proofs.YtlbdhlbbkibgpaaGreat
namespace Go.Proofs.YtlbdhlbbkibgpaaGreat
open Go Go.RowKit
theorem Oe {a b:Int} (h:gtI a b=false):a≤b:=by simpa [gtI] using h
theorem leI_d {a b:Int} (h:leI a b=true):a≤b:=by simpa [leI] using h
theorem geI_d {a b:Int} (h:geI a b=true):b≤a:=by simpa [geI] using h
end Go.Proofs.YtlbdhlbbkibgpaaGreat
namespace Go.Proofs.YtlbdhlbbkibgpaaGreat
open Go Go.RowKit
def rawP (l:List Pair) (k:ByteArray):Option Item:=(l.find? fun p=>decide (p.key=k)).map fun p=>p.item
def noI:Item:=⟨0,⟨#[]⟩,[],[],0⟩
theorem OO {l:List Pair} {k:ByteArray} (h:∀ p∈l,p.key≠k):rawP l k=none:=by
 unfold rawP
 rw[List.find?_eq_none.2 (fun p hp=>by simpa using h p hp)]
 rfl
theorem OP {l:List Pair} {k:ByteArray} {i:Nat} (hi:i<l.length) (h:l[i].key=k) (hb:∀ j (hj:j<i),l[j].key≠k):rawP l k=some l[i].item:=by
 unfold rawP
 rw[List.find?_eq_some_iff_getElem.2 ⟨by simpa using h,i,hi,rfl,fun j hj=>by simpa using hb j hj⟩]
 rfl
theorem Mv {A B C:List Pair} {k:ByteArray} (hA:∀ a∈A,slt a.key k=true) (hC:∀ c∈C,slt k c.key=true) (hB:B=[]∨∃ x,B=[x]∧x.key=k):rawP (A++B++C) k=(B.head?).map fun p=>p.item:=by
 have h1:A.find? (fun p=>decide (p.key=k))=none:=List.find?_eq_none.2 fun p hp=>by simpa using D4 (hA p hp)
 have h2:C.find? (fun p=>decide (p.key=k))=none:=List.find?_eq_none.2 fun p hp=>by simpa using fun e=>D4 (hC p hp) e.symm
 unfold rawP
 rw[List.find?_append,List.find?_append,h1,h2]
 rcases hB with rfl|⟨x,rfl,hx⟩
 ·rfl
 ·simp[hx]
theorem KC (l:List Pair) (k:ByteArray) (hl:l.length≤1000000000):DV big l k=some ⟨(rawP l k).getD noI,(rawP l k).isSome⟩:=by
 refine Rn.eq ?_
 unfold DV
 refine Rn.bn (P:=fun y=>(y=.inl ()∧rawP l k=none)∨(∃ it,y=.inr ⟨it,true⟩∧rawP l k=some it)) (Rn.iter _ (fun q x=>x=(q:Int)∧∀ i (h:i<q) (hi:i<l.length),l[i].key≠k) l.length (by unfold big;omega) ⟨rfl,fun i h=>by omega⟩ fun q x hq hI=>?_) fun y hy=>?_
 ·obtain⟨rfl,hI⟩:=hI
  by_cases hq2:q<l.length
  ·simp only[Ai]
   rw[A4 (by simp only[lenI];omega),Aq hq2]
   simp only[Ai,Af,Al,Am,Ak,Aj,Ag,Option.some.injEq,eqS]
   by_cases hk:l[q].key=k
   ·rw[decide_eq_true hk]
    exact⟨_,rfl,.inr ⟨_,rfl,OP hq2 hk fun j hj=>hI j hj (by omega)⟩⟩
   ·rw[decide_eq_false hk]
    refine⟨_,rfl,hq2,by rw[Ar (by omega) (by omega)];omega,fun i hi h1=>?_⟩
    by_cases hiq:i=q
    ·subst hiq;exact hk
    ·exact hI i (by omega) h1
  ·obtain rfl:q=l.length:=by omega
   simp only[Ai]
   rw[A5 (by simp only[lenI];omega)]
   refine⟨_,rfl,.inl ⟨rfl,OO fun p hp=>?_⟩⟩
   obtain⟨i,hi,rfl⟩:=List.getElem_of_mem hp
   exact hI i hi hi
 ·rcases hy with ⟨rfl,h⟩|⟨it,rfl,h⟩
  ·rw[h];exact⟨_,rfl,rfl⟩
  ·rw[h];exact⟨_,rfl,rfl⟩
def alive (i:Item) (now:Int):Bool:=decide (i.exp=0) || decide (now<i.exp)
def getP (l:List Pair) (k:ByteArray) (now:Int):Option Item:=bif alive ((rawP l k).getD noI) now then rawP l k else none
end Go.Proofs.YtlbdhlbbkibgpaaGreat
namespace Go.Proofs.YtlbdhlbbkibgpaaGreat
open Go Go.RowKit
theorem ltT {a b:Int} (h:a<b):ltI a b=true:=by simp[ltI,h]
theorem ltF {a b:Int} (h:¬ a<b):ltI a b=false:=by simp[ltI];omega
theorem F0 (c:UInt8):∀ l:List UInt8,(Lib.indexByte l c=-1∧∀ b∈l,b≠c)∨∃ i:Nat,Lib.indexByte l c=i∧∃ hi:i<l.length,l[i]=c∧∀ j (hj:j<i),l[j]≠c
 |[]=>.inl ⟨rfl,by simp⟩
 |b::l=>by
  by_cases h:b=c
  ·refine .inr ⟨0,?_,by simp,h,fun j hj=>by omega⟩
   unfold Lib.indexByte
   simp[h]
  ·rcases F0 c l with ⟨h1,h2⟩|⟨i,h1,hi,h2,h3⟩
   ·refine .inl ⟨?_,fun x hx=>?_⟩
    ·unfold Lib.indexByte
     simp[h,h1]
    ·rcases List.mem_cons.1 hx with rfl|hx
     ·exact h
     ·exact h2 x hx
   ·refine .inr ⟨i+1,?_,by simp;omega,by simpa using h2,fun j hj=>?_⟩
    ·unfold Lib.indexByte
     have:¬ ((i:Int)=-1):=by omega
     simp[h,h1,this]
    ·cases j with
     |zero=>exact h
     |succ j=>simpa using h3 j (by omega)
theorem Gb {s:ByteArray} {i:Nat} (h:i<s.size):bAt s i=((s.data.toList[i]'(by simpa using h)).toNat:Int):=by
 unfold bAt
 rw[dif_pos h]
 rfl
theorem HJ {a:UInt8} {c:Nat} (hc:c<256):((a.toNat:Int)=(c:Int))↔a=(c:Int).toNat.toUInt8:=by
 have e:((c:Int).toNat.toUInt8).toNat=c:=by simp;omega
 constructor
 ·intro h
  apply UInt8.toNat_inj.1
  rw[e]
  omega
 ·rintro rfl
  rw[e]
theorem Jd (s:ByteArray) (c:Int) (hc0:0≤c) (hc:c<256):(idxB s c=-1∧∀ i,i<s.size→bAt s i≠c)∨∃ i:Nat,idxB s c=i∧i<s.size∧bAt s i=c∧∀ j,j<i→bAt s j≠c:=by
 obtain⟨c,rfl⟩:∃ n:Nat,c=n:=⟨c.toNat,by omega⟩
 have hc:c<256:=by omega
 have hlen:s.data.toList.length=s.size:=by simp
 rcases F0 ((c:Int).toNat.toUInt8) s.data.toList with ⟨h1,h2⟩|⟨i,h1,hi,h2,h3⟩
 ·refine .inl ⟨h1,fun i hi=>?_⟩
  rw[Gb hi,Ne,HJ hc]
  exact h2 _ (List.getElem_mem _)
 ·refine .inr ⟨i,h1,by omega,?_,fun j hj=>?_⟩
  ·rw[Gb (by omega),HJ hc]
   exact h2
  ·rw[Gb (by omega),Ne,HJ hc]
   exact h3 j hj
theorem KE (s:ByteArray):Bo big s=some (idxB s 123):=by
 unfold Bo
 by_cases h:(⟨#[123]⟩:ByteArray)=s
 ·subst h
  rfl
 ·simp only[Ai,eqS,decide_eq_false h,Am]
  rfl
theorem Hq (s:ByteArray):A6 big s=some (idxB s 125):=by
 unfold A6
 by_cases h:(⟨#[125]⟩:ByteArray)=s
 ·subst h
  rfl
 ·simp only[Ai,eqS,decide_eq_false h,Am]
  rfl
theorem geT {a b:Int} (h:b≤a):geI a b=true:=by simp[geI,h]
theorem geF {a b:Int} (h:¬ b≤a):geI a b=false:=by simp[geI];omega
theorem PF (s:ByteArray) (h:idxB s 123=-1):Bx big s=some (s,⟨#[]⟩,false):=by
 unfold Bx BD
 rw[KE,h]
 rfl
theorem Nk (s:ByteArray) (h:idxB s 125=-1):A8 big s=some (s,⟨#[]⟩,false):=by
 unfold A8 Bh
 rw[Hq,h]
 rfl
theorem Nl (s:ByteArray) (i:Nat) (h:idxB s 123=i) (hi:i<s.size) (hs:s.size≤1000000000000):Bx big s=some (s.extract 0 i,s.extract (i+1) s.size,true):=by
 unfold Bx BD
 rw[KE,h]
 have e1:segSh s (i:Int)=some (s.extract 0 i):=by
  unfold segSh
  rw[if_pos (by omega)]
  rfl
 have e2:segSl s ((i:Int)+1)=some (s.extract (i+1) s.size):=by
  unfold segSl
  rw[if_pos (by omega)]
  rfl
 simp only[Ai,Af,Al,Am,Ak,Aj,Ag,Option.some.injEq]
 rw[geT (by omega),Ar (by omega) (by omega),e1,e2]
 rfl
theorem Nm (s:ByteArray) (i:Nat) (h:idxB s 125=i) (hi:i<s.size) (hs:s.size≤1000000000000):A8 big s=some (s.extract 0 i,s.extract (i+1) s.size,true):=by
 unfold A8 Bh
 rw[Hq,h]
 have e1:segSh s (i:Int)=some (s.extract 0 i):=by
  unfold segSh
  rw[if_pos (by omega)]
  rfl
 have e2:segSl s ((i:Int)+1)=some (s.extract (i+1) s.size):=by
  unfold segSl
  rw[if_pos (by omega)]
  rfl
 simp only[Ai,Af,Al,Am,Ak,Aj,Ag,Option.some.injEq]
 rw[geT (by omega),Ar (by omega) (by omega),e1,e2]
 rfl
theorem FM {s:ByteArray} {a j:Nat} (h:a+j<s.size):bAt (s.extract a s.size) j=bAt s (a+j):=by
 have h2:j<(s.extract a s.size).size:=by rw[ByteArray.size_extract];omega
 unfold bAt
 rw[dif_pos h2,dif_pos h,ByteArray.getElem_extract]
theorem ED {s:ByteArray} {i:Nat} (h:i<s.size):atS s (i:Int)=some (bAt s i):=by
 unfold atS
 rw[if_pos (by omega)]
 rfl
theorem neT {a b:Int} (h:a≠b):neI a b=true:=by simp[neI,h]
theorem eqF' {a b:Int} (h:a≠b):eqI a b=false:=by simp[eqI,h]
theorem PG (s:ByteArray) (hs:s.size≤1000000000000):∃ t:ByteArray,Cy big s=some t∧BS big s=some t∧t.size≤s.size:=by
 rcases Jd s 123 (by omega) (by omega) with ⟨h1,h2⟩|⟨i,h1,h2,h3,h4⟩
 ·refine⟨s,?_,?_,Nat.le_refl _⟩
  ·unfold Cy
   refine A7 (.inl ()) (fun i=>(i:Int)) s.size (by unfold big;omega) rfl (fun i hi=>?_) ?_ rfl
   ·simp only[Ai]
    rw[ltT (by simp only[lenS];omega),ED hi]
    simp only[Ai,Af,Al,Am,Ak,Aj,Ag,Option.some.injEq]
    rw[neT (h2 i hi),Al,Ar (by omega) (by omega)]
    rfl
   ·simp only[Ai]
    rw[ltF (by simp only[lenS];omega)]
    rfl
  ·unfold BS
   rw[PF s h1]
   rfl
 have hstep:∀ q,q<i→∀ {γ:Type} (x:Option (Int ⊕ γ)) (y:Option (Int ⊕ γ)),ite' (ltI (q:Int) (lenS s)) (bn (atS s (q:Int)) fun v6=>ite' (neI v6 123) (some (.inl (addI .i64 (q:Int) 1))) x) y=some (.inl ((q+1:Nat):Int)):=fun q hq γ x y=>by
  rw[ltT (by simp only[lenS];omega),ED (by omega)]
  simp only[Ai,Af,Al,Am,Ak,Aj,Ag,Option.some.injEq]
  rw[neT (h4 q hq),Al,Ar (by omega) (by omega)]
  rfl
 have hsz:(s.extract (i+1) s.size).size=s.size - (i+1):=by rw[ByteArray.size_extract];omega
 rcases Jd (s.extract (i+1) s.size) 125 (by omega) (by omega) with ⟨k1,k2⟩|⟨j,k1,k2,k3,k4⟩
 ·have k2:∀ q,i+1+q<s.size→bAt s (i+1+q)≠125:=fun q hq=>by
   have:=k2 q (by omega)
   rwa [FM hq] at this
  refine⟨s,?_,?_,Nat.le_refl _⟩
  ·unfold Cy
   refine A7 (.inr s) (fun i=>(i:Int)) i (by unfold big;omega) rfl (fun q hq=>hstep q hq _ _) ?_ rfl
   simp only[Ai]
   rw[ltT (by simp only[lenS];omega),ED h2]
   simp only[Ai,Af,Al,Am,Ak,Aj,Ag,Option.some.injEq,h3]
   rw[show neI (123:Int) 123=false by rfl,Am]
   refine A7 (.inl ()) (fun q=>((i+1+q:Nat):Int)) (s.size - (i+1)) (by unfold big;omega) (by rw[Ar (by omega) (by omega)];omega) (fun q hq=>?_) ?_ rfl
   ·rw[ltT (by simp only[lenS];omega),ED (by omega)]
    simp only[Ai,Af,Al,Am,Ak,Aj,Ag,Option.some.injEq]
    rw[eqF' (k2 q (by omega)),Am,Ar (by omega) (by omega)]
    rfl
   ·rw[ltF (by simp only[lenS];omega)]
    rfl
  ·unfold BS
   rw[Nl s i h1 h2 hs]
   simp only[Ai,Af,Al,Am,Ak,Aj,Ag,Option.some.injEq]
   rw[Nk _ k1]
   rfl
 ·have hj:i+1+j<s.size:=by omega
  have k3:bAt s (i+1+j)=125:=by rwa [FM hj] at k3
  have k4:∀ q,q<j→bAt s (i+1+q)≠125:=fun q hq=>by
   have:=k4 q hq
   rwa [FM (by omega)] at this
  have hex:(s.extract (i+1) s.size).extract 0 j=s.extract (i+1) (i+1+j):=by
   rw[ByteArray.extract_extract]
   congr 1
   omega
  have hez:(s.extract (i+1) (i+1+j)).size=j:=by rw[ByteArray.size_extract];omega
  have hslot:BS big s=some (bif decide (j=0) then s else s.extract (i+1) (i+1+j)):=by
   unfold BS
   rw[Nl s i h1 h2 hs]
   simp only[Ai,Af,Al,Am,Ak,Aj,Ag,Option.some.injEq]
   rw[Nm _ j k1 k2 (by omega)]
   simp only[Ai,Af,Al,Am,Ak,Aj,Ag,Option.some.injEq,hex]
   by_cases h0:j=0
   ·have:s.extract (i+1) (i+1+j)=⟨#[]⟩:=by
     apply ByteArray.ext
     apply Array.eq_empty_of_size_eq_zero
     exact hez.trans h0
    rw[this,show neS (⟨#[]⟩:ByteArray) ⟨#[]⟩=false by rfl,decide_eq_true h0]
    rfl
   ·have:s.extract (i+1) (i+1+j)≠⟨#[]⟩:=fun h=>by
     rw[h] at hez
     exact h0 hez.symm
    rw[show neS (s.extract (i+1) (i+1+j)) ⟨#[]⟩=true by simp[neS,this],decide_eq_false h0]
    rfl
  have hr1:Cy big s=some (bif decide (j=0) then s else s.extract (i+1) (i+1+j)):=by
   unfold Cy
   refine A7 (.inr (bif decide (j=0) then s else s.extract (i+1) (i+1+j))) (fun i=>(i:Int)) i (by unfold big;omega) rfl (fun q hq=>hstep q hq _ _) ?_ rfl
   simp only[Ai]
   rw[ltT (by simp only[lenS];omega),ED h2]
   simp only[Ai,Af,Al,Am,Ak,Aj,Ag,Option.some.injEq,h3]
   rw[show neI (123:Int) 123=false by rfl,Am]
   refine A7 (.inr (bif decide (j=0) then s else s.extract (i+1) (i+1+j))) (fun q=>((i+1+q:Nat):Int)) j (by unfold big;omega) (by rw[Ar (by omega) (by omega)];omega) (fun q hq=>?_) ?_ rfl
   ·rw[ltT (by simp only[lenS];omega),ED (by omega)]
    simp only[Ai,Af,Al,Am,Ak,Aj,Ag,Option.some.injEq]
    rw[eqF' (k4 q hq),Am,Ar (by omega) (by omega)]
    rfl
   ·rw[ltT (by simp only[lenS];omega),ED hj]
    simp only[Ai,Af,Al,Am,Ak,Aj,Ag,Option.some.injEq,k3]
    rw[show eqI (125:Int) 125=true by rfl,Al,Ar (by omega) (by omega)]
    by_cases h0:j=0
    ·rw[show eqI ((i+1+j:Nat):Int) ((i:Int)+1)=true by simp[eqI];omega,decide_eq_true h0]
     rfl
    ·rw[eqF' (by omega),decide_eq_false h0,Am]
     have:segSlh s ((i:Int)+1) ((i+1+j:Nat):Int)=some (s.extract (i+1) (i+1+j)):=by
      unfold segSlh segS
      rw[if_pos (by omega)]
      rfl
     rw[this]
     rfl
  refine⟨_,hr1,hslot,?_⟩
  cases decide (j=0)
  ·simp only[cond_false];omega
  ·exact Nat.le_refl _
theorem LF {x y:Nat} (hx:x<2 ^ 62) (hy:y<2 ^ 62):xorI .i64 (x:Int) (y:Int)=((x ^^^ y:Nat):Int):=by
 have h:=Nat.xor_lt_two_pow hx hy
 show IntKind.i64.wrap ((BitVec.ofInt 64 (x:Int) ^^^ BitVec.ofInt 64 (y:Int)).toNat:Int)=_
 simp only[BitVec.ofInt_natCast,BitVec.toNat_xor,BitVec.toNat_ofNat]
 rw[Nat.mod_eq_of_lt (show x<2 ^ 64 by omega),Nat.mod_eq_of_lt (show y<2 ^ 64 by omega),wrap64 (by omega) (by omega)]
theorem wrapU16 (a:Int):IntKind.u16.wrap a=a % 65536:=by simp[IntKind.wrap,IntKind.bits,IntKind.signed]
theorem LG {x y:Nat} (hx:x<2 ^ 16) (hy:y<2 ^ 16):xorI .u16 (x:Int) (y:Int)=((x ^^^ y:Nat):Int):=by
 have h:=Nat.xor_lt_two_pow hx hy
 show IntKind.u16.wrap ((BitVec.ofInt 16 (x:Int) ^^^ BitVec.ofInt 16 (y:Int)).toNat:Int)=_
 simp only[BitVec.ofInt_natCast,BitVec.toNat_xor,BitVec.toNat_ofNat]
 rw[Nat.mod_eq_of_lt hx,Nat.mod_eq_of_lt hy,wrapU16]
 omega
theorem OQ {x:Nat} (hx:x<2 ^ 62):andI .i64 (x:Int) 65535=((x % 65536:Nat):Int):=by
 have e:(65535:Int)=((65535:Nat):Int):=rfl
 rw[e]
 show IntKind.i64.wrap ((BitVec.ofInt 64 (x:Int) &&& BitVec.ofInt 64 ((65535:Nat):Int)).toNat:Int)=_
 simp only[BitVec.ofInt_natCast,BitVec.toNat_and,BitVec.toNat_ofNat]
 rw[Nat.mod_eq_of_lt (show x<2 ^ 64 by omega),show 65535 % 2 ^ 64=2 ^ 16 - 1 by rfl,Nat.and_two_pow_sub_one_eq_mod,wrap64 (by omega) (by omega)]
def bit1 (c:Nat):Nat:=if 32768≤c then (2*c ^^^ 4129) % 65536 else 2*c
theorem OR {c:Nat} (h:c<65536):bit1 c<65536:=by unfold bit1;split <;> omega
def bits:Nat→Nat→Nat
 |0,c=>c
 |k+1,c=>bit1 (bits k c)
theorem G8 {c:Nat} (h:c<65536):∀ k,bits k c<65536
 |0=>h
 |k+1=>OR (G8 h k)
def byteN (s:ByteArray) (i:Nat):Nat:=(bAt s i).toNat
theorem HK (s:ByteArray) (i:Nat):bAt s i=(byteN s i:Int)∧byteN s i<256:=by
 unfold byteN bAt
 split
 ·rename_i h
  have:=(s[i]'h).toNat_lt
  omega
 ·exact⟨rfl,by simp⟩
def crcN (s:ByteArray):Nat→Nat
 |0=>0
 |i+1=>bits 8 (crcN s i ^^^ byteN s i*256)
theorem F1 (s:ByteArray):∀ i,crcN s i<65536
 |0=>by simp[crcN]
 |i+1=>by
  have h1:=F1 s i
  have h2:=(HK s i).2
  exact G8 (Nat.xor_lt_two_pow (n:=16) (by omega) (by omega)) 8
theorem Nn (s:ByteArray) (hs:s.size≤1000000000000):Ez big s=some (crcN s s.size:Int):=by
 unfold Ez
 refine A7 (crcN s s.size:Int) (fun i=>((crcN s i:Int),(i:Int))) s.size (by unfold big;omega) rfl (fun i hi=>?_) ?_ rfl
 ·simp only[Ai]
  rw[ltT (by simp only[lenS];omega),ED hi]
  obtain⟨b1,b2⟩:=HK s i
  have hc:=F1 s i
  rw[b1]
  simp only[Ai,Af,Al,Am,Ak,Aj,Ag,Option.some.injEq]
  rw[Ch (by omega) (by omega)]
  have e1:shlI .i64 (byteN s i:Int) 8=some ((byteN s i*256:Nat):Int):=by
   unfold shlI
   rw[if_pos (by omega)]
   simp only[IntKind.bits,show min (8:Int).toNat 64=8 by rfl]
   rw[wrap64 (by omega) (by omega)]
   congr 1
  rw[e1]
  simp only[Af]
  rw[LF (by omega) (by omega)]
  have hx:crcN s i ^^^ byteN s i*256<65536:=Nat.xor_lt_two_pow (n:=16) (by omega) (by omega)
  have hcs:crcN s (i+1)=bits 8 (crcN s i ^^^ byteN s i*256):=rfl
  rw[hcs]
  clear hcs
  generalize crcN s i ^^^ byteN s i*256=x at hx ⊢
  refine A7 (bits 8 x:Int) (fun k=>((bits k x:Int),(k:Int))) 8 (by unfold big;omega) rfl (fun k hk=>?_) ?_ ?_
  ·simp only
   rw[ltT (by omega),Al]
   have hb:=G8 hx k
   have e2:shlI .i64 (bits k x:Int) 1=some ((2*bits k x:Nat):Int):=by
    unfold shlI
    rw[if_pos (by omega)]
    simp only[IntKind.bits,show min (1:Int).toNat 64=1 by rfl]
    rw[wrap64 (by omega) (by omega)]
    congr 1
    omega
   rw[e2]
   simp only[Af]
   have e3:ite' (geI ((2*bits k x:Nat):Int) 65536) (some (andI .i64 (xorI .i64 ((2*bits k x:Nat):Int) 4129) 65535)) (some ((2*bits k x:Nat):Int))=some (bit1 (bits k x):Int):=by
    unfold bit1
    by_cases h:32768≤bits k x
    ·rw[geT (by omega),if_pos h,Al,show (4129:Int)=((4129:Nat):Int) by rfl,LF (by omega) (by omega)]
     have h2:2*bits k x ^^^ 4129<2 ^ 17:=Nat.xor_lt_two_pow (by omega) (by omega)
     rw[OQ (by omega)]
    ·rw[geF (by omega),if_neg h,Am]
   rw[e3]
   simp only[Af]
   rw[Ar (by omega) (by omega)]
   rfl
  ·simp only
   rw[ltF (by omega)]
   rfl
  ·rw[Ar (by omega) (by omega)]
   rfl
 ·simp only[Ai]
  rw[ltF (by simp only[lenS];omega)]
  rfl
theorem If (s:ByteArray):(bytesI s).length=s.size:=by simp[bytesI]
theorem Mw (s:ByteArray) (i:Nat) (h:i<(bytesI s).length):(bytesI s)[i]=bAt s i:=by
 rw[Gb (by rw[If] at h;exact h)]
 simp[bytesI]
theorem Lf (s:ByteArray) (hs:s.size≤1000000000000):Dv big (bytesI s)=some (crcN s s.size:Int):=by
 unfold Dv
 have hl:=If s
 simp only[Ai]
 refine A7 (crcN s s.size:Int) (fun i=>((crcN s i:Int),(i:Int))) s.size (by unfold big;omega) rfl (fun i hi=>?_) ?_ ?_
 ·simp only
  rw[ltT (by simp only[lenI];omega),Aq (by omega),Mw]
  obtain⟨b1,b2⟩:=HK s i
  have hc:=F1 s i
  rw[b1]
  simp only[Ai,Af,Al,Am,Ak,Aj,Ag,Option.some.injEq]
  have e0:cvI .u16 (byteN s i:Int)=(byteN s i:Int):=by unfold cvI;rw[wrapU16];omega
  rw[e0]
  have e1:shlI .u16 (byteN s i:Int) 8=some ((byteN s i*256:Nat):Int):=by
   unfold shlI
   rw[if_pos (by omega)]
   simp only[IntKind.bits,show min (8:Int).toNat 16=8 by rfl]
   rw[wrapU16]
   congr 1
   omega
  rw[e1]
  simp only[Af]
  rw[LG (by omega) (by omega)]
  have hx:crcN s i ^^^ byteN s i*256<65536:=Nat.xor_lt_two_pow (n:=16) (by omega) (by omega)
  have hcs:crcN s (i+1)=bits 8 (crcN s i ^^^ byteN s i*256):=rfl
  rw[hcs]
  clear hcs
  generalize crcN s i ^^^ byteN s i*256=x at hx ⊢
  refine A7 (bits 8 x:Int) (fun k=>((bits k x:Int),(k:Int))) 8 (by unfold big;omega) rfl (fun k hk=>?_) ?_ ?_
  ·simp only
   rw[ltT (by omega),Al]
   have hb:=G8 hx k
   have e2:shlI .u16 (bits k x:Int) 1=some ((2*bits k x % 65536:Nat):Int):=by
    unfold shlI
    rw[if_pos (by omega)]
    simp only[IntKind.bits,show min (1:Int).toNat 16=1 by rfl]
    rw[wrapU16]
    congr 1
    omega
   have e4:shrI .u16 (bits k x:Int) 15=some ((bits k x / 32768:Nat):Int):=by
    unfold shrI
    rw[if_pos (by omega)]
    simp only[IntKind.bits,show min (15:Int).toNat 16=15 by rfl]
    rw[Int.fdiv_eq_ediv_of_nonneg _ (by omega)]
    rfl
   rw[e2,e4]
   simp only[Af]
   have e5:mulI .u16 4129 ((bits k x / 32768:Nat):Int)=((4129*(bits k x / 32768):Nat):Int):=by
    unfold mulI
    rw[wrapU16]
    omega
   rw[e5,LG (by omega) (by omega)]
   have e3:(2*bits k x % 65536) ^^^ (4129*(bits k x / 32768))=bit1 (bits k x):=by
    unfold bit1
    by_cases h:32768≤bits k x
    ·rw[if_pos h,show bits k x / 32768=1 by omega]
     have:=@Nat.xor_mod_two_pow (2*bits k x) 4129 16
     rw[show (2:Nat) ^ 16=65536 by rfl] at this
     rw[this]
    ·rw[if_neg h,show bits k x / 32768=0 by omega,Nat.mod_eq_of_lt (by omega),Nat.mul_zero,Nat.xor_zero]
   rw[e3,Ar (by omega) (by omega)]
   rfl
  ·simp only
   rw[ltF (by omega)]
   rfl
  ·rw[Ar (by omega) (by omega)]
   rfl
 ·simp only
  rw[ltF (by simp only[lenI];omega)]
  rfl
 ·have hc:=F1 s s.size
  rw[Ch (by omega) (by omega)]
def slotOf (k:ByteArray):Int:=(CC big k).getD 0
theorem LH (k:ByteArray) (h:k.size≤1000000000000):CC big k=some (slotOf k)∧CE big k=some (slotOf k):=by
 obtain⟨t,h1,h2,h3⟩:=PG k h
 have hc:=F1 t t.size
 have e:remI .i64 (crcN t t.size:Int) 16384=some (((crcN t t.size) % 16384:Nat):Int):=by
  simp[remI,Int.tmod_eq_emod_of_nonneg]
 have e1:CC big k=some (((crcN t t.size) % 16384:Nat):Int):=by
  unfold CC
  rw[h1]
  simp only[Af]
  rw[Nn t (by omega)]
  simp only[Af]
  rw[e]
  rfl
 have e2:CE big k=some (((crcN t t.size) % 16384:Nat):Int):=by
  unfold CE
  rw[h2]
  simp only[Af]
  rw[AR (by omega) (by omega)]
  simp only[Ai]
  rw[Lf t (by omega)]
  simp only[Af]
  rw[e]
  rfl
 unfold slotOf
 rw[e1,e2]
 exact⟨rfl,rfl⟩
def inP (l:List Pair) (s:Int):List ByteArray:=(l.filter fun p=>decide (slotOf p.key=s)).map fun p=>p.key
end Go.Proofs.YtlbdhlbbkibgpaaGreat
namespace Go.Proofs.YtlbdhlbbkibgpaaGreat
open Go Go.RowKit
def keyT (j:Nat):ByteArray:=(A1 big (j:Int)).getD ⟨#[]⟩
theorem OS (n:Int) (h:0≤n) (h2:n≤255):A1 big n=A1 big (n % 20):=by
 unfold A1
 rw[AY h (by omega),AY (show 0≤n % 20 by omega) (by omega),Ch (by omega) (by omega),Ch (show -9223372036854775808≤n % 20 by omega) (by omega)]
 simp only[Af,Ai]
 rw[IM h (by omega) (by omega),IM (show 0≤n % 20 by omega) (by omega) (by omega)]
 simp only[Af]
 rw[AY (by omega) (by omega),AY (show 0≤n % 20 / 4 by omega) (by omega),show n % 20 % 4=n % 4 by omega,show n % 20 / 4 % 5=n / 4 % 5 by omega]
def keysB:Bool:=(List.range 20).all fun j=>(A1 big (j:Int)).isSome && decide ((keyT j).size=4) && decide (slotOf (keyT j)=slotOf (keyT (j % 4)))
theorem NX:keysB=true:=by kernel_rfl
def slotsB:Bool:=(List.range 4).all fun a=>(List.range 4).all fun b=>decide (a=b) || !decide (slotOf (keyT a)=slotOf (keyT b))
theorem LI {j:Nat} (h:j<20):A1 big (j:Int)=some (keyT j)∧(keyT j).size=4∧slotOf (keyT j)=slotOf (keyT (j % 4)):=by
 have h1:=List.all_eq_true.1 NX j (List.mem_range.2 h)
 simp only[Bool.and_eq_true,decide_eq_true_eq] at h1
 refine⟨?_,h1.1.2,h1.2⟩
 unfold keyT
 cases h2:A1 big (j:Int) with
 |none=>rw[h2] at h1;simp at h1
 |some v=>rfl
theorem KF (n:Int) (h:0≤n) (h2:n≤255):∃ j:Nat,j<20∧(j:Int)=n % 20∧A1 big n=some (keyT j):=by
 refine⟨(n % 20).toNat,by omega,by omega,?_⟩
 rw[OS n h h2,← (LI (show (n % 20).toNat<20 by omega)).1]
 congr 1
 omega
def keyed (k:ByteArray):Prop:=∃ j,j<20∧k=keyT j
theorem No (l:List Int) (hl:u8s l) (i:Nat) (h:4*i+3<l.length) (e:Effect) (he:effAt l i=some e):keyed e.key∧(e.gone=true→e.item=noI):=by
 have hb0:=hl _ (List.getElem_mem (show 4*i<l.length by omega))
 have hb1:=hl _ (List.getElem_mem (show 4*i+1<l.length by omega))
 unfold effAt at he
 rw[Aq (show 4*i<l.length by omega),Aq (show 4*i+1<l.length by omega)] at he
 simp only[Af] at he
 obtain⟨j,hj,-,hk⟩:=KF _ hb0.1 hb0.2
 rw[hk,AY hb1.1 (by omega)] at he
 simp only[Af] at he
 cases hg:eqI (l[4*i+1] % 4) 0
 ·rw[hg] at he
  obtain⟨y,hy,he⟩:=bnE he
  have he:=Option.some.inj he
  subst he
  rw[show notB false=true from rfl,Al] at hy
  obtain⟨_,-,hy⟩:=bnE hy
  obtain⟨_,-,hy⟩:=bnE hy
  obtain⟨_,-,hy⟩:=bnE hy
  have hy:=Option.some.inj hy
  subst hy
  exact⟨⟨j,hj,rfl⟩,fun h=>by cases h⟩
 ·rw[hg] at he
  simp only[Cb,Am,Af,Option.some.injEq] at he
  subst he
  exact⟨⟨j,hj,rfl⟩,fun _=>rfl⟩
def okM (m:List Effect):Prop:=m.length≤40∧∀ e∈m,okI e.item∧keyed e.key∧(e.gone=true→e.item=noI)
theorem GS (l:List Int) (hl:u8s l) (h:l.length≤1000000000):Rn (Bi big l) okM:=by
 refine (GR l hl h).mono fun m hm=>?_
 obtain⟨h1,h2,h3⟩:=hm
 refine⟨by omega,fun e he=>⟨h3 e he,?_⟩⟩
 obtain⟨i,hi,rfl⟩:=List.getElem_of_mem he
 exact No l hl i (by omega) _ (by rw[h2 i hi,List.getElem?_eq_getElem hi])
theorem Ig (Q:ByteArray→Prop):∀ (es:List Effect) (l:List Pair),(∀ p∈l,Q p.key)→(∀ e∈es,Q e.key)→∀ p∈es.foldl applyP l,Q p.key
 |[],l,h1,_=>h1
 |e::es,l,h1,h2=>by
  refine Ig Q es (applyP l e) (fun p hp=>?_) fun x hx=>h2 x (by simp[hx])
  unfold applyP newP at hp
  rcases List.mem_append.1 hp with hp|hp
  ·rcases List.mem_append.1 hp with hp|hp
   ·exact h1 p (List.mem_filter.1 hp).1
   ·split at hp
    ·simp at hp
    ·simp at hp;subst hp;exact h2 e (by simp)
  ·exact h1 p (List.mem_filter.1 hp).1
def setO (k:ByteArray) (o:Option Item) (e:Effect):Option Item:=if e.key=k then (if e.gone then none else some e.item) else o
theorem Ih {l:List Pair} (h:SrtP l) (e:Effect) (k:ByteArray):rawP (applyP l e) k=setO k (rawP l k) e:=by
 obtain⟨A,B,C,rfl,hA,hC,hB⟩:=shapeG (key:=Pair.key) e.key l h
 rw[Eg hA hC hB]
 unfold setO
 by_cases hk:e.key=k
 ·subst hk
  have hn:newP e=[]∨∃ x,newP e=[x]∧x.key=e.key:=by
   unfold newP
   split
   ·exact .inl rfl
   ·exact .inr ⟨_,rfl,rfl⟩
  rw[Mv hA hC hn,if_pos rfl]
  unfold newP
  split <;> rfl
 ·rw[if_neg hk]
  have h1:(newP e).find? (fun p=>decide (p.key=k))=none:=List.find?_eq_none.2 fun p hp=>by
   unfold newP at hp
   split at hp
   ·simp at hp
   ·simp at hp;subst hp;simpa using hk
  have h2:B.find? (fun p=>decide (p.key=k))=none:=List.find?_eq_none.2 fun p hp=>by
   rcases hB with rfl|⟨x,rfl,hx⟩
   ·simp at hp
   ·simp at hp;subst hp;simpa [hx] using hk
  unfold rawP
  simp only[List.find?_append,h1,h2]
def okDB (db:List Pair):Prop:=SrtP db∧okP db∧db.length≤40∧∀ p∈db,keyed p.key
theorem Np (ns:List Int) (hu:u8s ns) (h:ns.length≤1000000000):Rn (CR big ns) okDB:=by
 unfold CR
 refine Rn.bn (GS ns hu h) fun m hm=>?_
 obtain⟨h1,h2⟩:=hm
 have ho:∀ e∈m,okI e.item:=fun e he=>(h2 e he).1
 refine Rn.bnE (Mu [] m .nil (by simp[okP]) ho (by simp;omega)) (Rn.some ?_)
 obtain⟨g1,g2,g3⟩:=ON ho
 exact⟨g1,g2,by have:=g3;unfold dbOf at this;omega,Ig keyed m [] (by simp) fun e he=>(h2 e he).2.1⟩
theorem Ii {k:ByteArray} (h:keyed k):k.size=4:=by
 obtain⟨j,hj,rfl⟩:=h
 exact (LI hj).2.1
def cntS (f:Nat→Nat):Nat→Nat
 |0=>0
 |k+1=>cntS f k+f k
def hasS (l:List ByteArray) (x:ByteArray):Bool:=l.any fun y=>decide (y=x)
theorem Nq {l:List ByteArray} {x:ByteArray} (h:x∈l):hasS l x=true:=List.any_eq_true.2 ⟨x,h,by simp⟩
theorem PH {l:List ByteArray} {x:ByteArray} (h:x ∉ l):hasS l x=false:=by
 cases hh:hasS l x
 ·rfl
 ·obtain⟨y,h1,h2⟩:=List.any_eq_true.1 hh
  exact absurd (of_decide_eq_true h2 ▸ h1) h
theorem Nr (l:List ByteArray) (x:ByteArray) (h:l.length≤1000000000):H4 big l x=some (hasS l x):=by
 refine Rn.eq ?_
 unfold H4
 refine Rn.bn (P:=fun y=>(y=.inl ()∧x ∉ l)∨(y=.inr true∧x∈l)) (Rn.iter _ (fun q a=>a=(q:Int)∧∀ i (h:i<q) (hi:i<l.length),l[i]≠x) l.length (by unfold big;omega) ⟨rfl,fun i h=>by omega⟩ fun q a hq hI=>?_) fun y hy=>?_
 ·obtain⟨rfl,hI⟩:=hI
  simp only[Ai,Af,Al,Am,Ak,Aj,Ag,Option.some.injEq]
  by_cases hq2:q<l.length
  ·rw[A4 (by omega),Aq hq2]
   simp only[Ai,Af,Al,Am,Ak,Aj,Ag,Option.some.injEq,eqS]
   by_cases hk:l[q]=x
   ·rw[decide_eq_true hk]
    exact⟨_,rfl,.inr ⟨rfl,hk ▸ List.getElem_mem hq2⟩⟩
   ·rw[decide_eq_false hk]
    refine⟨_,rfl,hq2,by rw[Ar (by omega) (by omega)];omega,fun i hi h1=>?_⟩
    by_cases hiq:i=q
    ·subst hiq;exact hk
    ·exact hI i (by omega) h1
  ·obtain rfl:q=l.length:=by omega
   rw[A5 (by omega)]
   refine⟨_,rfl,.inl ⟨rfl,fun hx=>?_⟩⟩
   obtain⟨i,hi,e⟩:=List.getElem_of_mem hx
   exact hI i hi hi e
 ·rcases hy with ⟨rfl,h⟩|⟨rfl,h⟩
  ·exact⟨_,rfl,(PH h).symm⟩
  ·exact⟨_,rfl,(Nq h).symm⟩
end Go.Proofs.YtlbdhlbbkibgpaaGreat
namespace Go.Proofs.YtlbdhlbbkibgpaaGreat
open Go Go.RowKit
end Go.Proofs.YtlbdhlbbkibgpaaGreat
