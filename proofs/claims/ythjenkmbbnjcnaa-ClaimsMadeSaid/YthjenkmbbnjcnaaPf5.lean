/- Part 5 of the proof. -/
import Derived.Test.YthjenkmbbnjcnaaPf4
set_option linter.unusedVariables false
set_option linter.unusedSimpArgs false
set_option linter.constructorNameAsVariable false
set_option maxRecDepth 8000
set_option maxHeartbeats 8000000
namespace Go.Proofs.Ythjenkmbbnjcnaa
open Go Go.RowKit
def Co (n:Nat) (a0:List Span):Option (List Span) :=
bn (CZ n a0) fun v1 =>
lt (lenI v1) fun v2 =>
bn (iter n (fun (y3:Int×List Span) =>
lt (ltI y3.1 v2) fun v6 =>
ite' v6 (bn (bn (nth v1 y3.1) fun v8 =>
lt (lenI y3.2) fun v9 =>
bn (lt (gtI v9 0) fun v11 =>
ite' v11 (lt (subI .i64 v9 1) fun v12 =>
bn (nth y3.2 v12) fun v13 =>
lt (addI .i64 v13.to 1) fun v15 =>
lt (leI v8.frm v15) fun v16 =>
some (v16)) (some (false))) fun (y10:Bool) =>
lt (y10) fun v17 =>
ite' v17 (lt (subI .i64 v9 1) fun v18 =>
bn (nth y3.2 v18) fun v19 =>
lt (maxI v19.to v8.to) fun v21 =>
lt (y3.2.set v18.toNat (⟨v19.frm,v21⟩:Span)) fun v23 =>
some (v23)) (chk (room (y3.2.length+1) 16) <|
lt (y3.2++[v8]) fun v28 =>
some (v28))) fun (y7:List Span) =>
lt (addI .i64 y3.1 1) fun v29 =>
some (.inl (v29,y7))) (some (.inr y3.2))) (0,[])) fun (y4:List Span) =>
chk (room y4.length 1) <|
some y4
def DX2t1:List DI:=[⟨[0],[],[(6,none)],false⟩,⟨[0],[0],[(16,some 0)],false⟩,⟨[0],[0,1],[(17,some 1)],false⟩,⟨[0],[0,1,2],[(5,none),(18,some 2)],false⟩,⟨[0],[0,1,2,3],[(18,some 2),(19,some 3)],false⟩,⟨[0],[0,1,2],[(3,none),(18,some 2)],false⟩,⟨[0],[0,1,2],[(6,none),(18,some 2)],false⟩,⟨[0],[0,1,2,6],[(18,some 2),(22,some 6)],false⟩,⟨[0],[0,1,2,5,6,7],[(18,some 2),(21,some 5),(23,some 7)],false⟩,⟨[0],[0,1,2,5,6,7,8],[(18,some 2),(24,some 8)],false⟩,⟨[0],[0,1,2,5,6,7,8,9],[(18,some 2),(25,some 9)],false⟩,⟨[0],[0,1,2,5,6,7,8,9,10],[(18,some 2),(26,some 10)],false⟩,⟨[],[0,1,2,3,4,5,6,7,8,9,10,11],[],false⟩,⟨[],[0,1,2,3,4,5,6,7,8,9,10,11,12],[],false⟩]
theorem HB {n:Nat} {a0:List Span} {r:List Span} (h:Co n a0=some r):Sound Try.prog 49 [.l (.d false 2 (encSpan a0))] [] (.l (.d false 2 (encSpan r))) []:=by
 unfold Co at h
 refine Sound.of_aw (fn:=Try.f49) (c:=_) Try.func49 rfl (by simp[Try.f49]) fun cx hG hnb=>?_
 rw[show Try.f49.ntmps=50 from rfl]
 have hn0:cx.nb=0:=hnb
 simp only[As,initTm,List.map_cons,List.map_nil]
 apply AW.step
 ·simp
  intros;rfl
 apply AW.step
 ·simp
  intros;rfl
 refine AW.seq ?_
 replace h:=bnE h;obtain⟨v1,e1,h⟩:=h
 replace h:=ltE h;obtain⟨v2,e2,h⟩:=h
 apply AW.step
 ·simp[Ak e2]
  intros
  refine Ah G2 (HA e1) rfl ⟨.same rfl,trivial⟩ ?_
  try simp[Ak e2]
  intros;rfl
 refine AW.block ?_
 replace h:=bnE h;obtain⟨y4,g4,h⟩:=h
 refine AW.iterP g4 (mk:=fun gh ls q=>(⟨[(3,.l (.r 0 2 0 q.2.length)),(8,.l (.d false 2 (encSpan v1))),(9,.l (.s (.int .i64 v2))),(10,.l (.s (.int .i64 q.1)))],[some ⟨43,2,true,none,lvs (encSpan q.2)⟩],50,gh,ls⟩:St)) (N:=fun gh ls=>(xP 0 (cx:=cx) (fun q=>(⟨[(3,.l (.r 0 2 0 q.length))],[some ⟨43,2,true,none,lvs (encSpan q)⟩],50,gh,ls⟩:St)))) ?_ noX ?_ ?_
 ·refine W.nilRow 3 43 2 0 (by simp) rfl rfl ?_
  refine Weak.mixN [some 0] hn0 (by decide) ?_ ?_ rfl
  all_goals first|(simp[Ab,Ac,pickOb];done)|rfl
 ·clear h;intro y3 y5 h
  replace h:=ltE h;obtain⟨v6,e6,h⟩:=h
  apply AW.step
  ·simp[← e6]
   intros;rfl
  refine AW.seq ?_
  cases v6 with
  |true =>
   replace h:=iteT rfl h
   refine AW.cond_true (by simp) ?_
   refine AW.skip ?_
   try simp only[nm]
   replace h:=bnE h;obtain⟨y7,g7,h⟩:=h
   refine AW.flow (p:=fun gh ls=>(nP (cx:=cx) (fun q=>(⟨[(3,.l (.r 0 2 0 q.length)),(8,.l (.d false 2 (encSpan v1))),(9,.l (.s (.int .i64 v2))),(10,.l (.s (.int .i64 y3.1)))],[some ⟨43,2,true,none,lvs (encSpan q)⟩],50,gh,ls⟩:St))) y7) ?_ ?_
   ·replace h:=g7;clear g7
    refine AW.block ?_
    replace h:=bnE h;obtain⟨v8,e8,h⟩:=h
    apply AW.step
    ·simp[Aa e8]
     intros;rfl
    refine AW.seq ?_
    replace h:=ltE h;obtain⟨v9,e9,h⟩:=h
    apply AW.step
    ·simp[Ak e9]
     intros;rfl
    replace h:=bnE h;obtain⟨y10,g10,h⟩:=h
    refine AW.flow (p:=fun gh ls=>(nP (cx:=cx) (fun q=>(⟨[(3,.l (.r 0 2 0 y3.2.length)),(5,.l (.p 1 0)),(6,.l (.s (.int .i64 v9))),(8,.l (.d false 2 (encSpan v1))),(9,.l (.s (.int .i64 v2))),(10,.l (.s (.int .i64 y3.1))),(29,.l (.s (.bool q)))],[some ⟨43,2,true,none,lvs (encSpan y3.2)⟩,some ⟨43,2,false,none,[.s (.int .i64 v8.frm),.s (.int .i64 v8.to)]⟩],50,gh,ls⟩:St))) y10) ?_ ?_
    ·replace h:=g10;clear g10
     replace h:=ltE h;obtain⟨v11,e11,h⟩:=h
     cases v11 with
     |true =>
      replace h:=iteT rfl h
      replace h:=ltE h;obtain⟨v12,e12,h⟩:=h
      replace h:=bnE h;obtain⟨v13,e13,h⟩:=h
      have f14:=Ai e13
      try simp[← e11,← e12,Aa e13] at f14
      replace h:=ltE h;obtain⟨v15,e15,h⟩:=h
      replace h:=ltE h;obtain⟨v16,e16,h⟩:=h
      apply AW.drawnR (V:=[_,_,_,_,_,_,_,_,_,_,_,_]) mixed DX2t1 12 (by kernel_rfl) (by kernel_rfl)
      ·refine⟨?_,?_,?_,?_,?_,?_,?_,?_,?_,?_,?_,?_,trivial⟩
       iterate 12 (· intro tm hr;simp[AllL,rdV] at hr;simp[hr,← e11,← e12,Aa e13,f14,AR (Aa e13).2 (j:=1) (by decide),lvs1,← e15,← e16];intros;first|exact KD.mk|exact KD.mkN)
      ·rfl
      ·simp[tmD,putD,← e11,← e12,Aa e13,f14,AR (Aa e13).2 (j:=1) (by decide),lvs1,← e15,← e16];rfl
      ·simp[← e11,← e12,Aa e13,f14,AR (Aa e13).2 (j:=1) (by decide),lvs1,← e15,← e16]
       intros;rfl
      obtain rfl:=oi h
      refine nP_i ?_
      refine Weak.mixN [some 0,some 1] hn0 (by decide) ?_ ?_ rfl
      all_goals first|(simp[Ab,Ac,pickOb];done)|rfl
     |false =>
      replace h:=iteF rfl h
      apply AW.drawnR (V:=[_,_,_,_,_,_,_,_,_,_,_,_]) mixed DX2t1 12 (by kernel_rfl) (by kernel_rfl)
      ·refine⟨?_,?_,?_,?_,?_,?_,?_,?_,?_,?_,?_,?_,trivial⟩
       iterate 12 (· intro tm hr;simp[AllL,rdV] at hr;simp[hr,← e11];intros;first|exact KD.mk|exact KD.mkN)
      ·rfl
      ·simp[tmD,putD,← e11];rfl
      ·simp[← e11]
       intros;rfl
      obtain rfl:=oi h
      refine nP_i ?_
      refine Weak.mixN [some 0,some 1] hn0 (by decide) ?_ ?_ rfl
      all_goals first|(simp[Ab,Ac,pickOb];done)|rfl
    ·rintro e s hp
     obtain⟨rfl,hw⟩:=hp
     refine⟨_,hw,?_⟩
     try simp only[nm]
     replace h:=ltE h;obtain⟨v17,e17,h⟩:=h
     rw[← e17]
     cases v17 with
     |true =>
      replace h:=iteT rfl h
      refine AW.cond_true (by simp) ?_
      replace h:=ltE h;obtain⟨v18,e18,h⟩:=h
      replace h:=bnE h;obtain⟨v19,e19,h⟩:=h
      have f20:=Ai e19
      try simp[← e18,Aa e19] at f20
      replace h:=ltE h;obtain⟨v21,e21,h⟩:=h
      have f22:=Ai e19
      try simp[← e18,Aa e19,f20,AR (Aa e19).2 (j:=1) (by decide),lvs1,← e21] at f22
      replace h:=ltE h;obtain⟨v23,e23,h⟩:=h
      have f24:=Ed (Aa e19).2 e23 (j:=1) (cs:=[.s (.int .i64 v21)]) (by simp) rfl
      try simp at f24
      have f25:=f20
      try simp only[Af e23] at f25
      have f26:=f22
      try simp only[Af e23] at f26
      apply AW.drawnP (V:=[_,_,_,_,_,_,_,_,_,_,_,_]) mixed [⟨[0],[],[(3,none)],false⟩,⟨[0],[],[(6,none)],false⟩,⟨[0],[1],[(31,some 1)],false⟩,⟨[0],[],[(3,none)],false⟩,⟨[0],[],[(6,none)],false⟩,⟨[0],[4],[(34,some 4)],false⟩,⟨[0],[3,4,5],[(33,some 3),(35,some 5)],false⟩,⟨[0],[3,4,5,6],[(36,some 6)],false⟩,⟨[0],[3,4,5,6,7],[(37,some 7)],false⟩,⟨[0],[],[(5,none)],false⟩,⟨[0],[9],[(39,some 9)],false⟩,⟨[0],[3,4,5,6,7,8,9,10],[(38,some 8),(40,some 10)],false⟩,⟨[],[0,1,2,3,4,5,6,7,8,9,10,11],[],false⟩,⟨[],[0,1,2,3,4,5,6,7,8,9,10,11,12],[],false⟩,⟨[],[0,1,2,3,4,5,6,7,8,9,10,11,12,13],[],false⟩] 12 (by kernel_rfl) (by kernel_rfl)
      ·refine⟨?_,?_,?_,?_,?_,?_,?_,?_,?_,?_,?_,?_,trivial⟩
       iterate 12 (· intro tm hr;simp[AllL,rdV] at hr;simp[hr,← e18,Aa e19,f20,AR (Aa e19).2 (j:=1) (by decide),lvs1,← e21,f22,B0 (Aa e19).2 (j:=1) (m:=1) (by decide),f24,f25,f26];intros;first|exact KD.mk|exact KD.mkN)
      ·rfl
      ·simp[tmD,putD,← e18,Aa e19,f20,AR (Aa e19).2 (j:=1) (by decide),lvs1,← e21,f22,B0 (Aa e19).2 (j:=1) (m:=1) (by decide),f24,f25,f26];rfl
      ·simp[← e18,Aa e19,f20,AR (Aa e19).2 (j:=1) (by decide),lvs1,← e21,f22,B0 (Aa e19).2 (j:=1) (m:=1) (by decide),f24,f25,f26]
       intros;rfl
      refine AW.exit ?_
      try simp only[nm]
      obtain rfl:=oi h
      refine nP_i ?_
      refine Weak.mixN [some 0] hn0 (by decide) ?_ ?_ rfl
      all_goals first|(simp[Ab,Ac,pickOb,Af e23];done)|rfl
     |false =>
      replace h:=iteF rfl h
      refine AW.cond_false (by simp) ?_
      refine AW.skip ?_
      try simp only[nm]
      replace h:=chkE h;obtain⟨e27,h⟩:=h
      replace h:=ltE h;obtain⟨v28,e28,h⟩:=h
      apply AW.last
      ·simp[← Ao,← e28,Ar e28]
       intros
       refine Bu ?_
       try simp[← Ao,← e28,Ar e28]
       intros
       refine Bt (acc:=encSpan y3.2) (ys:=encSpan [v8]) (cap:=none) (k:=1) Dl Dk (by simp) (by simp[encSpan,lvs]) (Bh _) (by simp) (by simp) (by first|(simp;done)|simpa using (Aw e27).1) ?_
       try simp[← Ao,← e28,Ar e28]
       intros;rfl
      obtain rfl:=oi h
      refine nP_i ?_
      refine Weak.mixN [some 3] hn0 (by decide) ?_ ?_ rfl
      all_goals first|(simp[Ab,Ac,pickOb,Bk];done)|rfl
   ·rintro e s hp
    obtain⟨rfl,hw⟩:=hp
    refine⟨_,hw,?_⟩
    try simp only[nm]
    replace h:=ltE h;obtain⟨v29,e29,h⟩:=h
    apply AW.last
    ·simp[← e29]
     intros;rfl
    obtain rfl:=oi h
    refine nP_i ?_
    refine Weak.mixN [some 0] hn0 (by decide) ?_ ?_ rfl
    all_goals first|(simp[Ab,Ac,pickOb];done)|rfl
  |false =>
   replace h:=iteF rfl h
   refine AW.cond_false (by simp) ?_
   refine AW.exit ?_
   try simp only[nm]
   obtain rfl:=oi h
   refine xP_i ?_
   refine Weak.mixN [some 0] hn0 (by decide) ?_ ?_ rfl
   all_goals first|(simp[Ab,Ac,pickOb];done)|rfl
 ·rintro e s hp
  obtain⟨rfl,hw⟩:=hp
  refine⟨_,hw,?_⟩
  try simp only[nm]
  apply AW.step
  ·simp
   intros;rfl
  replace h:=chkE h;obtain⟨e30,h⟩:=h
  refine AW.frzRow 0 (ty:=43) (cap:=none) (sz:=2) (es:=encSpan y4) (by simp) (by omega) (Bh _) (by first|exact (Aw e30).2|simpa using (Aw e30).2|simp) (by simp[Tm.frz,AV.frz,LV.frz];rfl) (by simp[Ob.frz,LV.frz];rfl) rfl ?_
  obtain rfl:=oi h
  refine AW.ret ?_
  refine Left.plain hnb (by simp[Try.f49,resV,resC,comp];rfl) rfl rfl ?_
  simp
theorem G3:Enters Try.prog 49:=enters Try.func49 (by kernel_rfl) rfl
def Cj (n:Nat) (a0:List Claim) (a1:List Claim):Option (List Claim×List Claim) :=
some (a0,a1)
theorem DW {n:Nat} {a0:List Claim} {a1:List Claim} {r:List Claim×List Claim} (h:Cj n a0 a1=some r):Sound Try.prog 47 [.l (.d false 4 (encClaim a0)),.l (.d false 4 (encClaim a1))] [] (.l (.f 67 [0,1])) [some ⟨24,1,false,none,[.d false 4 (encClaim r.1)]⟩,some ⟨24,1,false,none,[.d false 4 (encClaim r.2)]⟩]:=by
 unfold Cj at h
 refine Sound.of_aw (fn:=Try.f47) (c:=_) Try.func47 rfl (by simp[Try.f47]) fun cx hG hnb=>?_
 rw[show Try.f47.ntmps=6 from rfl]
 have hn0:cx.nb=0:=hnb
 simp only[As,initTm,List.map_cons,List.map_nil]
 apply AW.step
 ·simp
  intros;rfl
 apply AW.step
 ·simp
  intros;rfl
 obtain rfl:=oi h
 refine AW.ret ?_
 refine Left.of (av:=_) (by simp[Try.f47,resV,resC,comp];rfl) ?_
 exact LeftV.mix 0 [some 0,some 1] hn0 rfl (by decide) rfl (by simp[pickOb,Ab,Ac]) (by simp[Ab,Ac])
theorem DL:Enters Try.prog 47:=enters Try.func47 (by kernel_rfl) rfl
def By (n:Nat) (a0:List Claim) (a1:Int):Option (Claim×List Claim) :=
bn (iter n (fun (y1:List Claim) =>
bn (lt (lenI y1) fun v5 =>
lt (gtI v5 0) fun v6 =>
ite' v6 (bn (nth y1 0) fun v7 =>
lt (ltI v7.to a1) fun v8 =>
some (v8)) (some (false))) fun (y4:Bool) =>
lt (y4) fun v9 =>
ite' v9 (bn (segl y1 1) fun v10 =>
some (.inl v10)) (some (.inr y1))) a0) fun (y2:List Claim) =>
bn (bn (lt (lenI y2) fun v14 =>
lt (gtI v14 0) fun v15 =>
ite' v15 (bn (nth y2 0) fun v16 =>
lt (leI v16.frm a1) fun v17 =>
some (v17)) (some (false))) fun (y13:Bool) =>
lt (y13) fun v18 =>
ite' v18 (bn (nth y2 0) fun v19 =>
some ((⟨a1,v19.to,v19.node,v19.epoch⟩:Claim))) (lt (lenI y2) fun v20 =>
lt (gtI v20 0) fun v21 =>
ite' v21 (bn (nth y2 0) fun v22 =>
lt (subI .i64 v22.frm 1) fun v23 =>
some ((⟨a1,v23,0,0⟩:Claim))) (some ((⟨a1,16383,0,0⟩:Claim))))) fun (y12:Claim) =>
some (y12,y2)
theorem Cp {n:Nat} {a0:List Claim} {a1:Int} {r:Claim×List Claim} (h:By n a0 a1=some r):Sound Try.prog 68 [.l (.d false 4 (encClaim a0)),.l (.s (.int .i64 a1))] [] (.t [(true,[.s (.int .i64 r.1.frm),.s (.int .i64 r.1.to),.s (.int .i64 r.1.node),.s (.int .i64 r.1.epoch)]),(false,[.d false 4 (encClaim r.2)])]) []:=by
 unfold By at h
 refine Sound.of_aw (fn:=Try.f68) (c:=_) Try.func68 rfl (by simp[Try.f68]) fun cx hG hnb=>?_
 rw[show Try.f68.ntmps=51 from rfl]
 have hn0:cx.nb=0:=hnb
 simp only[As,initTm,List.map_cons,List.map_nil]
 apply AW.step
 ·simp
  intros;rfl
 refine AW.seq ?_
 refine AW.block ?_
 replace h:=bnE h;obtain⟨y2,g2,h⟩:=h
 refine AW.iterP g2 (mk:=fun gh ls q=>(⟨[(0,.l (.d false 4 (encClaim q))),(1,.l (.s (.int .i64 a1))),(4,.l (.p 0 0))],[some ⟨41,4,false,none,[.s (.int .i64 0),.s (.int .i64 0),.s (.int .i64 0),.s (.int .i64 0)]⟩],51,gh,ls⟩:St)) (N:=fun gh ls=>(xP 0 (cx:=cx) (fun q=>(⟨[(0,.l (.d false 4 (encClaim q))),(1,.l (.s (.int .i64 a1))),(4,.l (.p 0 0))],[some ⟨41,4,false,none,[.s (.int .i64 0),.s (.int .i64 0),.s (.int .i64 0),.s (.int .i64 0)]⟩],51,gh,ls⟩:St)))) ?_ noX ?_ ?_
 ·refine Weak.mixN [some 0] hn0 (by decide) ?_ ?_ rfl
  all_goals first|(simp[Ab,Ac,pickOb];done)|rfl
 ·clear h;intro y1 y3 h
  refine AW.seq ?_
  replace h:=bnE h;obtain⟨y4,g4,h⟩:=h
  refine AW.flow (p:=fun gh ls=>(nP (cx:=cx) (fun q=>(⟨[(0,.l (.d false 4 (encClaim y1))),(1,.l (.s (.int .i64 a1))),(4,.l (.p 0 0)),(17,.l (.s (.bool q)))],[some ⟨41,4,false,none,[.s (.int .i64 0),.s (.int .i64 0),.s (.int .i64 0),.s (.int .i64 0)]⟩],51,gh,ls⟩:St))) y4) ?_ ?_
  ·replace h:=g4;clear g4
   replace h:=ltE h;obtain⟨v5,e5,h⟩:=h
   replace h:=ltE h;obtain⟨v6,e6,h⟩:=h
   cases v6 with
   |true =>
    replace h:=iteT rfl h
    replace h:=bnE h;obtain⟨v7,e7,h⟩:=h
    replace h:=ltE h;obtain⟨v8,e8,h⟩:=h
    apply AW.last
    ·simp[Ak e5,← e6,(show y1[0]?=some v7 from (Aa e7).2),← e8]
     intros;rfl
    obtain rfl:=oi h
    refine nP_i ?_
    refine Weak.mixN [some 0] hn0 (by decide) ?_ ?_ rfl
    all_goals first|(simp[Ab,Ac,pickOb];done)|rfl
   |false =>
    replace h:=iteF rfl h
    apply AW.last
    ·simp[Ak e5,← e6]
     intros;rfl
    obtain rfl:=oi h
    refine nP_i ?_
    refine Weak.mixN [some 0] hn0 (by decide) ?_ ?_ rfl
    all_goals first|(simp[Ab,Ac,pickOb];done)|rfl
  ·rintro e s hp
   obtain⟨rfl,hw⟩:=hp
   refine⟨_,hw,?_⟩
   try simp only[nm]
   replace h:=ltE h;obtain⟨v9,e9,h⟩:=h
   rw[← e9]
   cases v9 with
   |true =>
    replace h:=iteT rfl h
    refine AW.cond_true (by simp) ?_
    refine AW.skip ?_
    try simp only[nm]
    refine AW.block ?_
    replace h:=bnE h;obtain⟨v10,e10,h⟩:=h
    have f11:=G0 e10
    try simp at f11
    apply AW.last
    ·simp[f11]
     intros;rfl
    obtain rfl:=oi h
    refine nP_i ?_
    refine Weak.mixN [some 0] hn0 (by decide) ?_ ?_ rfl
    all_goals first|(simp[Ab,Ac,pickOb];done)|rfl
   |false =>
    replace h:=iteF rfl h
    refine AW.cond_false (by simp) ?_
    refine AW.exit ?_
    try simp only[nm]
    obtain rfl:=oi h
    refine xP_i ?_
    refine Weak.mixN [some 0] hn0 (by decide) ?_ ?_ rfl
    all_goals first|(simp[Ab,Ac,pickOb];done)|rfl
 ·rintro e s hp
  obtain⟨rfl,hw⟩:=hp
  refine⟨_,hw,?_⟩
  try simp only[nm]
  apply AW.step
  ·simp
   intros;rfl
  replace h:=bnE h;obtain⟨y12,g12,h⟩:=h
  refine AW.flow (p:=fun gh ls=>(nP (cx:=cx) (fun q=>(⟨[(0,.l (.d false 4 (encClaim y2))),(4,.l (.p 0 0)),(6,.l (.p 1 0))],[some ⟨41,4,false,none,[.s (.int .i64 0),.s (.int .i64 0),.s (.int .i64 0),.s (.int .i64 0)]⟩,some ⟨41,4,false,none,[.s (.int .i64 q.frm),.s (.int .i64 q.to),.s (.int .i64 q.node),.s (.int .i64 q.epoch)]⟩],51,gh,ls⟩:St))) y12) ?_ ?_
  ·replace h:=g12;clear g12
   refine AW.block ?_
   replace h:=bnE h;obtain⟨y13,g13,h⟩:=h
   refine AW.flow (p:=fun gh ls=>(nP (cx:=cx) (fun q=>(⟨[(0,.l (.d false 4 (encClaim y2))),(1,.l (.s (.int .i64 a1))),(4,.l (.p 0 0)),(6,.l (.p 1 0)),(22,.l (.s (.bool q)))],[some ⟨41,4,false,none,[.s (.int .i64 0),.s (.int .i64 0),.s (.int .i64 0),.s (.int .i64 0)]⟩,some ⟨41,4,false,none,[.s (.int .i64 a1),.s (.int .i64 16383),.s (.int .i64 0),.s (.int .i64 0)]⟩],51,gh,ls⟩:St))) y13) ?_ ?_
   ·replace h:=g13;clear g13
    replace h:=ltE h;obtain⟨v14,e14,h⟩:=h
    replace h:=ltE h;obtain⟨v15,e15,h⟩:=h
    cases v15 with
    |true =>
     replace h:=iteT rfl h
     replace h:=bnE h;obtain⟨v16,e16,h⟩:=h
     replace h:=ltE h;obtain⟨v17,e17,h⟩:=h
     apply AW.last
     ·simp[Ak e14,← e15,(show y2[0]?=some v16 from (Aa e16).2),← e17]
      intros;rfl
     obtain rfl:=oi h
     refine nP_i ?_
     refine Weak.mixN [some 0,some 1] hn0 (by decide) ?_ ?_ rfl
     all_goals first|(simp[Ab,Ac,pickOb];done)|rfl
    |false =>
     replace h:=iteF rfl h
     apply AW.last
     ·simp[Ak e14,← e15]
      intros;rfl
     obtain rfl:=oi h
     refine nP_i ?_
     refine Weak.mixN [some 0,some 1] hn0 (by decide) ?_ ?_ rfl
     all_goals first|(simp[Ab,Ac,pickOb];done)|rfl
   ·rintro e s hp
    obtain⟨rfl,hw⟩:=hp
    refine⟨_,hw,?_⟩
    try simp only[nm]
    replace h:=ltE h;obtain⟨v18,e18,h⟩:=h
    rw[← e18]
    cases v18 with
    |true =>
     replace h:=iteT rfl h
     refine AW.cond_true (by simp) ?_
     replace h:=bnE h;obtain⟨v19,e19,h⟩:=h
     apply AW.step
     ·simp[(show y2[0]?=some v19 from (Aa e19).2)]
      intros;rfl
     apply AW.last
     ·simp
      intros;rfl
     obtain rfl:=oi h
     refine nP_i ?_
     refine Weak.mixN [some 0,some 1] hn0 (by decide) ?_ ?_ rfl
     all_goals first|(simp[Ab,Ac,pickOb];done)|rfl
    |false =>
     replace h:=iteF rfl h
     refine AW.cond_false (by simp) ?_
     replace h:=ltE h;obtain⟨v20,e20,h⟩:=h
     replace h:=ltE h;obtain⟨v21,e21,h⟩:=h
     apply AW.step
     ·simp[Ak e20,← e21]
      intros;rfl
     cases v21 with
     |true =>
      replace h:=iteT rfl h
      refine AW.cond_true (by simp) ?_
      replace h:=bnE h;obtain⟨v22,e22,h⟩:=h
      replace h:=ltE h;obtain⟨v23,e23,h⟩:=h
      apply AW.last
      ·simp[(show y2[0]?=some v22 from (Aa e22).2),← e23]
       intros;rfl
      obtain rfl:=oi h
      refine nP_i ?_
      refine Weak.mixN [some 0,some 1] hn0 (by decide) ?_ ?_ rfl
      all_goals first|(simp[Ab,Ac,pickOb];done)|rfl
     |false =>
      replace h:=iteF rfl h
      refine AW.cond_false (by simp) ?_
      refine AW.skip ?_
      try simp only[nm]
      obtain rfl:=oi h
      refine nP_i ?_
      refine Weak.mixN [some 0,some 1] hn0 (by decide) ?_ ?_ rfl
      all_goals first|(simp[Ab,Ac,pickOb];done)|rfl
  ·rintro e s hp
   obtain⟨rfl,hw⟩:=hp
   refine⟨_,hw,?_⟩
   try simp only[nm]
   apply AW.step
   ·simp
    intros;rfl
   obtain rfl:=oi h
   refine AW.ret ?_
   refine Left.plain hnb (by simp[Try.f68,resV,resC,comp];rfl) rfl rfl ?_
   simp
theorem Cd:Enters Try.prog 68:=enters Try.func68 (by kernel_rfl) rfl
def BG (n:Nat) (a0:Claim) (a1:Claim):Option Bool :=
bn (lt (addI .i64 a0.to 1) fun v2 =>
lt (eqI v2 a1.frm) fun v3 =>
ite' v3 (lt (eqI a0.node a1.node) fun v4 =>
ite' v4 (lt (eqI a0.epoch a1.epoch) fun v5 =>
some (v5)) (some (false))) (some (false))) fun (y1:Bool) =>
some y1
theorem EW {n:Nat} {a0:Claim} {a1:Claim} {r:Bool} (h:BG n a0 a1=some r):Sound Try.prog 53 [.g [.s (.int .i64 a0.frm),.s (.int .i64 a0.to),.s (.int .i64 a0.node),.s (.int .i64 a0.epoch)],.g [.s (.int .i64 a1.frm),.s (.int .i64 a1.to),.s (.int .i64 a1.node),.s (.int .i64 a1.epoch)]] [] (.l (.s (.bool r))) []:=by
 unfold BG at h
 refine Sound.of_aw (fn:=Try.f53) (c:=_) Try.func53 rfl (by simp[Try.f53]) fun cx hG hnb=>?_
 rw[show Try.f53.ntmps=25 from rfl]
 have hn0:cx.nb=0:=hnb
 simp only[As,initTm,List.map_cons,List.map_nil]
 apply AW.step
 ·simp
  intros;rfl
 replace h:=bnE h;obtain⟨y1,g1,h⟩:=h
 refine AW.flow (p:=fun gh ls=>(nP (cx:=cx) (fun q=>(⟨[(4,.l (.s (.bool q)))],[],25,gh,ls⟩:St))) y1) ?_ ?_
 ·replace h:=g1;clear g1
  replace h:=ltE h;obtain⟨v2,e2,h⟩:=h
  replace h:=ltE h;obtain⟨v3,e3,h⟩:=h
  cases v3 with
  |true =>
   replace h:=iteT rfl h
   replace h:=ltE h;obtain⟨v4,e4,h⟩:=h
   cases v4 with
   |true =>
    replace h:=iteT rfl h
    replace h:=ltE h;obtain⟨v5,e5,h⟩:=h
    apply AW.last
    ·simp[← e2,← e3,← e4,← e5]
     intros;rfl
    obtain rfl:=oi h
    refine nP_i ?_
    refine Weak.mixN [] hn0 (by decide) ?_ ?_ rfl
    all_goals first|(simp[Ab,Ac,pickOb];done)|rfl
   |false =>
    replace h:=iteF rfl h
    apply AW.last
    ·simp[← e2,← e3,← e4]
     intros;rfl
    obtain rfl:=oi h
    refine nP_i ?_
    refine Weak.mixN [] hn0 (by decide) ?_ ?_ rfl
    all_goals first|(simp[Ab,Ac,pickOb];done)|rfl
  |false =>
   replace h:=iteF rfl h
   apply AW.last
   ·simp[← e2,← e3]
    intros;rfl
   obtain rfl:=oi h
   refine nP_i ?_
   refine Weak.mixN [] hn0 (by decide) ?_ ?_ rfl
   all_goals first|(simp[Ab,Ac,pickOb];done)|rfl
 ·rintro e s hp
  obtain⟨rfl,hw⟩:=hp
  refine⟨_,hw,?_⟩
  try simp only[nm]
  obtain rfl:=oi h
  refine AW.ret ?_
  refine Left.plain hnb (by simp[Try.f53,resV,resC,comp];rfl) rfl rfl ?_
  simp
theorem EK:Enters Try.prog 53:=enters Try.func53 (by kernel_rfl) rfl
def Br (n:Nat) (a0:List Claim) (a1:Claim):Option (List Claim) :=
bn (lt (lenI a0) fun v2 =>
lt (eqI a1.epoch 0) fun v3 =>
ite' v3 (some (a0)) (bn (lt (gtI v2 0) fun v5 =>
ite' v5 (lt (subI .i64 v2 1) fun v6 =>
bn (nth a0 v6) fun v7 =>
bn (BG n v7 a1) fun v9 =>
some (v9)) (some (false))) fun (y4:Bool) =>
lt (y4) fun v10 =>
ite' v10 (lt (subI .i64 v2 1) fun v11 =>
bn (nth a0 v11) fun v12 =>
lt (a0.set v11.toNat (⟨v12.frm,a1.to,v12.node,v12.epoch⟩:Claim)) fun v14 =>
some (v14)) (chk (room (a0.length+1) 32) <|
lt (a0++[a1]) fun v18 =>
some (v18)))) fun (y1:List Claim) =>
some y1
def DX2t2:List DI:=[⟨[0],[],[(5,none)],false⟩,⟨[0],[0],[(17,some 0)],false⟩,⟨[0],[0,1],[(18,some 1)],false⟩,⟨[0],[0,1,2],[(0,none),(19,some 2)],false⟩,⟨[0],[0,1,2],[(5,none),(19,some 2)],false⟩,⟨[0],[0,1,2,4],[(19,some 2),(21,some 4)],false⟩,⟨[0],[0,1,2,3,4,5],[(19,some 2),(20,some 3),(22,some 5)],false⟩,⟨[0],[0,1,2,3,4,5,6],[(19,some 2),(23,some 6)],false⟩,⟨[0],[0,1,2],[(3,none),(19,some 2)],false⟩,⟨[],[0,1,2,3,4,5,6,7,8],[],false⟩,⟨[],[0,1,2,3,4,5,6,7,8,9],[],false⟩,⟨[],[0,1,2,3,4,5,6,7,8,9,10],[],false⟩]
theorem C7 {n:Nat} {a0:List Claim} {a1:Claim} {r:List Claim} (h:Br n a0 a1=some r):Sound Try.prog 48 [.l (.r 0 4 0 a0.length),.g [.s (.int .i64 a1.frm),.s (.int .i64 a1.to),.s (.int .i64 a1.node),.s (.int .i64 a1.epoch)]] [⟨41,4,true,none,lvs (encClaim a0)⟩] (.l (.r 0 4 0 r.length)) [some ⟨41,4,true,none,lvs (encClaim r)⟩]:=by
 unfold Br at h
 refine Sound.of_aw (fn:=Try.f48) (c:=_) Try.func48 rfl (by simp[Try.f48]) fun cx hG hnb=>?_
 rw[show Try.f48.ntmps=36 from rfl]
 have hn0:cx.nb=1:=hnb
 simp only[As,initTm,List.map_cons,List.map_nil]
 apply AW.step
 ·simp
  intros;rfl
 replace h:=bnE h;obtain⟨y1,g1,h⟩:=h
 refine AW.flow (p:=fun gh ls=>(nP (cx:=cx) (fun q=>(⟨[(0,.l (.r 0 4 0 q.length))],[some ⟨41,4,true,none,lvs (encClaim q)⟩],36,gh,ls⟩:St))) y1) ?_ ?_
 ·replace h:=g1;clear g1
  replace h:=ltE h;obtain⟨v2,e2,h⟩:=h
  apply AW.step
  ·simp[Ak e2]
   intros;rfl
  refine AW.block ?_
  replace h:=ltE h;obtain⟨v3,e3,h⟩:=h
  apply AW.step
  ·simp[← e3]
   intros;rfl
  cases v3 with
  |true =>
   replace h:=iteT rfl h
   refine AW.cond_true (by simp) ?_
   refine AW.skip ?_
   try simp only[nm]
   obtain rfl:=oi h
   refine nP_i ?_
   refine Weak.mixB 1 [some 0] hn0 (by decide) (by decide) ?_ ?_ ?_
   all_goals first|(simp[Ab,Ac,pickOb];done)|rfl
  |false =>
   replace h:=iteF rfl h
   refine AW.cond_false (by simp) ?_
   replace h:=bnE h;obtain⟨y4,g4,h⟩:=h
   refine AW.flow (p:=fun gh ls=>(nP (cx:=cx) (fun q=>(⟨[(0,.l (.r 0 4 0 a0.length)),(3,.l (.p 1 0)),(5,.l (.s (.int .i64 v2))),(16,.l (.s (.bool q)))],[some ⟨41,4,true,none,lvs (encClaim a0)⟩,some ⟨41,4,false,none,[.s (.int .i64 a1.frm),.s (.int .i64 a1.to),.s (.int .i64 a1.node),.s (.int .i64 a1.epoch)]⟩],36,gh,ls⟩:St))) y4) ?_ ?_
   ·replace h:=g4;clear g4
    replace h:=ltE h;obtain⟨v5,e5,h⟩:=h
    cases v5 with
    |true =>
     replace h:=iteT rfl h
     replace h:=ltE h;obtain⟨v6,e6,h⟩:=h
     replace h:=bnE h;obtain⟨v7,e7,h⟩:=h
     have f8:=Ai e7
     try simp[← e5,← e6,Aa e7] at f8
     replace h:=bnE h;obtain⟨v9,e9,h⟩:=h
     apply AW.drawnR (V:=[_,_,_,_,_,_,_,_,_]) mixed DX2t2 9 (by kernel_rfl) (by kernel_rfl)
     ·refine⟨?_,?_,?_,?_,?_,?_,?_,?_,?_,trivial⟩
      iterate 9 (· intro tm hr;simp[AllL,rdV] at hr;simp[hr,← e5,← e6,Aa e7,f8,DH (Aa e7).2 (k:=4) (by decide),De (Aa e7).2 (show 4≤4 by decide),lvs1];intros;first|exact KD.mk|exact KD.mkN)
     ·rfl
     ·simp[tmD,putD,← e5,← e6,Aa e7,f8,DH (Aa e7).2 (k:=4) (by decide),De (Aa e7).2 (show 4≤4 by decide),lvs1];rfl
     ·simp[← e5,← e6,Aa e7,f8,DH (Aa e7).2 (k:=4) (by decide),De (Aa e7).2 (show 4≤4 by decide),lvs1]
      intros
      refine Ah EK (EW e9) rfl ⟨.same rfl,.same rfl,trivial⟩ ?_
      try simp[← e5,← e6,Aa e7,f8,DH (Aa e7).2 (k:=4) (by decide),De (Aa e7).2 (show 4≤4 by decide),lvs1]
      intros;rfl
     obtain rfl:=oi h
     refine nP_i ?_
     refine Weak.mixB 1 [some 0,some 1] hn0 (by decide) (by decide) ?_ ?_ ?_
     all_goals first|(simp[Ab,Ac,pickOb];done)|rfl
    |false =>
     replace h:=iteF rfl h
     apply AW.drawnR (V:=[_,_,_,_,_,_,_,_,_]) mixed DX2t2 9 (by kernel_rfl) (by kernel_rfl)
     ·refine⟨?_,?_,?_,?_,?_,?_,?_,?_,?_,trivial⟩
      iterate 9 (· intro tm hr;simp[AllL,rdV] at hr;simp[hr,← e5];intros;first|exact KD.mk|exact KD.mkN)
     ·rfl
     ·simp[tmD,putD,← e5];rfl
     ·simp[← e5]
      intros;rfl
     obtain rfl:=oi h
     refine nP_i ?_
     refine Weak.mixB 1 [some 0,some 1] hn0 (by decide) (by decide) ?_ ?_ ?_
     all_goals first|(simp[Ab,Ac,pickOb];done)|rfl
   ·rintro e s hp
    obtain⟨rfl,hw⟩:=hp
    refine⟨_,hw,?_⟩
    try simp only[nm]
    replace h:=ltE h;obtain⟨v10,e10,h⟩:=h
    rw[← e10]
    cases v10 with
    |true =>
     replace h:=iteT rfl h
     refine AW.cond_true (by simp) ?_
     replace h:=ltE h;obtain⟨v11,e11,h⟩:=h
     replace h:=bnE h;obtain⟨v12,e12,h⟩:=h
     have f13:=Ai e12
     try simp[← e11,Aa e12] at f13
     replace h:=ltE h;obtain⟨v14,e14,h⟩:=h
     have f15:=Fv (Aa e12).2 e14 (j:=1) (cs:=[.s (.int .i64 a1.to)]) (by simp) rfl
     try simp at f15
     have f16:=f13
     try simp only[Af e14] at f16
     apply AW.last
     ·simp[← e11,Aa e12,f13,Fb (Aa e12).2 (j:=1) (m:=1) (by decide),f15,f16]
      intros;rfl
     obtain rfl:=oi h
     refine nP_i ?_
     refine Weak.mixB 1 [some 0] hn0 (by decide) (by decide) ?_ ?_ ?_
     all_goals first|(simp[Ab,Ac,pickOb,Af e14];done)|rfl
    |false =>
     replace h:=iteF rfl h
     refine AW.cond_false (by simp) ?_
     replace h:=chkE h;obtain⟨e17,h⟩:=h
     replace h:=ltE h;obtain⟨v18,e18,h⟩:=h
     apply AW.last
     ·simp[St.grow,obsBut,← Bj,← e18,Ar e18]
      intros
      refine Bu ?_
      try simp[St.grow,obsBut,← Bj,← e18,Ar e18]
      intros
      refine GM (acc:=encClaim a0) (ys:=encClaim [a1]) (cap:=none) (k:=1) FF FE (by simp) (by simp[encClaim,lvs]) (BJ _) (by simp) (by simp) (by first|(simp;done)|simpa using (Aw e17).1) ?_
      try simp[St.grow,obsBut,← Bj,← e18,Ar e18]
      intros;rfl
     obtain rfl:=oi h
     refine nP_i ?_
     refine Weak.mixB 1 [some 0] hn0 (by decide) (by decide) ?_ ?_ ?_
     all_goals first|(simp[Ab,Ac,pickOb,CT];done)|rfl
 ·rintro e s hp
  obtain⟨rfl,hw⟩:=hp
  refine⟨_,hw,?_⟩
  try simp only[nm]
  apply AW.step
  ·simp
   intros;rfl
  obtain rfl:=oi h
  refine AW.ret ?_
  refine Left.of (av:=_) (by simp[Try.f48,resV,resC,comp];rfl) ?_
  exact LeftV.mix 1 [some 0] hn0 rfl (by decide) rfl (by simp[pickOb,Ab,Ac]) (by simp[Ab,Ac])
theorem CR:Enters Try.prog 48:=enters Try.func48 (by kernel_rfl) rfl
def BX (n:Nat) (a0:List Claim) (a1:List Span) (a2:Int) (a3:Int):Option (List Claim) :=
bn (Co n a1) fun v1 =>
lt (lenI v1) fun v2 =>
bn (iter n (fun (y3:Int×List Claim) =>
lt (ltI y3.1 v2) fun v6 =>
ite' v6 (bn (nth v1 y3.1) fun v7 =>
chk (room (y3.2.length+1) 32) <|
lt (y3.2++[(⟨v7.frm,v7.to,a2,a3⟩:Claim)]) fun v9 =>
lt (addI .i64 y3.1 1) fun v10 =>
some (.inl (v10,v9))) (some (.inr y3.2))) (0,[])) fun (y4:List Claim) =>
bn (chk (room y4.length 1) <|
bn (Cj n a0 y4) fun v13 =>
bn (iter n (fun (y14:Int×List Claim×List Claim×ClaimsPiece×List Claim) =>
lt (leI y14.1 16383) fun v17 =>
ite' v17 (bn (By n y14.2.1 y14.1) fun v18 =>
bn (By n y14.2.2.1 y14.1) fun v19 =>
lt (minI v18.1.to v19.1.to) fun v20 =>
bn (lt (gtI v19.1.epoch 0) fun v22 =>
ite' v22 (some ((⟨(⟨v19.1.frm,v20,v19.1.node,v19.1.epoch⟩:Claim),(⟨v19.1.frm,v20,v19.1.node,v19.1.epoch⟩:Claim)⟩:ClaimsPiece))) (some ((⟨(⟨v18.1.frm,v20,v18.1.node,v18.1.epoch⟩:Claim),(⟨v19.1.frm,v20,v19.1.node,v19.1.epoch⟩:Claim)⟩:ClaimsPiece)))) fun (y21:ClaimsPiece) =>
bn (Br n y14.2.2.2.2 y21.a) fun v23 =>
lt (addI .i64 v20 1) fun v24 =>
some (.inl (v24,v18.2,v19.2,(⟨(⟨v18.1.frm,v20,v18.1.node,v18.1.epoch⟩:Claim),(⟨v19.1.frm,v20,v19.1.node,v19.1.epoch⟩:Claim)⟩:ClaimsPiece),v23))) (some (.inr (y14.2.1,y14.2.2.1,y14.2.2.2.2)))) (0,v13.1,v13.2,(⟨(⟨0,0,0,0⟩:Claim),(⟨0,0,0,0⟩:Claim)⟩:ClaimsPiece),[])) fun (y15:List Claim×List Claim×List Claim) =>
some (y15.2.2)) fun (y11:List Claim) =>
chk (room y11.length 1) <|
some y11
theorem G4 {n:Nat} {a0:List Claim} {a1:List Span} {a2:Int} {a3:Int} {r:List Claim} (h:BX n a0 a1 a2 a3=some r):Sound Try.prog 19 [.l (.d false 4 (encClaim a0)),.l (.d false 2 (encSpan a1)),.l (.s (.int .i64 a2)),.l (.s (.int .i64 a3))] [] (.l (.d false 4 (encClaim r))) []:=by
 unfold BX at h
 refine Sound.of_aw (fn:=Try.f19) (c:=_) Try.func19 rfl (by simp[Try.f19]) fun cx hG hnb=>?_
 rw[show Try.f19.ntmps=48 from rfl]
 have hn0:cx.nb=0:=hnb
 simp only[As,initTm,List.map_cons,List.map_nil]
 apply AW.step
 ·simp
  intros;rfl
 apply AW.step
 ·simp
  intros;rfl
 refine AW.seq ?_
 replace h:=bnE h;obtain⟨v1,e1,h⟩:=h
 replace h:=ltE h;obtain⟨v2,e2,h⟩:=h
 apply AW.step
 ·simp[Ak e2]
  intros
  refine Ah G3 (HB e1) rfl ⟨.same rfl,trivial⟩ ?_
  try simp[Ak e2]
  intros;rfl
 refine AW.block ?_
 replace h:=bnE h;obtain⟨y4,g4,h⟩:=h
 refine AW.iterP g4 (mk:=fun gh ls q=>(⟨[(0,.l (.d false 4 (encClaim a0))),(2,.l (.s (.int .i64 a2))),(3,.l (.s (.int .i64 a3))),(9,.l (.r 0 4 0 q.2.length)),(10,.l (.p 1 0)),(15,.l (.d false 2 (encSpan v1))),(16,.l (.s (.int .i64 v2))),(17,.l (.s (.int .i64 q.1)))],[some ⟨41,4,true,none,lvs (encClaim q.2)⟩,some ⟨24,1,false,none,[.s (.slice none 0 0)]⟩],48,gh,ls⟩:St)) (N:=fun gh ls=>(xP 0 (cx:=cx) (fun q=>(⟨[(0,.l (.d false 4 (encClaim a0))),(9,.l (.r 0 4 0 q.length)),(10,.l (.p 1 0))],[some ⟨41,4,true,none,lvs (encClaim q)⟩,some ⟨24,1,false,none,[.s (.slice none 0 0)]⟩],48,gh,ls⟩:St)))) ?_ noX ?_ ?_
 ·refine W.nilRow 9 41 4 1 (by simp) rfl rfl ?_
  refine Weak.mixN [some 1,some 0] hn0 (by decide) ?_ ?_ rfl
  all_goals first|(simp[Ab,Ac,pickOb];done)|rfl
 ·clear h;intro y3 y5 h
  replace h:=ltE h;obtain⟨v6,e6,h⟩:=h
  apply AW.step
  ·simp[← e6]
   intros;rfl
  refine AW.seq ?_
  cases v6 with
  |true =>
   replace h:=iteT rfl h
   refine AW.cond_true (by simp) ?_
   refine AW.skip ?_
   try simp only[nm]
   refine AW.seq ?_
   refine AW.block ?_
   replace h:=bnE h;obtain⟨v7,e7,h⟩:=h
   apply AW.step
   ·simp[Aa e7]
    intros;rfl
   replace h:=chkE h;obtain⟨e8,h⟩:=h
   replace h:=ltE h;obtain⟨v9,e9,h⟩:=h
   apply AW.last
   ·simp[← Bj,← e9,Ar e9]
    intros
    refine Bu ?_
    try simp[← Bj,← e9,Ar e9]
    intros
    refine Bt (acc:=encClaim y3.2) (ys:=encClaim [(⟨v7.frm,v7.to,a2,a3⟩:Claim)]) (cap:=none) (k:=1) FF FE (by simp) (by simp[encClaim,lvs]) (BJ _) (by simp) (by simp) (by first|(simp;done)|simpa using (Aw e8).1) ?_
    try simp[← Bj,← e9,Ar e9]
    intros;rfl
   try simp only[nm]
   replace h:=ltE h;obtain⟨v10,e10,h⟩:=h
   apply AW.last
   ·simp[← e10]
    intros;rfl
   obtain rfl:=oi h
   refine nP_i ?_
   refine Weak.mixN [some 4,some 1] hn0 (by decide) ?_ ?_ rfl
   all_goals first|(simp[Ab,Ac,pickOb,CT];done)|rfl
  |false =>
   replace h:=iteF rfl h
   refine AW.cond_false (by simp) ?_
   refine AW.exit ?_
   try simp only[nm]
   obtain rfl:=oi h
   refine xP_i ?_
   refine Weak.mixN [some 0,some 1] hn0 (by decide) ?_ ?_ rfl
   all_goals first|(simp[Ab,Ac,pickOb];done)|rfl
 ·rintro e s hp
  obtain⟨rfl,hw⟩:=hp
  refine⟨_,hw,?_⟩
  try simp only[nm]
  replace h:=bnE h;obtain⟨y11,g11,h⟩:=h
  refine AW.flow (p:=fun gh ls=>(nP (cx:=cx) (fun q=>(⟨[(10,.l (.p 0 0))],[some ⟨24,1,false,none,[.r 1 4 0 q.length]⟩,some ⟨41,4,true,none,lvs (encClaim q)⟩],48,gh,ls⟩:St))) y11) ?_ ?_
  ·replace h:=g11;clear g11
   replace h:=chkE h;obtain⟨e12,h⟩:=h
   refine AW.frzRow 0 (ty:=41) (cap:=none) (sz:=4) (es:=encClaim y4) (by simp) (by omega) (BJ _) (by first|exact (Aw e12).2|simpa using (Aw e12).2|simp) (by simp[Tm.frz,AV.frz,LV.frz];rfl) (by simp[Ob.frz,LV.frz];rfl) rfl ?_
   replace h:=bnE h;obtain⟨v13,e13,h⟩:=h
   apply AW.step
   ·simp
    intros
    refine Fn DL (DW e13) rfl (by simp) ⟨.same rfl,.same rfl,trivial⟩ ?_
    try simp
    intros;rfl
   refine AW.block ?_
   refine AW.weak (Weak.keep [(10,.l (.p 1 0)),(34,.l (.f 67 [2,3]))] (by simp)) ?_
   refine AW.rangeG rfl Try.func67 (by kernel_rfl) rfl (by decide) rfl rfl fun cxI1 yl1 hnI1 hY1=>?_
   have hnJ1:cxI1.nb=0:=hnI1.trans hn0
   simp only[initTm,List.map_cons,List.map_nil]
   apply AW.step
   ·simp
    intros;rfl
   apply AW.step
   ·simp
    intros;rfl
   refine AW.block ?_
   replace h:=bnE h;obtain⟨y15,g15,h⟩:=h
   refine AW.iterP g15 (mk:=fun gh ls q=>(⟨[(0,.l (.s (.func (.yield yl1) #[] #[]))),(1,.l (.p 2 0)),(2,.l (.p 3 0)),(4,.l (.p 4 0)),(5,.l (.s (.int .i64 q.1)))],[none,some ⟨24,1,false,none,[.r 5 4 0 q.2.2.2.2.length]⟩,some ⟨24,1,false,none,[.d false 4 (encClaim q.2.1)]⟩,some ⟨24,1,false,none,[.d false 4 (encClaim q.2.2.1)]⟩,some ⟨95,8,false,none,[.s (.int .i64 q.2.2.2.1.a.frm),.s (.int .i64 q.2.2.2.1.a.to),.s (.int .i64 q.2.2.2.1.a.node),.s (.int .i64 q.2.2.2.1.a.epoch),.s (.int .i64 q.2.2.2.1.b.frm),.s (.int .i64 q.2.2.2.1.b.to),.s (.int .i64 q.2.2.2.1.b.node),.s (.int .i64 q.2.2.2.1.b.epoch)]⟩,some ⟨41,4,true,none,lvs (encClaim q.2.2.2.2)⟩],44,gh,ls⟩:St)) (N:=fun gh ls=>(xP 0 (cx:=cxI1) (fun q=>(⟨[],[none,some ⟨24,1,false,none,[.r 4 4 0 q.2.2.length]⟩,some ⟨24,1,false,none,[.d false 4 (encClaim q.1)]⟩,some ⟨24,1,false,none,[.d false 4 (encClaim q.2.1)]⟩,some ⟨41,4,true,none,lvs (encClaim q.2.2)⟩],44,gh,ls⟩:St)))) ?_ noX ?_ ?_
   ·refine W.nilCell 1 0 41 4 5 rfl rfl rfl rfl rfl ?_
    refine Weak.mixB 0 [some 0,some 1,some 2,some 3,some 4,some 5] hnJ1 (by decide) (by decide) ?_ ?_ ?_
    all_goals first|(simp[Ab,Ac,pickOb];done)|rfl
   ·clear h;intro y14 y16 h
    refine AW.seq ?_
    replace h:=ltE h;obtain⟨v17,e17,h⟩:=h
    apply AW.step
    ·simp[← e17]
     intros;rfl
    cases v17 with
    |true =>
     replace h:=iteT rfl h
     refine AW.cond_true (by simp) ?_
     refine AW.skip ?_
     try simp only[nm]
     refine AW.seq ?_
     refine AW.block ?_
     replace h:=bnE h;obtain⟨v18,e18,h⟩:=h
     apply AW.step
     ·simp
      intros
      refine Ah Cd (Cp e18) rfl ⟨.same rfl,.same rfl,trivial⟩ ?_
      try simp
      intros;rfl
     replace h:=bnE h;obtain⟨v19,e19,h⟩:=h
     apply AW.step
     ·simp
      intros
      refine Ah Cd (Cp e19) rfl ⟨.same rfl,.same rfl,trivial⟩ ?_
      try simp
      intros;rfl
     replace h:=ltE h;obtain⟨v20,e20,h⟩:=h
     apply AW.step
     ·simp[← e20]
      intros;rfl
     apply AW.step
     ·simp
      intros;rfl
     refine AW.stepYK ?_
     apply xopsY.yield hY1 0 2 rfl rfl rfl (by decide)
     ·simp
      intros;rfl
     ·rfl
     ·first|trivial|simp
     ·rfl
     ·rfl
     ·simp[puts];rfl
     intro cxR1 hnR1
     have hnS1:cxR1.nb=0:=hnR1.trans hnJ1
     apply AW.last
     ·simp
      intros;rfl
     refine⟨rfl,?_⟩
     refine AW.block ?_
     replace h:=bnE h;obtain⟨y21,g21,h⟩:=h
     refine AW.flow (p:=fun gh ls=>(nP (cx:=cxR1) (fun q=>(⟨[(10,.l (.p 1 0)),(13,.l (.p 6 0))],[none,some ⟨24,1,false,none,[.r 5 4 0 y14.2.2.2.2.length]⟩,some ⟨24,1,false,none,[.d false 4 (encClaim v18.2)]⟩,some ⟨24,1,false,none,[.d false 4 (encClaim v19.2)]⟩,some ⟨95,8,false,none,[.s (.int .i64 v18.1.frm),.s (.int .i64 v20),.s (.int .i64 v18.1.node),.s (.int .i64 v18.1.epoch),.s (.int .i64 v19.1.frm),.s (.int .i64 v20),.s (.int .i64 v19.1.node),.s (.int .i64 v19.1.epoch)]⟩,some ⟨41,4,true,none,lvs (encClaim y14.2.2.2.2)⟩,some ⟨95,8,false,none,[.s (.int .i64 q.a.frm),.s (.int .i64 q.a.to),.s (.int .i64 q.a.node),.s (.int .i64 q.a.epoch),.s (.int .i64 q.b.frm),.s (.int .i64 q.b.to),.s (.int .i64 q.b.node),.s (.int .i64 q.b.epoch)]⟩],48,gh,ls⟩:St))) y21) ?_ ?_
     ·replace h:=g21;clear g21
      replace h:=ltE h;obtain⟨v22,e22,h⟩:=h
      apply AW.step
      ·simp[← e22]
       intros;rfl
      cases v22 with
      |true =>
       replace h:=iteT rfl h
       refine AW.cond_true (by simp) ?_
       apply AW.last
       ·simp
        intros;rfl
       obtain rfl:=oi h
       refine nP_i ?_
       refine Weak.mixB 0 [some 0,some 1,some 2,some 3,some 4,some 5,some 6] hnS1 (by decide) (by decide) ?_ ?_ ?_
       all_goals first|(simp[Ab,Ac,pickOb];done)|rfl
      |false =>
       replace h:=iteF rfl h
       refine AW.cond_false (by simp) ?_
       refine AW.skip ?_
       try simp only[nm]
       obtain rfl:=oi h
       refine nP_i ?_
       refine Weak.mixB 0 [some 0,some 1,some 2,some 3,some 4,some 5,some 6] hnS1 (by decide) (by decide) ?_ ?_ ?_
       all_goals first|(simp[Ab,Ac,pickOb];done)|rfl
     ·rintro e s hp
      obtain⟨rfl,hw⟩:=hp
      refine⟨_,hw,?_⟩
      try simp only[nm]
      replace h:=bnE h;obtain⟨v23,e23,h⟩:=h
      apply AW.last
      ·simp[obAfter,outR,keptR,Ab,Ac]
       intros
       refine Aq [5] CR (C7 e23) (by decide) (by simp[pickOb,Ab,Ac]) rfl rfl (by simp) ⟨.l (.own' (by simp[Ab,Ac]) (by simp)),.g ⟨.s _,.s _,.s _,.s _,trivial⟩,trivial⟩ ?_
       try simp[obAfter,outR,keptR,Ab,Ac]
       intros;rfl
      refine⟨_,_,rfl,?_⟩
      refine Ex _ _ _ rfl ?_
      simp[puts]
      try intros
      unfold KK
      refine AW.cond_false (by simp) ?_
      refine AW.skip ?_
      try simp only[nm]
      replace h:=ltE h;obtain⟨v24,e24,h⟩:=h
      apply AW.last
      ·simp[← e24]
       intros;rfl
      obtain rfl:=oi h
      refine nP_i ?_
      refine Weak.mixB 0 [some 0,some 1,some 2,some 3,some 4,some 5] hnJ1 (by decide) (by decide) ?_ ?_ ?_
      all_goals first|(simp[Ab,Ac,pickOb];done)|rfl
    |false =>
     replace h:=iteF rfl h
     refine AW.cond_false (by simp) ?_
     refine AW.exit ?_
     try simp only[nm]
     obtain rfl:=oi h
     refine xP_i ?_
     refine Weak.mixB 0 [some 0,some 1,some 2,some 3,some 5] hnJ1 (by decide) (by decide) ?_ ?_ ?_
     all_goals first|(simp[Ab,Ac,pickOb];done)|rfl
   ·rintro e s hp
    obtain⟨rfl,hw⟩:=hp
    refine⟨_,hw,?_⟩
    try simp only[nm]
    refine⟨_,_,rfl,?_⟩
    try simp only[]
    try simp only[nm]
    obtain rfl:=oi h
    refine nP_i ?_
    refine Weak.mixN [some 1,some 4] hn0 (by decide) ?_ ?_ rfl
    all_goals first|(simp[Ab,Ac,pickOb];done)|rfl
  ·rintro e s hp
   obtain⟨rfl,hw⟩:=hp
   refine⟨_,hw,?_⟩
   try simp only[nm]
   apply AW.step
   ·simp
    intros;rfl
   replace h:=chkE h;obtain⟨e25,h⟩:=h
   refine AW.frzRow 1 (ty:=41) (cap:=none) (sz:=4) (es:=encClaim y11) (by simp) (by omega) (BJ _) (by first|exact (Aw e25).2|simpa using (Aw e25).2|simp) (by simp[Tm.frz,AV.frz,LV.frz];rfl) (by simp[Ob.frz,LV.frz];rfl) rfl ?_
   obtain rfl:=oi h
   refine AW.ret ?_
   refine Left.plain hnb (by simp[Try.f19,resV,resC,comp];rfl) rfl rfl ?_
   simp
theorem Gw:Enters Try.prog 19:=enters Try.func19 (by kernel_rfl) rfl
def BY (n:Nat) (a0:List Claim) (a1:List Claim):Option (List Claim) :=
bn (bn (Cj n a0 a1) fun v2 =>
bn (iter n (fun (y3:Int×List Claim×List Claim×ClaimsPiece×List Claim) =>
lt (leI y3.1 16383) fun v6 =>
ite' v6 (bn (By n y3.2.1 y3.1) fun v7 =>
bn (By n y3.2.2.1 y3.1) fun v8 =>
lt (minI v7.1.to v8.1.to) fun v9 =>
bn (bn (lt (gtI v7.1.epoch v8.1.epoch) fun v12 =>
ite' v12 (some (true)) (lt (eqI v7.1.epoch v8.1.epoch) fun v13 =>
ite' v13 (lt (gtI v7.1.node v8.1.node) fun v14 =>
some (v14)) (some (false)))) fun (y11:Bool) =>
lt (y11) fun v15 =>
ite' v15 (bn (Br n y3.2.2.2.2 (⟨v7.1.frm,v9,v7.1.node,v7.1.epoch⟩:Claim)) fun v16 =>
some (v16)) (bn (Br n y3.2.2.2.2 (⟨v8.1.frm,v9,v8.1.node,v8.1.epoch⟩:Claim)) fun v17 =>
some (v17))) fun (y10:List Claim) =>
lt (addI .i64 v9 1) fun v18 =>
some (.inl (v18,v7.2,v8.2,(⟨(⟨v7.1.frm,v9,v7.1.node,v7.1.epoch⟩:Claim),(⟨v8.1.frm,v9,v8.1.node,v8.1.epoch⟩:Claim)⟩:ClaimsPiece),y10))) (some (.inr (y3.2.1,y3.2.2.1,y3.2.2.2.2)))) (0,v2.1,v2.2,(⟨(⟨0,0,0,0⟩:Claim),(⟨0,0,0,0⟩:Claim)⟩:ClaimsPiece),[])) fun (y4:List Claim×List Claim×List Claim) =>
some (y4.2.2)) fun (y1:List Claim) =>
chk (room y1.length 1) <|
some y1
theorem Fd {n:Nat} {a0:List Claim} {a1:List Claim} {r:List Claim} (h:BY n a0 a1=some r):Sound Try.prog 16 [.l (.d false 4 (encClaim a0)),.l (.d false 4 (encClaim a1))] [] (.l (.d false 4 (encClaim r))) []:=by
 unfold BY at h
 refine Sound.of_aw (fn:=Try.f16) (c:=_) Try.func16 rfl (by simp[Try.f16]) fun cx hG hnb=>?_
 rw[show Try.f16.ntmps=45 from rfl]
 have hn0:cx.nb=0:=hnb
 simp only[As,initTm,List.map_cons,List.map_nil]
 apply AW.step
 ·simp
  intros;rfl
 apply AW.step
 ·simp
  intros;rfl
 replace h:=bnE h;obtain⟨y1,g1,h⟩:=h
 refine AW.flow (p:=fun gh ls=>(nP (cx:=cx) (fun q=>(⟨[(5,.l (.p 0 0))],[some ⟨24,1,false,none,[.r 1 4 0 q.length]⟩,some ⟨41,4,true,none,lvs (encClaim q)⟩],45,gh,ls⟩:St))) y1) ?_ ?_
 ·replace h:=g1;clear g1
  replace h:=bnE h;obtain⟨v2,e2,h⟩:=h
  apply AW.step
  ·simp
   intros
   refine Fn DL (DW e2) rfl (by simp) ⟨.same rfl,.same rfl,trivial⟩ ?_
   try simp
   intros;rfl
  refine AW.block ?_
  refine AW.weak (Weak.keep [(5,.l (.p 0 0)),(9,.l (.f 67 [1,2]))] (by simp)) ?_
  refine AW.rangeG rfl Try.func67 (by kernel_rfl) rfl (by decide) rfl rfl fun cxI1 yl1 hnI1 hY1=>?_
  have hnJ1:cxI1.nb=0:=hnI1.trans hn0
  simp only[initTm,List.map_cons,List.map_nil]
  apply AW.step
  ·simp
   intros;rfl
  apply AW.step
  ·simp
   intros;rfl
  refine AW.block ?_
  replace h:=bnE h;obtain⟨y4,g4,h⟩:=h
  refine AW.iterP g4 (mk:=fun gh ls q=>(⟨[(0,.l (.s (.func (.yield yl1) #[] #[]))),(1,.l (.p 1 0)),(2,.l (.p 2 0)),(4,.l (.p 3 0)),(5,.l (.s (.int .i64 q.1)))],[some ⟨24,1,false,none,[.r 4 4 0 q.2.2.2.2.length]⟩,some ⟨24,1,false,none,[.d false 4 (encClaim q.2.1)]⟩,some ⟨24,1,false,none,[.d false 4 (encClaim q.2.2.1)]⟩,some ⟨95,8,false,none,[.s (.int .i64 q.2.2.2.1.a.frm),.s (.int .i64 q.2.2.2.1.a.to),.s (.int .i64 q.2.2.2.1.a.node),.s (.int .i64 q.2.2.2.1.a.epoch),.s (.int .i64 q.2.2.2.1.b.frm),.s (.int .i64 q.2.2.2.1.b.to),.s (.int .i64 q.2.2.2.1.b.node),.s (.int .i64 q.2.2.2.1.b.epoch)]⟩,some ⟨41,4,true,none,lvs (encClaim q.2.2.2.2)⟩],44,gh,ls⟩:St)) (N:=fun gh ls=>(xP 0 (cx:=cxI1) (fun q=>(⟨[],[some ⟨24,1,false,none,[.r 3 4 0 q.2.2.length]⟩,some ⟨24,1,false,none,[.d false 4 (encClaim q.1)]⟩,some ⟨24,1,false,none,[.d false 4 (encClaim q.2.1)]⟩,some ⟨41,4,true,none,lvs (encClaim q.2.2)⟩],44,gh,ls⟩:St)))) ?_ noX ?_ ?_
  ·refine W.nilCell 0 0 41 4 4 rfl rfl rfl rfl rfl ?_
   refine Weak.mixB 0 [some 0,some 1,some 2,some 3,some 4] hnJ1 (by decide) (by decide) ?_ ?_ ?_
   all_goals first|(simp[Ab,Ac,pickOb];done)|rfl
  ·clear h;intro y3 y5 h
   refine AW.seq ?_
   replace h:=ltE h;obtain⟨v6,e6,h⟩:=h
   apply AW.step
   ·simp[← e6]
    intros;rfl
   cases v6 with
   |true =>
    replace h:=iteT rfl h
    refine AW.cond_true (by simp) ?_
    refine AW.skip ?_
    try simp only[nm]
    refine AW.seq ?_
    refine AW.block ?_
    replace h:=bnE h;obtain⟨v7,e7,h⟩:=h
    apply AW.step
    ·simp
     intros
     refine Ah Cd (Cp e7) rfl ⟨.same rfl,.same rfl,trivial⟩ ?_
     try simp
     intros;rfl
    replace h:=bnE h;obtain⟨v8,e8,h⟩:=h
    apply AW.step
    ·simp
     intros
     refine Ah Cd (Cp e8) rfl ⟨.same rfl,.same rfl,trivial⟩ ?_
     try simp
     intros;rfl
    replace h:=ltE h;obtain⟨v9,e9,h⟩:=h
    apply AW.step
    ·simp[← e9]
     intros;rfl
    apply AW.step
    ·simp
     intros;rfl
    refine AW.stepYK ?_
    apply xopsY.yield hY1 0 2 rfl rfl rfl (by decide)
    ·simp
     intros;rfl
    ·rfl
    ·first|trivial|simp
    ·rfl
    ·rfl
    ·simp[puts];rfl
    intro cxR1 hnR1
    have hnS1:cxR1.nb=0:=hnR1.trans hnJ1
    apply AW.last
    ·simp
     intros;rfl
    refine⟨rfl,?_⟩
    replace h:=bnE h;obtain⟨y10,g10,h⟩:=h
    refine AW.flowR (p:=fun gh ls=>(nP (cx:=cxR1) (fun q=>(⟨[],[some ⟨24,1,false,none,[.r 4 4 0 q.length]⟩,some ⟨24,1,false,none,[.d false 4 (encClaim v7.2)]⟩,some ⟨24,1,false,none,[.d false 4 (encClaim v8.2)]⟩,some ⟨95,8,false,none,[.s (.int .i64 v7.1.frm),.s (.int .i64 v9),.s (.int .i64 v7.1.node),.s (.int .i64 v7.1.epoch),.s (.int .i64 v8.1.frm),.s (.int .i64 v9),.s (.int .i64 v8.1.node),.s (.int .i64 v8.1.epoch)]⟩,some ⟨41,4,true,none,lvs (encClaim q)⟩],45,gh,ls⟩:St))) y10) ?_ ?_
    ·replace h:=g10;clear g10
     refine AW.block ?_
     replace h:=bnE h;obtain⟨y11,g11,h⟩:=h
     refine AW.flow (p:=fun gh ls=>(nP (cx:=cxR1) (fun q=>(⟨[(5,.l (.p 0 0)),(6,.l (.p 5 0)),(35,.l (.s (.bool q)))],[some ⟨24,1,false,none,[.r 4 4 0 y3.2.2.2.2.length]⟩,some ⟨24,1,false,none,[.d false 4 (encClaim v7.2)]⟩,some ⟨24,1,false,none,[.d false 4 (encClaim v8.2)]⟩,some ⟨95,8,false,none,[.s (.int .i64 v7.1.frm),.s (.int .i64 v9),.s (.int .i64 v7.1.node),.s (.int .i64 v7.1.epoch),.s (.int .i64 v8.1.frm),.s (.int .i64 v9),.s (.int .i64 v8.1.node),.s (.int .i64 v8.1.epoch)]⟩,some ⟨41,4,true,none,lvs (encClaim y3.2.2.2.2)⟩,some ⟨95,8,false,none,[.s (.int .i64 v7.1.frm),.s (.int .i64 v9),.s (.int .i64 v7.1.node),.s (.int .i64 v7.1.epoch),.s (.int .i64 v8.1.frm),.s (.int .i64 v9),.s (.int .i64 v8.1.node),.s (.int .i64 v8.1.epoch)]⟩],45,gh,ls⟩:St))) y11) ?_ ?_
     ·replace h:=g11;clear g11
      replace h:=ltE h;obtain⟨v12,e12,h⟩:=h
      cases v12 with
      |true =>
       replace h:=iteT rfl h
       apply AW.last
       ·simp[← e12]
        intros;rfl
       obtain rfl:=oi h
       refine nP_i ?_
       refine Weak.mixB 0 [some 0,some 1,some 2,some 3,some 4,some 5] hnS1 (by decide) (by decide) ?_ ?_ ?_
       all_goals first|(simp[Ab,Ac,pickOb];done)|rfl
      |false =>
       replace h:=iteF rfl h
       replace h:=ltE h;obtain⟨v13,e13,h⟩:=h
       cases v13 with
       |true =>
        replace h:=iteT rfl h
        replace h:=ltE h;obtain⟨v14,e14,h⟩:=h
        apply AW.last
        ·simp[← e12,← e13,← e14]
         intros;rfl
        obtain rfl:=oi h
        refine nP_i ?_
        refine Weak.mixB 0 [some 0,some 1,some 2,some 3,some 4,some 5] hnS1 (by decide) (by decide) ?_ ?_ ?_
        all_goals first|(simp[Ab,Ac,pickOb];done)|rfl
       |false =>
        replace h:=iteF rfl h
        apply AW.last
        ·simp[← e12,← e13]
         intros;rfl
        obtain rfl:=oi h
        refine nP_i ?_
        refine Weak.mixB 0 [some 0,some 1,some 2,some 3,some 4,some 5] hnS1 (by decide) (by decide) ?_ ?_ ?_
        all_goals first|(simp[Ab,Ac,pickOb];done)|rfl
     ·rintro e s hp
      obtain⟨rfl,hw⟩:=hp
      refine⟨_,hw,?_⟩
      try simp only[nm]
      replace h:=ltE h;obtain⟨v15,e15,h⟩:=h
      rw[← e15]
      cases v15 with
      |true =>
       replace h:=iteT rfl h
       refine AW.cond_true (by simp) ?_
       replace h:=bnE h;obtain⟨v16,e16,h⟩:=h
       apply AW.last
       ·simp[obAfter,outR,keptR,Ab,Ac]
        intros
        refine Aq [4] CR (C7 e16) (by decide) (by simp[pickOb,Ab,Ac]) rfl rfl (by simp) ⟨.l (.own' (by simp[Ab,Ac]) (by simp)),.g ⟨.s _,.s _,.s _,.s _,trivial⟩,trivial⟩ ?_
        try simp[obAfter,outR,keptR,Ab,Ac]
        intros;rfl
       obtain rfl:=oi h
       refine nP_i ?_
       refine Weak.mixB 0 [some 0,some 1,some 2,some 3,some 4] hnS1 (by decide) (by decide) ?_ ?_ ?_
       all_goals first|(simp[Ab,Ac,pickOb];done)|rfl
      |false =>
       replace h:=iteF rfl h
       refine AW.cond_false (by simp) ?_
       replace h:=bnE h;obtain⟨v17,e17,h⟩:=h
       apply AW.last
       ·simp[obAfter,outR,keptR,Ab,Ac]
        intros
        refine Aq [4] CR (C7 e17) (by decide) (by simp[pickOb,Ab,Ac]) rfl rfl (by simp) ⟨.l (.own' (by simp[Ab,Ac]) (by simp)),.g ⟨.s _,.s _,.s _,.s _,trivial⟩,trivial⟩ ?_
        try simp[obAfter,outR,keptR,Ab,Ac]
        intros;rfl
       obtain rfl:=oi h
       refine nP_i ?_
       refine Weak.mixB 0 [some 0,some 1,some 2,some 3,some 4] hnS1 (by decide) (by decide) ?_ ?_ ?_
       all_goals first|(simp[Ab,Ac,pickOb];done)|rfl
    ·rintro e s hp
     obtain⟨rfl,hw⟩:=hp
     refine⟨_,hw,?_⟩
     try simp only[nm]
     refine⟨_,_,rfl,?_⟩
     refine Ex _ _ _ rfl ?_
     simp[puts]
     try intros
     unfold KK
     refine AW.cond_false (by simp) ?_
     refine AW.skip ?_
     try simp only[nm]
     replace h:=ltE h;obtain⟨v18,e18,h⟩:=h
     apply AW.last
     ·simp[← e18]
      intros;rfl
     obtain rfl:=oi h
     refine nP_i ?_
     refine Weak.mixB 0 [some 0,some 1,some 2,some 3,some 4] hnJ1 (by decide) (by decide) ?_ ?_ ?_
     all_goals first|(simp[Ab,Ac,pickOb];done)|rfl
   |false =>
    replace h:=iteF rfl h
    refine AW.cond_false (by simp) ?_
    refine AW.exit ?_
    try simp only[nm]
    obtain rfl:=oi h
    refine xP_i ?_
    refine Weak.mixB 0 [some 0,some 1,some 2,some 4] hnJ1 (by decide) (by decide) ?_ ?_ ?_
    all_goals first|(simp[Ab,Ac,pickOb];done)|rfl
  ·rintro e s hp
   obtain⟨rfl,hw⟩:=hp
   refine⟨_,hw,?_⟩
   try simp only[nm]
   refine⟨_,_,rfl,?_⟩
   try simp only[]
   try simp only[nm]
   obtain rfl:=oi h
   refine nP_i ?_
   refine Weak.mixN [some 0,some 3] hn0 (by decide) ?_ ?_ rfl
   all_goals first|(simp[Ab,Ac,pickOb];done)|rfl
 ·rintro e s hp
  obtain⟨rfl,hw⟩:=hp
  refine⟨_,hw,?_⟩
  try simp only[nm]
  apply AW.step
  ·simp
   intros;rfl
  replace h:=chkE h;obtain⟨e19,h⟩:=h
  refine AW.frzRow 1 (ty:=41) (cap:=none) (sz:=4) (es:=encClaim y1) (by simp) (by omega) (BJ _) (by first|exact (Aw e19).2|simpa using (Aw e19).2|simp) (by simp[Tm.frz,AV.frz,LV.frz];rfl) (by simp[Ob.frz,LV.frz];rfl) rfl ?_
  obtain rfl:=oi h
  refine AW.ret ?_
  refine Left.plain hnb (by simp[Try.f16,resV,resC,comp];rfl) rfl rfl ?_
  simp
theorem EX:Enters Try.prog 16:=enters Try.func16 (by kernel_rfl) rfl
def Ck (n:Nat) (a0:List Claim) (a1:Int):Option (Int×Int×Bool) :=
lt (lenI a0) fun v1 =>
bn (iter n (fun (y2:Int) =>
lt (ltI y2 v1) fun v5 =>
ite' v5 (bn (nth a0 y2) fun v6 =>
bn (lt (leI v6.frm a1) fun v8 =>
ite' v8 (lt (leI a1 v6.to) fun v9 =>
some (v9)) (some (false))) fun (y7:Bool) =>
lt (y7) fun v10 =>
ite' v10 (some (.inr (.inr (v6.node,v6.epoch,true)))) (lt (addI .i64 y2 1) fun v11 =>
some (.inl v11))) (some (.inr (.inl ())))) 0) fun (y3:Unit ⊕ (Int×Int×Bool)) =>
sm y3 (fun y12=>some (0,0,false)) (fun y13=>some y13)
theorem FR {n:Nat} {a0:List Claim} {a1:Int} {r:Int×Int×Bool} (h:Ck n a0 a1=some r):Sound Try.prog 20 [.l (.d false 4 (encClaim a0)),.l (.s (.int .i64 a1))] [] (.t [(false,[.s (.int .i64 r.1)]),(false,[.s (.int .i64 r.2.1)]),(false,[.s (.bool r.2.2)])]) []:=by
 unfold Ck at h
 refine Sound.of_aw (fn:=Try.f20) (c:=_) Try.func20 rfl (by simp[Try.f20]) fun cx hG hnb=>?_
 rw[show Try.f20.ntmps=30 from rfl]
 have hn0:cx.nb=0:=hnb
 simp only[As,initTm,List.map_cons,List.map_nil]
 apply AW.step
 ·simp
  intros;rfl
 refine AW.seq ?_
 replace h:=ltE h;obtain⟨v1,e1,h⟩:=h
 apply AW.step
 ·simp[Ak e1]
  intros;rfl
 refine AW.block ?_
 replace h:=bnE h;obtain⟨y3,g3,h⟩:=h
 refine AW.iterP g3 (mk:=fun gh ls q=>(⟨[(1,.l (.s (.int .i64 a1))),(9,.l (.d false 4 (encClaim a0))),(10,.l (.s (.int .i64 v1))),(11,.l (.s (.int .i64 q)))],[],30,gh,ls⟩:St)) (N:=fun gh ls=>(sp (xP 0 (cx:=cx) (fun _=>(⟨[],[],30,gh,ls⟩:St))) (rP (cx:=cx) (P:=Try.prog) Try.f20 (fun q=>.t [(false,[.s (.int .i64 q.1)]),(false,[.s (.int .i64 q.2.1)]),(false,[.s (.bool q.2.2)])]) (fun q=>[])))) ?_ (noS noX noR) ?_ ?_
 ·refine Weak.mixN [] hn0 (by decide) ?_ ?_ rfl
  all_goals first|(simp[Ab,Ac,pickOb];done)|rfl
 ·clear h;intro y2 y4 h
  replace h:=ltE h;obtain⟨v5,e5,h⟩:=h
  apply AW.step
  ·simp[← e5]
   intros;rfl
  refine AW.seq ?_
  cases v5 with
  |true =>
   replace h:=iteT rfl h
   refine AW.cond_true (by simp) ?_
   refine AW.skip ?_
   try simp only[nm]
   refine AW.seq ?_
   refine AW.block ?_
   replace h:=bnE h;obtain⟨v6,e6,h⟩:=h
   apply AW.step
   ·simp[Aa e6]
    intros;rfl
   replace h:=bnE h;obtain⟨y7,g7,h⟩:=h
   refine AW.flow (p:=fun gh ls=>(nP (cx:=cx) (fun q=>(⟨[(1,.l (.s (.int .i64 a1))),(8,.l (.p 0 0)),(9,.l (.d false 4 (encClaim a0))),(10,.l (.s (.int .i64 v1))),(11,.l (.s (.int .i64 y2))),(24,.l (.s (.bool q)))],[some ⟨41,4,false,none,[.s (.int .i64 v6.frm),.s (.int .i64 v6.to),.s (.int .i64 v6.node),.s (.int .i64 v6.epoch)]⟩],30,gh,ls⟩:St))) y7) ?_ ?_
   ·replace h:=g7;clear g7
    replace h:=ltE h;obtain⟨v8,e8,h⟩:=h
    cases v8 with
    |true =>
     replace h:=iteT rfl h
     replace h:=ltE h;obtain⟨v9,e9,h⟩:=h
     apply AW.last
     ·simp[← e8,← e9]
      intros;rfl
     obtain rfl:=oi h
     refine nP_i ?_
     refine Weak.mixN [some 0] hn0 (by decide) ?_ ?_ rfl
     all_goals first|(simp[Ab,Ac,pickOb];done)|rfl
    |false =>
     replace h:=iteF rfl h
     apply AW.last
     ·simp[← e8]
      intros;rfl
     obtain rfl:=oi h
     refine nP_i ?_
     refine Weak.mixN [some 0] hn0 (by decide) ?_ ?_ rfl
     all_goals first|(simp[Ab,Ac,pickOb];done)|rfl
   ·rintro e s hp
    obtain⟨rfl,hw⟩:=hp
    refine⟨_,hw,?_⟩
    try simp only[nm]
    replace h:=ltE h;obtain⟨v10,e10,h⟩:=h
    rw[← e10]
    cases v10 with
    |true =>
     replace h:=iteT rfl h
     refine AW.cond_true (by simp) ?_
     apply AW.drawnP (V:=[_,_,_,_,_]) mixed [⟨[0],[],[(8,none)],false⟩,⟨[0],[0],[(25,some 0)],false⟩,⟨[0],[],[(8,none)],false⟩,⟨[0],[2],[(27,some 2)],false⟩,⟨[0],[0,1],[(26,some 1)],false⟩,⟨[],[0,1,2,3,4],[],false⟩,⟨[],[0,1,2,3,4,5],[],false⟩] 5 (by kernel_rfl) (by kernel_rfl)
     ·refine⟨?_,?_,?_,?_,?_,trivial⟩
      iterate 5 (· intro tm hr;simp[AllL,rdV] at hr;simp[hr];intros;first|exact KD.mk|exact KD.mkN)
     ·rfl
     ·simp[tmD,putD];rfl
     ·simp
      intros;rfl
     obtain rfl:=oi h
     refine AW.ret ?_
     try simp only[nm]
     refine rP_i ?_
     refine Left.plain hnb (by simp[Try.f20,resV,resC,comp];rfl) rfl rfl ?_
     simp
    |false =>
     replace h:=iteF rfl h
     refine AW.cond_false (by simp) ?_
     refine AW.skip ?_
     try simp only[nm]
     replace h:=ltE h;obtain⟨v11,e11,h⟩:=h
     apply AW.last
     ·simp[← e11]
      intros;rfl
     obtain rfl:=oi h
     refine nP_i ?_
     refine Weak.mixN [] hn0 (by decide) ?_ ?_ rfl
     all_goals first|(simp[Ab,Ac,pickOb];done)|rfl
  |false =>
   replace h:=iteF rfl h
   refine AW.cond_false (by simp) ?_
   refine AW.exit ?_
   try simp only[nm]
   obtain rfl:=oi h
   try simp only[sp_l,sp_r]
   refine xP_i ?_
   refine Weak.mixN [] hn0 (by decide) ?_ ?_ rfl
   all_goals first|(simp[Ab,Ac,pickOb];done)|rfl
 ·rintro e s hp
  rcases y3 with y12|y13
  ·replace h:=smL h
   obtain⟨rfl,hw⟩:=hp
   refine⟨_,hw,?_⟩
   try simp only[nm]
   apply AW.step
   ·simp
    intros;rfl
   obtain rfl:=oi h
   refine AW.ret ?_
   refine Left.plain hnb (by simp[Try.f20,resV,resC,comp];rfl) rfl rfl ?_
   simp
  ·replace h:=smR h
   obtain⟨rfl,hl⟩:=hp
   refine⟨_,Weak.refl _,?_⟩
   obtain rfl:=oi h
   exact hl
theorem Fy:Enters Try.prog 20:=enters Try.func20 (by kernel_rfl) rfl
end Go.Proofs.Ythjenkmbbnjcnaa
namespace Go.Proofs.Ythjenkmbbnjcnaa
open Go Go.RowKit
theorem BdP.fin {β:Type} {a:Int} {out:List (Int×Int×β)} {f:Int→Option β} (h:BdP a out f) (hf:∀ s,a≤s→f s=none):FinP out f:=by
 refine⟨h.can,fun s=>?_⟩
 rcases Decidable.em (s<a) with h1|h1
 ·exact h.fn s h1
 ·rw[hf s (by omega)]
  exact Df fun p hp hc=>by have:=h.pos p hp;omega
theorem BdP.rng {a:Int} {out:List Claim} {f:Int→Option (Int×Int)} (h:BdP a (out.map cP) f) (hf:∀ s,s<0→f s=none):∀ x∈out,0≤x.frm∧x.frm≤x.to∧x.to<a:=by
 intro x hx
 have a1:x.to<a:=h.pos _ (List.mem_map_of_mem hx)
 obtain⟨a2,a3⟩:=Dg h.can (List.mem_map_of_mem hx)
 have a5:x.frm≤x.to:=a2
 have a6:=h.fn x.frm (by omega)
 rw[a3 x.frm (Int.le_refl _) a5] at a6
 refine⟨?_,a5,a1⟩
 rcases Decidable.em (x.frm<0) with h1|h1
 ·rw[hf x.frm h1] at a6
  simp at a6
 ·omega
def valC (c:Claim):Option (Int×Int):=if c.epoch=0 then none else some (c.node,c.epoch)
theorem GoodC.tail {c:Claim} {l:List Claim} (h:GoodC (c::l)):GoodC l:=⟨canP.tail (p:=cP c) h.1,fun x hx=>h.2 x (by simp[hx])⟩
structure NextC (l:List Claim) (at_:Int) (c:Claim) (r:List Claim):Prop where
 frm:c.frm=at_
 le:at_≤c.to
 last:c.to≤16383
 val:∀ s,at_≤s→s≤c.to→fC l s=valC c
 good:GoodC r
 rest:∀ s,at_≤s→fC r s=fC l s
 num:0≤c.node∧0≤c.epoch∧(c.epoch=0→c.node=0)
theorem FH {l:List Claim} {at_:Int} (hl:GoodC l) (h0:0≤at_∧at_≤16383):Rn (By big l at_) fun r=>NextC l at_ r.1 r.2:=by
 unfold By
 have hlen:=hl.len
 refine Rn.bn (P:=fun r=>GoodC r∧(∀ s,at_≤s→fC r s=fC l s)∧∀ c t,r=c::t→at_≤c.to) (Rn.iter _ (fun j r=>r=l.drop j∧GoodC r∧∀ s,at_≤s→fC r s=fC l s) l.length (by unfold big;omega) ⟨by simp,hl,fun s _=>rfl⟩ fun j r hj hI=>?_) fun r hr=>?_
 ·obtain⟨hd,hg,hf⟩:=hI
  cases r with
  |nil=>exact Rn.bnE (v:=false) rfl (Rn.lt (Rn.ite (fun h=>by simp at h) fun _=>Rn.some ⟨hg,hf,fun c t h=>by simp at h⟩))
  |cons c t =>
   have hjl:j<l.length:=by
    rcases Nat.lt_or_ge j l.length with h|h
    ·exact h
    ·rw[List.drop_eq_nil_of_le h] at hd
     simp at hd
   have ht:t=l.drop (j+1):=by
    rw[List.drop_eq_getElem_cons hjl] at hd
    exact (List.cons.inj hd).2
   refine Rn.bnE (v:=ltI c.to at_) ?_ (Rn.lt (Rn.ite (fun h=>?_) fun h=>?_))
   ·simp only[Av]
    rw[gt_t (by rw[BA];simp),AF]
    rfl
   ·have h1:c.to<at_:=of_decide_eq_true h
    refine Rn.bnE (v:=t) ?_ (Rn.some ⟨hjl,ht,hg.tail,fun s hs=>?_⟩)
    ·have:=Hx (l:=c::t) (i:=1) (by simp)
     exact this
    ·rw[← hf s hs]
     exact (BH (p:=cP c) fun hc=>by have h2:s≤c.to:=hc.2;omega).symm
   ·have h1:=of_decide_eq_false (p:=c.to<at_) h
    refine Rn.some ⟨hg,hf,fun c' t' he=>?_⟩
    rw[← (List.cons.inj he).1]
    omega
 ·obtain⟨hg,hf,hh⟩:=hr
  cases r with
  |nil =>
   refine Rn.bnE (v:=⟨at_,16383,0,0⟩) rfl (Rn.some ⟨rfl,h0.2,Int.le_refl _,fun s h1 h2=>?_,hg,hf,by simp⟩)
   rw[← hf s h1]
   rfl
  |cons c t =>
   have hc:=hg.2 c (by simp)
   have ht:=hh c t rfl
   have hn:nth (c::t) 0=some c:=rfl
   rcases Decidable.em (c.frm≤at_) with h1|h1
   ·refine Rn.bnE (v:=⟨at_,c.to,c.node,c.epoch⟩) ?_ (Rn.some ⟨rfl,ht,hc.2.2.1,fun s g1 g2=>?_,hg,hf,?_⟩)
    ·refine Rn.eqv (Rn.bnE (v:=true) ?_ (Rn.lt (Rn.ite (fun _=>Rn.bnE hn (Rn.some rfl)) fun h=>by simp at h)))
     simp only[Av]
     rw[gt_t (by rw[BA];simp),AF,hn]
     simp only[An]
     rw[le_t h1]
    ·rw[← hf s g1]
     have g2':s≤c.to:=g2
     have:fC (c::t) s=some (c.node,c.epoch):=Bz (p:=cP c) (show c.frm≤s by omega) g2'
     rw[this]
     unfold valC
     rw[if_neg (show ¬ c.epoch=0 by omega)]
    ·exact⟨hc.2.2.2.1,by have:=hc.2.2.2.2;show (0:Int)≤c.epoch;omega,fun h=>by have:=hc.2.2.2.2;have h':c.epoch=0:=h;omega⟩
   ·refine Rn.bnE (v:=⟨at_,c.frm - 1,0,0⟩) ?_ (Rn.some ⟨rfl,by show at_≤c.frm - 1;omega,by show c.frm - 1≤16383;omega,fun s g1 g2=>?_,hg,hf,by simp⟩)
    ·refine Rn.eqv (Rn.bnE (v:=false) ?_ (Rn.lt (Rn.ite (fun h=>by simp at h) fun _=>Rn.lt (Rn.lt (Rn.ite (fun _=>Rn.bnE hn (Rn.lt (Rn.some ?_))) fun h=>?_)))))
     ·simp only[Av]
      rw[gt_t (by rw[BA];simp),AF,hn]
      simp only[An]
      rw[le_f (by omega)]
     ·rw[Ap (by omega) (by omega)]
     ·have:gtI (lenI (c::t)) 0=true:=gt_t (by rw[BA];simp)
      rw[this] at h
      simp at h
    ·rw[← hf s g1]
     have g2':s≤c.frm - 1:=g2
     have e1:fC (c::t) s=fC t s:=BH (p:=cP c) fun hc2=>by have h2:c.frm≤s:=hc2.1;omega
     rw[e1]
     exact CM (p:=cP c) hg.1 (show s≤c.to by omega)
theorem KI {l:List Claim} {c:Claim} (hl:l.length≤1000000) (hb:∀ x∈l,inB x.to) (hc:inB c.frm):Rn (Br big l c) fun m=>m.map cP=(if c.epoch=0 then l.map cP else putP (l.map cP) (cP c))∧m.length≤l.length+1:=by
 unfold Br
 refine Rn.bn (P:=fun m=>m.map cP=(if c.epoch=0 then l.map cP else putP (l.map cP) (cP c))∧m.length≤l.length+1) (Rn.lt (Rn.lt (Rn.ite (fun h=>?_) fun h=>?_))) fun m hm=>Rn.some hm
 ·have he:c.epoch=0:=of_decide_eq_true h
  exact Rn.some ⟨by rw[if_pos he],by omega⟩
 ·have he:c.epoch≠0:=of_decide_eq_false h
  rw[if_neg he]
  rcases Decidable.em (l=[]) with rfl|hne
  ·refine Rn.bnE (v:=false) rfl (Rn.lt (Rn.ite (fun h=>by simp at h) fun _=>Rn.chk rfl (Rn.lt (Rn.some ⟨rfl,by simp⟩))))
  ·obtain⟨k,x,rfl⟩:∃ k x,l=k++[x]:=⟨l.dropLast,l.getLast hne,(List.dropLast_concat_getLast hne).symm⟩
   have hx:=hb x (by simp)
   unfold inB at hx hc
   have e1:subI .i64 (lenI (k++[x])) 1=((k.length:Nat):Int):=by
    rw[BA,Ap (by omega) (by omega)]
    simp
   have hk:k.length<(k++[x]).length:=by simp
   have hn:nth (k++[x]) ((k.length:Nat):Int)=some x:=by rw[AC hk];simp
   have hm:putP ((k++[x]).map cP) (cP c)=if x.to+1=c.frm∧(x.node,x.epoch)=(c.node,c.epoch) then k.map cP++[(x.frm,c.to,(x.node,x.epoch))] else (k++[x]).map cP++[cP c]:=by
    unfold putP
    rw[List.map_append,show [x].map cP=[cP x] from rfl,List.getLast?_concat]
    simp only[List.dropLast_concat]
    rfl
   rw[hm]
   have ht:BG big x c=some (decide (x.to+1=c.frm∧(x.node,x.epoch)=(c.node,c.epoch))):=by
    unfold BG
    simp only[Av]
    rw[Am (by omega) (by omega)]
    rcases Decidable.em (x.to+1=c.frm) with h1|h1
    ·rw[eq_t h1,AF]
     rcases Decidable.em (x.node=c.node) with h2|h2
     ·rw[eq_t h2,AF]
      simp[eqI,h1,h2,An]
     ·rw[eq_f h2,AT]
      simp[h2,An]
    ·rw[eq_f h1,AT]
     simp[h1,An]
   refine Rn.bnE (v:=decide (x.to+1=c.frm∧(x.node,x.epoch)=(c.node,c.epoch))) ?_ (Rn.lt (Rn.ite (fun h=>?_) fun h=>?_))
   ·simp only[Av]
    rw[gt_t (by rw[BA];simp),AF,e1,hn]
    simp only[An]
    rw[ht]
    rfl
   ·have hq:=of_decide_eq_true h
    rw[if_pos hq]
    refine Rn.lt ?_
    rw[e1]
    refine Rn.bnE hn (Rn.lt (Rn.some ⟨?_,by simp⟩))
    rw[Int.toNat_natCast,List.set_append_right _ _ (by omega),Nat.sub_self]
    simp[cP]
   ·have hq:=of_decide_eq_false h
    rw[if_neg hq]
    exact Rn.chk (by simp[room];simp at hl;omega) (Rn.lt (Rn.some ⟨by simp,by simp⟩))
def epo:Option (Int×Int)→Int
 |some v=>v.2
 |none=>0
def nod:Option (Int×Int)→Int
 |some v=>v.1
 |none=>0
def joinV (x y:Option (Int×Int)):Option (Int×Int):=if epo y<epo x∨(epo x=epo y∧nod y<nod x) then x else y
def joinF (f g:Int→Option (Int×Int)) (s:Int):Option (Int×Int):=joinV (f s) (g s)
theorem Ee {f g:Int→Option (Int×Int)} (hf:Tells f) (hg:Tells g):Tells (joinF f g):=by
 intro s v h
 unfold joinF joinV at h
 split at h
 ·exact hf s v h
 ·exact hg s v h
theorem Tells.none {f:Int→Option (Int×Int)} (h:Tells f) {s:Int} (hs:s<0∨16384≤s):f s=Option.none:=by
 cases hf:f s with
 |none=>rfl
 |some v=>exact absurd (h s v hf).1 (by omega)
theorem FI {c:Claim}:epo (valC c)=c.epoch:=by
 unfold valC
 split
 ·rename_i h
  simp[epo,h]
 ·rfl
theorem FJ {c:Claim} (h:c.epoch=0→c.node=0):nod (valC c)=c.node:=by
 unfold valC
 split
 ·rename_i h1
  simp[nod,h h1]
 ·rfl
theorem HC {out:List Claim} {f:Int→Option (Int×Int)} {a b:Int} {c:Claim} (h:BdP a (out.map cP) f) (ht:Tells f) (ho:out.length≤1000000) (ha:0≤a∧a≤16384) (h1:c.frm=a) (h2:c.to=b) (h3:a≤b)
  (hv:∀ s,a≤s→s≤b→f s=valC c):Rn (Br big out c) fun m=>BdP (b+1) (m.map cP) f∧m.length≤out.length+1:=by
 have hr:=h.rng fun s hs=>ht.none (.inl hs)
 refine (KI ho (fun x hx=>by have:=hr x hx;unfold inB;omega) (by unfold inB;omega)).mono fun m hm=>⟨?_,hm.2⟩
 rw[hm.1]
 split
 ·rename_i he
  exact h.skip (by omega) fun s g1 g2=>by rw[hv s g1 (by omega),valC,if_pos he]
 ·rename_i he
  have:=h.put (b:=b) (v:=(c.node,c.epoch)) h3 fun s g1 g2=>by rw[hv s g1 g2,valC,if_neg he]
  rwa [show cP c=(a,b,(c.node,c.epoch)) by rw[← h1,← h2];rfl]
theorem J6 {a b:List Claim} (ha:GoodC a) (hb:GoodC b):Rn (BY big a b) fun r=>FinP (r.map cP) (joinF (fC a) (fC b)):=by
 unfold BY
 have ht:Tells (joinF (fC a) (fC b)):=Ee ha.tells hb.tells
 refine Rn.bn (P:=fun r=>FinP (r.map cP) (joinF (fC a) (fC b))∧r.length≤16384) (Rn.bnE (v:=(a,b)) rfl (Rn.bn (P:=fun y=>FinP (y.2.2.map cP) (joinF (fC a) (fC b))∧y.2.2.length≤16384) (Rn.iter _ (fun j y=>∃ at_ a' b' p out,y=(at_,a',b',p,out)∧(j:Int)≤at_∧at_≤16384∧GoodC a'∧GoodC b'∧(∀ s,at_≤s→fC a' s=fC a s)∧(∀ s,at_≤s→fC b' s=fC b s)∧BdP at_ (out.map cP) (joinF (fC a) (fC b))∧out.length≤j) 16384 (by unfold big;omega)
  ⟨0,a,b,_,[],rfl,Int.le_refl _,by omega,ha,hb,fun s _=>rfl,fun s _=>rfl,BdP.nil fun s hs=>ht.none (.inl hs),by simp⟩ fun j y hj hI=>?_) fun y hy=>Rn.some hy)) fun r hr=>Rn.chk (by have:=hr.2;simp[room];omega) (Rn.some hr.1)
 obtain⟨at_,a',b',p,out,rfl,i1,i2,i3,i4,i5,i6,i7,i8⟩:=hI
 refine Rn.lt (Rn.ite (fun hd=>?_) fun hd=>?_)
 ·have hat:at_≤16383:=of_decide_eq_true hd
  refine Rn.bn (FH i3 ⟨by omega,hat⟩) fun x hx=>Rn.bn (FH i4 ⟨by omega,hat⟩) fun z hz=>Rn.lt ?_
  obtain⟨x1,x2⟩:=x
  obtain⟨z1,z2⟩:=z
  have hmin:minI x1.to z1.to=min x1.to z1.to:=rfl
  have hto:at_≤minI x1.to z1.to∧minI x1.to z1.to≤16383∧minI x1.to z1.to≤x1.to∧minI x1.to z1.to≤z1.to:=by
   have q1:=hx.le
   have q2:=hz.le
   have q3:=hx.last
   have q4:=hz.last
   simp only at q1 q2 q3 q4
   rw[hmin]
   omega
  simp only
  generalize minI x1.to z1.to=to_ at hto
  obtain⟨p1,p2,p3,p4⟩:=hto
  have hF:∀ s,at_≤s→s≤to_→joinF (fC a) (fC b) s=joinV (valC x1) (valC z1):=by
   intro s g1 g2
   unfold joinF
   rw[← i5 s g1,← i6 s g1,hx.val s g1 (by simp only;omega),hz.val s g1 (by simp only;omega)]
  have hcond:∀ (c:Claim),(joinV (valC x1) (valC z1)=valC c)→c.frm=at_→c.to=to_→Rn (bn (Br big out c) fun v16=>some v16) fun m=>BdP (to_+1) (m.map cP) (joinF (fC a) (fC b))∧m.length≤out.length+1:=by
   intro c hc e1 e2
   exact Rn.bn (HC i7 ht (by omega) ⟨by omega,i2⟩ e1 e2 p1 fun s g1 g2=>by rw[hF s g1 g2,hc]) fun m hm=>Rn.some hm
  have hx6:=hx.num
  have hz6:=hz.num
  simp only at hx6 hz6
  refine Rn.bn (P:=fun m=>BdP (to_+1) (m.map cP) (joinF (fC a) (fC b))∧m.length≤out.length+1) ?_ fun m hm=>Rn.lt (Rn.some ⟨by omega,to_+1,x2,z2,⟨⟨x1.frm,to_,x1.node,x1.epoch⟩,⟨z1.frm,to_,z1.node,z1.epoch⟩⟩,m,?_,by omega,by omega,hx.good,hz.good,fun s hs=>?_,fun s hs=>?_,hm.1,by omega⟩)
  ·refine Rn.bnE (v:=decide (z1.epoch<x1.epoch∨(x1.epoch=z1.epoch∧z1.node<x1.node))) ?_ (Rn.lt (Rn.ite (fun h=>?_) fun h=>?_))
   ·simp only[Av]
    rcases Int.lt_trichotomy z1.epoch x1.epoch with h1|h1|h1
    ·rw[gt_t h1,AF]
     simp[h1]
    ·rw[gt_f (by omega),AT,eq_t h1.symm,AF]
     simp[h1,gtI]
    ·rw[gt_f (by omega),AT,eq_f (by omega),AT]
     have e1:¬ z1.epoch<x1.epoch:=by omega
     have e2:¬ x1.epoch=z1.epoch:=by omega
     simp[e1,e2]
   ·refine hcond ⟨x1.frm,to_,x1.node,x1.epoch⟩ ?_ hx.frm rfl
    have hq:=of_decide_eq_true h
    unfold joinV
    rw[FI,FI,FJ hx6.2.2,FJ hz6.2.2,if_pos hq]
    rfl
   ·refine hcond ⟨z1.frm,to_,z1.node,z1.epoch⟩ ?_ hz.frm rfl
    have hq:=of_decide_eq_false h
    unfold joinV
    rw[FI,FI,FJ hx6.2.2,FJ hz6.2.2,if_neg hq]
    rfl
  ·rw[Am (by omega) (by omega)]
  ·rw[hx.rest s (by omega),i5 s (by omega)]
  ·rw[hz.rest s (by omega),i6 s (by omega)]
 ·have hat:at_=16384:=by
   have:=of_decide_eq_false (p:=at_≤16383) hd
   omega
  subst hat
  exact Rn.some ⟨i7.fin fun s hs=>ht.none (.inr hs),show out.length≤16384 by omega⟩
end Go.Proofs.Ythjenkmbbnjcnaa
namespace Go.Proofs.Ythjenkmbbnjcnaa
open Go Go.RowKit
def DX (n:Nat) (a0:List Span):Option (List Span) :=
lt (lenI a0) fun v1 =>
bn (iter n (fun (y2:Int×List Span) =>
lt (ltI y2.1 v1) fun v5 =>
ite' v5 (bn (bn (nth a0 y2.1) fun v7 =>
lt (maxI v7.frm 0) fun v8 =>
lt (minI v7.to 16383) fun v9 =>
lt (leI v8 v9) fun v10 =>
ite' v10 (chk (room (y2.2.length+1) 16) <|
lt (y2.2++[(⟨v8,v9⟩:Span)]) fun v12 =>
some (v12)) (some (y2.2))) fun (y6:List Span) =>
lt (addI .i64 y2.1 1) fun v13 =>
some (.inl (v13,y6))) (some (.inr y2.2))) (0,[])) fun (y3:List Span) =>
bn (Bo n y3) fun v14 =>
chk (lenB v14 y3) <|
chk (room v14.length 1) <|
some v14
theorem Gx {n:Nat} {a0:List Span} {r:List Span} (h:DX n a0=some r):Sound Try.prog 69 [.l (.d true 2 (encSpan a0))] [] (.l (.d false 2 (encSpan r))) []:=by
 unfold DX at h
 refine Sound.of_aw (fn:=Try.f69) (c:=_) Try.func69 rfl (by simp[Try.f69]) fun cx hG hnb=>?_
 rw[show Try.f69.ntmps=32 from rfl]
 have hn0:cx.nb=0:=hnb
 simp only[As,initTm,List.map_cons,List.map_nil]
 apply AW.step
 ·simp
  intros;rfl
 apply AW.step
 ·simp
  intros;rfl
 refine AW.seq ?_
 replace h:=ltE h;obtain⟨v1,e1,h⟩:=h
 apply AW.step
 ·simp[Ak e1]
  intros;rfl
 refine AW.block ?_
 replace h:=bnE h;obtain⟨y3,g3,h⟩:=h
 refine AW.iterP g3 (mk:=fun gh ls q=>(⟨[(3,.l (.r 0 2 0 q.2.length)),(6,.l (.d true 2 (encSpan a0))),(7,.l (.s (.int .i64 v1))),(8,.l (.s (.int .i64 q.1)))],[some ⟨43,2,true,none,lvs (encSpan q.2)⟩],32,gh,ls⟩:St)) (N:=fun gh ls=>(xP 0 (cx:=cx) (fun q=>(⟨[(3,.l (.r 0 2 0 q.length))],[some ⟨43,2,true,none,lvs (encSpan q)⟩],32,gh,ls⟩:St)))) ?_ noX ?_ ?_
 ·refine W.nilRow 3 43 2 0 (by simp) rfl rfl ?_
  refine Weak.mixN [some 0] hn0 (by decide) ?_ ?_ rfl
  all_goals first|(simp[Ab,Ac,pickOb];done)|rfl
 ·clear h;intro y2 y4 h
  replace h:=ltE h;obtain⟨v5,e5,h⟩:=h
  apply AW.step
  ·simp[← e5]
   intros;rfl
  refine AW.seq ?_
  cases v5 with
  |true =>
   replace h:=iteT rfl h
   refine AW.cond_true (by simp) ?_
   refine AW.skip ?_
   try simp only[nm]
   replace h:=bnE h;obtain⟨y6,g6,h⟩:=h
   refine AW.flow (p:=fun gh ls=>(nP (cx:=cx) (fun q=>(⟨[(3,.l (.r 0 2 0 q.length)),(6,.l (.d true 2 (encSpan a0))),(7,.l (.s (.int .i64 v1))),(8,.l (.s (.int .i64 y2.1)))],[some ⟨43,2,true,none,lvs (encSpan q)⟩],32,gh,ls⟩:St))) y6) ?_ ?_
   ·replace h:=g6;clear g6
    refine AW.block ?_
    replace h:=bnE h;obtain⟨v7,e7,h⟩:=h
    apply AW.step
    ·simp[Aa e7]
     intros;rfl
    replace h:=ltE h;obtain⟨v8,e8,h⟩:=h
    replace h:=ltE h;obtain⟨v9,e9,h⟩:=h
    apply AW.step
    ·simp[← e8,← e9]
     intros;rfl
    replace h:=ltE h;obtain⟨v10,e10,h⟩:=h
    apply AW.step
    ·simp[← e10]
     intros;rfl
    cases v10 with
    |true =>
     replace h:=iteT rfl h
     refine AW.cond_true (by simp) ?_
     replace h:=chkE h;obtain⟨e11,h⟩:=h
     replace h:=ltE h;obtain⟨v12,e12,h⟩:=h
     apply AW.last
     ·simp[← Ao,← e12,Ar e12]
      intros
      refine Bu ?_
      try simp[← Ao,← e12,Ar e12]
      intros
      refine Bt (acc:=encSpan y2.2) (ys:=encSpan [(⟨v8,v9⟩:Span)]) (cap:=none) (k:=1) Dl Dk (by simp) (by simp[encSpan,lvs]) (Bh _) (by simp) (by simp) (by first|(simp;done)|simpa using (Aw e11).1) ?_
      try simp[← Ao,← e12,Ar e12]
      intros;rfl
     obtain rfl:=oi h
     refine nP_i ?_
     refine Weak.mixN [some 3] hn0 (by decide) ?_ ?_ rfl
     all_goals first|(simp[Ab,Ac,pickOb,Bk];done)|rfl
    |false =>
     replace h:=iteF rfl h
     refine AW.cond_false (by simp) ?_
     refine AW.skip ?_
     try simp only[nm]
     obtain rfl:=oi h
     refine nP_i ?_
     refine Weak.mixN [some 0] hn0 (by decide) ?_ ?_ rfl
     all_goals first|(simp[Ab,Ac,pickOb];done)|rfl
   ·rintro e s hp
    obtain⟨rfl,hw⟩:=hp
    refine⟨_,hw,?_⟩
    try simp only[nm]
    replace h:=ltE h;obtain⟨v13,e13,h⟩:=h
    apply AW.last
    ·simp[← e13]
     intros;rfl
    obtain rfl:=oi h
    refine nP_i ?_
    refine Weak.mixN [some 0] hn0 (by decide) ?_ ?_ rfl
    all_goals first|(simp[Ab,Ac,pickOb];done)|rfl
  |false =>
   replace h:=iteF rfl h
   refine AW.cond_false (by simp) ?_
   refine AW.exit ?_
   try simp only[nm]
   obtain rfl:=oi h
   refine xP_i ?_
   refine Weak.mixN [some 0] hn0 (by decide) ?_ ?_ rfl
   all_goals first|(simp[Ab,Ac,pickOb];done)|rfl
 ·rintro e s hp
  obtain⟨rfl,hw⟩:=hp
  refine⟨_,hw,?_⟩
  try simp only[nm]
  refine AW.pin 0 (ty:=43) (sz:=2) (cs:=lvs (encSpan y3)) (by simp) hn0 (by omega) rfl ?_
  replace h:=bnE h;obtain⟨v14,e14,h⟩:=h
  replace h:=chkE h;obtain⟨e15,h⟩:=h
  apply AW.step
  ·simp
   intros
   refine Aq [0] CN (CY e14) (by decide) (by simp[pickOb,Ab,Ac]) rfl rfl (by simp) ⟨.l (.own' (by simp[Ab,Ac]) (by simp)),.l (.s _),trivial⟩ ?_
   try simp
   intros;rfl
  apply AW.step
  ·simp
   intros;rfl
  replace h:=chkE h;obtain⟨e16,h⟩:=h
  refine AW.unpin 0 (ty:=43) (sz:=2) (cs:=lvs (encSpan v14)) (by simp) rfl ?_
  refine AW.frzRow 0 (ty:=43) (cap:=none) (sz:=2) (es:=encSpan v14) (by simp) (by omega) (Bh _) (by first|exact (Aw e16).2|simpa using (Aw e16).2|simp) (by simp[Tm.frz,AV.frz,LV.frz,Al e15];rfl) (by simp[Ob.frz,LV.frz,Al e15];rfl) rfl ?_
  obtain rfl:=oi h
  refine AW.ret ?_
  refine Left.plain hnb (by simp[Try.f69,resV,resC,comp];rfl) rfl rfl ?_
  simp
theorem Gi:Enters Try.prog 69:=enters Try.func69 (by kernel_rfl) rfl
def Cw (n:Nat) (a0:List Span):Option (List Span) :=
bn (DX n a0) fun v1 =>
lt (lenI v1) fun v2 =>
bn (iter n (fun (y3:Int×List Span) =>
lt (ltI y3.1 v2) fun v6 =>
ite' v6 (bn (bn (nth v1 y3.1) fun v8 =>
lt (lenI y3.2) fun v9 =>
bn (lt (gtI v9 0) fun v11 =>
ite' v11 (lt (subI .i64 v9 1) fun v12 =>
bn (nth y3.2 v12) fun v13 =>
lt (addI .i64 v13.to 1) fun v15 =>
lt (leI v8.frm v15) fun v16 =>
some (v16)) (some (false))) fun (y10:Bool) =>
lt (y10) fun v17 =>
ite' v17 (lt (subI .i64 v9 1) fun v18 =>
bn (nth y3.2 v18) fun v19 =>
lt (maxI v19.to v8.to) fun v21 =>
lt (y3.2.set v18.toNat (⟨v19.frm,v21⟩:Span)) fun v23 =>
some (v23)) (chk (room (y3.2.length+1) 16) <|
lt (y3.2++[v8]) fun v28 =>
some (v28))) fun (y7:List Span) =>
lt (addI .i64 y3.1 1) fun v29 =>
some (.inl (v29,y7))) (some (.inr y3.2))) (0,[])) fun (y4:List Span) =>
chk (room y4.length 1) <|
some y4
def DX3t1:List DI:=[⟨[0],[],[(6,none)],false⟩,⟨[0],[0],[(16,some 0)],false⟩,⟨[0],[0,1],[(17,some 1)],false⟩,⟨[0],[0,1,2],[(5,none),(18,some 2)],false⟩,⟨[0],[0,1,2,3],[(18,some 2),(19,some 3)],false⟩,⟨[0],[0,1,2],[(3,none),(18,some 2)],false⟩,⟨[0],[0,1,2],[(6,none),(18,some 2)],false⟩,⟨[0],[0,1,2,6],[(18,some 2),(22,some 6)],false⟩,⟨[0],[0,1,2,5,6,7],[(18,some 2),(21,some 5),(23,some 7)],false⟩,⟨[0],[0,1,2,5,6,7,8],[(18,some 2),(24,some 8)],false⟩,⟨[0],[0,1,2,5,6,7,8,9],[(18,some 2),(25,some 9)],false⟩,⟨[0],[0,1,2,5,6,7,8,9,10],[(18,some 2),(26,some 10)],false⟩,⟨[],[0,1,2,3,4,5,6,7,8,9,10,11],[],false⟩,⟨[],[0,1,2,3,4,5,6,7,8,9,10,11,12],[],false⟩]
theorem EY {n:Nat} {a0:List Span} {r:List Span} (h:Cw n a0=some r):Sound Try.prog 49 [.l (.d true 2 (encSpan a0))] [] (.l (.d false 2 (encSpan r))) []:=by
 unfold Cw at h
 refine Sound.of_aw (fn:=Try.f49) (c:=_) Try.func49 rfl (by simp[Try.f49]) fun cx hG hnb=>?_
 rw[show Try.f49.ntmps=50 from rfl]
 have hn0:cx.nb=0:=hnb
 simp only[As,initTm,List.map_cons,List.map_nil]
 apply AW.step
 ·simp
  intros;rfl
 apply AW.step
 ·simp
  intros;rfl
 refine AW.seq ?_
 replace h:=bnE h;obtain⟨v1,e1,h⟩:=h
 replace h:=ltE h;obtain⟨v2,e2,h⟩:=h
 apply AW.step
 ·simp[Ak e2]
  intros
  refine Ah Gi (Gx e1) rfl ⟨.d _ _ _,trivial⟩ ?_
  try simp[Ak e2]
  intros;rfl
 refine AW.block ?_
 replace h:=bnE h;obtain⟨y4,g4,h⟩:=h
 refine AW.iterP g4 (mk:=fun gh ls q=>(⟨[(3,.l (.r 0 2 0 q.2.length)),(8,.l (.d false 2 (encSpan v1))),(9,.l (.s (.int .i64 v2))),(10,.l (.s (.int .i64 q.1)))],[some ⟨43,2,true,none,lvs (encSpan q.2)⟩],50,gh,ls⟩:St)) (N:=fun gh ls=>(xP 0 (cx:=cx) (fun q=>(⟨[(3,.l (.r 0 2 0 q.length))],[some ⟨43,2,true,none,lvs (encSpan q)⟩],50,gh,ls⟩:St)))) ?_ noX ?_ ?_
 ·refine W.nilRow 3 43 2 0 (by simp) rfl rfl ?_
  refine Weak.mixN [some 0] hn0 (by decide) ?_ ?_ rfl
  all_goals first|(simp[Ab,Ac,pickOb];done)|rfl
 ·clear h;intro y3 y5 h
  replace h:=ltE h;obtain⟨v6,e6,h⟩:=h
  apply AW.step
  ·simp[← e6]
   intros;rfl
  refine AW.seq ?_
  cases v6 with
  |true =>
   replace h:=iteT rfl h
   refine AW.cond_true (by simp) ?_
   refine AW.skip ?_
   try simp only[nm]
   replace h:=bnE h;obtain⟨y7,g7,h⟩:=h
   refine AW.flow (p:=fun gh ls=>(nP (cx:=cx) (fun q=>(⟨[(3,.l (.r 0 2 0 q.length)),(8,.l (.d false 2 (encSpan v1))),(9,.l (.s (.int .i64 v2))),(10,.l (.s (.int .i64 y3.1)))],[some ⟨43,2,true,none,lvs (encSpan q)⟩],50,gh,ls⟩:St))) y7) ?_ ?_
   ·replace h:=g7;clear g7
    refine AW.block ?_
    replace h:=bnE h;obtain⟨v8,e8,h⟩:=h
    apply AW.step
    ·simp[Aa e8]
     intros;rfl
    refine AW.seq ?_
    replace h:=ltE h;obtain⟨v9,e9,h⟩:=h
    apply AW.step
    ·simp[Ak e9]
     intros;rfl
    replace h:=bnE h;obtain⟨y10,g10,h⟩:=h
    refine AW.flow (p:=fun gh ls=>(nP (cx:=cx) (fun q=>(⟨[(3,.l (.r 0 2 0 y3.2.length)),(5,.l (.p 1 0)),(6,.l (.s (.int .i64 v9))),(8,.l (.d false 2 (encSpan v1))),(9,.l (.s (.int .i64 v2))),(10,.l (.s (.int .i64 y3.1))),(29,.l (.s (.bool q)))],[some ⟨43,2,true,none,lvs (encSpan y3.2)⟩,some ⟨43,2,false,none,[.s (.int .i64 v8.frm),.s (.int .i64 v8.to)]⟩],50,gh,ls⟩:St))) y10) ?_ ?_
    ·replace h:=g10;clear g10
     replace h:=ltE h;obtain⟨v11,e11,h⟩:=h
     cases v11 with
     |true =>
      replace h:=iteT rfl h
      replace h:=ltE h;obtain⟨v12,e12,h⟩:=h
      replace h:=bnE h;obtain⟨v13,e13,h⟩:=h
      have f14:=Ai e13
      try simp[← e11,← e12,Aa e13] at f14
      replace h:=ltE h;obtain⟨v15,e15,h⟩:=h
      replace h:=ltE h;obtain⟨v16,e16,h⟩:=h
      apply AW.drawnR (V:=[_,_,_,_,_,_,_,_,_,_,_,_]) mixed DX3t1 12 (by kernel_rfl) (by kernel_rfl)
      ·refine⟨?_,?_,?_,?_,?_,?_,?_,?_,?_,?_,?_,?_,trivial⟩
       iterate 12 (· intro tm hr;simp[AllL,rdV] at hr;simp[hr,← e11,← e12,Aa e13,f14,AR (Aa e13).2 (j:=1) (by decide),lvs1,← e15,← e16];intros;first|exact KD.mk|exact KD.mkN)
      ·rfl
      ·simp[tmD,putD,← e11,← e12,Aa e13,f14,AR (Aa e13).2 (j:=1) (by decide),lvs1,← e15,← e16];rfl
      ·simp[← e11,← e12,Aa e13,f14,AR (Aa e13).2 (j:=1) (by decide),lvs1,← e15,← e16]
       intros;rfl
      obtain rfl:=oi h
      refine nP_i ?_
      refine Weak.mixN [some 0,some 1] hn0 (by decide) ?_ ?_ rfl
      all_goals first|(simp[Ab,Ac,pickOb];done)|rfl
     |false =>
      replace h:=iteF rfl h
      apply AW.drawnR (V:=[_,_,_,_,_,_,_,_,_,_,_,_]) mixed DX3t1 12 (by kernel_rfl) (by kernel_rfl)
      ·refine⟨?_,?_,?_,?_,?_,?_,?_,?_,?_,?_,?_,?_,trivial⟩
       iterate 12 (· intro tm hr;simp[AllL,rdV] at hr;simp[hr,← e11];intros;first|exact KD.mk|exact KD.mkN)
      ·rfl
      ·simp[tmD,putD,← e11];rfl
      ·simp[← e11]
       intros;rfl
      obtain rfl:=oi h
      refine nP_i ?_
      refine Weak.mixN [some 0,some 1] hn0 (by decide) ?_ ?_ rfl
      all_goals first|(simp[Ab,Ac,pickOb];done)|rfl
    ·rintro e s hp
     obtain⟨rfl,hw⟩:=hp
     refine⟨_,hw,?_⟩
     try simp only[nm]
     replace h:=ltE h;obtain⟨v17,e17,h⟩:=h
     rw[← e17]
     cases v17 with
     |true =>
      replace h:=iteT rfl h
      refine AW.cond_true (by simp) ?_
      replace h:=ltE h;obtain⟨v18,e18,h⟩:=h
      replace h:=bnE h;obtain⟨v19,e19,h⟩:=h
      have f20:=Ai e19
      try simp[← e18,Aa e19] at f20
      replace h:=ltE h;obtain⟨v21,e21,h⟩:=h
      have f22:=Ai e19
      try simp[← e18,Aa e19,f20,AR (Aa e19).2 (j:=1) (by decide),lvs1,← e21] at f22
      replace h:=ltE h;obtain⟨v23,e23,h⟩:=h
      have f24:=Ed (Aa e19).2 e23 (j:=1) (cs:=[.s (.int .i64 v21)]) (by simp) rfl
      try simp at f24
      have f25:=f20
      try simp only[Af e23] at f25
      have f26:=f22
      try simp only[Af e23] at f26
      apply AW.drawnP (V:=[_,_,_,_,_,_,_,_,_,_,_,_]) mixed [⟨[0],[],[(3,none)],false⟩,⟨[0],[],[(6,none)],false⟩,⟨[0],[1],[(31,some 1)],false⟩,⟨[0],[],[(3,none)],false⟩,⟨[0],[],[(6,none)],false⟩,⟨[0],[4],[(34,some 4)],false⟩,⟨[0],[3,4,5],[(33,some 3),(35,some 5)],false⟩,⟨[0],[3,4,5,6],[(36,some 6)],false⟩,⟨[0],[3,4,5,6,7],[(37,some 7)],false⟩,⟨[0],[],[(5,none)],false⟩,⟨[0],[9],[(39,some 9)],false⟩,⟨[0],[3,4,5,6,7,8,9,10],[(38,some 8),(40,some 10)],false⟩,⟨[],[0,1,2,3,4,5,6,7,8,9,10,11],[],false⟩,⟨[],[0,1,2,3,4,5,6,7,8,9,10,11,12],[],false⟩,⟨[],[0,1,2,3,4,5,6,7,8,9,10,11,12,13],[],false⟩] 12 (by kernel_rfl) (by kernel_rfl)
      ·refine⟨?_,?_,?_,?_,?_,?_,?_,?_,?_,?_,?_,?_,trivial⟩
       iterate 12 (· intro tm hr;simp[AllL,rdV] at hr;simp[hr,← e18,Aa e19,f20,AR (Aa e19).2 (j:=1) (by decide),lvs1,← e21,f22,B0 (Aa e19).2 (j:=1) (m:=1) (by decide),f24,f25,f26];intros;first|exact KD.mk|exact KD.mkN)
      ·rfl
      ·simp[tmD,putD,← e18,Aa e19,f20,AR (Aa e19).2 (j:=1) (by decide),lvs1,← e21,f22,B0 (Aa e19).2 (j:=1) (m:=1) (by decide),f24,f25,f26];rfl
      ·simp[← e18,Aa e19,f20,AR (Aa e19).2 (j:=1) (by decide),lvs1,← e21,f22,B0 (Aa e19).2 (j:=1) (m:=1) (by decide),f24,f25,f26]
       intros;rfl
      refine AW.exit ?_
      try simp only[nm]
      obtain rfl:=oi h
      refine nP_i ?_
      refine Weak.mixN [some 0] hn0 (by decide) ?_ ?_ rfl
      all_goals first|(simp[Ab,Ac,pickOb,Af e23];done)|rfl
     |false =>
      replace h:=iteF rfl h
      refine AW.cond_false (by simp) ?_
      refine AW.skip ?_
      try simp only[nm]
      replace h:=chkE h;obtain⟨e27,h⟩:=h
      replace h:=ltE h;obtain⟨v28,e28,h⟩:=h
      apply AW.last
      ·simp[← Ao,← e28,Ar e28]
       intros
       refine Bu ?_
       try simp[← Ao,← e28,Ar e28]
       intros
       refine Bt (acc:=encSpan y3.2) (ys:=encSpan [v8]) (cap:=none) (k:=1) Dl Dk (by simp) (by simp[encSpan,lvs]) (Bh _) (by simp) (by simp) (by first|(simp;done)|simpa using (Aw e27).1) ?_
       try simp[← Ao,← e28,Ar e28]
       intros;rfl
      obtain rfl:=oi h
      refine nP_i ?_
      refine Weak.mixN [some 3] hn0 (by decide) ?_ ?_ rfl
      all_goals first|(simp[Ab,Ac,pickOb,Bk];done)|rfl
   ·rintro e s hp
    obtain⟨rfl,hw⟩:=hp
    refine⟨_,hw,?_⟩
    try simp only[nm]
    replace h:=ltE h;obtain⟨v29,e29,h⟩:=h
    apply AW.last
    ·simp[← e29]
     intros;rfl
    obtain rfl:=oi h
    refine nP_i ?_
    refine Weak.mixN [some 0] hn0 (by decide) ?_ ?_ rfl
    all_goals first|(simp[Ab,Ac,pickOb];done)|rfl
  |false =>
   replace h:=iteF rfl h
   refine AW.cond_false (by simp) ?_
   refine AW.exit ?_
   try simp only[nm]
   obtain rfl:=oi h
   refine xP_i ?_
   refine Weak.mixN [some 0] hn0 (by decide) ?_ ?_ rfl
   all_goals first|(simp[Ab,Ac,pickOb];done)|rfl
 ·rintro e s hp
  obtain⟨rfl,hw⟩:=hp
  refine⟨_,hw,?_⟩
  try simp only[nm]
  apply AW.step
  ·simp
   intros;rfl
  replace h:=chkE h;obtain⟨e30,h⟩:=h
  refine AW.frzRow 0 (ty:=43) (cap:=none) (sz:=2) (es:=encSpan y4) (by simp) (by omega) (Bh _) (by first|exact (Aw e30).2|simpa using (Aw e30).2|simp) (by simp[Tm.frz,AV.frz,LV.frz];rfl) (by simp[Ob.frz,LV.frz];rfl) rfl ?_
  obtain rfl:=oi h
  refine AW.ret ?_
  refine Left.plain hnb (by simp[Try.f49,resV,resC,comp];rfl) rfl rfl ?_
  simp
theorem EL:Enters Try.prog 49:=enters Try.func49 (by kernel_rfl) rfl
def C6 (n:Nat) (a0:List Claim) (a1:List Span) (a2:Int) (a3:Int):Option (List Claim) :=
bn (Cw n a1) fun v1 =>
lt (lenI v1) fun v2 =>
bn (iter n (fun (y3:Int×List Claim) =>
lt (ltI y3.1 v2) fun v6 =>
ite' v6 (bn (nth v1 y3.1) fun v7 =>
chk (room (y3.2.length+1) 32) <|
lt (y3.2++[(⟨v7.frm,v7.to,a2,a3⟩:Claim)]) fun v9 =>
lt (addI .i64 y3.1 1) fun v10 =>
some (.inl (v10,v9))) (some (.inr y3.2))) (0,[])) fun (y4:List Claim) =>
bn (chk (room y4.length 1) <|
bn (Cj n a0 y4) fun v13 =>
bn (iter n (fun (y14:Int×List Claim×List Claim×ClaimsPiece×List Claim) =>
lt (leI y14.1 16383) fun v17 =>
ite' v17 (bn (By n y14.2.1 y14.1) fun v18 =>
bn (By n y14.2.2.1 y14.1) fun v19 =>
lt (minI v18.1.to v19.1.to) fun v20 =>
bn (lt (gtI v19.1.epoch 0) fun v22 =>
ite' v22 (some ((⟨(⟨v19.1.frm,v20,v19.1.node,v19.1.epoch⟩:Claim),(⟨v19.1.frm,v20,v19.1.node,v19.1.epoch⟩:Claim)⟩:ClaimsPiece))) (some ((⟨(⟨v18.1.frm,v20,v18.1.node,v18.1.epoch⟩:Claim),(⟨v19.1.frm,v20,v19.1.node,v19.1.epoch⟩:Claim)⟩:ClaimsPiece)))) fun (y21:ClaimsPiece) =>
bn (Br n y14.2.2.2.2 y21.a) fun v23 =>
lt (addI .i64 v20 1) fun v24 =>
some (.inl (v24,v18.2,v19.2,(⟨(⟨v18.1.frm,v20,v18.1.node,v18.1.epoch⟩:Claim),(⟨v19.1.frm,v20,v19.1.node,v19.1.epoch⟩:Claim)⟩:ClaimsPiece),v23))) (some (.inr (y14.2.1,y14.2.2.1,y14.2.2.2.2)))) (0,v13.1,v13.2,(⟨(⟨0,0,0,0⟩:Claim),(⟨0,0,0,0⟩:Claim)⟩:ClaimsPiece),[])) fun (y15:List Claim×List Claim×List Claim) =>
some (y15.2.2)) fun (y11:List Claim) =>
chk (room y11.length 1) <|
some y11
theorem Fz {n:Nat} {a0:List Claim} {a1:List Span} {a2:Int} {a3:Int} {r:List Claim} (h:C6 n a0 a1 a2 a3=some r):Sound Try.prog 19 [.l (.d false 4 (encClaim a0)),.l (.d true 2 (encSpan a1)),.l (.s (.int .i64 a2)),.l (.s (.int .i64 a3))] [] (.l (.d false 4 (encClaim r))) []:=by
 unfold C6 at h
 refine Sound.of_aw (fn:=Try.f19) (c:=_) Try.func19 rfl (by simp[Try.f19]) fun cx hG hnb=>?_
 rw[show Try.f19.ntmps=48 from rfl]
 have hn0:cx.nb=0:=hnb
 simp only[As,initTm,List.map_cons,List.map_nil]
 apply AW.step
 ·simp
  intros;rfl
 apply AW.step
 ·simp
  intros;rfl
 refine AW.seq ?_
 replace h:=bnE h;obtain⟨v1,e1,h⟩:=h
 replace h:=ltE h;obtain⟨v2,e2,h⟩:=h
 apply AW.step
 ·simp[Ak e2]
  intros
  refine Ah EL (EY e1) rfl ⟨.d _ _ _,trivial⟩ ?_
  try simp[Ak e2]
  intros;rfl
 refine AW.block ?_
 replace h:=bnE h;obtain⟨y4,g4,h⟩:=h
 refine AW.iterP g4 (mk:=fun gh ls q=>(⟨[(0,.l (.d false 4 (encClaim a0))),(2,.l (.s (.int .i64 a2))),(3,.l (.s (.int .i64 a3))),(9,.l (.r 0 4 0 q.2.length)),(10,.l (.p 1 0)),(15,.l (.d false 2 (encSpan v1))),(16,.l (.s (.int .i64 v2))),(17,.l (.s (.int .i64 q.1)))],[some ⟨41,4,true,none,lvs (encClaim q.2)⟩,some ⟨24,1,false,none,[.s (.slice none 0 0)]⟩],48,gh,ls⟩:St)) (N:=fun gh ls=>(xP 0 (cx:=cx) (fun q=>(⟨[(0,.l (.d false 4 (encClaim a0))),(9,.l (.r 0 4 0 q.length)),(10,.l (.p 1 0))],[some ⟨41,4,true,none,lvs (encClaim q)⟩,some ⟨24,1,false,none,[.s (.slice none 0 0)]⟩],48,gh,ls⟩:St)))) ?_ noX ?_ ?_
 ·refine W.nilRow 9 41 4 1 (by simp) rfl rfl ?_
  refine Weak.mixN [some 1,some 0] hn0 (by decide) ?_ ?_ rfl
  all_goals first|(simp[Ab,Ac,pickOb];done)|rfl
 ·clear h;intro y3 y5 h
  replace h:=ltE h;obtain⟨v6,e6,h⟩:=h
  apply AW.step
  ·simp[← e6]
   intros;rfl
  refine AW.seq ?_
  cases v6 with
  |true =>
   replace h:=iteT rfl h
   refine AW.cond_true (by simp) ?_
   refine AW.skip ?_
   try simp only[nm]
   refine AW.seq ?_
   refine AW.block ?_
   replace h:=bnE h;obtain⟨v7,e7,h⟩:=h
   apply AW.step
   ·simp[Aa e7]
    intros;rfl
   replace h:=chkE h;obtain⟨e8,h⟩:=h
   replace h:=ltE h;obtain⟨v9,e9,h⟩:=h
   apply AW.last
   ·simp[← Bj,← e9,Ar e9]
    intros
    refine Bu ?_
    try simp[← Bj,← e9,Ar e9]
    intros
    refine Bt (acc:=encClaim y3.2) (ys:=encClaim [(⟨v7.frm,v7.to,a2,a3⟩:Claim)]) (cap:=none) (k:=1) FF FE (by simp) (by simp[encClaim,lvs]) (BJ _) (by simp) (by simp) (by first|(simp;done)|simpa using (Aw e8).1) ?_
    try simp[← Bj,← e9,Ar e9]
    intros;rfl
   try simp only[nm]
   replace h:=ltE h;obtain⟨v10,e10,h⟩:=h
   apply AW.last
   ·simp[← e10]
    intros;rfl
   obtain rfl:=oi h
   refine nP_i ?_
   refine Weak.mixN [some 4,some 1] hn0 (by decide) ?_ ?_ rfl
   all_goals first|(simp[Ab,Ac,pickOb,CT];done)|rfl
  |false =>
   replace h:=iteF rfl h
   refine AW.cond_false (by simp) ?_
   refine AW.exit ?_
   try simp only[nm]
   obtain rfl:=oi h
   refine xP_i ?_
   refine Weak.mixN [some 0,some 1] hn0 (by decide) ?_ ?_ rfl
   all_goals first|(simp[Ab,Ac,pickOb];done)|rfl
 ·rintro e s hp
  obtain⟨rfl,hw⟩:=hp
  refine⟨_,hw,?_⟩
  try simp only[nm]
  replace h:=bnE h;obtain⟨y11,g11,h⟩:=h
  refine AW.flow (p:=fun gh ls=>(nP (cx:=cx) (fun q=>(⟨[(10,.l (.p 0 0))],[some ⟨24,1,false,none,[.r 1 4 0 q.length]⟩,some ⟨41,4,true,none,lvs (encClaim q)⟩],48,gh,ls⟩:St))) y11) ?_ ?_
  ·replace h:=g11;clear g11
   replace h:=chkE h;obtain⟨e12,h⟩:=h
   refine AW.frzRow 0 (ty:=41) (cap:=none) (sz:=4) (es:=encClaim y4) (by simp) (by omega) (BJ _) (by first|exact (Aw e12).2|simpa using (Aw e12).2|simp) (by simp[Tm.frz,AV.frz,LV.frz];rfl) (by simp[Ob.frz,LV.frz];rfl) rfl ?_
   replace h:=bnE h;obtain⟨v13,e13,h⟩:=h
   apply AW.step
   ·simp
    intros
    refine Fn DL (DW e13) rfl (by simp) ⟨.same rfl,.same rfl,trivial⟩ ?_
    try simp
    intros;rfl
   refine AW.block ?_
   refine AW.weak (Weak.keep [(10,.l (.p 1 0)),(34,.l (.f 67 [2,3]))] (by simp)) ?_
   refine AW.rangeG rfl Try.func67 (by kernel_rfl) rfl (by decide) rfl rfl fun cxI1 yl1 hnI1 hY1=>?_
   have hnJ1:cxI1.nb=0:=hnI1.trans hn0
   simp only[initTm,List.map_cons,List.map_nil]
   apply AW.step
   ·simp
    intros;rfl
   apply AW.step
   ·simp
    intros;rfl
   refine AW.block ?_
   replace h:=bnE h;obtain⟨y15,g15,h⟩:=h
   refine AW.iterP g15 (mk:=fun gh ls q=>(⟨[(0,.l (.s (.func (.yield yl1) #[] #[]))),(1,.l (.p 2 0)),(2,.l (.p 3 0)),(4,.l (.p 4 0)),(5,.l (.s (.int .i64 q.1)))],[none,some ⟨24,1,false,none,[.r 5 4 0 q.2.2.2.2.length]⟩,some ⟨24,1,false,none,[.d false 4 (encClaim q.2.1)]⟩,some ⟨24,1,false,none,[.d false 4 (encClaim q.2.2.1)]⟩,some ⟨95,8,false,none,[.s (.int .i64 q.2.2.2.1.a.frm),.s (.int .i64 q.2.2.2.1.a.to),.s (.int .i64 q.2.2.2.1.a.node),.s (.int .i64 q.2.2.2.1.a.epoch),.s (.int .i64 q.2.2.2.1.b.frm),.s (.int .i64 q.2.2.2.1.b.to),.s (.int .i64 q.2.2.2.1.b.node),.s (.int .i64 q.2.2.2.1.b.epoch)]⟩,some ⟨41,4,true,none,lvs (encClaim q.2.2.2.2)⟩],44,gh,ls⟩:St)) (N:=fun gh ls=>(xP 0 (cx:=cxI1) (fun q=>(⟨[],[none,some ⟨24,1,false,none,[.r 4 4 0 q.2.2.length]⟩,some ⟨24,1,false,none,[.d false 4 (encClaim q.1)]⟩,some ⟨24,1,false,none,[.d false 4 (encClaim q.2.1)]⟩,some ⟨41,4,true,none,lvs (encClaim q.2.2)⟩],44,gh,ls⟩:St)))) ?_ noX ?_ ?_
   ·refine W.nilCell 1 0 41 4 5 rfl rfl rfl rfl rfl ?_
    refine Weak.mixB 0 [some 0,some 1,some 2,some 3,some 4,some 5] hnJ1 (by decide) (by decide) ?_ ?_ ?_
    all_goals first|(simp[Ab,Ac,pickOb];done)|rfl
   ·clear h;intro y14 y16 h
    refine AW.seq ?_
    replace h:=ltE h;obtain⟨v17,e17,h⟩:=h
    apply AW.step
    ·simp[← e17]
     intros;rfl
    cases v17 with
    |true =>
     replace h:=iteT rfl h
     refine AW.cond_true (by simp) ?_
     refine AW.skip ?_
     try simp only[nm]
     refine AW.seq ?_
     refine AW.block ?_
     replace h:=bnE h;obtain⟨v18,e18,h⟩:=h
     apply AW.step
     ·simp
      intros
      refine Ah Cd (Cp e18) rfl ⟨.same rfl,.same rfl,trivial⟩ ?_
      try simp
      intros;rfl
     replace h:=bnE h;obtain⟨v19,e19,h⟩:=h
     apply AW.step
     ·simp
      intros
      refine Ah Cd (Cp e19) rfl ⟨.same rfl,.same rfl,trivial⟩ ?_
      try simp
      intros;rfl
     replace h:=ltE h;obtain⟨v20,e20,h⟩:=h
     apply AW.step
     ·simp[← e20]
      intros;rfl
     apply AW.step
     ·simp
      intros;rfl
     refine AW.stepYK ?_
     apply xopsY.yield hY1 0 2 rfl rfl rfl (by decide)
     ·simp
      intros;rfl
     ·rfl
     ·first|trivial|simp
     ·rfl
     ·rfl
     ·simp[puts];rfl
     intro cxR1 hnR1
     have hnS1:cxR1.nb=0:=hnR1.trans hnJ1
     apply AW.last
     ·simp
      intros;rfl
     refine⟨rfl,?_⟩
     refine AW.block ?_
     replace h:=bnE h;obtain⟨y21,g21,h⟩:=h
     refine AW.flow (p:=fun gh ls=>(nP (cx:=cxR1) (fun q=>(⟨[(10,.l (.p 1 0)),(13,.l (.p 6 0))],[none,some ⟨24,1,false,none,[.r 5 4 0 y14.2.2.2.2.length]⟩,some ⟨24,1,false,none,[.d false 4 (encClaim v18.2)]⟩,some ⟨24,1,false,none,[.d false 4 (encClaim v19.2)]⟩,some ⟨95,8,false,none,[.s (.int .i64 v18.1.frm),.s (.int .i64 v20),.s (.int .i64 v18.1.node),.s (.int .i64 v18.1.epoch),.s (.int .i64 v19.1.frm),.s (.int .i64 v20),.s (.int .i64 v19.1.node),.s (.int .i64 v19.1.epoch)]⟩,some ⟨41,4,true,none,lvs (encClaim y14.2.2.2.2)⟩,some ⟨95,8,false,none,[.s (.int .i64 q.a.frm),.s (.int .i64 q.a.to),.s (.int .i64 q.a.node),.s (.int .i64 q.a.epoch),.s (.int .i64 q.b.frm),.s (.int .i64 q.b.to),.s (.int .i64 q.b.node),.s (.int .i64 q.b.epoch)]⟩],48,gh,ls⟩:St))) y21) ?_ ?_
     ·replace h:=g21;clear g21
      replace h:=ltE h;obtain⟨v22,e22,h⟩:=h
      apply AW.step
      ·simp[← e22]
       intros;rfl
      cases v22 with
      |true =>
       replace h:=iteT rfl h
       refine AW.cond_true (by simp) ?_
       apply AW.last
       ·simp
        intros;rfl
       obtain rfl:=oi h
       refine nP_i ?_
       refine Weak.mixB 0 [some 0,some 1,some 2,some 3,some 4,some 5,some 6] hnS1 (by decide) (by decide) ?_ ?_ ?_
       all_goals first|(simp[Ab,Ac,pickOb];done)|rfl
      |false =>
       replace h:=iteF rfl h
       refine AW.cond_false (by simp) ?_
       refine AW.skip ?_
       try simp only[nm]
       obtain rfl:=oi h
       refine nP_i ?_
       refine Weak.mixB 0 [some 0,some 1,some 2,some 3,some 4,some 5,some 6] hnS1 (by decide) (by decide) ?_ ?_ ?_
       all_goals first|(simp[Ab,Ac,pickOb];done)|rfl
     ·rintro e s hp
      obtain⟨rfl,hw⟩:=hp
      refine⟨_,hw,?_⟩
      try simp only[nm]
      replace h:=bnE h;obtain⟨v23,e23,h⟩:=h
      apply AW.last
      ·simp[obAfter,outR,keptR,Ab,Ac]
       intros
       refine Aq [5] CR (C7 e23) (by decide) (by simp[pickOb,Ab,Ac]) rfl rfl (by simp) ⟨.l (.own' (by simp[Ab,Ac]) (by simp)),.g ⟨.s _,.s _,.s _,.s _,trivial⟩,trivial⟩ ?_
       try simp[obAfter,outR,keptR,Ab,Ac]
       intros;rfl
      refine⟨_,_,rfl,?_⟩
      refine Ex _ _ _ rfl ?_
      simp[puts]
      try intros
      unfold KK
      refine AW.cond_false (by simp) ?_
      refine AW.skip ?_
      try simp only[nm]
      replace h:=ltE h;obtain⟨v24,e24,h⟩:=h
      apply AW.last
      ·simp[← e24]
       intros;rfl
      obtain rfl:=oi h
      refine nP_i ?_
      refine Weak.mixB 0 [some 0,some 1,some 2,some 3,some 4,some 5] hnJ1 (by decide) (by decide) ?_ ?_ ?_
      all_goals first|(simp[Ab,Ac,pickOb];done)|rfl
    |false =>
     replace h:=iteF rfl h
     refine AW.cond_false (by simp) ?_
     refine AW.exit ?_
     try simp only[nm]
     obtain rfl:=oi h
     refine xP_i ?_
     refine Weak.mixB 0 [some 0,some 1,some 2,some 3,some 5] hnJ1 (by decide) (by decide) ?_ ?_ ?_
     all_goals first|(simp[Ab,Ac,pickOb];done)|rfl
   ·rintro e s hp
    obtain⟨rfl,hw⟩:=hp
    refine⟨_,hw,?_⟩
    try simp only[nm]
    refine⟨_,_,rfl,?_⟩
    try simp only[]
    try simp only[nm]
    obtain rfl:=oi h
    refine nP_i ?_
    refine Weak.mixN [some 1,some 4] hn0 (by decide) ?_ ?_ rfl
    all_goals first|(simp[Ab,Ac,pickOb];done)|rfl
  ·rintro e s hp
   obtain⟨rfl,hw⟩:=hp
   refine⟨_,hw,?_⟩
   try simp only[nm]
   apply AW.step
   ·simp
    intros;rfl
   replace h:=chkE h;obtain⟨e25,h⟩:=h
   refine AW.frzRow 1 (ty:=41) (cap:=none) (sz:=4) (es:=encClaim y11) (by simp) (by omega) (BJ _) (by first|exact (Aw e25).2|simpa using (Aw e25).2|simp) (by simp[Tm.frz,AV.frz,LV.frz];rfl) (by simp[Ob.frz,LV.frz];rfl) rfl ?_
   obtain rfl:=oi h
   refine AW.ret ?_
   refine Left.plain hnb (by simp[Try.f19,resV,resC,comp];rfl) rfl rfl ?_
   simp
theorem Ff:Enters Try.prog 19:=enters Try.func19 (by kernel_rfl) rfl
def Dj (n:Nat) :Option Bool :=
chk (room 1 1) <|
bn (C6 n [] [(⟨3,5⟩:Span)] 1 2) fun v2 =>
bn (Ck n v2 4) fun v3 =>
bn (lt (lenI v2) fun v5 =>
lt (eqI v5 1) fun v6 =>
ite' v6 (lt (eqI v3.1 1) fun v7 =>
ite' v7 (lt (eqI v3.2.1 2) fun v8 =>
ite' v8 (lt (v3.2.2) fun v9 =>
ite' v9 (bn (BY n v2 []) fun v10 =>
bn (Bc n v10 v2) fun v11 =>
some (v11)) (some (false))) (some (false))) (some (false))) (some (false))) fun (y4:Bool) =>
some y4
theorem FS {n:Nat}  {r:Bool} (h:Dj n =some r):Sound Try.prog 14 [] [] (.l (.s (.bool r))) []:=by
 unfold Dj at h
 refine Sound.of_aw (fn:=Try.f14) (c:=_) Try.func14 rfl (by simp[Try.f14]) fun cx hG hnb=>?_
 rw[show Try.f14.ntmps=34 from rfl]
 have hn0:cx.nb=0:=hnb
 simp only[As,initTm,List.map_cons,List.map_nil]
 apply AW.step
 ·simp
  intros;rfl
 replace h:=chkE h;obtain⟨e1,h⟩:=h
 replace h:=bnE h;obtain⟨v2,e2,h⟩:=h
 apply AW.step
 ·simp
  intros
  refine Bu ?_
  try simp
  intros
  refine Ah Ff (Fz e2) rfl ⟨.nil _ _,.rowd (by simp[Bk]) rfl (by omega) (Bh _) (by simp) (by first|exact (Aw e1).2|simpa using (Aw e1).2|simp),.same rfl,.same rfl,trivial⟩ ?_
  try simp
  intros;rfl
 replace h:=bnE h;obtain⟨v3,e3,h⟩:=h
 apply AW.step
 ·simp
  intros
  refine Ah Fy (FR e3) rfl ⟨.same rfl,.same rfl,trivial⟩ ?_
  try simp
  intros;rfl
 replace h:=bnE h;obtain⟨y4,g4,h⟩:=h
 refine AW.flow (p:=fun gh ls=>(nP (cx:=cx) (fun q=>(⟨[(0,.l (.s (.bool q)))],[],34,gh,ls⟩:St))) y4) ?_ ?_
 ·replace h:=g4;clear g4
  replace h:=ltE h;obtain⟨v5,e5,h⟩:=h
  replace h:=ltE h;obtain⟨v6,e6,h⟩:=h
  cases v6 with
  |true =>
   replace h:=iteT rfl h
   replace h:=ltE h;obtain⟨v7,e7,h⟩:=h
   cases v7 with
   |true =>
    replace h:=iteT rfl h
    replace h:=ltE h;obtain⟨v8,e8,h⟩:=h
    cases v8 with
    |true =>
     replace h:=iteT rfl h
     replace h:=ltE h;obtain⟨v9,e9,h⟩:=h
     cases v9 with
     |true =>
      replace h:=iteT rfl h
      replace h:=bnE h;obtain⟨v10,e10,h⟩:=h
      replace h:=bnE h;obtain⟨v11,e11,h⟩:=h
      apply AW.last
      ·simp[Ak e5,← e6,← e7,← e8,← e9]
       intros
       refine Ah EX (Fd e10) rfl ⟨.same rfl,.nil _ _,trivial⟩ ?_
       try simp[Ak e5,← e6,← e7,← e8,← e9]
       intros
       refine Ah AI (AP e11) rfl ⟨.same rfl,.same rfl,trivial⟩ ?_
       try simp[Ak e5,← e6,← e7,← e8,← e9]
       intros;rfl
      obtain rfl:=oi h
      refine nP_i ?_
      refine Weak.mixN [] hn0 (by decide) ?_ ?_ rfl
      all_goals first|(simp[Ab,Ac,pickOb,Bk];done)|rfl
     |false =>
      replace h:=iteF rfl h
      apply AW.last
      ·simp[Ak e5,← e6,← e7,← e8,← e9]
       intros;rfl
      obtain rfl:=oi h
      refine nP_i ?_
      refine Weak.mixN [] hn0 (by decide) ?_ ?_ rfl
      all_goals first|(simp[Ab,Ac,pickOb,Bk];done)|rfl
    |false =>
     replace h:=iteF rfl h
     apply AW.last
     ·simp[Ak e5,← e6,← e7,← e8]
      intros;rfl
     obtain rfl:=oi h
     refine nP_i ?_
     refine Weak.mixN [] hn0 (by decide) ?_ ?_ rfl
     all_goals first|(simp[Ab,Ac,pickOb,Bk];done)|rfl
   |false =>
    replace h:=iteF rfl h
    apply AW.last
    ·simp[Ak e5,← e6,← e7]
     intros;rfl
    obtain rfl:=oi h
    refine nP_i ?_
    refine Weak.mixN [] hn0 (by decide) ?_ ?_ rfl
    all_goals first|(simp[Ab,Ac,pickOb,Bk];done)|rfl
  |false =>
   replace h:=iteF rfl h
   apply AW.last
   ·simp[Ak e5,← e6]
    intros;rfl
   obtain rfl:=oi h
   refine nP_i ?_
   refine Weak.mixN [] hn0 (by decide) ?_ ?_ rfl
   all_goals first|(simp[Ab,Ac,pickOb,Bk];done)|rfl
 ·rintro e s hp
  obtain⟨rfl,hw⟩:=hp
  refine⟨_,hw,?_⟩
  try simp only[nm]
  obtain rfl:=oi h
  refine AW.ret ?_
  refine Left.plain hnb (by simp[Try.f14,resV,resC,comp];rfl) rfl rfl ?_
  simp
theorem FA:Enters Try.prog 14:=enters Try.func14 (by kernel_rfl) rfl
def Dn (n:Nat) (a0:List Int):Option (List Span) :=
bn (iter n (fun (y1:Int×List Span) =>
lt (addI .i64 y1.1 1) fun v4 =>
lt (lenI a0) fun v5 =>
lt (ltI v4 v5) fun v6 =>
ite' v6 (bn (nth a0 y1.1) fun v7 =>
lt (cvI .i64 v7) fun v8 =>
bn (remI .i64 v8 16384) fun v9 =>
bn (nth a0 v4) fun v10 =>
lt (cvI .i64 v10) fun v11 =>
bn (remI .i64 v11 300) fun v12 =>
lt (addI .i64 v9 v12) fun v13 =>
lt (minI 16383 v13) fun v14 =>
chk (room (y1.2.length+1) 16) <|
lt (y1.2++[(⟨v9,v14⟩:Span)]) fun v16 =>
lt (addI .i64 y1.1 2) fun v17 =>
some (.inl (v17,v16))) (some (.inr y1.2))) (0,[])) fun (y2:List Span) =>
chk (room y2.length 1) <|
some y2
theorem GP {n:Nat} {a0:List Int} {r:List Span} (h:Dn n a0=some r):Sound Try.prog 18 [.l (.d false 1 (encIu16 a0))] [] (.l (.d false 2 (encSpan r))) []:=by
 unfold Dn at h
 refine Sound.of_aw (fn:=Try.f18) (c:=_) Try.func18 rfl (by simp[Try.f18]) fun cx hG hnb=>?_
 rw[show Try.f18.ntmps=35 from rfl]
 have hn0:cx.nb=0:=hnb
 simp only[As,initTm,List.map_cons,List.map_nil]
 apply AW.step
 ·simp
  intros;rfl
 apply AW.step
 ·simp
  intros;rfl
 refine AW.seq ?_
 apply AW.step
 ·simp
  intros;rfl
 refine AW.block ?_
 replace h:=bnE h;obtain⟨y2,g2,h⟩:=h
 refine AW.iterP g2 (mk:=fun gh ls q=>(⟨[(0,.l (.d false 1 (encIu16 a0))),(3,.l (.r 0 2 0 q.2.length)),(4,.l (.s (.int .i64 q.1)))],[some ⟨43,2,true,none,lvs (encSpan q.2)⟩],35,gh,ls⟩:St)) (N:=fun gh ls=>(xP 0 (cx:=cx) (fun q=>(⟨[(3,.l (.r 0 2 0 q.length))],[some ⟨43,2,true,none,lvs (encSpan q)⟩],35,gh,ls⟩:St)))) ?_ noX ?_ ?_
 ·refine W.nilRow 3 43 2 0 (by simp) rfl rfl ?_
  refine Weak.mixN [some 0] hn0 (by decide) ?_ ?_ rfl
  all_goals first|(simp[Ab,Ac,pickOb];done)|rfl
 ·clear h;intro y1 y3 h
  refine AW.seq ?_
  replace h:=ltE h;obtain⟨v4,e4,h⟩:=h
  replace h:=ltE h;obtain⟨v5,e5,h⟩:=h
  replace h:=ltE h;obtain⟨v6,e6,h⟩:=h
  apply AW.step
  ·simp[← e4,Ak e5,← e6]
   intros;rfl
  cases v6 with
  |true =>
   replace h:=iteT rfl h
   refine AW.cond_true (by simp) ?_
   refine AW.skip ?_
   try simp only[nm]
   refine AW.seq ?_
   refine AW.block ?_
   replace h:=bnE h;obtain⟨v7,e7,h⟩:=h
   replace h:=ltE h;obtain⟨v8,e8,h⟩:=h
   replace h:=bnE h;obtain⟨v9,e9,h⟩:=h
   apply AW.step
   ·simp[Aa e7,← e8,e9]
    intros;rfl
   replace h:=bnE h;obtain⟨v10,e10,h⟩:=h
   replace h:=ltE h;obtain⟨v11,e11,h⟩:=h
   replace h:=bnE h;obtain⟨v12,e12,h⟩:=h
   replace h:=ltE h;obtain⟨v13,e13,h⟩:=h
   replace h:=ltE h;obtain⟨v14,e14,h⟩:=h
   replace h:=chkE h;obtain⟨e15,h⟩:=h
   replace h:=ltE h;obtain⟨v16,e16,h⟩:=h
   apply AW.last
   ·simp[← e4,Aa e10,← e11,e12,← e13,← e14,← Ao,← e16,Ar e16]
    intros
    refine Bu ?_
    try simp[← e4,Aa e10,← e11,e12,← e13,← e14,← Ao,← e16,Ar e16]
    intros
    refine Bt (acc:=encSpan y1.2) (ys:=encSpan [(⟨v9,v14⟩:Span)]) (cap:=none) (k:=1) Dl Dk (by simp) (by simp[encSpan,lvs]) (Bh _) (by simp) (by simp) (by first|(simp;done)|simpa using (Aw e15).1) ?_
    try simp[← e4,Aa e10,← e11,e12,← e13,← e14,← Ao,← e16,Ar e16]
    intros;rfl
   try simp only[nm]
   replace h:=ltE h;obtain⟨v17,e17,h⟩:=h
   apply AW.last
   ·simp[← e17]
    intros;rfl
   obtain rfl:=oi h
   refine nP_i ?_
   refine Weak.mixN [some 2] hn0 (by decide) ?_ ?_ rfl
   all_goals first|(simp[Ab,Ac,pickOb,Bk];done)|rfl
  |false =>
   replace h:=iteF rfl h
   refine AW.cond_false (by simp) ?_
   refine AW.exit ?_
   try simp only[nm]
   obtain rfl:=oi h
   refine xP_i ?_
   refine Weak.mixN [some 0] hn0 (by decide) ?_ ?_ rfl
   all_goals first|(simp[Ab,Ac,pickOb];done)|rfl
 ·rintro e s hp
  obtain⟨rfl,hw⟩:=hp
  refine⟨_,hw,?_⟩
  try simp only[nm]
  apply AW.step
  ·simp
   intros;rfl
  replace h:=chkE h;obtain⟨e18,h⟩:=h
  refine AW.frzRow 0 (ty:=43) (cap:=none) (sz:=2) (es:=encSpan y2) (by simp) (by omega) (Bh _) (by first|exact (Aw e18).2|simpa using (Aw e18).2|simp) (by simp[Tm.frz,AV.frz,LV.frz];rfl) (by simp[Ob.frz,LV.frz];rfl) rfl ?_
  obtain rfl:=oi h
  refine AW.ret ?_
  refine Left.plain hnb (by simp[Try.f18,resV,resC,comp];rfl) rfl rfl ?_
  simp
theorem Gj:Enters Try.prog 18:=enters Try.func18 (by kernel_rfl) rfl
def C2 (n:Nat) (a0:List Int):Option (List Claim) :=
bn (iter n (fun (y1:List Claim×Int) =>
bn (lt (addI .i64 y1.2 3) fun v5 =>
lt (lenI a0) fun v6 =>
lt (ltI v5 v6) fun v7 =>
ite' v7 (lt (ltI y1.2 80) fun v8 =>
some (v8)) (some (false))) fun (y4:Bool) =>
lt (y4) fun v9 =>
ite' v9 (lt (addI .i64 y1.2 2) fun v10 =>
bn (seglh a0 y1.2 v10) fun v11 =>
bn (Dn n v11) fun v13 =>
bn (nth a0 v10) fun v14 =>
lt (cvI .i64 v14) fun v15 =>
bn (remI .i64 v15 4) fun v16 =>
lt (addI .i64 y1.2 3) fun v17 =>
bn (nth a0 v17) fun v18 =>
lt (cvI .i64 v18) fun v19 =>
bn (remI .i64 v19 6) fun v20 =>
lt (addI .i64 1 v20) fun v21 =>
bn (B9 n y1.1 v13 v16 v21) fun v22 =>
lt (addI .i64 y1.2 4) fun v23 =>
some (.inl (v22,v23))) (some (.inr y1.1))) ([],0)) fun (y2:List Claim) =>
some y2
theorem Gk {n:Nat} {a0:List Int} {r:List Claim} (h:C2 n a0=some r):Sound Try.prog 15 [.l (.d false 1 (encIu16 a0))] [] (.l (.d false 4 (encClaim r))) []:=by
 unfold C2 at h
 refine Sound.of_aw (fn:=Try.f15) (c:=_) Try.func15 rfl (by simp[Try.f15]) fun cx hG hnb=>?_
 rw[show Try.f15.ntmps=40 from rfl]
 have hn0:cx.nb=0:=hnb
 simp only[As,initTm,List.map_cons,List.map_nil]
 apply AW.step
 ·simp
  intros;rfl
 apply AW.step
 ·simp
  intros;rfl
 refine AW.seq ?_
 apply AW.step
 ·simp
  intros;rfl
 refine AW.block ?_
 replace h:=bnE h;obtain⟨y2,g2,h⟩:=h
 refine AW.iterP g2 (mk:=fun gh ls q=>(⟨[(0,.l (.d false 1 (encIu16 a0))),(3,.l (.d false 4 (encClaim q.1))),(4,.l (.s (.int .i64 q.2)))],[],40,gh,ls⟩:St)) (N:=fun gh ls=>(xP 0 (cx:=cx) (fun q=>(⟨[(3,.l (.d false 4 (encClaim q)))],[],40,gh,ls⟩:St)))) ?_ noX ?_ ?_
 ·refine W.nilD 3 4 (by simp) ?_
  refine Weak.mixN [] hn0 (by decide) ?_ ?_ rfl
  all_goals first|(simp[Ab,Ac,pickOb];done)|rfl
 ·clear h;intro y1 y3 h
  refine AW.seq ?_
  replace h:=bnE h;obtain⟨y4,g4,h⟩:=h
  refine AW.flow (p:=fun gh ls=>(nP (cx:=cx) (fun q=>(⟨[(0,.l (.d false 1 (encIu16 a0))),(3,.l (.d false 4 (encClaim y1.1))),(4,.l (.s (.int .i64 y1.2))),(13,.l (.s (.bool q)))],[],40,gh,ls⟩:St))) y4) ?_ ?_
  ·replace h:=g4;clear g4
   replace h:=ltE h;obtain⟨v5,e5,h⟩:=h
   replace h:=ltE h;obtain⟨v6,e6,h⟩:=h
   replace h:=ltE h;obtain⟨v7,e7,h⟩:=h
   cases v7 with
   |true =>
    replace h:=iteT rfl h
    replace h:=ltE h;obtain⟨v8,e8,h⟩:=h
    apply AW.last
    ·simp[← e5,Ak e6,← e7,← e8]
     intros;rfl
    obtain rfl:=oi h
    refine nP_i ?_
    refine Weak.mixN [] hn0 (by decide) ?_ ?_ rfl
    all_goals first|(simp[Ab,Ac,pickOb];done)|rfl
   |false =>
    replace h:=iteF rfl h
    apply AW.last
    ·simp[← e5,Ak e6,← e7]
     intros;rfl
    obtain rfl:=oi h
    refine nP_i ?_
    refine Weak.mixN [] hn0 (by decide) ?_ ?_ rfl
    all_goals first|(simp[Ab,Ac,pickOb];done)|rfl
  ·rintro e s hp
   obtain⟨rfl,hw⟩:=hp
   refine⟨_,hw,?_⟩
   try simp only[nm]
   replace h:=ltE h;obtain⟨v9,e9,h⟩:=h
   rw[← e9]
   cases v9 with
   |true =>
    replace h:=iteT rfl h
    refine AW.cond_true (by simp) ?_
    refine AW.skip ?_
    try simp only[nm]
    refine AW.seq ?_
    refine AW.block ?_
    replace h:=ltE h;obtain⟨v10,e10,h⟩:=h
    replace h:=bnE h;obtain⟨v11,e11,h⟩:=h
    have f12:=GZ e11
    try simp[← e10] at f12
    replace h:=bnE h;obtain⟨v13,e13,h⟩:=h
    replace h:=bnE h;obtain⟨v14,e14,h⟩:=h
    replace h:=ltE h;obtain⟨v15,e15,h⟩:=h
    replace h:=bnE h;obtain⟨v16,e16,h⟩:=h
    replace h:=ltE h;obtain⟨v17,e17,h⟩:=h
    replace h:=bnE h;obtain⟨v18,e18,h⟩:=h
    replace h:=ltE h;obtain⟨v19,e19,h⟩:=h
    replace h:=bnE h;obtain⟨v20,e20,h⟩:=h
    replace h:=ltE h;obtain⟨v21,e21,h⟩:=h
    replace h:=bnE h;obtain⟨v22,e22,h⟩:=h
    apply AW.drawnR (V:=[_,_,_,_,_,_,_,_,_,_,_,_,_,_,_,_,_,_,_,_,_,_]) mixed [⟨[0],[],[(3,none)],false⟩,⟨[0],[],[(0,none)],false⟩,⟨[0],[],[(4,none)],false⟩,⟨[0],[],[(4,none)],false⟩,⟨[0],[3],[(19,some 3)],false⟩,⟨[0],[1,2,3,4],[(17,some 1),(18,some 2),(20,some 4)],false⟩,⟨[0],[1,2,3,4,5],[(21,some 5)],false⟩,⟨[0],[],[(0,none)],false⟩,⟨[0],[],[(4,none)],false⟩,⟨[0],[8],[(24,some 8)],false⟩,⟨[0],[7,8,9],[(23,some 7),(25,some 9)],false⟩,⟨[0],[7,8,9,10],[(26,some 10)],false⟩,⟨[0],[7,8,9,10,11],[(27,some 11)],false⟩,⟨[0],[7,8,9,10,11,12],[(28,some 12)],false⟩,⟨[0],[],[(0,none)],false⟩,⟨[0],[],[(4,none)],false⟩,⟨[0],[15],[(31,some 15)],false⟩,⟨[0],[14,15,16],[(30,some 14),(32,some 16)],false⟩,⟨[0],[14,15,16,17],[(33,some 17)],false⟩,⟨[0],[14,15,16,17,18],[(34,some 18)],false⟩,⟨[0],[14,15,16,17,18,19],[(35,some 19)],false⟩,⟨[0],[14,15,16,17,18,19,20],[(36,some 20)],false⟩,⟨[],[0,1,2,3,4,5,6,7,8,9,10,11,12,13,14,15,16,17,18,19,20,21],[],false⟩,⟨[],[0,1,2,3,4,5,6,7,8,9,10,11,12,13,14,15,16,17,18,19,20,21,22],[],false⟩] 22 (by kernel_rfl) (by kernel_rfl)
    ·refine⟨?_,?_,?_,?_,?_,?_,?_,?_,?_,?_,?_,?_,?_,?_,?_,?_,?_,?_,?_,?_,?_,?_,trivial⟩
     iterate 6 (· intro tm hr;simp[AllL,rdV] at hr;simp[hr,← e10,f12,Aa e14,← e15,e16,← e17,Aa e18,← e19,e20,← e21];intros;first|exact KD.mk|exact KD.mkN)
     ·intro tm hr
      simp[AllL,rdV] at hr
      simp[hr,← e10,f12,Aa e14,← e15,e16,← e17,Aa e18,← e19,e20,← e21]
      intros
      refine Ah Gj (GP e13) rfl ⟨.same rfl,trivial⟩ ?_
      try simp[← e10,f12,Aa e14,← e15,e16,← e17,Aa e18,← e19,e20,← e21]
      intros;first|exact KD.mk|exact KD.mkN
     iterate 15 (· intro tm hr;simp[AllL,rdV] at hr;simp[hr,← e10,f12,Aa e14,← e15,e16,← e17,Aa e18,← e19,e20,← e21];intros;first|exact KD.mk|exact KD.mkN)
    ·rfl
    ·simp[tmD,putD,← e10,f12,Aa e14,← e15,e16,← e17,Aa e18,← e19,e20,← e21];rfl
    ·simp[← e10,f12,Aa e14,← e15,e16,← e17,Aa e18,← e19,e20,← e21]
     intros
     refine Ah Ca (Ct e22) rfl ⟨.same rfl,.same rfl,.same rfl,.same rfl,trivial⟩ ?_
     try simp[← e10,f12,Aa e14,← e15,e16,← e17,Aa e18,← e19,e20,← e21]
     intros;rfl
    try simp only[nm]
    replace h:=ltE h;obtain⟨v23,e23,h⟩:=h
    apply AW.last
    ·simp[← e23]
     intros;rfl
    obtain rfl:=oi h
    refine nP_i ?_
    refine Weak.mixN [] hn0 (by decide) ?_ ?_ rfl
    all_goals first|(simp[Ab,Ac,pickOb];done)|rfl
   |false =>
    replace h:=iteF rfl h
    refine AW.cond_false (by simp) ?_
    refine AW.exit ?_
    try simp only[nm]
    obtain rfl:=oi h
    refine xP_i ?_
    refine Weak.mixN [] hn0 (by decide) ?_ ?_ rfl
    all_goals first|(simp[Ab,Ac,pickOb];done)|rfl
 ·rintro e s hp
  obtain⟨rfl,hw⟩:=hp
  refine⟨_,hw,?_⟩
  try simp only[nm]
  apply AW.step
  ·simp
   intros;rfl
  obtain rfl:=oi h
  refine AW.ret ?_
  refine Left.plain hnb (by simp[Try.f15,resV,resC,comp];rfl) rfl rfl ?_
  simp
theorem FT:Enters Try.prog 15:=enters Try.func15 (by kernel_rfl) rfl
end Go.Proofs.Ythjenkmbbnjcnaa
namespace Go.Proofs.Ythjenkmbbnjcnaa
open Go Go.RowKit
theorem vrem {k:IntKind} {a b:Int} (h:0≤a) (hb:0<b):remI k a b=some (a % b):=by
 have:¬ b=0:=by omega
 simp only[remI,ne_eq,this,not_false_eq_true,if_true,Int.tmod_eq_emod_of_nonneg h]
theorem I8 (l:List Claim) (hl:l.length≤1000000):Bc big l l=some true:=by
 refine Rn.eqv ?_
 unfold Bc
 refine Rn.lt (Rn.lt (Rn.lt (Rn.ite (fun h=>?_) fun _=>?_)))
 ·simp[neI] at h
 refine Rn.bn (P:=fun y=>y=.inl ()) (Rn.iter _ (fun j a=>a=(j:Int)) l.length (by unfold big;omega) rfl fun j a hj hI=>?_) fun y hy=>?_
 ·subst hI
  refine Rn.lt (Rn.lt (Rn.ite (fun hd=>?_) fun hd=>Rn.some rfl))
  have hjl:j<l.length:=by
   have:=of_decide_eq_true (p:=((j:Int)<(l.length:Int))) hd
   omega
  refine Rn.bnE (AC hjl) (Rn.bnE (AC hjl) (Rn.lt (Rn.ite (fun h=>?_) fun _=>Rn.lt (Rn.some ⟨hjl,?_⟩))))
  ·simp[notB,andB,eqI] at h
  ·rw[Am (by omega) (by omega)]
   rfl
 ·subst hy
  exact Rn.some rfl
def rngH (l:List Int):Prop:=∀ x∈l,0≤x∧x≤65535
theorem GQ {ns:List Int} (hn:rngH ns) (hl:ns.length≤1000):Rn (Dn big ns) fun r=>2*r.length≤ns.length:=by
 unfold Dn
 refine Rn.bn (P:=fun r=>2*r.length≤ns.length) (Rn.iter _ (fun j a=>∃ r:List Span,a=(((2*j:Nat):Int),r)∧r.length=j∧2*j≤ns.length) ns.length (by unfold big;omega) ⟨[],rfl,rfl,by omega⟩ fun j a hj hI=>?_) fun r hr=>Rn.chk (by simp[room];omega) (Rn.some hr)
 obtain⟨r,rfl,r1,r2⟩:=hI
 refine Rn.lt (Rn.lt (Rn.lt ?_))
 have e1:addI .i64 ((2*j:Nat):Int) 1=((2*j+1:Nat):Int):=by rw[Am (by omega) (by omega)];omega
 have e2:addI .i64 ((2*j:Nat):Int) 2=((2*(j+1):Nat):Int):=by rw[Am (by omega) (by omega)];omega
 simp only
 rw[e1]
 refine Rn.ite (fun hd=>?_) fun hd=>Rn.some (by show 2*r.length≤ns.length;omega)
 have hjl:2*j+1<ns.length:=by
  have:=of_decide_eq_true (p:=(((2*j+1:Nat):Int)<(ns.length:Int))) hd
  omega
 have h0:=hn _ (List.getElem_mem (show 2*j<ns.length by omega))
 have h1:=hn _ (List.getElem_mem hjl)
 refine Rn.bnE (AC (show 2*j<ns.length by omega)) (Rn.lt ?_)
 rw[DV (by omega) (by omega)]
 refine Rn.bnE (vrem h0.1 (by omega)) (Rn.bnE (AC hjl) (Rn.lt ?_))
 rw[DV (by omega) (by omega)]
 refine Rn.bnE (vrem h1.1 (by omega)) (Rn.lt (Rn.lt (Rn.chk (by simp[room];omega) (Rn.lt (Rn.lt (Rn.some ⟨by omega,_,Prod.ext e2 rfl,?_,by omega⟩))))))
 rw[List.length_append,r1]
 rfl
theorem EP {f:Int→Option (Int×Int)} {p:Int→Prop} [DecidablePred p] {v:Int×Int} (hf:Tells f) (hp:∀ s,p s→0≤s∧s≤16383) (h1:0≤v.1) (h2:1≤v.2):Tells (giveF f p v):=by
 intro s w h
 unfold giveF at h
 split at h
 ·rename_i hps
  have:=Option.some.inj h
  subst this
  exact⟨hp s hps,h1,h2⟩
 ·exact hf s w h
def okV (x:Option (Int×Int)):Prop:=∀ v,x=some v→0≤v.1∧1≤v.2
theorem Tells.okV {f:Int→Option (Int×Int)} (h:Tells f) (s:Int):Go.Proofs.Ythjenkmbbnjcnaa.okV (f s):=fun v hv=>(h s v hv).2
def leV (x z:Option (Int×Int)):Prop:=epo x<epo z∨(epo x=epo z∧nod x≤nod z)
theorem leV.refl (x:Option (Int×Int)):leV x x:=.inr ⟨rfl,Int.le_refl _⟩
theorem leV.trans {x y z:Option (Int×Int)} (h1:leV x y) (h2:leV y z):leV x z:=by
 unfold leV at *
 omega
theorem Gl (x y:Option (Int×Int)):(joinV x y=x∨joinV x y=y)∧leV x (joinV x y)∧leV y (joinV x y):=by
 unfold joinV
 split
 ·rename_i h
  exact⟨.inl rfl,leV.refl _,by unfold leV;omega⟩
 ·rename_i h
  exact⟨.inr rfl,by unfold leV;omega,leV.refl _⟩
theorem Jw {x y:Option (Int×Int)} (hx:okV x) (hy:okV y):okV (joinV x y):=by
 rcases (Gl x y).1 with h|h <;> rw[h]
 ·exact hx
 ·exact hy
theorem Gm:Dj big=some true:=by kernel_rfl
theorem GoodC.ext {a b:List Claim} (ha:GoodC a) (hb:GoodC b) (h:∀ s,fC a s=fC b s):a=b:=Gv (f:=cP) KH (E5 ha.1 hb.1 h)
theorem Ig {a b:List Claim} (ha:GoodC a) (hb:GoodC b) (h:∀ s,fC a s=fC b s):Bc big a b=some true:=by
 have:=ha.ext hb h
 subst this
 exact I8 a (by have:=ha.len;omega)
end Go.Proofs.Ythjenkmbbnjcnaa
namespace Go.Proofs.Ythjenkmbbnjcnaa
open Go Go.RowKit
def keyS (x:Span):Int:=x.frm
def ksS (d:List Span) (i:Nat):Int:=keyS (d.getD i (⟨0,0⟩:Span))
theorem nthD {α:Type} {d:List α} {i:Nat} (h:i<d.length) (z:α):nth d (i:Int)=some (d.getD i z):=by
 rw[AC h,List.getD_eq_getElem?_getD,List.getElem?_eq_getElem h]
 rfl
theorem scanUp {c:Int→Option Bool} {p:Nat→Bool} {i0 hi:Nat} (hhi:hi≤1000000) (h:∀ i:Nat,i0≤i→i<hi→c (i:Int)=some (p i)) (hE:c (hi:Int)=some false) (h0:i0≤hi) :
  Rn (iter big (fun (y:Int)=>bn (c y) fun (b:Bool)=>lt b fun v=>ite' v (lt (addI .i64 y 1) fun z=>some (.inl z)) (some (.inr y))) (i0:Int)) fun r=>∃ k:Nat,r=(k:Int)∧i0≤k∧k≤hi∧(∀ i,i0≤i→i<k→p i=true)∧(k<hi→p k=false):=by
 refine Rn.iter _ (fun t y=>∃ k:Nat,y=(k:Int)∧k=i0+t∧k≤hi∧∀ i,i0≤i→i<k→p i=true) (hi - i0) (by unfold big;omega) ⟨i0,rfl,rfl,h0,fun i h1 h2=>by omega⟩ fun t y ht hI=>?_
 obtain⟨k,rfl,e,hk,hp⟩:=hI
 rcases Nat.lt_or_ge k hi with hlt|hge
 ·refine Rn.bnE (h k (by omega) hlt) (Rn.lt (Rn.ite (fun hc=>Rn.lt (Rn.some ⟨by omega,k+1,?_,by omega,by omega,fun i h1 h2=>?_⟩)) fun hc=>Rn.some ⟨k,rfl,by omega,hk,hp,fun _=>hc⟩))
  ·rw[Am (by omega) (by omega)]
   rfl
  ·rcases Nat.lt_or_ge i k with h3|h3
   ·exact hp i h1 h3
   ·rwa [show i=k by omega]
 ·have e2:k=hi:=by omega
  subst e2
  exact Rn.bnE hE (Rn.lt (Rn.ite (fun hc=>by simp at hc) fun _=>Rn.some ⟨k,rfl,by omega,hk,hp,fun h=>by omega⟩))
theorem scanDown {c:Int→Option Bool} {p:Nat→Bool} {j0 lo:Nat} (hj:j0≤1000000) (h:∀ i:Nat,lo+1≤i→i≤j0→c (i:Int)=some (p i)) (hE:c (lo:Int)=some false) (h0:lo≤j0) :
  Rn (iter big (fun (y:Int)=>bn (c y) fun (b:Bool)=>lt b fun v=>ite' v (lt (subI .i64 y 1) fun z=>some (.inl z)) (some (.inr y))) (j0:Int)) fun r=>∃ k:Nat,r=(k:Int)∧lo≤k∧k≤j0∧(∀ i,k<i→i≤j0→p i=true)∧(lo<k→p k=false):=by
 refine Rn.iter _ (fun t y=>∃ k:Nat,y=(k:Int)∧k+t=j0∧lo≤k∧∀ i,k<i→i≤j0→p i=true) (j0 - lo) (by unfold big;omega) ⟨j0,rfl,rfl,h0,fun i h1 h2=>by omega⟩ fun t y ht hI=>?_
 obtain⟨k,rfl,e,hk,hp⟩:=hI
 rcases Nat.lt_or_ge lo k with hlt|hge
 ·refine Rn.bnE (h k (by omega) (by omega)) (Rn.lt (Rn.ite (fun hc=>Rn.lt (Rn.some ⟨by omega,k - 1,?_,by omega,by omega,fun i h1 h2=>?_⟩)) fun hc=>Rn.some ⟨k,rfl,by omega,by omega,hp,fun _=>hc⟩))
  ·rw[Ap (by omega) (by omega)]
   omega
  ·rcases Nat.lt_or_ge k i with h3|h3
   ·exact hp i h3 h2
   ·rwa [show i=k by omega]
 ·have e2:k=lo:=by omega
  subst e2
  exact Rn.bnE hE (Rn.lt (Rn.ite (fun hc=>by simp at hc) fun _=>Rn.some ⟨k,rfl,by omega,by omega,hp,fun h=>by omega⟩))
def cvS (x y:Span):Int:=if x.frm<y.frm then -1 else if y.frm<x.frm then 1 else 0
theorem noNaN (a:Int):BB big a=some false:=by simp[BB,neI,Av]
theorem cmpES (x y:Span):AL big x y=some (cvS x y):=by
 have hc:B1 big x.frm y.frm=some (cvS x y):=by
  unfold B1 cvS
  rw[noNaN,noNaN]
  simp only[An,AT,Av]
  rcases Int.lt_trichotomy x.frm y.frm with h|h|h
  ·rw[lt_t h,AF,if_pos h]
  ·rw[lt_f (by omega),AT,gt_f (by omega),AT,if_neg (by omega),if_neg (by omega)]
  ·rw[lt_f (by omega),AT,gt_t h,AF,if_neg (by omega),if_pos h]
 unfold AL
 rw[hc]
 rfl
theorem cvLtS (x y:Span):ltI (cvS x y) 0=decide (keyS x<keyS y):=by
 unfold cvS keyS
 rcases Int.lt_trichotomy x.frm y.frm with h|h|h
 ·rw[if_pos h,decide_eq_true h];rfl
 ·rw[if_neg (by omega),if_neg (by omega),decide_eq_false (by omega)];rfl
 ·rw[if_neg (by omega),if_pos h,decide_eq_false (by omega)];rfl
theorem CD (p:Prop) [Decidable p]:notB (decide p)=decide (¬ p):=by
 by_cases h:p <;> simp[notB,h]
structure RP {α:Type} (a b:Nat) (l r:List α):Prop where
 perm:r.Perm l
 off:∀ p,(p<a∨b≤p)→r[p]?=l[p]?
section
variable {α:Type} {a b:Nat} {l r s:List α}
theorem RP.refl (a b:Nat) (l:List α):RP a b l l:=⟨List.Perm.refl _,fun _ _=>rfl⟩
theorem RP.trans (h1:RP a b l r) (h2:RP a b r s):RP a b l s:=⟨h2.perm.trans h1.perm,fun p hp=>(h2.off p hp).trans (h1.off p hp)⟩
theorem RP.mono {a' b':Nat} (h:RP a b l r) (h1:a'≤a) (h2:b≤b'):RP a' b' l r:=⟨h.perm,fun p hp=>h.off p (by omega)⟩
theorem RP.len (h:RP a b l r):r.length=l.length:=h.perm.length_eq
theorem RP.seg (h:RP a b l r) (hab:a≤b) (hb:b≤l.length) {i:Nat} (h1:a≤i) (h2:i<b):∃ j,a≤j∧j<b∧r[i]?=l[j]?:=by
 have hlen:=h.len
 have e1:r.take a=l.take a:=List.ext_getElem? fun i=>by
  rw[List.getElem?_take,List.getElem?_take]
  split
  ·exact h.off i (.inl (by assumption))
  ·rfl
 have e2:r.drop b=l.drop b:=List.ext_getElem? fun i=>by
  rw[List.getElem?_drop,List.getElem?_drop]
  exact h.off _ (.inr (by omega))
 have split3:∀ m:List α,m=m.take a++((m.drop a).take (b - a)++m.drop b):=fun m=>by
  have:m.drop b=(m.drop a).drop (b - a):=by rw[List.drop_drop];congr 1;omega
  rw[this,List.take_append_drop,List.take_append_drop]
 have hp:=h.perm
 rw[split3 r,split3 l,e1,e2] at hp
 have hp2:=(List.perm_append_right_iff _).1 ((List.perm_append_left_iff _).1 hp)
 have hi:i<r.length:=by omega
 have hm:r[i]∈(r.drop a).take (b - a):=by
  refine List.mem_take_iff_getElem.2 ⟨i - a,by simp;omega,?_⟩
  rw[List.getElem_drop]
  congr 1
  omega
 obtain⟨k,hk,he⟩:=List.mem_take_iff_getElem.1 (hp2.mem_iff.1 hm)
 rw[List.getElem_drop] at he
 simp at hk
 refine⟨a+k,by omega,by omega,?_⟩
 rw[List.getElem?_eq_getElem hi,← he,List.getElem?_eq_getElem]
end
def swS (d:List Span) (i j:Nat):List Span:=(d.set i (d.getD j (⟨0,0⟩:Span))).set j (d.getD i (⟨0,0⟩:Span))
theorem J7 (d:List Span) (i j:Nat):(swS d i j).length=d.length:=by simp[swS]
theorem BS {d e:List Span} {i j:Nat} (h:d[i]?=e[j]?):ksS d i=ksS e j:=by
 unfold ksS
 rw[List.getD_eq_getElem?_getD,List.getD_eq_getElem?_getD,h]
theorem Eh {d:List Span} {i j:Nat} (hi:i<d.length) (hj:j<d.length) (p:Nat):ksS (swS d i j) p=if p=j then ksS d i else if p=i then ksS d j else ksS d p:=by
 unfold ksS swS
 rw[List.getD_eq_getElem?_getD,List.getElem?_set]
 by_cases e:j=p
 ·subst e
  rw[if_pos rfl,if_pos (by simpa using hj),if_pos rfl]
  rfl
 ·rw[if_neg e,if_neg fun h=>e h.symm,List.getElem?_set]
  by_cases e2:i=p
  ·subst e2
   rw[if_pos rfl,if_pos hi,if_pos rfl]
   rfl
  ·rw[if_neg e2,if_neg fun h=>e2 h.symm,← List.getD_eq_getElem?_getD]
theorem RP.swS {d:List Span} {a b i j:Nat} (hi:i<d.length) (hj:j<d.length) (h1:a≤i∧i<b) (h2:a≤j∧j<b):RP a b d (Go.Proofs.Ythjenkmbbnjcnaa.swS d i j):=by
 have e1:d.getD i (⟨0,0⟩:Span)=d[i]:=by rw[List.getD_eq_getElem?_getD,List.getElem?_eq_getElem hi];rfl
 have e2:d.getD j (⟨0,0⟩:Span)=d[j]:=by rw[List.getD_eq_getElem?_getD,List.getElem?_eq_getElem hj];rfl
 unfold Go.Proofs.Ythjenkmbbnjcnaa.swS
 rw[e1,e2]
 refine⟨List.set_set_perm hi hj,fun p hp=>?_⟩
 rw[List.getElem?_set_ne (by omega),List.getElem?_set_ne (by omega)]
theorem swapS {d:List Span} {i j:Nat} {x y:Int} (hx:x=(i:Int)) (hy:y=(j:Int)) (hi:i<d.length) (hj:j<d.length) {β:Type} {k:List Span→Option β} {Q:β→Prop} (h:Rn (k (swS d i j)) Q) :
  Rn (bn (nth d y) fun u=>bn (nth d x) fun v=>lt (d.set x.toNat u) fun w=>bn (nth w y) fun _=>lt (w.set y.toNat v) k) Q:=by
 subst hx hy
 refine Rn.bnE (nthD hj (⟨0,0⟩:Span)) (Rn.bnE (nthD hi (⟨0,0⟩:Span)) (Rn.lt ?_))
 rw[Int.toNat_natCast,Int.toNat_natCast]
 exact Rn.bnE (nthD (by simpa using hj) (⟨0,0⟩:Span)) (Rn.lt h)
def SortedS (d:List Span) (a b:Nat):Prop:=∀ p q,a≤p→p<q→q<b→ksS d p≤ksS d q
structure InsS (l d:List Span) (a i j:Nat):Prop where
 rp:RP a (i+1) l d
 aj:a≤j
 ji:j≤i
 srt:∀ p q,a≤p→p<q→q≤i→p≠j→q≠j→ksS d p≤ksS d q
 low:∀ q,j<q→q≤i→ksS d j≤ksS d q
theorem InsS.step {l d:List Span} {a i j:Nat} (h:InsS l d a i (j+1)) (hi:i<l.length) (haj:a≤j) (hlt:ksS d (j+1)<ksS d j):InsS l (swS d (j+1) j) a i j:=by
 have hji:=h.ji
 have hl:=h.rp.len
 have hk:=Eh (d:=d) (i:=j+1) (j:=j) (by omega) (by omega)
 refine⟨h.rp.trans (RP.swS (by omega) (by omega) (by omega) (by omega)),haj,by omega,fun p q g1 g2 g3 g4 g5=>?_,fun q g1 g2=>?_⟩
 ·rw[hk,hk,if_neg g4,if_neg g5]
  rcases Decidable.em (p=j+1) with e|e
  ·subst e
   rw[if_pos rfl,if_neg (by omega)]
   exact h.srt j q haj (by omega) g3 (by omega) (by omega)
  ·rw[if_neg e]
   rcases Decidable.em (q=j+1) with e'|e'
   ·subst e'
    rw[if_pos rfl]
    exact h.srt p j g1 (by omega) (by omega) (by omega) (by omega)
   ·rw[if_neg e']
    exact h.srt p q g1 g2 g3 e e'
 ·rw[hk,hk,if_pos rfl,if_neg (by omega)]
  rcases Decidable.em (q=j+1) with e|e
  ·rw[if_pos e]
   omega
  ·rw[if_neg e]
   exact h.low q (by omega) g2
theorem InsS.done {l d:List Span} {a i j:Nat} (h:InsS l d a i j) (hc:a<j→ksS d (j - 1)≤ksS d j):RP a (i+1) l d∧SortedS d a (i+1):=by
 refine⟨h.rp,fun p q h1 h2 h3=>?_⟩
 rcases Decidable.em (p=j) with e|e
 ·subst e
  exact h.low q h2 (by omega)
 ·rcases Decidable.em (q=j) with e'|e'
  ·subst e'
   have g3:=hc (by omega)
   rcases Decidable.em (p=q - 1) with e2|e2
   ·subst e2
    exact g3
   ·have:=h.srt p (q - 1) h1 (by omega) (by have:=h.ji;omega) e (by omega)
    omega
  ·exact h.srt p q h1 h2 (by omega) e e'
theorem Ih {l:List Span} {a b:Nat} (hab:a≤b) (hb:b≤l.length) (hl:l.length≤1000000):Rn (AY big l (a:Int) (b:Int)) fun r=>RP a b l r∧SortedS r a b:=by
 unfold AY
 refine Rn.lt ?_
 have e0:addI .i64 (a:Int) 1=((a+1:Nat):Int):=by rw[Am (by omega) (by omega)];omega
 rw[e0]
 refine Rn.bn (P:=fun r=>RP a b l r∧SortedS r a b) (Rn.iter _ (fun k y=>∃ d:List Span,y=(((a+1+k:Nat):Int),d)∧RP a b l d∧SortedS d a (a+1+k)) (b - a - 1) (by unfold big;omega) ⟨l,rfl,RP.refl _ _ _,fun p q h1 h2 h3=>by omega⟩ fun k y hk hI=>?_) fun r hr=>Rn.some hr
 obtain⟨d,rfl,hp,hs⟩:=hI
 have hdl:=hp.len
 refine Rn.lt (Rn.ite (fun hd=>?_) fun hd=>?_)
 ·have hi:a+1+k<b:=by
   have:=of_decide_eq_true (p:=(((a+1+k:Nat):Int)<(b:Int))) hd
   omega
  refine Rn.bn (P:=fun r=>RP a (a+1+k+1) d r∧SortedS r a (a+1+k+1)) ?_ fun r hr=>Rn.lt (Rn.some ⟨by omega,r,?_,hp.trans (hr.1.mono (Nat.le_refl _) (by omega)),fun p q h1 h2 h3=>hr.2 p q h1 h2 (by omega)⟩)
  ·have h0:InsS d d a (a+1+k) (a+1+k):=⟨RP.refl _ _ _,by omega,Nat.le_refl _,fun p q h1 h2 h3 h4 h5=>hs p q h1 h2 (by omega),fun q h1 h2=>by omega⟩
   refine Rn.iter _ (fun t y=>∃ (j:Nat) (d':List Span),y=((j:Int),d')∧j+t=a+1+k∧InsS d d' a (a+1+k) j) (k+1) (by unfold big;omega) ⟨a+1+k,d,rfl,rfl,h0⟩ fun t y ht hI=>?_
   obtain⟨j,d',rfl,hj,h⟩:=hI
   have hdl':=h.rp.len
   rcases Decidable.em (a<j) with haj|haj
   ·obtain⟨j,rfl⟩:∃ i,j=i+1:=⟨j - 1,by omega⟩
    have hji:=h.ji
    have h2:j+1<d'.length:=by omega
    have h1:j<d'.length:=by omega
    have es:subI .i64 ((j+1:Nat):Int) 1=(j:Int):=by rw[Ap (by omega) (by omega)];omega
    refine Rn.bnE (v:=decide (ksS d' (j+1)<ksS d' j)) ?_ (Rn.lt (Rn.ite (fun hc=>?_) fun hc=>Rn.some (h.done fun _=>?_)))
    ·simp only[Av]
     rw[gt_t (show (a:Int)<((j+1:Nat):Int) by omega),AF,nthD h2 (⟨0,0⟩:Span)]
     simp only[An]
     rw[es,nthD h1 (⟨0,0⟩:Span)]
     simp only[An,cmpES,cvLtS]
     rfl
    ·have hlt:=of_decide_eq_true hc
     refine Rn.lt ?_
     simp only
     rw[es]
     exact swapS (x:=((j+1:Nat):Int)) rfl rfl h2 h1 (Rn.some ⟨by omega,j,_,rfl,by omega,h.step (by omega) (by omega) hlt⟩)
    ·have:=of_decide_eq_false hc
     show ksS d' j≤ksS d' (j+1)
     omega
   ·refine Rn.bnE (v:=false) ?_ (Rn.lt (Rn.ite (fun hc=>by simp at hc) fun _=>Rn.some (h.done fun hc=>absurd hc haj)))
    simp only[Av]
    rw[gt_f (by omega),AT]
  ·rw[Am (by first|omega|(simp only;omega)) (by first|omega|(simp only;omega))]
   rfl
 ·have hi:b≤a+1+k:=by
   have:=of_decide_eq_false (p:=(((a+1+k:Nat):Int)<(b:Int))) hd
   omega
  exact Rn.some ⟨hp,fun p q h1 h2 h3=>hs p q h1 h2 (by omega)⟩
theorem vquo {a b:Int} (h:0≤a) (h2:a<9223372036854775808) (hb:0<b):quoI .i64 a b=some (a / b):=by
 have hne:¬ b=0:=by omega
 have h3:a / b≤a:=Int.ediv_le_self b h
 have h4:0≤a / b:=Int.ediv_nonneg h (by omega)
 simp only[quoI,ne_eq,hne,not_false_eq_true,if_true,Int.tdiv_eq_ediv_of_nonneg h]
 rw[wrap64 (by omega) (by omega)]
theorem Ce {a b:Int} (h:-9223372036854775808≤a*b) (h2:a*b≤9223372036854775807):mulI .i64 a b=a*b:=wrap64 h h2
def sortMost:Nat:=49
theorem E8 {l:List Span} {i j:Nat} (hi:i<l.length) (hj:j<l.length) (s:Int):Rn (AD big l (i:Int) (j:Int) s) fun r=>((r.1=(i:Int)∧r.2.1=(j:Int))∨(r.1=(j:Int)∧r.2.1=(i:Int)))∧r.2.2.1=l:=by
 unfold AD
 refine Rn.bnE (nthD hj (⟨0,0⟩:Span)) (Rn.bnE (nthD hi (⟨0,0⟩:Span)) ?_)
 simp only[cmpES,cvLtS,An,Av]
 exact Rn.ite (fun _=>Rn.some ⟨.inr ⟨rfl,rfl⟩,rfl⟩) fun _=>Rn.some ⟨.inl ⟨rfl,rfl⟩,rfl⟩
theorem Ix {l:List Span} {i j k:Nat} (hi:i<l.length) (hj:j<l.length) (hk:k<l.length) (s:Int):Rn (AE big l (i:Int) (j:Int) (k:Int) s) fun r=>(∃ x:Nat,r.1=(x:Int)∧(x=i∨x=j∨x=k))∧r.2.1=l:=by
 unfold AE
 refine Rn.bn (E8 hi hj s) fun v hv=>?_
 obtain⟨v1,v2,v3,v4⟩:=v
 obtain⟨hv1,hv2⟩:=hv
 simp only at hv1 hv2
 subst v3
 refine Rn.chk (by simp[lenB]) ?_
 obtain⟨x,y,ex,ey,hxy⟩:∃ x y:Nat,v1=(x:Int)∧v2=(y:Int)∧((x=i∧y=j)∨(x=j∧y=i)):=by
  rcases hv1 with ⟨a,b⟩|⟨a,b⟩
  ·exact⟨i,j,a,b,.inl ⟨rfl,rfl⟩⟩
  ·exact⟨j,i,a,b,.inr ⟨rfl,rfl⟩⟩
 subst ex ey
 have hx:x<l.length:=by omega
 have hy:y<l.length:=by omega
 refine Rn.bn (E8 hy hk v4) fun w hw=>?_
 obtain⟨w1,w2,w3,w4⟩:=w
 obtain⟨hw1,hw2⟩:=hw
 simp only at hw1 hw2
 subst w3
 refine Rn.chk (by simp[lenB]) ?_
 obtain⟨z,t,ez,et,hzt⟩:∃ z t:Nat,w1=(z:Int)∧w2=(t:Int)∧((z=y∧t=k)∨(z=k∧t=y)):=by
  rcases hw1 with ⟨a,b⟩|⟨a,b⟩
  ·exact⟨y,k,a,b,.inl ⟨rfl,rfl⟩⟩
  ·exact⟨k,y,a,b,.inr ⟨rfl,rfl⟩⟩
 subst ez et
 have hz:z<l.length:=by omega
 refine Rn.bn (E8 hx hz w4) fun u hu=>?_
 obtain⟨u1,u2,u3,u4⟩:=u
 obtain⟨hu1,hu2⟩:=hu
 simp only at hu1 hu2
 subst u3
 refine Rn.chk (by simp[lenB]) (Rn.some ⟨?_,rfl⟩)
 simp only
 rcases hu1 with ⟨a,b⟩|⟨a,b⟩
 ·exact⟨z,b,by omega⟩
 ·exact⟨x,b,by omega⟩
theorem Iy {l:List Span} {a b:Nat} (hab:a+12<b) (hb:b≤l.length) (hl:l.length≤sortMost):Rn (AH big l (a:Int) (b:Int)) fun r=>(∃ k:Nat,r.1=(k:Int)∧a≤k∧k<b)∧r.2.2=l:=by
 unfold sortMost at hl
 unfold AH
 refine Rn.lt ?_
 rw[Ap (by omega) (by omega)]
 refine Rn.bnE (vquo (by omega) (by omega) (by omega)) (Rn.lt ?_)
 obtain⟨q,hq⟩:∃ q:Nat,((b:Int) - (a:Int)) / 4=(q:Int):=⟨((b:Int) - (a:Int)).toNat / 4,by omega⟩
 rw[hq]
 refine Rn.lt (Rn.lt (Rn.lt (Rn.lt (Rn.lt ?_))))
 rw[Ce (by omega) (by omega),Ce (show -9223372036854775808≤(q:Int)*2 by omega) (by omega),Ce (show -9223372036854775808≤(q:Int)*3 by omega) (by omega),Am (by omega) (by omega),Am (show -9223372036854775808≤(a:Int)+(q:Int)*2 by omega) (by omega),Am (show -9223372036854775808≤(a:Int)+(q:Int)*3 by omega) (by omega)]
 refine Rn.bn (P:=fun y=>(∃ k:Nat,y.1=(k:Int)∧a≤k∧k<b)∧y.2.1=l) ?_ fun y hy=>?_
 ·refine Rn.lt (Rn.ite (fun _=>?_) fun h=>?_)
  ·refine Rn.bnE (v:=((a:Int)+(q:Int)*1,(a:Int)+(q:Int)*2,(a:Int)+(q:Int)*3,l,0)) ?_ ?_
   ·simp only[Av]
    rw[ge_f (by omega),AT]
   ·simp only
    rw[show (a:Int)+(q:Int)*1=((a+q:Nat):Int) by omega,show (a:Int)+(q:Int)*2=((a+q*2:Nat):Int) by omega,show (a:Int)+(q:Int)*3=((a+q*3:Nat):Int) by omega]
    refine Rn.bn (Ix (by omega) (by omega) (by omega) 0) fun v hv=>Rn.chk (by rw[hv.2];simp[lenB]) (Rn.some ⟨?_,hv.2⟩)
    obtain⟨x,e,hx⟩:=hv.1
    exact⟨x,e,by omega⟩
  ·have:=of_decide_eq_false (p:=(8:Int)≤(b:Int) - (a:Int)) h
   omega
 ·obtain⟨⟨k,e,hk⟩,hy2⟩:=hy
  obtain⟨y1,y2,y3⟩:=y
  simp only at e hy2
  subst y2
  exact Rn.lt (Rn.ite (fun _=>Rn.some ⟨⟨k,e,hk⟩,rfl⟩) fun _=>Rn.lt (Rn.ite (fun _=>Rn.some ⟨⟨k,e,hk⟩,rfl⟩) fun _=>Rn.some ⟨⟨k,e,hk⟩,rfl⟩))
theorem HS {l:List Span} {a b:Nat} (hab:a<b) (hb:b≤l.length) (hl:l.length≤sortMost):Rn (A0 big l (a:Int) (b:Int)) fun r=>RP a b l r:=by
 unfold sortMost at hl
 unfold A0
 refine Rn.lt ?_
 rw[Ap (by omega) (by omega),show (b:Int) - 1=((b - 1:Nat):Int) by omega]
 refine Rn.bn (P:=fun r=>RP a b l r) (Rn.iter _ (fun t y=>∃ (i j:Nat) (d:List Span),y=((i:Int),(j:Int),d)∧i=a+t∧j<b∧i≤j+1∧RP a b l d) (b - a) (by unfold big;omega) ⟨a,b - 1,l,rfl,rfl,by omega,by omega,RP.refl _ _ _⟩ fun t y ht hI=>?_) fun r hr=>Rn.some hr
 obtain⟨i,j,d,rfl,h1,h2,h3,h4⟩:=hI
 have hd:=h4.len
 refine Rn.lt (Rn.ite (fun hc=>?_) fun hc=>Rn.some h4)
 have hij:i<j:=by
  have:=of_decide_eq_true (p:=((i:Int)<(j:Int))) hc
  omega
 refine swapS rfl rfl (show i<d.length by omega) (show j<d.length by omega) (Rn.lt (Rn.lt (Rn.some ⟨by omega,i+1,j - 1,swS d i j,?_,by omega,by omega,by omega,h4.trans (RP.swS (by omega) (by omega) (by omega) (by omega))⟩)))
 show (addI .i64 (i:Int) 1,subI .i64 (j:Int) 1,swS d i j)=_
 rw[Am (by omega) (by omega),Ap (by omega) (by omega),show ((j - 1:Nat):Int)=(j:Int) - 1 by omega]
 rfl
theorem HT {l:List Span} {a b:Nat} (hab:a<b) (hb:b≤l.length) (hl:l.length≤sortMost):Rn (Az big l (a:Int) (b:Int)) fun r=>r.2=l∧(r.1=true→SortedS l a b):=by
 unfold sortMost at hl
 unfold Az
 refine Rn.lt ?_
 rw[Am (by omega) (by omega),show (a:Int)+1=((a+1:Nat):Int) by omega]
 refine Rn.bn (P:=fun y=>y=.inr (false,l)∨(y=.inr (true,l)∧SortedS l a b)) (Rn.iter _ (fun t y=>t=0∧y=(((a+1:Nat):Int),0,l)) 0 (by unfold big;omega) ⟨rfl,rfl⟩ fun t y ht hI=>?_) fun y hy=>?_
 ·obtain⟨rfl,rfl⟩:=hI
  refine Rn.lt (Rn.ite (fun _=>?_) fun h=>absurd (show ltI 0 5=false from h) (by decide))
  refine Rn.bn (P:=fun y=>y=.inr (false,l)∨(y=.inr (true,l)∧SortedS l a b)) ?_ fun y hy=>?_
  ·refine Rn.bn (scanUp (p:=fun i=>decide (¬ ksS l i<ksS l (i - 1))) (i0:=a+1) (hi:=b) (by omega) (fun i h1 h2=>?_) ?_ (by omega)) fun r hr=>?_
   ·simp only[Av]
    rw[lt_t (by omega),AF,nthD (show i<l.length by omega) (⟨0,0⟩:Span)]
    simp only[An]
    rw[Ap (by omega) (by omega),show (i:Int) - 1=((i - 1:Nat):Int) by omega,nthD (show i - 1<l.length by omega) (⟨0,0⟩:Span)]
    simp only[An,cmpES,cvLtS,CD]
    rfl
   ·simp only[Av]
    rw[lt_f (by omega),AT]
   ·obtain⟨k,rfl,k1,k2,k3,k4⟩:=hr
    refine Rn.lt (Rn.ite (fun h=>Rn.some (.inr ⟨rfl,?_⟩)) fun h=>Rn.lt (Rn.lt ?_))
    ·have hk:k=b:=by
      have:=of_decide_eq_true (p:=((k:Int)=(b:Int))) h
      omega
     subst hk
     have hadj:∀ i,a+1≤i→i<k→ksS l (i - 1)≤ksS l i:=fun i g1 g2=>by
      have:=of_decide_eq_true (k3 i g1 g2)
      omega
     intro p q h1 h2 h3
     obtain⟨n,rfl⟩:∃ n,q=p+1+n:=⟨q - (p+1),by omega⟩
     clear h2
     induction n with
     |zero=>exact hadj (p+1) (by omega) h3
     |succ n ih =>
      have g1:=ih (by omega)
      have g2:=hadj (p+1+n+1) (by omega) h3
      rw[show p+1+n+1 - 1=p+1+n by omega] at g2
      exact Int.le_trans g1 g2
    ·rw[Ap (by omega) (by omega),lt_t (by omega)]
     exact Rn.ite (fun _=>Rn.some (.inl rfl)) fun h=>by simp at h
  ·rcases hy with rfl|⟨rfl,hs⟩
   ·rw[B7]
    exact Rn.some (.inl rfl)
   ·rw[B7]
    exact Rn.some (.inr ⟨rfl,hs⟩)
 ·rcases hy with rfl|⟨rfl,hs⟩
  ·rw[B7]
   exact Rn.some ⟨rfl,fun h=>by simp at h⟩
  ·rw[B7]
   exact Rn.some ⟨rfl,fun _=>hs⟩
structure PES (l d:List Span) (a b:Nat) (K:Int) (i j:Nat):Prop where
 rp:RP a b l d
 pv:ksS d a=K
 lo:∀ p,a<p→p<i→ksS d p≤K
 hi:∀ p,j<p→p<b→K<ksS d p
 ai:a+1≤i
 ij:i≤j+1
 jb:j<b
theorem Iz {l:List Span} {a b k:Nat} (hk1:a≤k) (hk2:k<b) (hb:b≤l.length) (hl:l.length≤sortMost):Rn (AU big l (a:Int) (b:Int) (k:Int)) fun r=>∃ m:Nat,r.1=(m:Int)∧a<m∧m≤b∧RP a b l r.2∧(∀ p,a≤p→p<m→ksS r.2 p≤ksS l k)∧(∀ p,m≤p→p<b→ksS l k<ksS r.2 p):=by
 unfold sortMost at hl
 unfold AU
 refine swapS rfl rfl (show a<l.length by omega) (show k<l.length by omega) (Rn.lt (Rn.lt ?_))
 have hs:=RP.swS (d:=l) (a:=a) (b:=b) (i:=a) (j:=k) (by omega) (by omega) (by omega) (by omega)
 have hpv:ksS (swS l a k) a=ksS l k:=by
  rw[Eh (by omega) (by omega)]
  split
  ·rename_i h
   rw[← h]
  ·rw[if_pos rfl]
 generalize swS l a k=d0 at hs hpv
 rw[Am (by omega) (by omega),Ap (by omega) (by omega),show (a:Int)+1=((a+1:Nat):Int) by omega,show (b:Int) - 1=((b - 1:Nat):Int) by omega]
 refine Rn.bn (P:=fun y=>∃ m:Nat,y.1=(m:Int)∧a<m∧m≤b∧RP a b l y.2∧(∀ p,a≤p→p<m→ksS y.2 p≤ksS l k)∧(∀ p,m≤p→p<b→ksS l k<ksS y.2 p)) (Rn.iter _ (fun t y=>∃ (i j:Nat) (d:List Span),y=((i:Int),(j:Int),d)∧a+1+t≤i∧PES l d a b (ksS l k) i j) (b - a) (by unfold big;omega) ⟨a+1,b - 1,d0,rfl,by omega,⟨hs,hpv,fun p h1 h2=>by omega,fun p h1 h2=>by omega,by omega,by omega,by omega⟩⟩ fun t y ht hI=>?_) fun y hy=>Rn.some hy
 obtain⟨i,j,d,rfl,h1,h⟩:=hI
 have hd:=h.rp.len
 have hai:=h.ai
 have hij:=h.ij
 have hjb:=h.jb
 generalize ksS l k=K at h
 refine Rn.bn (scanUp (p:=fun p=>decide (¬ K<ksS d p)) (i0:=i) (hi:=j+1) (by omega) (fun p g1 g2=>?_) ?_ (by omega)) fun r hr=>?_
 ·simp only[Av]
  rw[le_t (by omega),AF,nthD (show a<d.length by omega) (⟨0,0⟩:Span)]
  simp only[An]
  rw[nthD (show p<d.length by omega) (⟨0,0⟩:Span)]
  simp only[An,cmpES,cvLtS,CD]
  rw[← h.pv]
  rfl
 ·simp only[Av]
  rw[le_f (by omega),AT]
 obtain⟨i',rfl,i1,i2,i3,i4⟩:=hr
 refine Rn.bn (scanDown (p:=fun p=>decide (K<ksS d p)) (j0:=j) (lo:=i' - 1) (by omega) (fun p g1 g2=>?_) ?_ (by omega)) fun r hr=>?_
 ·simp only[Av]
  rw[le_t (by omega),AF,nthD (show a<d.length by omega) (⟨0,0⟩:Span)]
  simp only[An]
  rw[nthD (show p<d.length by omega) (⟨0,0⟩:Span)]
  simp only[An,cmpES,cvLtS]
  rw[← h.pv]
  rfl
 ·simp only[Av]
  rw[le_f (by omega),AT]
 obtain⟨j',rfl,j1,j2,j3,j4⟩:=hr
 have hlo:∀ p,a<p→p<i'→ksS d p≤K:=fun p g1 g2=>by
  rcases Nat.lt_or_ge p i with g3|g3
  ·exact h.lo p g1 g3
  ·have:=of_decide_eq_true (i3 p g3 g2)
   omega
 have hhi:∀ p,j'<p→p<b→K<ksS d p:=fun p g1 g2=>by
  rcases Nat.lt_or_ge j p with g3|g3
  ·exact h.hi p g3 g2
  ·exact of_decide_eq_true (j3 p g1 g3)
 refine Rn.lt (Rn.ite (fun hc=>Rn.some ⟨i',rfl,by omega,by omega,h.rp,fun p g1 g2=>?_,fun p g1 g2=>hhi p ?_ g2⟩) fun hc=>?_)
 ·rcases Nat.eq_or_lt_of_le g1 with g3|g3
  ·subst g3
   show ksS d a≤K
   rw[h.pv]
   exact Int.le_refl _
  ·exact hlo p g3 g2
 ·have:=of_decide_eq_true (p:=((j':Int)<(i':Int))) hc
  omega
 ·have hle:i'≤j':=by
   have:=of_decide_eq_false (p:=((j':Int)<(i':Int))) hc
   omega
  have e1:=of_decide_eq_false (i4 (by omega))
  have e2:=of_decide_eq_false (j4 (by omega))
  have hne:i'≠j':=fun e=>by subst e;omega
  refine swapS rfl rfl (show i'<d.length by omega) (show j'<d.length by omega) (Rn.lt (Rn.lt (Rn.some ⟨by omega,i'+1,j' - 1,swS d i' j',?_,by omega,?_⟩)))
  ·rw[Am (by omega) (by omega),Ap (by omega) (by omega),show ((j' - 1:Nat):Int)=(j':Int) - 1 by omega]
   rfl
  ·have hk:=Eh (d:=d) (i:=i') (j:=j') (by omega) (by omega)
   refine⟨h.rp.trans (RP.swS (by omega) (by omega) (by omega) (by omega)),?_,fun p g1 g2=>?_,fun p g1 g2=>?_,by omega,by omega,by omega⟩
   ·rw[hk,if_neg (by omega),if_neg (by omega)]
    exact h.pv
   ·rw[hk,if_neg (by omega)]
    split
    ·omega
    ·exact hlo p g1 (by omega)
   ·rw[hk]
    split
    ·omega
    ·rw[if_neg (by omega)]
     exact hhi p (by omega) g2
structure PTS (l d:List Span) (a b:Nat) (K:Int) (i j:Nat):Prop where
 rp:RP a b l d
 pv:ksS d a=K
 lo:∀ p,a<p→p<i→ksS d p<K
 hi:∀ p,j<p→p<b→K≤ksS d p
 ai:a+1≤i
 ij:i≤j+1
 jb:j<b
structure PSS (d:List Span) (a b:Nat) (K:Int) (i' j':Nat):Prop where
 lo:∀ p,a<p→p<i'→ksS d p<K
 hi:∀ p,j'<p→p<b→K≤ksS d p
 ge:i'≤j'+1
 both:i'≤j'→K≤ksS d i'∧ksS d j'<K
theorem PTS.scan {l d:List Span} {a b i j i' j':Nat} {K:Int} (h:PTS l d a b K i j) (i1:i≤i') (i3:∀ p,i≤p→p<i'→decide (ksS d p<K)=true) (i4:i'<j+1→decide (ksS d i'<K)=false)
  (j1:i' - 1≤j') (j2:j'≤j) (j3:∀ p,j'<p→p≤j→decide (¬ ksS d p<K)=true) (j4:i' - 1<j'→decide (¬ ksS d j'<K)=false):PSS d a b K i' j':=by
 have hai:=h.ai
 refine⟨fun p g1 g2=>?_,fun p g1 g2=>?_,by omega,fun hle=>⟨?_,?_⟩⟩
 ·rcases Nat.lt_or_ge p i with g3|g3
  ·exact h.lo p g1 g3
  ·exact of_decide_eq_true (i3 p g3 g2)
 ·rcases Nat.lt_or_ge j p with g3|g3
  ·exact h.hi p g3 g2
  ·have:=of_decide_eq_true (j3 p g1 g3)
   omega
 ·have:=of_decide_eq_false (i4 (by omega))
  omega
 ·have:=of_decide_eq_false (j4 (by omega))
  omega
theorem PSS.last {l d:List Span} {a b i' j':Nat} {K:Int} (hr:RP a b l d) (pv:ksS d a=K) (h:PSS d a b K i' j') (hb:b≤l.length) (h1:a≤j') (h2:j'<b) (h3:j'<i') :
  RP a b l (swS d j' a)∧ksS (swS d j' a) j'=K∧(∀ p,a≤p→p<j'→ksS (swS d j' a) p<K)∧∀ p,j'<p→p<b→K≤ksS (swS d j' a) p:=by
 have hd:=hr.len
 have hge:=h.ge
 have hk:=Eh (d:=d) (i:=j') (j:=a) (by omega) (by omega)
 refine⟨hr.trans (RP.swS (by omega) (by omega) (by omega) (by omega)),?_,fun p g1 g2=>?_,fun p g1 g2=>?_⟩
 ·rw[hk]
  split
  ·rename_i e
   rw[e]
   exact pv
  ·rw[if_pos rfl]
   exact pv
 ·rw[hk]
  split
  ·exact h.lo j' (by omega) (by omega)
  ·rw[if_neg (by omega)]
   exact h.lo p (by omega) (by omega)
 ·rw[hk,if_neg (by omega),if_neg (by omega)]
  exact h.hi p g1 g2
theorem PSS.more {l d:List Span} {a b i' j':Nat} {K:Int} (hr:RP a b l d) (pv:ksS d a=K) (h:PSS d a b K i' j') (hb:b≤l.length) (h1:a+1≤i') (h2:j'<b) (h3:i'≤j') :
  i'≠j'∧PTS l (swS d i' j') a b K (i'+1) (j' - 1):=by
 have hd:=hr.len
 obtain⟨e1,e2⟩:=h.both h3
 have hne:i'≠j':=fun e=>by subst e;omega
 have hk:=Eh (d:=d) (i:=i') (j:=j') (by omega) (by omega)
 refine⟨hne,hr.trans (RP.swS (by omega) (by omega) (by omega) (by omega)),?_,fun p g1 g2=>?_,fun p g1 g2=>?_,by omega,by omega,by omega⟩
 ·rw[hk,if_neg (by omega),if_neg (by omega)]
  exact pv
 ·rw[hk,if_neg (by omega)]
  split
  ·exact e2
  ·exact h.lo p g1 (by omega)
 ·rw[hk]
  split
  ·exact e1
  ·rw[if_neg (by omega)]
   exact h.hi p (by omega) g2
theorem Jx {l:List Span} {a b k:Nat} (hk1:a≤k) (hk2:k<b) (hb:b≤l.length) (hl:l.length≤sortMost):Rn (A6 big l (a:Int) (b:Int) (k:Int)) fun r=>∃ m:Nat,r.1=(m:Int)∧a≤m∧m<b∧RP a b l r.2.2∧ksS r.2.2 m=ksS l k∧(∀ p,a≤p→p<m→ksS r.2.2 p<ksS l k)∧(∀ p,m<p→p<b→ksS l k≤ksS r.2.2 p):=by
 unfold sortMost at hl
 unfold A6
 refine swapS rfl rfl (show a<l.length by omega) (show k<l.length by omega) (Rn.lt (Rn.lt ?_))
 have hs:=RP.swS (d:=l) (a:=a) (b:=b) (i:=a) (j:=k) (by omega) (by omega) (by omega) (by omega)
 have hpv:ksS (swS l a k) a=ksS l k:=by
  rw[Eh (by omega) (by omega)]
  split
  ·rename_i h
   rw[← h]
  ·rw[if_pos rfl]
 generalize swS l a k=d at hs hpv
 generalize ksS l k=K at hpv
 rw[Am (by omega) (by omega),Ap (by omega) (by omega),show (a:Int)+1=((a+1:Nat):Int) by omega,show (b:Int) - 1=((b - 1:Nat):Int) by omega]
 have h0:PTS l d a b K (a+1) (b - 1):=⟨hs,hpv,fun p h1 h2=>by omega,fun p h1 h2=>by omega,by omega,by omega,by omega⟩
 have hd:=hs.len
 refine Rn.bn (scanUp (p:=fun p=>decide (ksS d p<K)) (i0:=a+1) (hi:=b - 1+1) (by omega) (fun p g1 g2=>?_) ?_ (by omega)) fun r hr=>?_
 ·simp only[Av]
  rw[le_t (by omega),AF,nthD (show p<d.length by omega) (⟨0,0⟩:Span)]
  simp only[An]
  rw[nthD (show a<d.length by omega) (⟨0,0⟩:Span)]
  simp only[An,cmpES,cvLtS]
  rw[← hpv]
  rfl
 ·simp only[Av]
  rw[le_f (by omega),AT]
 obtain⟨i',rfl,i1,i2,i3,i4⟩:=hr
 refine Rn.bn (scanDown (p:=fun p=>decide (¬ ksS d p<K)) (j0:=b - 1) (lo:=i' - 1) (by omega) (fun p g1 g2=>?_) ?_ (by omega)) fun r hr=>?_
 ·simp only[Av]
  rw[le_t (by omega),AF,nthD (show p<d.length by omega) (⟨0,0⟩:Span)]
  simp only[An]
  rw[nthD (show a<d.length by omega) (⟨0,0⟩:Span)]
  simp only[An,cmpES,cvLtS,CD]
  rw[← hpv]
  rfl
 ·simp only[Av]
  rw[le_f (by omega),AT]
 obtain⟨j',rfl,j1,j2,j3,j4⟩:=hr
 have ps:=h0.scan i1 i3 i4 j1 j2 j3 j4
 refine Rn.lt (Rn.ite (fun hc=>?_) fun hc=>?_)
 ·have hji:j'<i':=by
   have:=of_decide_eq_true (p:=((j':Int)<(i':Int))) hc
   omega
  obtain⟨q1,q2,q3,q4⟩:=ps.last hs hpv hb (by omega) (by omega) hji
  exact swapS rfl rfl (show j'<d.length by omega) (show a<d.length by omega) (Rn.some ⟨j',rfl,by omega,by omega,q1,q2,q3,q4⟩)
 have hij:i'≤j':=by
  have:=of_decide_eq_false (p:=((j':Int)<(i':Int))) hc
  omega
 obtain⟨hne,h1⟩:=ps.more hs hpv hb (by omega) (by omega) hij
 refine swapS rfl rfl (show i'<d.length by omega) (show j'<d.length by omega) (Rn.lt (Rn.lt ?_))
 rw[Am (by omega) (by omega),Ap (by omega) (by omega),show (i':Int)+1=((i'+1:Nat):Int) by omega,show (j':Int) - 1=((j' - 1:Nat):Int) by omega]
 generalize swS d i' j'=d1 at h1
 refine Rn.bn (P:=fun y=>∃ (m i:Nat) (d:List Span),y=((m:Int),d)∧RP a b l d∧ksS d a=K∧PSS d a b K i m∧a≤m∧m<b∧m<i) (Rn.iter _ (fun t y=>∃ (i j:Nat) (d:List Span),y=((i:Int),(j:Int),d)∧a+1+t≤i∧PTS l d a b K i j) (b - a) (by unfold big;omega) ⟨i'+1,j' - 1,d1,rfl,by omega,h1⟩ fun t y ht hI=>?_) fun y hy=>?_
 ·clear i3 i4 j3 j4 ps h0 hpv hs
  obtain⟨i,j,d,rfl,ht1,h⟩:=hI
  have hd:=h.rp.len
  have hai:=h.ai
  have hij:=h.ij
  have hjb:=h.jb
  refine Rn.bn (scanUp (p:=fun p=>decide (ksS d p<K)) (i0:=i) (hi:=j+1) (by omega) (fun p g1 g2=>?_) ?_ (by omega)) fun r hr=>?_
  ·simp only[Av]
   rw[le_t (by omega),AF,nthD (show p<d.length by omega) (⟨0,0⟩:Span)]
   simp only[An]
   rw[nthD (show a<d.length by omega) (⟨0,0⟩:Span)]
   simp only[An,cmpES,cvLtS]
   rw[← h.pv]
   rfl
  ·simp only[Av]
   rw[le_f (by omega),AT]
  obtain⟨i',rfl,i1,i2,i3,i4⟩:=hr
  refine Rn.bn (scanDown (p:=fun p=>decide (¬ ksS d p<K)) (j0:=j) (lo:=i' - 1) (by omega) (fun p g1 g2=>?_) ?_ (by omega)) fun r hr=>?_
  ·simp only[Av]
   rw[le_t (by omega),AF,nthD (show p<d.length by omega) (⟨0,0⟩:Span)]
   simp only[An]
   rw[nthD (show a<d.length by omega) (⟨0,0⟩:Span)]
   simp only[An,cmpES,cvLtS,CD]
   rw[← h.pv]
   rfl
  ·simp only[Av]
   rw[le_f (by omega),AT]
  obtain⟨j',rfl,j1,j2,j3,j4⟩:=hr
  have ps:=h.scan i1 i3 i4 j1 j2 j3 j4
  refine Rn.lt (Rn.ite (fun hc=>Rn.some ⟨j',i',d,rfl,h.rp,h.pv,ps,by omega,by omega,?_⟩) fun hc=>?_)
  ·have:=of_decide_eq_true (p:=((j':Int)<(i':Int))) hc
   omega
  ·have hij:i'≤j':=by
    have:=of_decide_eq_false (p:=((j':Int)<(i':Int))) hc
    omega
   obtain⟨hne,h1⟩:=ps.more h.rp h.pv hb (by omega) (by omega) hij
   refine swapS rfl rfl (show i'<d.length by omega) (show j'<d.length by omega) (Rn.lt (Rn.lt (Rn.some ⟨by omega,i'+1,j' - 1,swS d i' j',?_,by omega,h1⟩)))
   rw[Am (by omega) (by omega),Ap (by omega) (by omega),show ((j' - 1:Nat):Int)=(j':Int) - 1 by omega]
   rfl
 ·obtain⟨m,i,e,rfl,y1,y2,y3,y4,y5,y6⟩:=hy
  have he:=y1.len
  obtain⟨q1,q2,q3,q4⟩:=y3.last y1 y2 hb y4 y5 y6
  exact swapS rfl rfl (show m<e.length by omega) (show a<e.length by omega) (Rn.some ⟨m,rfl,y4,y5,q1,q2,q3,q4⟩)
def HeapS (d:List Span) (f lo hi:Nat):Prop:=∀ i c,lo≤i→(c=2*i+1∨c=2*i+2)→c<hi→ksS d (f+c)≤ksS d (f+i)
theorem HeapS.max {d:List Span} {f hi:Nat} (h:HeapS d f 0 hi):∀ i,i<hi→ksS d (f+i)≤ksS d f:=by
 intro i
 induction i using Nat.strongRecOn with
 |ind i ih =>
  intro hi'
  rcases Nat.eq_zero_or_pos i with rfl|hp
  ·exact Int.le_refl _
  ·have h1:=h ((i - 1) / 2) i (Nat.zero_le _) (by omega) hi'
   have h2:=ih ((i - 1) / 2) (by omega) (by omega)
   omega
structure SDS (l d:List Span) (f lo hi r:Nat):Prop where
 rp:RP f (f+hi) l d
 lr:lo≤r
 oth:∀ i c,lo≤i→i≠r→(c=2*i+1∨c=2*i+2)→c<hi→ksS d (f+c)≤ksS d (f+i)
 up:∀ p c,lo≤p→(r=2*p+1∨r=2*p+2)→(c=2*r+1∨c=2*r+2)→c<hi→ksS d (f+c)≤ksS d (f+p)
theorem SDS.stop {l d:List Span} {f lo hi r:Nat} (h:SDS l d f lo hi r) (hc:∀ c,(c=2*r+1∨c=2*r+2)→c<hi→ksS d (f+c)≤ksS d (f+r)):RP f (f+hi) l d∧HeapS d f lo hi:=by
 refine⟨h.rp,fun i c h1 h2 h3=>?_⟩
 rcases Decidable.em (i=r) with e|e
 ·subst e
  exact hc c h2 h3
 ·exact h.oth i c h1 e h2 h3
theorem SDS.step {l d:List Span} {f lo hi r c0:Nat} (h:SDS l d f lo hi r) (hb:f+hi≤l.length) (h1:c0=2*r+1∨c0=2*r+2) (h2:c0<hi) (h3:ksS d (f+r)<ksS d (f+c0))
  (h4:∀ c,(c=2*r+1∨c=2*r+2)→c<hi→ksS d (f+c)≤ksS d (f+c0)):SDS l (swS d (f+r) (f+c0)) f lo hi c0:=by
 have hd:=h.rp.len
 have hlr:=h.lr
 have hk:=Eh (d:=d) (i:=f+r) (j:=f+c0) (by omega) (by omega)
 refine⟨h.rp.trans (RP.swS (by omega) (by omega) (by omega) (by omega)),by omega,fun i c g1 g2 g3 g4=>?_,fun p c g1 g2 g3 g4=>?_⟩
 ·rw[hk,hk,if_neg (show ¬ f+i=f+c0 by omega)]
  rcases Decidable.em (i=r) with e|e
  ·subst e
   rw[if_pos (show f+i=f+i from rfl)]
   rcases Decidable.em (c=c0) with e2|e2
   ·rw[if_pos (by omega)]
    omega
   ·rw[if_neg (by omega),if_neg (by omega)]
    exact h4 c g3 g4
  ·rw[if_neg (show ¬ f+i=f+r by omega),if_neg (show ¬ f+c=f+c0 by omega)]
   rcases Decidable.em (c=r) with e2|e2
   ·subst e2
    rw[if_pos rfl]
    exact h.up i c0 g1 g3 h1 h2
   ·rw[if_neg (by omega)]
    exact h.oth i c g1 e g3 g4
 ·have hp:p=r:=by omega
  subst hp
  rw[hk,hk,if_neg (by omega),if_neg (by omega),if_neg (by omega),if_pos rfl]
  exact h.oth c0 c (by omega) (by omega) g3 g4
theorem HD {l:List Span} {f lo hi:Nat} (hb:f+hi≤l.length) (hl:l.length≤sortMost) (hh:HeapS l f (lo+1) hi) (hlo:lo≤100):Rn (AX big l (lo:Int) (hi:Int) (f:Int)) fun r=>RP f (f+hi) l r∧HeapS r f lo hi:=by
 unfold sortMost at hl
 unfold AX
 refine Rn.bn (P:=fun y=>∃ d,(y=.inl d∨y=.inr d)∧RP f (f+hi) l d∧HeapS d f lo hi) (Rn.iter _ (fun t y=>∃ (r:Nat) (d:List Span),y=((r:Int),d)∧t≤r∧(t≤hi)∧(r<hi∨r=lo)∧SDS l d f lo hi r) hi (by unfold big;omega) ⟨lo,l,rfl,Nat.zero_le _,Nat.zero_le _,.inr rfl,RP.refl _ _ _,Nat.le_refl _,fun i c h1 h2 h3 h4=>hh i c (by omega) h3 h4,fun p c h1 h2 h3 h4=>by omega⟩ fun t y ht hI=>?_) fun y hy=>?_
 ·obtain⟨r,d,rfl,t1,t2,hr,h⟩:=hI
  have hd:=h.rp.len
  refine Rn.lt (Rn.lt (Rn.lt ?_))
  have hr2:r≤200:=by omega
  have em:mulI .i64 2 (r:Int)=((2*r:Nat):Int):=by rw[Ce (by omega) (by omega)];omega
  have e1:addI .i64 ((2*r:Nat):Int) 1=((2*r+1:Nat):Int):=by rw[Am (by omega) (by omega)];omega
  simp only
  rw[em,e1]
  refine Rn.ite (fun hc=>Rn.some ⟨d,.inl rfl,h.stop fun c g1 g2=>?_⟩) fun hc=>?_
  ·have:=of_decide_eq_true (p:=((hi:Int)≤((2*r+1:Nat):Int))) hc
   omega
  ·have hc1:2*r+1<hi:=by
    have:=of_decide_eq_false (p:=((hi:Int)≤((2*r+1:Nat):Int))) hc
    omega
   refine Rn.bn (P:=fun y=>∃ c0:Nat,y=(c0:Int)∧(c0=2*r+1∨c0=2*r+2)∧c0<hi∧∀ c,(c=2*r+1∨c=2*r+2)→c<hi→ksS d (f+c)≤ksS d (f+c0)) ?_ fun y hy=>?_
   ·have e2:addI .i64 ((2*r+1:Nat):Int) 1=((2*r+2:Nat):Int):=by rw[Am (by omega) (by omega)];omega
    rcases Nat.lt_or_ge (2*r+2) hi with g|g
    ·refine Rn.bnE (v:=decide (ksS d (f+(2*r+1))<ksS d (f+(2*r+2)))) ?_ (Rn.lt (Rn.ite (fun hq=>?_) fun hq=>?_))
     ·simp only[Av]
      have e3:addI .i64 (f:Int) ((2*r+1:Nat):Int)=((f+(2*r+1):Nat):Int):=by rw[Am (by omega) (by omega)];omega
      have e4:addI .i64 ((f+(2*r+1):Nat):Int) 1=((f+(2*r+2):Nat):Int):=by rw[Am (by omega) (by omega)];omega
      rw[e2,lt_t (by omega),AF,e3,e4,nthD (show f+(2*r+1)<d.length by omega) (⟨0,0⟩:Span)]
      simp only[An]
      rw[nthD (show f+(2*r+2)<d.length by omega) (⟨0,0⟩:Span)]
      simp only[An,cmpES,cvLtS]
      rfl
     ·have hq':=of_decide_eq_true hq
      rw[e2]
      refine Rn.lt (Rn.some ⟨2*r+2,rfl,.inr rfl,g,fun c g1 g2=>?_⟩)
      rcases g1 with rfl|rfl
      ·omega
      ·exact Int.le_refl _
     ·have hq':=of_decide_eq_false hq
      refine Rn.some ⟨2*r+1,rfl,.inl rfl,hc1,fun c g1 g2=>?_⟩
      rcases g1 with rfl|rfl
      ·exact Int.le_refl _
      ·omega
    ·refine Rn.bnE (v:=false) ?_ (Rn.lt (Rn.ite (fun hq=>by simp at hq) fun _=>Rn.some ⟨2*r+1,rfl,.inl rfl,hc1,fun c g1 g2=>?_⟩))
     ·simp only[Av]
      rw[e2,lt_f (by omega),AT]
     ·rcases g1 with rfl|rfl
      ·exact Int.le_refl _
      ·omega
   ·obtain⟨c0,rfl,k1,k2,k3⟩:=hy
    have e5:addI .i64 (f:Int) (r:Int)=((f+r:Nat):Int):=by rw[Am (by omega) (by omega)];omega
    have e6:addI .i64 (f:Int) (c0:Int)=((f+c0:Nat):Int):=by rw[Am (by omega) (by omega)];omega
    have hfr:f+r<d.length:=by omega
    have hfc:f+c0<d.length:=by omega
    refine Rn.lt ?_
    rw[e5,e6]
    refine Rn.bnE (nthD hfr (⟨0,0⟩:Span)) (Rn.lt (Rn.bnE (nthD hfc (⟨0,0⟩:Span)) ?_))
    simp only[cmpES,cvLtS,An,CD,Av]
    refine Rn.ite (fun hq=>Rn.some ⟨d,.inr rfl,h.stop fun c g1 g2=>?_⟩) fun hq=>?_
    ·have hq':¬ ksS d (f+r)<ksS d (f+c0):=of_decide_eq_true hq
     have:=k3 c g1 g2
     omega
    ·have hq':¬ ¬ ksS d (f+r)<ksS d (f+c0):=of_decide_eq_false hq
     rw[Int.toNat_natCast,Int.toNat_natCast]
     refine Rn.bnE (nthD (by simpa using hfc) (⟨0,0⟩:Span)) (Rn.some ⟨by omega,c0,_,rfl,by omega,by omega,.inl k2,h.step hb k1 k2 (by omega) k3⟩)
 ·obtain⟨d,h1,h2⟩:=hy
  rcases h1 with rfl|rfl
  ·rw[Ft]
   exact Rn.some h2
  ·rw[B7]
   exact Rn.some h2
theorem Jy {l:List Span} {a b:Nat} (hab:a<b) (hb:b≤l.length) (hl:l.length≤sortMost):Rn (Bd big l (a:Int) (b:Int)) fun r=>RP a b l r∧SortedS r a b:=by
 have hl':=hl
 unfold sortMost at hl
 unfold Bd
 obtain⟨hi,rfl⟩:∃ hi,b=a+hi:=⟨b - a,by omega⟩
 have e0:subI .i64 ((a+hi:Nat):Int) (a:Int)=(hi:Int):=by rw[Ap (by omega) (by omega)];omega
 have e1:subI .i64 (hi:Int) 1=(hi:Int) - 1:=Ap (by omega) (by omega)
 rw[e0]
 refine Rn.lt (Rn.lt ?_)
 rw[e1]
 refine Rn.bnE (vquo (by omega) (by omega) (by omega)) ?_
 refine Rn.bn (P:=fun d=>RP a (a+hi) l d∧HeapS d a 0 hi) (Rn.iter _ (fun t y=>∃ (k:Nat) (d:List Span),y=((k:Int) - 1,d)∧k+t=(hi - 1) / 2+1∧RP a (a+hi) l d∧HeapS d a k hi) hi (by unfold big;omega) ⟨(hi - 1) / 2+1,l,?_,by omega,RP.refl _ _ _,fun i c h1 h2 h3=>by omega⟩ fun t y ht hI=>?_) fun d hd=>?_
 ·refine Prod.ext ?_ rfl
  simp only
  omega
 ·obtain⟨k,d,rfl,hk,hr,hh⟩:=hI
  have hd:=hr.len
  refine Rn.lt (Rn.ite (fun hc=>?_) fun hc=>Rn.some ⟨hr,?_⟩)
  ·have hk1:1≤k:=by
    have:=of_decide_eq_true (p:=((0:Int)≤(k:Int) - 1)) hc
    omega
   obtain⟨k,rfl⟩:∃ j,k=j+1:=⟨k - 1,by omega⟩
   have e2:((k+1:Nat):Int) - 1=(k:Int):=by omega
   simp only
   rw[e2]
   refine Rn.bn (HD (by omega) (by omega) hh (by omega)) fun r hr2=>Rn.chk (by have:=hr2.1.len;simp[lenB,this]) (Rn.lt (Rn.some ⟨by omega,k,r,?_,by omega,hr.trans hr2.1,hr2.2⟩))
   rw[Ap (by omega) (by omega)]
  ·have:k=0:=by
    have:=of_decide_eq_false (p:=((0:Int)≤(k:Int) - 1)) hc
    omega
   subst this
   exact hh
 ·obtain⟨h1,h2⟩:=hd
  refine Rn.lt ?_
  refine Rn.bn (P:=fun d=>RP a (a+hi) l d∧SortedS d a (a+hi)) (Rn.iter _ (fun t y=>∃ (k:Nat) (d:List Span),y=((k:Int) - 1,d)∧k+t=hi∧RP a (a+hi) l d∧HeapS d a 0 k∧∀ p q,a≤p→p<q→a+k≤q→q<a+hi→ksS d p≤ksS d q) hi (by unfold big;omega) ⟨hi,d,rfl,by omega,h1,h2,fun p q g1 g2 g3 g4=>by omega⟩ fun t y ht hI=>?_) fun r hr=>Rn.some hr
  obtain⟨k,d,rfl,hk,hr,hh,htop⟩:=hI
  have hd:=hr.len
  refine Rn.lt (Rn.ite (fun hc=>?_) fun hc=>Rn.some ⟨hr,fun p q g1 g2 g3=>?_⟩)
  ·have hk1:1≤k:=by
    have:=of_decide_eq_true (p:=((0:Int)≤(k:Int) - 1)) hc
    omega
   obtain⟨k,rfl⟩:∃ j,k=j+1:=⟨k - 1,by omega⟩
   have e2:((k+1:Nat):Int) - 1=(k:Int):=by omega
   have e3:addI .i64 (a:Int) (k:Int)=((a+k:Nat):Int):=by rw[Am (by omega) (by omega)];omega
   simp only
   rw[e2,e3]
   refine Rn.lt (swapS rfl rfl (show a<d.length by omega) (show a+k<d.length by omega) ?_)
   have hks:=Eh (d:=d) (i:=a) (j:=a+k) (by omega) (by omega)
   have hsw:=RP.swS (d:=d) (a:=a) (b:=a+hi) (i:=a) (j:=a+k) (by omega) (by omega) (by omega) (by omega)
   have hh1:HeapS (swS d a (a+k)) a (0+1) k:=fun i c g1 g2 g3=>by
    rw[hks,hks,if_neg (by omega),if_neg (by omega),if_neg (by omega),if_neg (by omega)]
    exact hh i c (Nat.zero_le _) g2 (by omega)
   have hl1:(swS d a (a+k)).length=d.length:=J7 _ _ _
   have hmax:=hh.max
   generalize swS d a (a+k)=d1 at hks hsw hh1 hl1
   refine Rn.bn (HD (lo:=0) (by omega) (by omega) hh1 (by omega)) fun r hr2=>Rn.chk (by have:=hr2.1.len;simp[lenB,this]) (Rn.lt (Rn.some ⟨by omega,k,r,?_,by omega,(hr.trans hsw).trans (hr2.1.mono (Nat.le_refl _) (by omega)),hr2.2,fun p q g1 g2 g3 g4=>?_⟩))
   ·rw[Ap (by omega) (by omega)]
   ·have hq:ksS r q=ksS d1 q:=BS (hr2.1.off q (.inr (by omega)))
    -- what stands at p is one of d's,not behind a+k,or p stays
    have hp:(∃ p',a≤p'∧p'<a+k∧ksS r p=ksS d1 p')∨(a+k≤p∧ksS r p=ksS d1 p):=by
     rcases Nat.lt_or_ge p (a+k) with h|h
     ·obtain⟨p',x1,x2,x3⟩:=hr2.1.seg (by omega) (by omega) g1 h
      exact .inl ⟨p',x1,x2,BS x3⟩
     ·exact .inr ⟨h,BS (hr2.1.off p (.inr h))⟩
    rw[hq,hks,if_neg (show ¬ q=a by omega) |> fun e=>e]
    rcases Nat.eq_or_lt_of_le g3 with g5|g5
    ·subst g5
     rw[if_pos rfl]
     rcases hp with ⟨p',x1,x2,x3⟩|⟨x1,x3⟩
     ·rw[x3,hks,if_neg (by omega)]
      split
      ·exact hmax k (by omega)
      ·obtain⟨j,rfl⟩:∃ j,p'=a+j:=⟨p' - a,by omega⟩
       exact hmax j (by omega)
     ·omega
    ·rw[if_neg (by omega)]
     rcases hp with ⟨p',x1,x2,x3⟩|⟨x1,x3⟩
     ·rw[x3,hks,if_neg (by omega)]
      split
      ·exact htop (a+k) q (by omega) (by omega) (by omega) g4
      ·exact htop p' q x1 (by omega) (by omega) g4
     ·rw[x3,hks]
      split
      ·exact htop a q (by omega) (by omega) (by omega) g4
      ·rw[if_neg (by omega)]
       exact htop p q g1 g2 (by omega) g4
  ·have:k=0:=by
    have:=of_decide_eq_false (p:=((0:Int)≤(k:Int) - 1)) hc
    omega
   subst this
   exact htop p q g1 g2 (by omega) g3
theorem I9 {n:Nat} (h1:8≤n) (h2:n≤49):∃ p:Nat,Bv big (n:Int)=some (p:Int)∧1≤p∧p≤2*n:=by
 have hb:(List.range 50).all (fun n=>decide (n<8) || (match Bv big (n:Int) with|some p=>decide (1≤p∧p≤2*(n:Int))|none=>false))=true:=by kernel_rfl
 rw[List.all_eq_true] at hb
 have h:=hb n (by simp;omega)
 rw[decide_eq_false (by omega),Bool.false_or] at h
 split at h
 ·rename_i p e
  have:=of_decide_eq_true h
  exact⟨p.toNat,by rw[e];congr 1;omega,by omega,by omega⟩
 ·simp at h
theorem wrapU {a:Int} (h:0≤a) (h2:a<18446744073709551616):IntKind.u64.wrap a=a:=by
 have e:IntKind.u64.wrap a=a % 18446744073709551616:=rfl
 rw[e]
 exact Int.emod_eq_of_lt h h2
theorem Ja (x m:Int) (h:0≤m) (h2:m≤1000000):0≤andI .u64 x m∧andI .u64 x m≤m:=by
 have e:(BitVec.ofInt 64 x &&& BitVec.ofInt 64 m).toNat≤m.toNat:=by
  rw[BitVec.toNat_and,BitVec.toNat_ofInt m]
  refine Nat.le_trans Nat.and_le_right ?_
  have:m % 2 ^ 64=m:=Int.emod_eq_of_lt h (by omega)
  simp only[Int.natCast_pow] at *
  omega
 have e2:andI .u64 x m=((BitVec.ofInt 64 x &&& BitVec.ofInt 64 m).toNat:Int):=by
  have h3:(BitVec.ofInt 64 x &&& BitVec.ofInt 64 m).toNat<18446744073709551616:=(BitVec.ofInt 64 x &&& BitVec.ofInt 64 m).isLt
  exact wrapU (a:=((BitVec.ofInt 64 x &&& BitVec.ofInt 64 m).toNat:Int)) (by omega) (by omega)
 rw[e2]
 omega
theorem GR (r:Int):∃ x y,BE big r=some (x,y):=⟨_,_,rfl⟩
theorem Jb {l:List Span} {a b:Nat} (hab:a+12<b) (hb:b≤l.length) (hl:l.length≤sortMost):Rn (AZ big l (a:Int) (b:Int)) fun r=>RP a b l r:=by
 unfold sortMost at hl
 unfold AZ
 obtain⟨n,rfl⟩:∃ n,b=a+n:=⟨b - a,by omega⟩
 have e0:subI .i64 ((a+n:Nat):Int) (a:Int)=(n:Int):=by rw[Ap (by omega) (by omega)];omega
 rw[e0]
 refine Rn.lt (Rn.lt (Rn.ite (fun _=>?_) fun h=>?_))
 ·obtain⟨p,ep,p1,p2⟩:=I9 (n:=n) (by omega) (by omega)
  obtain⟨q,hq⟩:∃ q:Nat,(n:Int) / 4=(q:Int):=⟨n / 4,by omega⟩
  have e1:mulI .i64 (q:Int) 2=((q*2:Nat):Int):=by rw[Ce (by omega) (by omega)];omega
  have e2:addI .i64 (a:Int) ((q*2:Nat):Int)=((a+q*2:Nat):Int):=by rw[Am (by omega) (by omega)];omega
  have e3:subI .i64 ((a+q*2:Nat):Int) 1=((a+q*2 - 1:Nat):Int):=by rw[Ap (by omega) (by omega)];omega
  have e4:addI .i64 ((a+q*2:Nat):Int) 1=((a+q*2+1:Nat):Int):=by rw[Am (by omega) (by omega)];omega
  have eq4:quoI .i64 (n:Int) 4=some (q:Int):=by rw[vquo (by omega) (by omega) (by omega),hq]
  refine Rn.lt (Rn.bnE ep ?_)
  rw[eq4]
  refine Rn.bnE rfl (Rn.lt (Rn.lt (Rn.lt ?_)))
  rw[e1,e2,e3]
  refine Rn.bn (P:=fun r=>RP a (a+n) l r) (Rn.iter _ (fun t y=>∃ (i:Nat) (d:List Span) (r:Int),y=((i:Int),d,r)∧i=a+q*2 - 1+t∧RP a (a+n) l d) 3 (by unfold big;omega) ⟨a+q*2 - 1,l,_,rfl,by omega,RP.refl _ _ _⟩ fun t y ht hI=>?_) fun r hr=>Rn.some hr
  obtain⟨i,d,r,rfl,hi,hr⟩:=hI
  have hd:=hr.len
  refine Rn.bnE rfl (Rn.lt ?_)
  rw[e1]
  refine Rn.lt ?_
  rw[e2]
  refine Rn.lt ?_
  rw[e4]
  refine Rn.lt (Rn.ite (fun hc=>?_) fun _=>Rn.some hr)
  have hi2:i≤a+q*2+1:=by
   have:=of_decide_eq_true (p:=((i:Int)≤((a+q*2+1:Nat):Int))) hc
   omega
  obtain⟨x,y,exy⟩:=GR r
  refine Rn.bnE exy (Rn.lt (Rn.lt (Rn.lt ?_)))
  have e5:subI .u64 (p:Int) 1=(p:Int) - 1:=wrapU (by omega) (by omega)
  rw[e5]
  obtain⟨g1,g2⟩:=Ja x ((p:Int) - 1) (by omega) (by omega)
  simp only
  generalize andI .u64 x ((p:Int) - 1)=w at g1 g2
  rw[DV (by omega) (by omega)]
  refine Rn.bn (P:=fun o=>∃ k:Nat,o=(k:Int)∧k<n) (Rn.lt (Rn.ite (fun h=>Rn.lt (Rn.some ?_)) fun h=>Rn.some ?_)) fun o ho=>?_
  ·have:=of_decide_eq_true (p:=((n:Int)≤w)) h
   rw[Ap (by omega) (by omega)]
   exact⟨(w - n).toNat,by omega,by omega⟩
  ·have:=of_decide_eq_false (p:=((n:Int)≤w)) h
   exact⟨w.toNat,by omega,by omega⟩
  ·obtain⟨k,rfl,hk⟩:=ho
   refine Rn.lt ?_
   have e6:addI .i64 (a:Int) (k:Int)=((a+k:Nat):Int):=by rw[Am (by omega) (by omega)];omega
   rw[e6]
   refine swapS rfl rfl (show i<d.length by omega) (show a+k<d.length by omega) (Rn.lt (Rn.some ⟨by omega,i+1,swS d i (a+k),y,?_,by omega,hr.trans (RP.swS (by omega) (by omega) (by omega) (by omega))⟩))
   rw[Am (by omega) (by omega)]
   rfl
 ·have:=of_decide_eq_false (p:=((8:Int)≤(n:Int))) h
  omega
def PreS (d:List Span) (a b:Nat):Prop:=0<a→∀ i,a≤i→i<b→ksS d (a - 1)≤ksS d i
def SepS (d:List Span) (a b a' b':Nat):Prop:=∀ p q,a≤p→p<q→q<b→(p<a'∨b'≤q)→ksS d p≤ksS d q
theorem PreS.keep {d r:List Span} {a b:Nat} (h:PreS d a b) (hr:RP a b d r) (hab:a≤b) (hb:b≤d.length):PreS r a b:=by
 intro h0 i h1 h2
 obtain⟨j,x1,x2,x3⟩:=hr.seg hab hb h1 h2
 rw[BS x3,BS (hr.off (a - 1) (.inl (by omega)))]
 exact h h0 j x1 x2
theorem SepS.keep {d r:List Span} {a b a' b':Nat} (h:SepS d a b a' b') (hr:RP a' b' d r) (h1:a≤a') (h2:a'≤b') (h3:b'≤b) (hb:b≤d.length):SepS r a b a' b':=by
 intro p q g1 g2 g3 g4
 have key:∀ i,∃ j,ksS r i=ksS d j∧((i<a'∧j=i)∨(b'≤i∧j=i)∨(a'≤i∧i<b'∧a'≤j∧j<b')):=by
  intro i
  rcases Nat.lt_or_ge i a' with x|x
  ·exact⟨i,BS (hr.off i (.inl x)),.inl ⟨x,rfl⟩⟩
  ·rcases Nat.lt_or_ge i b' with y|y
   ·obtain⟨j,x1,x2,x3⟩:=hr.seg h2 (by omega) x y
    exact⟨j,BS x3,.inr (.inr ⟨x,y,x1,x2⟩)⟩
   ·exact⟨i,BS (hr.off i (.inr y)),.inr (.inl ⟨y,rfl⟩)⟩
 obtain⟨p',e1,f1⟩:=key p
 obtain⟨q',e2,f2⟩:=key q
 rw[e1,e2]
 exact h p' q' (by omega) (by omega) (by omega) (by omega)
theorem SepS.done {r:List Span} {a b a' b':Nat} (h:SepS r a b a' b') (hs:SortedS r a' b'):SortedS r a b:=by
 intro p q g1 g2 g3
 rcases Decidable.em (p<a'∨b'≤q) with x|x
 ·exact h p q g1 g2 g3 x
 ·exact hs p q (by omega) g2 (by omega)
theorem J8:∀ (m:Nat) {l:List Span} {a b:Nat} {lim:Int},b - a<m→a≤b→b≤l.length→l.length≤sortMost→PreS l a b→0≤lim→lim≤1000→Rn (Ax big m l (a:Int) (b:Int) lim) fun r=>RP a b l r∧SortedS r a b:=by
 intro m
 induction m with
 |zero=>intro l a b lim h;omega
 |succ m ih =>
  intro l a b lim hm hab hb hl hpre hl0 hl1
  have hl':=hl
  unfold sortMost at hl
  rw[Ax]
  refine Rn.bn (P:=fun r=>RP a b l r∧SortedS r a b) (Rn.iter _ (fun t y=>∃ (a' b':Nat) (lim':Int) (bal part:Bool) (d:List Span),y=((a':Int),(b':Int),lim',bal,part,d)∧a≤a'∧a'≤b'∧b'≤b∧t+(b' - a')≤b - a∧RP a b l d∧SepS d a b a' b'∧PreS d a' b'∧0≤lim'∧lim'≤1000) (b - a) (by unfold big;omega)
   ⟨a,b,lim,true,true,l,rfl,Nat.le_refl _,hab,Nat.le_refl _,by omega,RP.refl _ _ _,fun p q h1 h2 h3 h4=>by omega,hpre,hl0,hl1⟩ fun t y ht hI=>?_) fun r hr=>Rn.some hr
  obtain⟨a',b',lim',bal,part,d,rfl,i1,i2,i3,i4,hr,hsep,hp,hm0,hm1⟩:=hI
  have hd:=hr.len
  -- what is sorted within is sorted
  have hdone:∀ r,RP a' b' d r→SortedS r a' b'→RP a b l r∧SortedS r a b:=fun r h1 h2 =>
   ⟨hr.trans (h1.mono i1 i3),(hsep.keep h1 i1 i2 i3 (by omega)).done h2⟩
  refine Rn.lt (Rn.lt ?_)
  have e0:subI .i64 (b':Int) (a':Int)=((b' - a':Nat):Int):=by rw[Ap (by omega) (by omega)];omega
  simp only
  rw[e0]
  refine Rn.ite (fun hc=>?_) fun hc=>?_
  ·refine Rn.bn (Ih i2 (by omega) (by omega)) fun r hr2=>Rn.chk (by have:=hr2.1.len;simp[lenB,this]) (Rn.some (hdone r hr2.1 hr2.2))
  have hlong:a'+12<b':=by
   have:=of_decide_eq_false (p:=(((b' - a':Nat):Int)≤12)) hc
   omega
  refine Rn.lt (Rn.ite (fun hz=>?_) fun hz=>?_)
  ·refine Rn.bn (Jy (by omega) (by omega) (by omega)) fun r hr2=>Rn.chk (by have:=hr2.1.len;simp[lenB,this]) (Rn.some (hdone r hr2.1 hr2.2))
  have hlim:lim'≠0:=of_decide_eq_false (p:=lim'=0) hz
  refine Rn.bn (P:=fun y=>(0≤y.1∧y.1≤1000)∧RP a' b' d y.2) ?_ fun y hy=>?_
  ·refine Rn.lt (Rn.ite (fun _=>?_) fun _=>Rn.some ⟨⟨hm0,hm1⟩,RP.refl _ _ _⟩)
   refine Rn.bn (Jb hlong (by omega) (by omega)) fun r hr2=>Rn.chk (by have:=hr2.len;simp[lenB,this]) (Rn.lt (Rn.some ⟨?_,hr2⟩))
   rw[Ap (by omega) (by omega)]
   exact⟨by omega,by omega⟩
  obtain⟨lim2,d1⟩:=y
  obtain⟨⟨hm2,hm3⟩,hr1⟩:=hy
  simp only at hm2 hm3 hr1
  have hd1:=hr1.len
  refine Rn.bn (Iy (l:=d1) hlong (by omega) (by omega)) fun v hv=>?_
  obtain⟨v1,v2,v3⟩:=v
  obtain⟨⟨k,hk,hk1,hk2⟩,hv3⟩:=hv
  simp only at hk hv3
  subst v3 v1
  refine Rn.chk (by simp[lenB]) ?_
  refine Rn.bn (P:=fun y=>(∃ k:Nat,y.1=(k:Int)∧a'≤k∧k<b')∧RP a' b' d y.2.2) ?_ fun y hy=>?_
  ·refine Rn.lt (Rn.ite (fun _=>?_) fun _=>Rn.some ⟨⟨k,rfl,hk1,hk2⟩,hr1⟩)
   refine Rn.bn (HS (l:=d1) (by omega) (by omega) (by omega)) fun r hr2=>Rn.chk (by have:=hr2.len;simp[lenB,this]) (Rn.lt (Rn.lt (Rn.lt (Rn.some ⟨⟨b' - 1 - (k - a'),?_,by omega,by omega⟩,hr1.trans hr2⟩))))
   simp only
   rw[Ap (a:=(b':Int)) (by omega) (by omega),Ap (a:=(k:Int)) (by omega) (by omega),Ap (by omega) (by omega)]
   omega
  obtain⟨y1,y2,d2⟩:=y
  obtain⟨⟨k2,hk,hk1,hk2⟩,hr2⟩:=hy
  simp only at hk hr2
  subst y1
  have hd2:=hr2.len
  refine Rn.bn (P:=fun y=>(∃ c e r,y=.inl (c,e,r)∧RP a' b' d r)∨∃ r,y=.inr r∧RP a' b' d r∧SortedS r a' b') ?_ fun y hy=>?_
  ·refine Rn.bn (P:=fun _=>True) ?_ fun w _=>?_
   ·refine Rn.lt (Rn.ite (fun _=>Rn.lt (Rn.ite (fun _=>Rn.lt (Rn.some trivial)) fun _=>Rn.some trivial)) fun _=>Rn.some trivial)
   ·refine Rn.lt (Rn.ite (fun _=>?_) fun _=>Rn.some (.inl ⟨_,_,d2,rfl,hr2⟩))
    refine Rn.bn (HT (l:=d2) (by omega) (by omega) (by omega)) fun r hr3=>?_
    obtain⟨r1,r2⟩:=r
    obtain⟨g1,g2⟩:=hr3
    simp only at g1 g2
    subst r2
    refine Rn.chk (by simp[lenB]) (Rn.lt (Rn.ite (fun h=>Rn.some (.inr ⟨d2,rfl,hr2,g2 h⟩)) fun _=>Rn.some (.inl ⟨_,_,d2,rfl,hr2⟩)))
  rcases hy with ⟨c,e,d3,rfl,hr3⟩|⟨r,rfl,hr3,hs3⟩
  rotate_left
  ·rw[B7]
   exact Rn.some (hdone r hr3 hs3)
  rw[Ft]
  have hd3:=hr3.len
  have hsep3:=hsep.keep hr3 i1 i2 i3 (by omega)
  have hp3:=hp.keep hr3 i2 (by omega)
  have hrl3:=hr.trans (hr3.mono i1 i3)
  refine Rn.bn (P:=fun c=>c=decide (0<a'∧¬ ksS d3 (a' - 1)<ksS d3 k2)) ?_ fun q hq=>?_
  ·refine Rn.lt (Rn.ite (fun h=>?_) fun h=>Rn.some ?_)
   ·have h0:0<a':=by
     have:=of_decide_eq_true (p:=((0:Int)<(a':Int))) h
     omega
    have e1:subI .i64 (a':Int) 1=((a' - 1:Nat):Int):=by rw[Ap (by omega) (by omega)];omega
    refine Rn.lt ?_
    rw[e1]
    refine Rn.bnE (nthD (show a' - 1<d3.length by omega) (⟨0,0⟩:Span)) (Rn.bnE (nthD (show k2<d3.length by omega) (⟨0,0⟩:Span)) ?_)
    simp only[cmpES,cvLtS,An,Av,CD]
    refine Rn.some ?_
    simp only[h0,true_and]
    rfl
   ·have h0:¬ 0<a':=by
     have:=of_decide_eq_false (p:=((0:Int)<(a':Int))) h
     omega
    simp[h0]
  subst hq
  refine Rn.lt (Rn.ite (fun h=>?_) fun h=>?_)
  ·obtain⟨h0,hK⟩:=of_decide_eq_true h
   refine Rn.bn (Iz (l:=d3) hk1 hk2 (by omega) (by omega)) fun r hr4=>?_
   obtain⟨r1,r2⟩:=r
   obtain⟨md,g0,g1,g2,g3,g4,g5⟩:=hr4
   simp only at g0 g3 g4 g5
   subst r1
   refine Rn.chk (by have:=g3.len;simp[lenB,this]) (Rn.some ⟨by omega,md,b',lim2,c,e,r2,rfl,by omega,g2,i3,by omega,hrl3.trans (g3.mono i1 i3),?_,?_,hm2,hm3⟩)
   ·have hs4:=hsep3.keep g3 i1 i2 i3 (by omega)
    have hp4:=hp3.keep g3 i2 (by omega)
    have hK2:ksS d3 k2≤ksS r2 (a' - 1):=by
     rw[BS (g3.off (a' - 1) (.inl (by omega)))]
     omega
    intro p q x1 x2 x3 x4
    rcases Decidable.em (p<a'∨b'≤q) with x5|x5
    ·exact hs4 p q x1 x2 x3 x5
    ·have z1:=g4 p (by omega) (by omega)
     rcases Nat.lt_or_ge q md with x6|x6
     ·have z2:=hp4 h0 q (by omega) (by omega)
      omega
     ·have z2:=g5 q x6 (by omega)
      omega
   ·intro _ i x1 x2
    have z1:=g4 (md - 1) (by omega) (by omega)
    have z2:=g5 i x1 x2
    omega
  ·refine Rn.bn (Jx (l:=d3) hk1 hk2 (by omega) (by omega)) fun r hr4=>?_
   obtain⟨r1,r2,r4⟩:=r
   obtain⟨md,g0,g1,g2,g3,g4,g5,g6⟩:=hr4
   simp only at g0 g3 g4 g5 g6
   subst r1
   have hd4:=g3.len
   have hs4:=hsep3.keep g3 i1 i2 i3 (by omega)
   have hp4:=hp3.keep g3 i2 (by omega)
   generalize ksS d3 k2=K at g4 g5 g6
   have e3:addI .i64 (md:Int) 1=((md+1:Nat):Int):=by rw[Am (by omega) (by omega)];omega
   refine Rn.chk (by simp[lenB,hd4]) (Rn.lt (Rn.lt (Rn.bnE (vquo (by omega) (by omega) (by omega)) (Rn.lt (Rn.ite (fun _=>Rn.lt ?_) fun _=>Rn.lt (Rn.lt ?_))))))
   ·refine Rn.bn (ih (l:=r4) (a:=a') (b:=md) (by omega) g1 (by omega) (by omega) (fun h0 i x1 x2=>hp4 h0 i x1 (by omega)) hm2 hm3) fun r hr5=>?_
    obtain⟨q1,q2⟩:=hr5
    have hd5:=q1.len
    refine Rn.chk (by simp[lenB,hd5]) (Rn.lt ?_)
    rw[e3]
    refine Rn.some ⟨by omega,md+1,b',lim2,_,_,r,rfl,by omega,by omega,i3,by omega,(hrl3.trans (g3.mono i1 i3)).trans (q1.mono i1 (by omega)),?_,?_,hm2,hm3⟩
    ·have hs5:=hs4.keep (q1.mono (Nat.le_refl _) (by omega)) i1 i2 i3 (by omega)
     intro p q x1 x2 x3 x4
     rcases Decidable.em (p<a'∨b'≤q) with x5|x5
     ·exact hs5 p q x1 x2 x3 x5
     ·have hge:∀ i,md<i→i<b'→K≤ksS r i:=fun i y1 y2=>by
       rw[BS (q1.off i (.inr (by omega)))]
       exact g6 i y1 y2
      have hmd:ksS r md=K:=by rw[BS (q1.off md (.inr (Nat.le_refl _)))];exact g4
      rcases Nat.lt_or_ge p md with x6|x6
      ·obtain⟨j,y1,y2,y3⟩:=q1.seg g1 (by omega) (show a'≤p by omega) x6
       have z1:=g5 j y1 y2
       rw[← BS y3] at z1
       rcases Nat.lt_trichotomy q md with x7|x7|x7
       ·exact q2 p q (by omega) x2 x7
       ·subst x7
        omega
       ·have:=hge q x7 (by omega)
        omega
      ·have:p=md:=by omega
       subst this
       have:=hge q x2 (by omega)
       omega
    ·intro _ i x1 x2
     show ksS r md≤_
     rw[BS (q1.off md (.inr (Nat.le_refl _))),BS (q1.off i (.inr (by omega))),g4]
     exact g6 i (by omega) x2
   ·rw[e3]
    refine Rn.bn (ih (l:=r4) (a:=md+1) (b:=b') (by omega) (by omega) (by omega) (by omega) (fun h0 i x1 x2=>by show ksS r4 md≤_;rw[g4];exact g6 i (by omega) x2) hm2 hm3) fun r hr5=>?_
    obtain⟨q1,q2⟩:=hr5
    have hd5:=q1.len
    refine Rn.chk (by simp[lenB,hd5]) ?_
    refine Rn.some ⟨by omega,a',md,lim2,_,_,r,rfl,i1,g1,by omega,by omega,(hrl3.trans (g3.mono i1 i3)).trans (q1.mono (by omega) i3),?_,?_,hm2,hm3⟩
    ·have hs5:=hs4.keep (q1.mono (by omega) (Nat.le_refl _)) i1 i2 i3 (by omega)
     intro p q x1 x2 x3 x4
     rcases Decidable.em (p<a'∨b'≤q) with x5|x5
     ·exact hs5 p q x1 x2 x3 x5
     ·have hmd:ksS r md=K:=by rw[BS (q1.off md (.inl (by omega)))];exact g4
      have hge:∀ i,md<i→i<b'→K≤ksS r i:=fun i y1 y2=>by
       obtain⟨j,z1,z2,z3⟩:=q1.seg (by omega) (by omega) (show md+1≤i by omega) y2
       rw[BS z3]
       exact g6 j (by omega) z2
      have hle:∀ i,a'≤i→i<md→ksS r i<K:=fun i y1 y2=>by
       rw[BS (q1.off i (.inl (by omega)))]
       exact g5 i y1 y2
      rcases Nat.lt_trichotomy p md with x6|x6|x6
      ·have z1:=hle p (by omega) x6
       rcases Nat.eq_or_lt_of_le (show md≤q by omega) with x7|x7
       ·subst x7
        omega
       ·have:=hge q x7 (by omega)
        omega
      ·subst x6
       have:=hge q x2 (by omega)
       omega
      ·exact q2 p q (by omega) x2 (by omega)
    ·intro h0 i x1 x2
     rw[BS (q1.off (a' - 1) (.inl (by omega))),BS (q1.off i (.inl (by omega)))]
     exact hp4 h0 i x1 (by omega)
theorem E9 {l:List Span} {i j:Nat} (hi:i<l.length) (hj:j<l.length) (h:ksS l i≤ksS l j) (s:Int):AD big l (i:Int) (j:Int) s=some ((i:Int),(j:Int),l,s):=by
 unfold AD
 rw[nthD hj (⟨0,0⟩:Span)]
 simp only[An]
 rw[nthD hi (⟨0,0⟩:Span)]
 simp only[cmpES,cvLtS,An,Av]
 rw[show decide (keyS (l.getD j ⟨0,0⟩)<keyS (l.getD i ⟨0,0⟩))=false from decide_eq_false (by have h':keyS (l.getD i ⟨0,0⟩)≤keyS (l.getD j ⟨0,0⟩):=h;omega),AT]
theorem Gn {l:List Span} {i j k:Nat} (hi:i<l.length) (hj:j<l.length) (hk:k<l.length) (h1:ksS l i≤ksS l j) (h2:ksS l j≤ksS l k) (s:Int):AE big l (i:Int) (j:Int) (k:Int) s=some ((j:Int),l,s):=by
 unfold AE
 rw[E9 hi hj h1]
 simp only[An]
 rw[show lenB l l=true from decide_eq_true rfl,EJ rfl,E9 hj hk h2]
 simp only[An]
 rw[show lenB l l=true from decide_eq_true rfl,EJ rfl,E9 hi hj h1]
 simp only[An]
 rw[show lenB l l=true from decide_eq_true rfl,EJ rfl]
theorem Gy {l:List Span} {i:Nat} (h0:1≤i) (hi:i+1<l.length) (hl:l.length≤1000) (h1:ksS l (i - 1)≤ksS l i) (h2:ksS l i≤ksS l (i+1)) (s:Int):At big l (i:Int) s=some ((i:Int),l,s):=by
 unfold At
 rw[Ap (by omega) (by omega),Am (by omega) (by omega),show (i:Int) - 1=((i - 1:Nat):Int) by omega,show (i:Int)+1=((i+1:Nat):Int) by omega]
 simp only[Av]
 rw[Gn (by omega) (by omega) hi h1 h2]
 simp only[An]
 rw[show lenB l l=true from decide_eq_true rfl,EJ rfl]
theorem IA {l:List Span} (hlen:12<l.length) (hl:l.length≤1000) (hs:SortedS l 0 l.length):∃ k:Nat,AH big l ((0:Nat):Int) (l.length:Int)=some ((k:Int),1,l):=by
 have key:∀ p q,p<q→q<l.length→ksS l p≤ksS l q:=fun p q h1 h2=>hs p q (Nat.zero_le _) h1 h2
 have lb:lenB l l=true:=decide_eq_true rfl
 unfold AH
 obtain⟨q,hq⟩:∃ q:Nat,((l.length:Int) - ((0:Nat):Int)) / 4=(q:Int):=⟨l.length / 4,by omega⟩
 refine⟨q*2,?_⟩
 simp only[Av]
 rw[Ap (by omega) (by omega),vquo (by omega) (by omega) (by omega),hq]
 simp only[An]
 rw[Ce (by omega) (by omega),Ce (show -9223372036854775808≤(q:Int)*2 by omega) (by omega),Ce (show -9223372036854775808≤(q:Int)*3 by omega) (by omega),Am (by omega) (by omega),Am (show -9223372036854775808≤((0:Nat):Int)+(q:Int)*2 by omega) (by omega),Am (show -9223372036854775808≤((0:Nat):Int)+(q:Int)*3 by omega) (by omega)]
 rw[show ((0:Nat):Int)+(q:Int)*1=((q:Nat):Int) by omega,show ((0:Nat):Int)+(q:Int)*2=((q*2:Nat):Int) by omega,show ((0:Nat):Int)+(q:Int)*3=((q*3:Nat):Int) by omega,ge_t (by omega),AF]
 have hm:AE big l ((q:Nat):Int) ((q*2:Nat):Int) ((q*3:Nat):Int) 0=some (((q*2:Nat):Int),l,0):=Gn (by omega) (by omega) (by omega) (key _ _ (by omega) (by omega)) (key _ _ (by omega) (by omega)) 0
 have hb:∀ (c:Bool),(c=true→50≤l.length)→(ite' c (bn (At big l ((q:Nat):Int) 0) fun v13 =>
   chk (lenB v13.2.1 l) <|
   bn (At big v13.2.1 ((q*2:Nat):Int) v13.2.2) fun v15 =>
   chk (lenB v15.2.1 v13.2.1) <|
   bn (At big v15.2.1 ((q*3:Nat):Int) v15.2.2) fun v17 =>
   chk (lenB v17.2.1 v15.2.1) <|
   some ((v13.1,v15.1,v17.1,v17.2.1,v17.2.2))) (some ((((q:Nat):Int),((q*2:Nat):Int),((q*3:Nat):Int),l,0))))=some (((q:Nat):Int),((q*2:Nat):Int),((q*3:Nat):Int),l,0):=by
  intro c hc
  cases c with
  |false=>rfl
  |true =>
   have h50:=hc rfl
   rw[AF,Gy (by omega) (by omega) hl (key _ _ (by omega) (by omega)) (key _ _ (by omega) (by omega))]
   simp only[An]
   rw[lb,EJ rfl,Gy (by omega) (by omega) hl (key _ _ (by omega) (by omega)) (key _ _ (by omega) (by omega))]
   simp only[An]
   rw[lb,EJ rfl,Gy (by omega) (by omega) hl (key _ _ (by omega) (by omega)) (key _ _ (by omega) (by omega))]
   simp only[An]
   rw[lb,EJ rfl]
 rw[hb _ fun h=>by
  have:=of_decide_eq_true (p:=((50:Int)≤(l.length:Int) - ((0:Nat):Int))) h
  omega]
 simp only[An]
 rw[hm]
 simp only[An]
 rw[lb,EJ rfl]
 rfl
theorem HU {l:List Span} (hlen:12<l.length) (hl:l.length≤1000) (hs:SortedS l 0 l.length):Az big l ((0:Nat):Int) (l.length:Int)=some (true,l):=by
 refine Rn.eqv ?_
 unfold Az
 refine Rn.lt ?_
 rw[Am (by omega) (by omega),show ((0:Nat):Int)+1=((0+1:Nat):Int) by omega]
 refine Rn.bn (P:=fun y=>y=.inr (true,l)) (Rn.iter _ (fun t y=>t=0∧y=(((0+1:Nat):Int),0,l)) 0 (by unfold big;omega) ⟨rfl,rfl⟩ fun t y ht hI=>?_) fun y hy=>?_
 ·obtain⟨rfl,rfl⟩:=hI
  refine Rn.lt (Rn.ite (fun _=>?_) fun h=>absurd (show ltI 0 5=false from h) (by decide))
  refine Rn.bn (P:=fun y=>y=.inr (true,l)) ?_ fun y hy=>?_
  ·refine Rn.bn (scanUp (p:=fun i=>decide (¬ ksS l i<ksS l (i - 1))) (i0:=0+1) (hi:=l.length) (by omega) (fun i h1 h2=>?_) ?_ (by omega)) fun r hr=>?_
   ·simp only[Av]
    rw[lt_t (by omega),AF,nthD (show i<l.length by omega) (⟨0,0⟩:Span)]
    simp only[An]
    rw[Ap (by omega) (by omega),show (i:Int) - 1=((i - 1:Nat):Int) by omega,nthD (show i - 1<l.length by omega) (⟨0,0⟩:Span)]
    simp only[An,cmpES,cvLtS,CD]
    rfl
   ·simp only[Av]
    rw[lt_f (by omega),AT]
   ·obtain⟨k,rfl,k1,k2,k3,k4⟩:=hr
    have hk:k=l.length:=by
     rcases Nat.lt_or_ge k l.length with h|h
     ·have h5:=of_decide_eq_false (k4 h)
      have:=hs (k - 1) k (Nat.zero_le _) (by omega) h
      omega
     ·omega
    subst hk
    rw[eq_t rfl]
    exact Rn.lt (Rn.ite (fun _=>Rn.some rfl) fun h=>by simp at h)
  ·subst hy
   rw[B7]
   exact Rn.some rfl
 ·subst hy
  rw[B7]
  exact Rn.some rfl
theorem J9 {l:List Span} (hl:l.length≤1000) (hs:SortedS l 0 l.length) {lim:Int} (h0:1≤lim) (h1:lim≤1000):Rn (BK big l ((0:Nat):Int) (l.length:Int) lim) fun r=>r=l∨(RP 0 l.length l r∧SortedS r 0 l.length):=by
 show Rn (Ax big (281474976710655+1) l ((0:Nat):Int) (l.length:Int) lim) _
 rw[Ax]
 refine Rn.bn (P:=fun r=>r=l∨(RP 0 l.length l r∧SortedS r 0 l.length)) (Rn.iter _ (fun t y=>t=0∧y=(((0:Nat):Int),(l.length:Int),lim,true,true,l)) 0 (by unfold big;omega) ⟨rfl,rfl⟩ fun t y ht hI=>?_) fun r hr=>Rn.some hr
 obtain⟨rfl,rfl⟩:=hI
 refine Rn.lt (Rn.lt ?_)
 simp only
 rw[Ap (by omega) (by omega)]
 refine Rn.ite (fun hc=>?_) fun hc=>?_
 ·exact Rn.bn (Ih (Nat.zero_le _) (Nat.le_refl _) (by omega)) fun r hr2=>Rn.chk (by have:=hr2.1.len;simp[lenB,this]) (Rn.some (.inr hr2))
 ·have hlong:12<l.length:=by
   have:=of_decide_eq_false (p:=((l.length:Int) - ((0:Nat):Int)≤12)) hc
   omega
  obtain⟨k,hk⟩:=IA hlong hl hs
  refine Rn.lt ?_
  rw[eq_f (by omega)]
  refine Rn.ite (fun h=>by simp at h) fun _=>Rn.bnE (v:=(lim,l)) rfl (Rn.bnE hk (Rn.chk (decide_eq_true rfl) (Rn.bnE (v:=((k:Int),1,l)) rfl (Rn.bnE (v:=.inr l) ?_ ?_))))
  ·refine Rn.eqv (Rn.bnE (v:=(true,true,true)) rfl (Rn.lt (Rn.ite (fun _=>Rn.bnE (HU hlong hl hs) (Rn.chk (decide_eq_true rfl) (Rn.lt (Rn.ite (fun _=>Rn.some rfl) fun h=>by simp at h)))) fun h=>by simp at h)))
  ·rw[B7]
   exact Rn.some (.inl rfl)
--MORE
end Go.Proofs.Ythjenkmbbnjcnaa
namespace Go.Proofs.Ythjenkmbbnjcnaa
open Go Go.RowKit
def Rises (l:List Span):Prop:=l.Pairwise fun x y=>x.frm≤y.frm
theorem SortedS.rises {l:List Span} (h:SortedS l 0 l.length):Rises l:=by
 refine List.pairwise_iff_getElem.2 fun i j hi hj hij=>?_
 have:=h i j (Nat.zero_le _) hij hj
 unfold ksS keyS at this
 rw[List.getD_eq_getElem?_getD,List.getD_eq_getElem?_getD,List.getElem?_eq_getElem hi,List.getElem?_eq_getElem hj] at this
 exact this
theorem Rises.sorted {l:List Span} (h:Rises l):SortedS l 0 l.length:=by
 intro p q h1 h2 h3
 have:=List.pairwise_iff_getElem.1 h p q (by omega) h3 h2
 unfold ksS keyS
 rw[List.getD_eq_getElem?_getD,List.getD_eq_getElem?_getD,List.getElem?_eq_getElem (show p<l.length by omega),List.getElem?_eq_getElem h3]
 exact this
theorem Jc {n:Nat} (h:n≤200):∃ v,Cz big (cvI .u64 (n:Int))=some v∧0≤v∧v≤1000∧(1≤n→1≤v):=by
 have hb:(List.range 201).all (fun n=>match Cz big (cvI .u64 (n:Int)) with|some v=>decide (0≤v∧v≤1000) && (decide (n=0) || decide (1≤v))|none=>false)=true:=by kernel_rfl
 rw[List.all_eq_true] at hb
 have h:=hb n (List.mem_range.2 (by omega))
 split at h
 ·rename_i p e
  simp only[Bool.and_eq_true,Bool.or_eq_true,decide_eq_true_eq] at h
  exact⟨p,e,h.1.1,h.1.2,fun h1=>by omega⟩
 ·simp at h
def SortableS (l:List Span):Prop:=l.length≤200∧(l.length≤sortMost∨Rises l)
theorem Ka {l:List Span} (hl:SortableS l):Rn (Bo big l) fun r=>r.Perm l∧Rises r:=by
 obtain⟨h200,hl⟩:=hl
 unfold Bo
 refine Rn.lt (Rn.lt ?_)
 obtain⟨v,ev,v0,v1,v2⟩:=Jc h200
 refine Rn.bnE ev (Rn.bn (P:=fun r=>RP 0 l.length l r∧SortedS r 0 l.length) ?_ fun r hr=>Rn.chk (by simp[lenB,hr.1.len]) (Rn.some ⟨hr.1.perm,?_⟩))
 ·rcases Decidable.em (l.length≤sortMost) with h|h
  ·exact J8 big (l:=l) (a:=0) (b:=l.length) (lim:=v) (by unfold big;omega) (Nat.zero_le _) (Nat.le_refl _) h (fun h=>by omega) v0 v1
  ·have hr:Rises l:=hl.resolve_left h
   have h1:1≤l.length:=by unfold sortMost at h;omega
   refine (J9 (by omega) hr.sorted (v2 h1) v1).mono fun r h2=>?_
   rcases h2 with rfl|h2
   ·exact⟨RP.refl _ _ _,hr.sorted⟩
   ·exact h2
 ·have h2:=hr.2
  rw[← hr.1.len] at h2
  exact h2.rises
theorem Kb {l:List Span} (hl:SortableS l):Rn (CZ big l) fun r=>Rises r∧(∀ x∈r,0≤x.frm∧x.frm≤x.to∧x.to≤16383)∧(∀ t,(∃ x∈r,x.frm≤t∧t≤x.to)↔inS l t)∧r.length≤l.length:=by
 have hl12:l.length≤1000000:=Nat.le_trans hl.1 (by omega)
 unfold CZ
 refine Rn.lt (Rn.bn (P:=fun r=>(∀ x∈r,0≤x.frm∧x.frm≤x.to∧x.to≤16383)∧(∀ t,(∃ x∈r,x.frm≤t∧t≤x.to)↔inS l t)∧r.length≤l.length∧(Rises l→Rises r)) (Rn.iter _ (fun j y=>∃ r:List Span,y=((j:Int),r)∧(∀ x∈r,0≤x.frm∧x.frm≤x.to∧x.to≤16383)∧(∀ t,(∃ x∈r,x.frm≤t∧t≤x.to)↔inS (l.take j) t)∧r.length≤j∧(Rises l→Rises r)∧∀ x∈r,∃ y∈l.take j,x.frm=max y.frm 0) l.length (by unfold big;omega) ⟨[],rfl,by simp,fun t=>by unfold inS;simp,by simp,fun _=>List.Pairwise.nil,by simp⟩ fun j y hj hI=>?_) fun r hr=>?_)
 ·obtain⟨r,rfl,r1,r2,r3,r4,r5⟩:=hI
  refine Rn.lt (Rn.ite (fun hd=>?_) fun hd=>?_)
  ·have hjl:j<l.length:=by
    have:=of_decide_eq_true (p:=((j:Int)<(l.length:Int))) hd
    omega
   have hnth:=AC hjl
   have htk:l.take (j+1)=l.take j++[l[j]]:=(List.take_append_getElem hjl).symm
   have hbef:Rises l→∀ y∈l.take j,y.frm≤l[j].frm:=by
    intro hri y hy
    obtain⟨i,hi,rfl⟩:=List.mem_take_iff_getElem.1 hy
    exact List.pairwise_iff_getElem.1 hri i j (by omega) hjl (by omega)
   generalize l[j]=x at hnth htk hbef
   have hin:∀ t,inS (l.take (j+1)) t↔inS (l.take j) t∨((0≤t∧t<16384)∧x.frm≤t∧t≤x.to):=by
    intro t
    rw[htk]
    unfold inS
    constructor
    ·rintro⟨h1,y,hy,h2⟩
     rcases List.mem_append.1 hy with hy|hy
     ·exact .inl ⟨h1,y,hy,h2⟩
     ·simp at hy
      subst hy
      exact .inr ⟨h1,h2⟩
    ·rintro (⟨h1,y,hy,h2⟩|⟨h1,h2⟩)
     ·exact⟨h1,y,by simp[hy],h2⟩
     ·exact⟨h1,x,by simp,h2⟩
   refine Rn.bn (P:=fun r'=>(∀ x∈r',0≤x.frm∧x.frm≤x.to∧x.to≤16383)∧(∀ t,(∃ x∈r',x.frm≤t∧t≤x.to)↔inS (l.take (j+1)) t)∧r'.length≤j+1∧(Rises l→Rises r')∧∀ x∈r',∃ y∈l.take (j+1),x.frm=max y.frm 0) ?_ fun r' hr'=>Rn.lt (Rn.some ⟨hjl,r',?_,hr'⟩)
   ·refine Rn.bnE hnth (Rn.lt (Rn.lt (Rn.lt (Rn.ite (fun hc=>Rn.chk (by simp[room];omega) (Rn.lt (Rn.some ⟨?_,fun t=>?_,by simp;omega,fun hri=>?_,fun y hy=>?_⟩))) fun hc=>Rn.some ⟨r1,fun t=>?_,Nat.le_succ_of_le r3,r4,fun y hy=>?_⟩))))
    ·intro y hy
     have hc':maxI x.frm 0≤minI x.to 16383:=of_decide_eq_true hc
     rcases List.mem_append.1 hy with hy|hy
     ·exact r1 y hy
     ·simp at hy
      subst hy
      simp only[maxI,minI] at hc' ⊢
      omega
    ·rw[hin t,← r2 t]
     constructor
     ·rintro⟨y,hy,h2⟩
      rcases List.mem_append.1 hy with hy|hy
      ·exact .inl ⟨y,hy,h2⟩
      ·simp at hy
       subst hy
       simp only[maxI,minI] at h2
       exact .inr ⟨by omega,by omega⟩
     ·rintro (⟨y,hy,h2⟩|⟨h1,h2⟩)
      ·exact⟨y,by simp[hy],h2⟩
      ·exact⟨⟨maxI x.frm 0,minI x.to 16383⟩,by simp,by simp only[maxI,minI];omega⟩
    ·refine List.pairwise_append.2 ⟨r4 hri,List.pairwise_singleton _ _,fun u hu w hw=>?_⟩
     simp at hw
     subst hw
     obtain⟨y,hy,e⟩:=r5 u hu
     have:=hbef hri y hy
     simp only[maxI]
     omega
    ·rcases List.mem_append.1 hy with hy|hy
     ·obtain⟨z,hz,e⟩:=r5 y hy
      exact⟨z,by rw[htk];simp[hz],e⟩
     ·simp at hy
      subst hy
      exact⟨x,by rw[htk];simp,rfl⟩
    ·have hc':¬ maxI x.frm 0≤minI x.to 16383:=of_decide_eq_false hc
     rw[hin t,← r2 t]
     refine⟨.inl,?_⟩
     rintro (h|⟨h1,h2⟩)
     ·exact h
     ·simp only[maxI,minI] at hc'
      omega
    ·obtain⟨z,hz,e⟩:=r5 y hy
     exact⟨z,by rw[htk];simp[hz],e⟩
   ·rw[Am (by first|omega|(simp only;omega)) (by first|omega|(simp only;omega))]
    rfl
  ·have hjl:j=l.length:=by
    have:=of_decide_eq_false (p:=((j:Int)<(l.length:Int))) hd
    omega
   subst hjl
   rw[List.take_length] at r2
   exact Rn.some ⟨r1,r2,r3,r4⟩
 ·obtain⟨r1,r2,r3,r4⟩:=hr
  refine Rn.bn (Ka ⟨Nat.le_trans r3 hl.1,hl.2.imp (Nat.le_trans r3) r4⟩) fun v hv=>Rn.chk (by simp[lenB,hv.1.length_eq]) (Rn.chk (by have:=hv.1.length_eq;simp[room];omega) (Rn.some ⟨hv.2,fun x hx=>r1 x (hv.1.mem_iff.1 hx),fun t=>?_,by have:=hv.1.length_eq;omega⟩))
  rw[← r2 t]
  constructor
  ·rintro⟨x,hx,h⟩
   exact⟨x,hv.1.mem_iff.1 hx,h⟩
  ·rintro⟨x,hx,h⟩
   exact⟨x,hv.1.mem_iff.2 hx,h⟩
theorem SaysS.of {l:List Span} {p:Int→Prop} [DecidablePred p] (h:canP (l.map sP)) (hp:∀ t,(∃ x∈l,x.frm≤t∧t≤x.to)↔p t):SaysS l p:=by
 refine⟨h,fun s=>?_⟩
 rw[JO]
 unfold fS
 simp only[hp s]
theorem F8 {l:List Span} (hl:SortableS l):Rn (Co big l) fun r=>SaysS r (inS l)∧r.length≤l.length:=by
 have hl12:l.length≤1000000:=Nat.le_trans hl.1 (by omega)
 unfold Co
 refine Rn.bn (Kb hl) fun v hv=>Rn.lt ?_
 obtain⟨v1,v2,v3,v4⟩:=hv
 refine Rn.bn (P:=fun r=>SaysS r (inS l)∧r.length≤l.length) (Rn.iter _ (fun j y=>∃ out:List Span,y=((j:Int),out)∧canP (out.map sP)∧(∀ t,(∃ x∈out,x.frm≤t∧t≤x.to)↔∃ x∈v.take j,x.frm≤t∧t≤x.to)∧(∀ x∈out,x.to≤16383∧0≤x.to∧∀ y∈v.drop j,x.frm≤y.frm)∧out.length≤j) v.length (by unfold big;omega) ⟨[],rfl,trivial,by simp,by simp,by simp⟩ fun j y hj hI=>?_) fun r hr=>Rn.chk (by have:=hr.2;simp[room];omega) (Rn.some hr)
 obtain⟨out,rfl,o1,o2,o3,o4⟩:=hI
 refine Rn.lt (Rn.ite (fun hd=>?_) fun hd=>?_)
 ·have hjl:j<v.length:=by
   have:=of_decide_eq_true (p:=((j:Int)<(v.length:Int))) hd
   omega
  have hnth:=AC hjl
  have htk:v.take (j+1)=v.take j++[v[j]]:=(List.take_append_getElem hjl).symm
  have hdr:=List.drop_eq_getElem_cons hjl
  have hs:=v2 _ (List.getElem_mem hjl)
  have hri:∀ y∈v.drop (j+1),v[j].frm≤y.frm:=by
   intro y hy
   have h1:(v.drop j).Pairwise fun x y=>x.frm≤y.frm:=v1.sublist (List.drop_sublist _ _)
   rw[hdr] at h1
   exact List.rel_of_pairwise_cons h1 hy
  have ho3:∀ x∈out,x.to≤16383∧0≤x.to∧x.frm≤v[j].frm∧∀ y∈v.drop (j+1),x.frm≤y.frm:=by
   intro x hx
   obtain⟨a,a',b⟩:=o3 x hx
   rw[hdr] at b
   exact⟨a,a',b _ List.mem_cons_self,fun y hy=>b y (List.mem_cons_of_mem _ hy)⟩
  generalize v[j]=s at hnth htk hs hri ho3
  have hin:∀ t,(∃ x∈v.take (j+1),x.frm≤t∧t≤x.to)↔(∃ x∈out,x.frm≤t∧t≤x.to)∨(s.frm≤t∧t≤s.to):=by
   intro t
   rw[htk,o2 t]
   constructor
   ·rintro⟨y,hy,h2⟩
    rcases List.mem_append.1 hy with hy|hy
    ·exact .inl ⟨y,hy,h2⟩
    ·simp at hy
     subst hy
     exact .inr h2
   ·rintro (⟨y,hy,h2⟩|h2)
    ·exact⟨y,by simp[hy],h2⟩
    ·exact⟨s,by simp,h2⟩
  refine Rn.bn (P:=fun o=>canP (o.map sP)∧(∀ t,(∃ x∈o,x.frm≤t∧t≤x.to)↔∃ x∈v.take (j+1),x.frm≤t∧t≤x.to)∧(∀ x∈o,x.to≤16383∧0≤x.to∧∀ y∈v.drop (j+1),x.frm≤y.frm)∧o.length≤j+1) ?_ fun o ho=>Rn.lt (Rn.some ⟨hjl,o,?_,ho⟩)
  ·refine Rn.bnE hnth (Rn.lt ?_)
   have happ:(∀ q,(out.map sP).getLast?=some q→q.2.1<s.frm∧¬ (q.2.1+1=s.frm∧q.2.2=()))→canP ((out++[s]).map sP)∧(∀ t,(∃ x∈out++[s],x.frm≤t∧t≤x.to)↔∃ x∈v.take (j+1),x.frm≤t∧t≤x.to)∧(∀ x∈out++[s],x.to≤16383∧0≤x.to∧∀ y∈v.drop (j+1),x.frm≤y.frm)∧(out++[s]).length≤j+1:=by
    intro hc
    refine⟨?_,fun t=>?_,fun x hx=>?_,by simp;omega⟩
    ·rw[List.map_append]
     exact Eg (p:=sP s) o1 hs.2.1 hc
    ·rw[hin t]
     constructor
     ·rintro⟨y,hy,h2⟩
      rcases List.mem_append.1 hy with hy|hy
      ·exact .inl ⟨y,hy,h2⟩
      ·simp at hy
       subst hy
       exact .inr h2
     ·rintro (⟨y,hy,h2⟩|h2)
      ·exact⟨y,by simp[hy],h2⟩
      ·exact⟨s,by simp,h2⟩
    ·rcases List.mem_append.1 hx with hx|hx
     ·have:=ho3 x hx
      exact⟨this.1,this.2.1,this.2.2.2⟩
     ·simp at hx
      subst hx
      exact⟨hs.2.2,by omega,hri⟩
   rcases Decidable.em (out=[]) with he|he
   ·subst he
    exact Rn.bnE (v:=false) rfl (Rn.lt (Rn.ite (fun h=>by simp at h) fun _=>Rn.chk rfl (Rn.lt (Rn.some (happ (by simp))))))
   ·obtain⟨k,x,rfl⟩:∃ k x,out=k++[x]:=⟨out.dropLast,out.getLast he,(List.dropLast_concat_getLast he).symm⟩
    have hx:=ho3 x (by simp)
    obtain⟨x1,x2,x3,x4⟩:=hx
    have el:subI .i64 (lenI (k++[x])) 1=((k.length:Nat):Int):=by
     rw[BA,Ap (by omega) (by omega)]
     simp
    have hk:k.length<(k++[x]).length:=by simp
    have hn:nth (k++[x]) ((k.length:Nat):Int)=some x:=by rw[AC hk];simp
    refine Rn.bnE (v:=leI s.frm (x.to+1)) ?_ (Rn.lt (Rn.ite (fun h=>?_) fun h=>Rn.chk (by simp[room];simp at o4;omega) (Rn.lt (Rn.some (happ fun q hq=>?_)))))
    ·simp only[Av]
     rw[gt_t (by rw[BA];simp),AF,el,hn]
     simp only[An]
     rw[Am (by omega) (by omega)]
    ·have hle:s.frm≤x.to+1:=of_decide_eq_true h
     rw[List.map_append] at o1
     obtain⟨c1,c2,c3⟩:=Fw (p:=sP x) o1
     have c2':x.frm≤x.to:=c2
     refine Rn.lt ?_
     rw[el]
     refine Rn.bnE hn (Rn.lt (Rn.lt (Rn.some ?_)))
     rw[Int.toNat_natCast,List.set_append_right _ _ (by omega),Nat.sub_self,show [x].set 0 (⟨x.frm,maxI x.to s.to⟩:Span)=[⟨x.frm,maxI x.to s.to⟩] from rfl]
     have hm:maxI x.to s.to=max x.to s.to:=rfl
     rw[hm]
     refine⟨?_,fun t=>?_,fun y hy=>?_,by simp at o4 ⊢;omega⟩
     ·rw[List.map_append]
      exact Eg (p:=sP ⟨x.frm,max x.to s.to⟩) c1 (show x.frm≤max x.to s.to by omega) c3
     ·rw[hin t]
      constructor
      ·rintro⟨y,hy,h2⟩
       rcases List.mem_append.1 hy with hy|hy
       ·exact .inl ⟨y,by simp[hy],h2⟩
       ·simp at hy
        subst hy
        simp only at h2
        rcases Decidable.em (t≤x.to) with h3|h3
        ·exact .inl ⟨x,by simp,h2.1,h3⟩
        ·exact .inr ⟨by omega,by omega⟩
      ·rintro (⟨y,hy,h2⟩|h2)
       ·rcases List.mem_append.1 hy with hy|hy
        ·exact⟨y,by simp[hy],h2⟩
        ·simp at hy
         subst hy
         exact⟨⟨y.frm,max y.to s.to⟩,by simp,h2.1,by simp only;omega⟩
       ·exact⟨⟨x.frm,max x.to s.to⟩,by simp,by simp only;omega,by simp only;omega⟩
     ·rcases List.mem_append.1 hy with hy|hy
      ·have:=ho3 y (by simp[hy])
       exact⟨this.1,this.2.1,this.2.2.2⟩
      ·simp at hy
       subst hy
       exact⟨by simp only;omega,by simp only;omega,x4⟩
    ·have hle:¬ s.frm≤x.to+1:=of_decide_eq_false h
     rw[List.map_append,show [x].map sP=[sP x] from rfl,List.getLast?_concat] at hq
     have:=Option.some.inj hq
     subst this
     show x.to<s.frm∧¬ (x.to+1=s.frm∧()=())
     omega
  ·rw[Am (by first|omega|(simp only;omega)) (by first|omega|(simp only;omega))]
   rfl
 ·have hjl:j=v.length:=by
   have:=of_decide_eq_false (p:=((j:Int)<(v.length:Int))) hd
   omega
  subst hjl
  rw[List.take_length] at o2
  exact Rn.some ⟨SaysS.of o1 fun t=>by rw[o2 t,v3 t],show out.length≤l.length by omega⟩
theorem Jz {l:List Span} {v:Int×Int} (s:Int):fnP (l.map fun x=>(x.frm,x.to,v)) s=(fnP (l.map sP) s).map fun _=>v:=by
 induction l with
 |nil=>rfl
 |cons x l ih =>
  simp only[List.map_cons,fnP,sP]
  split
  ·rfl
  ·exact ih
theorem GS {v:Int×Int}:∀ {l:List Span},canP (l.map sP)→canP (l.map fun x=>(x.frm,x.to,v))
 |[],_=>trivial
 |[x],h=>h
 |x::y::l,h=>⟨h.1,h.2.1,fun hc=>h.2.2.1 ⟨hc.1,rfl⟩,GS (l:=y::l) h.2.2.2⟩
theorem Jd {l:List Span} {nd ep:Int}:(l.map fun x=>(⟨x.frm,x.to,nd,ep⟩:Claim)).map cP=l.map fun x=>(x.frm,x.to,(nd,ep)):=by
 rw[List.map_map]
 rfl
theorem IB {l:List Span} {p:Int→Prop} [DecidablePred p] (h:SaysS l p) (hp:∀ s,p s→0≤s∧s≤16383) {nd ep:Int} (h1:0≤nd) (h2:1≤ep) :
  GoodC (l.map fun x=>(⟨x.frm,x.to,nd,ep⟩:Claim))∧∀ s,fC (l.map fun x=>(⟨x.frm,x.to,nd,ep⟩:Claim)) s=if p s then some (nd,ep) else none:=by
 have hr:=h.rng hp
 refine⟨⟨by rw[Jd];exact GS h.1,fun c hc=>?_⟩,fun s=>?_⟩
 ·obtain⟨x,hx,rfl⟩:=List.mem_map.1 hc
  have:=hr x hx
  exact⟨this.1,this.2.1,this.2.2,h1,h2⟩
 ·unfold fC
  rw[Jd,Jz,h.2 s]
  unfold fS
  split <;> rfl
theorem JA {a:List Claim} {l:List Span} {nd ep:Int} (ha:GoodC a) (hl:SortableS l) (h1:0≤nd) (h2:1≤ep) :
  Rn (BX big a l nd ep) fun r=>FinP (r.map cP) (giveF (fC a) (inS l) (nd,ep)):=by
 have hl12:l.length≤1000000:=Nat.le_trans hl.1 (by omega)
 have ht:Tells (giveF (fC a) (inS l) (nd,ep)):=EP ha.tells DQ h1 h2
 unfold BX
 refine Rn.bn (F8 hl) fun v hv=>Rn.lt ?_
 obtain⟨v1,v2⟩:=hv
 refine Rn.bn (P:=fun g=>g=v.map fun x=>(⟨x.frm,x.to,nd,ep⟩:Claim)) (Rn.iter _ (fun j y=>y=((j:Int),(v.take j).map fun x=>(⟨x.frm,x.to,nd,ep⟩:Claim))) v.length (by unfold big;omega) rfl fun j y hj hI=>?_) fun g hg=>?_
 ·subst hI
  refine Rn.lt (Rn.ite (fun hd=>?_) fun hd=>?_)
  ·have hjl:j<v.length:=by
    have:=of_decide_eq_true (p:=((j:Int)<(v.length:Int))) hd
    omega
   refine Rn.bnE (AC hjl) (Rn.chk (by simp[room];omega) (Rn.lt (Rn.lt (Rn.some ⟨hjl,?_⟩))))
   rw[Am (by first|omega|(simp only;omega)) (by first|omega|(simp only;omega)),← List.take_append_getElem hjl,List.map_append]
   rfl
  ·have hjl:j=v.length:=by
    have:=of_decide_eq_false (p:=((j:Int)<(v.length:Int))) hd
    omega
   subst hjl
   exact Rn.some (by show _=_;rw[List.take_length])
 subst hg
 obtain⟨hgg,hgf⟩:=IB v1 DQ h1 h2
 have hglen:(v.map fun x=>(⟨x.frm,x.to,nd,ep⟩:Claim)).length≤16384:=hgg.len
 generalize (v.map fun x=>(⟨x.frm,x.to,nd,ep⟩:Claim))=b at hgg hgf hglen
 have hFb:∀ s,giveF (fC a) (inS l) (nd,ep) s=match fC b s with|some w=>some w|none=>fC a s:=by
  intro s
  rw[hgf s]
  unfold giveF
  split <;> rfl
 refine Rn.bn (P:=fun r=>FinP (r.map cP) (giveF (fC a) (inS l) (nd,ep))∧r.length≤16384) (Rn.chk (by simp[room];omega) (Rn.bnE (v:=(a,b)) rfl (Rn.bn (P:=fun y=>FinP (y.2.2.map cP) (giveF (fC a) (inS l) (nd,ep))∧y.2.2.length≤16384) (Rn.iter _ (fun j y=>∃ at_ a' b' p out,y=(at_,a',b',p,out)∧(j:Int)≤at_∧at_≤16384∧GoodC a'∧GoodC b'∧(∀ s,at_≤s→fC a' s=fC a s)∧(∀ s,at_≤s→fC b' s=fC b s)∧BdP at_ (out.map cP) (giveF (fC a) (inS l) (nd,ep))∧out.length≤j) 16384 (by unfold big;omega)
  ⟨0,a,b,_,[],rfl,Int.le_refl _,by omega,ha,hgg,fun s _=>rfl,fun s _=>rfl,BdP.nil fun s hs=>ht.none (.inl hs),by simp⟩ fun j y hj hI=>?_) fun y hy=>Rn.some hy))) fun r hr=>Rn.chk (by have:=hr.2;simp[room];omega) (Rn.some hr.1)
 obtain⟨at_,a',b',p,out,rfl,i1,i2,i3,i4,i5,i6,i7,i8⟩:=hI
 refine Rn.lt (Rn.ite (fun hd=>?_) fun hd=>?_)
 ·have hat:at_≤16383:=of_decide_eq_true hd
  refine Rn.bn (FH i3 ⟨by omega,hat⟩) fun x hx=>Rn.bn (FH i4 ⟨by omega,hat⟩) fun z hz=>Rn.lt ?_
  obtain⟨x1,x2⟩:=x
  obtain⟨z1,z2⟩:=z
  have hmin:minI x1.to z1.to=min x1.to z1.to:=rfl
  have hto:at_≤minI x1.to z1.to∧minI x1.to z1.to≤16383∧minI x1.to z1.to≤x1.to∧minI x1.to z1.to≤z1.to:=by
   have q1:=hx.le
   have q2:=hz.le
   have q3:=hx.last
   have q4:=hz.last
   simp only at q1 q2 q3 q4
   rw[hmin]
   omega
  simp only
  generalize minI x1.to z1.to=to_ at hto
  obtain⟨p1,p2,p3,p4⟩:=hto
  have hz6:=hz.num
  simp only at hz6
  have hF:∀ s,at_≤s→s≤to_→giveF (fC a) (inS l) (nd,ep) s=match valC z1 with|some w=>some w|none=>valC x1:=by
   intro s g1 g2
   rw[hFb s,← i5 s g1,← i6 s g1,hx.val s g1 (by simp only;omega),hz.val s g1 (by simp only;omega)]
  have hzf:=hz.frm
  have hxf:=hx.frm
  simp only at hzf hxf
  refine Rn.bn (P:=fun c=>(valC c.a=match valC z1 with|some w=>some w|none=>valC x1)∧c.a.frm=at_∧c.a.to=to_) ?_ fun c hc=>?_
  ·refine Rn.lt (Rn.ite (fun h=>Rn.some ⟨?_,hzf,rfl⟩) fun h=>Rn.some ⟨?_,hxf,rfl⟩)
   ·have he:0<z1.epoch:=of_decide_eq_true h
    unfold valC
    simp only
    rw[if_neg (by omega)]
   ·have he:¬ 0<z1.epoch:=of_decide_eq_false h
    have he0:z1.epoch=0:=by omega
    have:valC z1=none:=if_pos he0
    rw[this]
    rfl
  ·refine Rn.bn (HC i7 ht (by omega) ⟨by omega,i2⟩ hc.2.1 hc.2.2 p1 fun s g1 g2=>by rw[hF s g1 g2,hc.1]) fun m hm=>Rn.lt (Rn.some ⟨by omega,to_+1,x2,z2,⟨⟨x1.frm,to_,x1.node,x1.epoch⟩,⟨z1.frm,to_,z1.node,z1.epoch⟩⟩,m,?_,by omega,by omega,hx.good,hz.good,fun s hs=>?_,fun s hs=>?_,hm.1,by omega⟩)
   ·rw[Am (by omega) (by omega)]
   ·rw[hx.rest s (by omega),i5 s (by omega)]
   ·rw[hz.rest s (by omega),i6 s (by omega)]
 ·have hat:at_=16384:=by
   have:=of_decide_eq_false (p:=at_≤16383) hd
   omega
  subst hat
  exact Rn.some ⟨i7.fin fun s hs=>ht.none (.inr hs),show out.length≤16384 by omega⟩
theorem IC {a:List Claim} {l:List Span} {nd ep:Int} (ha:GoodC a) (hl:SortableS l) (h1:0≤nd) (h2:1≤ep) :
  Rn (BX big a l nd ep) fun r=>GoodC r∧∀ s,fC r s=giveF (fC a) (inS l) (nd,ep) s :=
 (JA ha hl h1 h2).mono fun r hr=>⟨hr.good (EP ha.tells DQ h1 h2),fun s=>hr.2 s⟩
end Go.Proofs.Ythjenkmbbnjcnaa
namespace Go.Proofs.Ythjenkmbbnjcnaa
open Go Go.RowKit
end Go.Proofs.Ythjenkmbbnjcnaa
namespace Go.Proofs.Ythjenkmbbnjcnaa
open Go Go.RowKit
def B4 (n:Nat) (a0:List Claim) (a1:Int):Option (List Span) :=
lt (lenI a0) fun v1 =>
bn (iter n (fun (y2:Int×List Span) =>
lt (ltI y2.1 v1) fun v5 =>
ite' v5 (bn (bn (nth a0 y2.1) fun v7 =>
lt (eqI v7.node a1) fun v8 =>
ite' v8 (chk (room (y2.2.length+1) 16) <|
lt (y2.2++[(⟨v7.frm,v7.to⟩:Span)]) fun v10 =>
some (v10)) (some (y2.2))) fun (y6:List Span) =>
lt (addI .i64 y2.1 1) fun v11 =>
some (.inl (v11,y6))) (some (.inr y2.2))) (0,[])) fun (y3:List Span) =>
chk (room y3.length 1) <|
bn (Cw n y3) fun v13 =>
some v13
theorem D8 {n:Nat} {a0:List Claim} {a1:Int} {r:List Span} (h:B4 n a0 a1=some r):Sound Try.prog 23 [.l (.d false 4 (encClaim a0)),.l (.s (.int .i64 a1))] [] (.l (.d false 2 (encSpan r))) []:=by
 unfold B4 at h
 refine Sound.of_aw (fn:=Try.f23) (c:=_) Try.func23 rfl (by simp[Try.f23]) fun cx hG hnb=>?_
 rw[show Try.f23.ntmps=29 from rfl]
 have hn0:cx.nb=0:=hnb
 simp only[As,initTm,List.map_cons,List.map_nil]
 apply AW.step
 ·simp
  intros;rfl
 apply AW.step
 ·simp
  intros;rfl
 refine AW.seq ?_
 replace h:=ltE h;obtain⟨v1,e1,h⟩:=h
 apply AW.step
 ·simp[Ak e1]
  intros;rfl
 refine AW.block ?_
 replace h:=bnE h;obtain⟨y3,g3,h⟩:=h
 refine AW.iterP g3 (mk:=fun gh ls q=>(⟨[(1,.l (.s (.int .i64 a1))),(5,.l (.r 0 2 0 q.2.length)),(8,.l (.d false 4 (encClaim a0))),(9,.l (.s (.int .i64 v1))),(10,.l (.s (.int .i64 q.1)))],[some ⟨43,2,true,none,lvs (encSpan q.2)⟩],29,gh,ls⟩:St)) (N:=fun gh ls=>(xP 0 (cx:=cx) (fun q=>(⟨[(5,.l (.r 0 2 0 q.length))],[some ⟨43,2,true,none,lvs (encSpan q)⟩],29,gh,ls⟩:St)))) ?_ noX ?_ ?_
 ·refine W.nilRow 5 43 2 0 (by simp) rfl rfl ?_
  refine Weak.mixN [some 0] hn0 (by decide) ?_ ?_ rfl
  all_goals first|(simp[Ab,Ac,pickOb];done)|rfl
 ·clear h;intro y2 y4 h
  replace h:=ltE h;obtain⟨v5,e5,h⟩:=h
  apply AW.step
  ·simp[← e5]
   intros;rfl
  refine AW.seq ?_
  cases v5 with
  |true =>
   replace h:=iteT rfl h
   refine AW.cond_true (by simp) ?_
   refine AW.skip ?_
   try simp only[nm]
   replace h:=bnE h;obtain⟨y6,g6,h⟩:=h
   refine AW.flow (p:=fun gh ls=>(nP (cx:=cx) (fun q=>(⟨[(1,.l (.s (.int .i64 a1))),(5,.l (.r 0 2 0 q.length)),(8,.l (.d false 4 (encClaim a0))),(9,.l (.s (.int .i64 v1))),(10,.l (.s (.int .i64 y2.1)))],[some ⟨43,2,true,none,lvs (encSpan q)⟩],29,gh,ls⟩:St))) y6) ?_ ?_
   ·replace h:=g6;clear g6
    refine AW.block ?_
    replace h:=bnE h;obtain⟨v7,e7,h⟩:=h
    apply AW.step
    ·simp[Aa e7]
     intros;rfl
    replace h:=ltE h;obtain⟨v8,e8,h⟩:=h
    apply AW.step
    ·simp[← e8]
     intros;rfl
    cases v8 with
    |true =>
     replace h:=iteT rfl h
     refine AW.cond_true (by simp) ?_
     replace h:=chkE h;obtain⟨e9,h⟩:=h
     replace h:=ltE h;obtain⟨v10,e10,h⟩:=h
     apply AW.last
     ·simp[← Ao,← e10,Ar e10]
      intros
      refine Bu ?_
      try simp[← Ao,← e10,Ar e10]
      intros
      refine Bt (acc:=encSpan y2.2) (ys:=encSpan [(⟨v7.frm,v7.to⟩:Span)]) (cap:=none) (k:=1) Dl Dk (by simp) (by simp[encSpan,lvs]) (Bh _) (by simp) (by simp) (by first|(simp;done)|simpa using (Aw e9).1) ?_
      try simp[← Ao,← e10,Ar e10]
      intros;rfl
     obtain rfl:=oi h
     refine nP_i ?_
     refine Weak.mixN [some 3] hn0 (by decide) ?_ ?_ rfl
     all_goals first|(simp[Ab,Ac,pickOb,Bk];done)|rfl
    |false =>
     replace h:=iteF rfl h
     refine AW.cond_false (by simp) ?_
     refine AW.skip ?_
     try simp only[nm]
     obtain rfl:=oi h
     refine nP_i ?_
     refine Weak.mixN [some 0] hn0 (by decide) ?_ ?_ rfl
     all_goals first|(simp[Ab,Ac,pickOb];done)|rfl
   ·rintro e s hp
    obtain⟨rfl,hw⟩:=hp
    refine⟨_,hw,?_⟩
    try simp only[nm]
    replace h:=ltE h;obtain⟨v11,e11,h⟩:=h
    apply AW.last
    ·simp[← e11]
     intros;rfl
    obtain rfl:=oi h
    refine nP_i ?_
    refine Weak.mixN [some 0] hn0 (by decide) ?_ ?_ rfl
    all_goals first|(simp[Ab,Ac,pickOb];done)|rfl
  |false =>
   replace h:=iteF rfl h
   refine AW.cond_false (by simp) ?_
   refine AW.exit ?_
   try simp only[nm]
   obtain rfl:=oi h
   refine xP_i ?_
   refine Weak.mixN [some 0] hn0 (by decide) ?_ ?_ rfl
   all_goals first|(simp[Ab,Ac,pickOb];done)|rfl
 ·rintro e s hp
  obtain⟨rfl,hw⟩:=hp
  refine⟨_,hw,?_⟩
  try simp only[nm]
  replace h:=chkE h;obtain⟨e12,h⟩:=h
  replace h:=bnE h;obtain⟨v13,e13,h⟩:=h
  apply AW.step
  ·simp
   intros
   refine Ah EL (EY e13) rfl ⟨.rowd (by simp) rfl (by omega) (Bh _) (by simp) (by first|exact (Aw e12).2|simpa using (Aw e12).2|simp),trivial⟩ ?_
   try simp
   intros;rfl
  obtain rfl:=oi h
  refine AW.ret ?_
  refine Left.plain hnb (by simp[Try.f23,resV,resC,comp];rfl) rfl rfl ?_
  simp
theorem DY:Enters Try.prog 23:=enters Try.func23 (by kernel_rfl) rfl
end Go.Proofs.Ythjenkmbbnjcnaa
namespace Go.Proofs.Ythjenkmbbnjcnaa
open Go Go.RowKit
def minP (a b:List Span) (t:Int):Prop:=inS a t∧¬ inS b t
instance (a b:List Span) (t:Int):Decidable (minP a b t):=by unfold minP;infer_instance
theorem GT {β:Type} {l:List (Int×Int×β)} (h:canP l) {s:Int} {w:β} (h1:fnP l s=some w) (h2:fnP l (s - 1)≠some w):∃ p∈l,p.1=s:=by
 induction l with
 |nil=>simp[fnP] at h1
 |cons p l ih =>
  rcases Decidable.em (p.1≤s∧s≤p.2.1) with hc|hc
  ·rw[Bz hc.1 hc.2] at h1
   rcases Decidable.em (p.1=s) with e|e
   ·exact⟨p,by simp,e⟩
   ·exact absurd (by rw[Bz (by omega) (by omega)];exact h1) h2
  ·rw[BH hc] at h1
   rcases Decidable.em (p.1≤s - 1∧s - 1≤p.2.1) with hd|hd
   ·-- s is just behind p: it begins a piece of the rest
    have h3:fnP l (s - 1)≠some w:=by
     rw[CM h hd.2]
     simp
    obtain⟨q,hq,e⟩:=ih h.tail h1 h3
    exact⟨q,by simp[hq],e⟩
   ·rw[BH hd] at h2
    obtain⟨q,hq,e⟩:=ih h.tail h1 h2
    exact⟨q,by simp[hq],e⟩
theorem HV {β:Type} {l:List (Int×Int×β)} (h:canP l) {p:Int×Int×β} (hp:p∈l):fnP l p.1=some p.2.2∧fnP l (p.1 - 1)≠some p.2.2:=by
 refine⟨(Dg h hp).2 _ (Int.le_refl _) (Dg h hp).1,?_⟩
 induction l with
 |nil=>simp at hp
 |cons q l ih =>
  rcases List.mem_cons.1 hp with rfl|hp'
  ·have:=h.head
   rw[BH (by omega),CM h (by omega)]
   simp
  ·rcases Decidable.em (q.1≤p.1 - 1∧p.1 - 1≤q.2.1) with hc|hc
   ·rw[Bz hc.1 hc.2]
    intro e
    have e:=Option.some.inj e
    cases l with
    |nil=>simp at hp'
    |cons r l =>
     have hqr:=h.2.1
     rcases List.mem_cons.1 hp' with rfl|hp2
     ·exact h.2.2.1 ⟨by omega,e⟩
     ·have h3:=(canP.tail h).lt p hp2
      have h4:=(canP.tail h).head
      omega
   ·rw[BH hc]
    exact ih h.tail hp'
theorem GU:∀ (l m:List Int),l.Pairwise (·≠·)→(∀ x∈l,x∈m)→l.length≤m.length
 |[],m,_,_=>Nat.zero_le _
 |x::l,m,hn,hs=>by
  rw[List.pairwise_cons] at hn
  have hx:=hs x (by simp)
  have:=GU l (m.erase x) hn.2 fun y hy=>(List.mem_erase_of_ne (fun e=>hn.1 y hy e.symm)).2 (hs y (by simp[hy]))
  rw[List.length_erase_of_mem hx] at this
  have h0:0<m.length:=List.length_pos_of_mem hx
  simp
  omega
theorem FU {β:Type}:∀ {l:List (Int×Int×β)},canP l→(l.map fun p=>p.1).Pairwise (·≠·)
 |[],_=>List.Pairwise.nil
 |p::l,h=>by
  rw[List.map_cons,List.pairwise_cons]
  refine⟨fun x hx=>?_,FU h.tail⟩
  obtain⟨q,hq,rfl⟩:=List.mem_map.1 hx
  have h1:=h.lt q hq
  have h2:=h.head
  omega
theorem JB {a r:List Claim} {v:List Span} {p:Int→Prop} [DecidablePred p] {w:Int×Int} (ha:GoodC a) (hr:GoodC r) (hv:SaysS v p) (hf:∀ s,fC r s=giveF (fC a) p w s):r.length≤a.length+2*v.length:=by
 have h1:=GU ((r.map cP).map fun q=>q.1) (a.map (·.frm)++(v.map (·.frm)++v.map fun x=>x.to+1)) (FU hr.1) fun s hs=>?_
 ·simpa [Nat.two_mul] using h1
 ·obtain⟨q,hq,rfl⟩:=List.mem_map.1 hs
  obtain⟨e1,e2⟩:=HV hr.1 hq
  have e1:fC r q.1=some q.2.2:=e1
  have e2:fC r (q.1 - 1)≠some q.2.2:=e2
  rw[hf] at e1 e2
  unfold giveF at e1 e2
  generalize q.1=s at e1 e2
  generalize q.2.2=u at e1 e2
  rw[List.mem_append,List.mem_append,List.mem_map,List.mem_map,List.mem_map]
  by_cases h3:p s
  ·rw[if_pos h3] at e1
   by_cases h4:p (s - 1)
   ·rw[if_pos h4] at e2
    exact absurd e1 e2
   ·refine .inr (.inl ?_)
    have g1:fnP (v.map sP) s=some ():=by rw[hv.2];exact Gu h3
    have g2:fnP (v.map sP) (s - 1)≠some ():=by rw[hv.2,FG h4];simp
    obtain⟨x,hx,e⟩:=GT hv.1 g1 g2
    obtain⟨y,hy,rfl⟩:=List.mem_map.1 hx
    exact⟨y,hy,e⟩
  ·rw[if_neg h3] at e1
   by_cases h4:p (s - 1)
   ·-- a span ends just ahead
    refine .inr (.inr ?_)
    obtain⟨x,hx,g1,g2⟩:=(hv.iff (s - 1)).2 h4
    have g3:¬ (x.frm≤s∧s≤x.to):=fun h=>h3 ((hv.iff s).1 ⟨x,hx,h⟩)
    exact⟨x,hx,by omega⟩
   ·rw[if_neg h4] at e2
    refine .inl ?_
    obtain⟨x,hx,e⟩:=GT ha.1 e1 e2
    obtain⟨y,hy,rfl⟩:=List.mem_map.1 hx
    exact⟨y,hy,e⟩
theorem FV {a:List Claim} {l:List Span} {nd ep:Int} (ha:GoodC a) (hl:SortableS l) (h1:0≤nd) (h2:1≤ep) :
  Rn (B9 big a l nd ep) fun r=>GoodC r∧(∀ s,fC r s=giveF (fC a) (inS l) (nd,ep) s)∧r.length≤a.length+2*l.length:=by
 refine (I7 ha (by have:=hl.1;omega) h1 h2).mono fun r hr=>?_
 have hg:=hr.good (EP ha.tells DQ h1 h2)
 obtain⟨v,-,h3,h4⟩:=F8 hl
 have:=JB ha hg h3 fun s=>hr.2 s
 exact⟨hg,fun s=>hr.2 s,by omega⟩
structure Made (a:List Claim) (n:Nat):Prop where
 good:GoodC a
 few:a.length≤n
 low:∀ s v,fC a s=some v→v.1≤3∧v.2≤6
theorem HE {ns:List Int} (hn:rngH ns) (hl:ns.length≤60):Rn (C2 big ns) fun r=>Made r 30:=by
 unfold C2
 refine Rn.bn (P:=fun r=>Made r 30) (Rn.iter _ (fun j a=>∃ r:List Claim,a=(r,((4*j:Nat):Int))∧Made r (2*j)∧4*j≤ns.length) 100 (by unfold big;omega) ⟨[],rfl,⟨⟨trivial,fun c hc=>by simp at hc⟩,by simp,fun s v h=>by simp[fC,fnP] at h⟩,by omega⟩ fun j a hj hI=>?_) fun r hr=>Rn.some hr
 obtain⟨r,rfl,r1,r2⟩:=hI
 refine Rn.bn (P:=fun y=>y=true→4*j+3<ns.length) ?_ fun y hy=>Rn.lt (Rn.ite (fun hd=>?_) fun hd=>Rn.some ⟨r1.good,by have:=r1.few;show r.length≤30;omega,r1.low⟩)
 ·refine Rn.lt (Rn.lt (Rn.lt ?_))
  simp only
  rw[Am (by omega) (by omega)]
  refine Rn.ite (fun hd=>Rn.lt (Rn.some fun _=>?_)) fun hd=>Rn.some (by simp)
  have:=of_decide_eq_true (p:=(((4*j:Nat):Int)+3<(ns.length:Int))) hd
  omega
 ·have hjl:=hy hd
  refine Rn.lt ?_
  have e1:addI .i64 ((4*j:Nat):Int) 2=((4*j+2:Nat):Int):=by rw[Am (by omega) (by omega)];omega
  have e2:addI .i64 ((4*j:Nat):Int) 3=((4*j+3:Nat):Int):=by rw[Am (by omega) (by omega)];omega
  have e3:addI .i64 ((4*j:Nat):Int) 4=((4*(j+1):Nat):Int):=by rw[Am (by omega) (by omega)];omega
  simp only
  rw[e1,e2,e3,I4 (show 4*j≤4*j+2 by omega) (by omega)]
  refine Rn.bnE rfl (Rn.bn (GQ (fun x hx=>hn x (List.mem_of_mem_drop (List.mem_of_mem_take hx))) (by simp;omega)) fun s hs=>?_)
  have h2:=hn _ (List.getElem_mem (show 4*j+2<ns.length by omega))
  have h3:=hn _ (List.getElem_mem hjl)
  refine Rn.bnE (AC (show 4*j+2<ns.length by omega)) (Rn.lt ?_)
  rw[DV (by omega) (by omega)]
  refine Rn.bnE (vrem h2.1 (by omega)) (Rn.lt (Rn.bnE (AC hjl) (Rn.lt ?_)))
  rw[DV (by omega) (by omega)]
  refine Rn.bnE (vrem h3.1 (by omega)) (Rn.lt ?_)
  rw[Am (by omega) (by omega)]
  simp at hs
  refine Rn.bn (FV r1.good ⟨by omega,.inl (by unfold sortMost;omega)⟩ (by omega) (by omega)) fun g hg=>Rn.lt (Rn.some ⟨by omega,g,rfl,⟨hg.1,by have:=hg.2.2;have:=r1.few;omega,fun s v h=>?_⟩,by omega⟩)
  rw[hg.2.1] at h
  unfold giveF at h
  split at h
  ·have:=Option.some.inj h
   subst this
   exact⟨by simp only;omega,by simp only;omega⟩
  ·exact r1.low s v h
theorem KJ (l:List Claim) (s:Int) (hl:l.length≤1000000):Ck big l s=some (match fC l s with|some v=>(v.1,v.2,true)|none=>(0,0,false)):=by
 refine Rn.eqv ?_
 unfold Ck
 refine Rn.lt (Rn.bn (P:=fun y=>y=match fC l s with|some v=>.inr (v.1,v.2,true)|none=>.inl ()) (Rn.iter _ (fun j a=>a=(j:Int)∧fC l s=fC (l.drop j) s) l.length (by unfold big;omega) ⟨rfl,by simp⟩ fun j a hj hI=>?_) fun y hy=>?_)
 ·obtain⟨rfl,hI⟩:=hI
  refine Rn.lt (Rn.ite (fun hd=>?_) fun hd=>?_)
  ·have hjl:j<l.length:=by
    have:=of_decide_eq_true (p:=((j:Int)<(l.length:Int))) hd
    omega
   have hnth:=AC hjl
   rw[List.drop_eq_getElem_cons hjl] at hI
   generalize l[j]=c at hI hnth
   refine Rn.bnE hnth ?_
   rcases Decidable.em (c.frm≤s∧s≤c.to) with hc|hc
   ·refine Rn.bnE (v:=true) ?_ (Rn.lt (Rn.ite (fun _=>Rn.some ?_) (fun h=>by simp at h)))
    ·simp only[Av]
     rw[le_t hc.1,AF,le_t hc.2]
    ·rw[hI,show fC (c::List.drop (j+1) l) s=some (c.node,c.epoch) from Bz (p:=cP c) hc.1 hc.2]
   ·refine Rn.bnE (v:=false) ?_ (Rn.lt (Rn.ite (fun h=>by simp at h) fun _=>Rn.lt (Rn.some ⟨hjl,?_,?_⟩)))
    ·simp only[Av]
     rcases Decidable.em (c.frm≤s) with h1|h1
     ·rw[le_t h1,AF,le_f (by omega)]
     ·rw[le_f (by omega),AT]
    ·rw[Am (by omega) (by omega)]
     rfl
    ·rw[hI]
     exact BH (p:=cP c) hc
  ·have hjl:j=l.length:=by
    have:=of_decide_eq_false (p:=((j:Int)<(l.length:Int))) hd
    omega
   subst hjl
   rw[List.drop_length] at hI
   refine Rn.some ?_
   rw[hI]
   rfl
 ·subst hy
  cases fC l s with
  |some v=>exact Rn.some rfl
  |none=>exact Rn.some rfl
def ownP (f:Int→Option (Int×Int)) (nd:Int) (s:Int):Prop:=(f s).map (·.1)=some nd
instance (f:Int→Option (Int×Int)) (nd s:Int):Decidable (ownP f nd s):=by unfold ownP;infer_instance
theorem GoodC.iff {l:List Claim} (h:GoodC l) (s:Int) (v:Int×Int):fC l s=some v↔∃ c∈l,(c.frm≤s∧s≤c.to)∧(c.node,c.epoch)=v:=by
 constructor
 ·intro hv
  have key:∀ l:List Claim,fC l s=some v→∃ c∈l,(c.frm≤s∧s≤c.to)∧(c.node,c.epoch)=v:=by
   intro l
   induction l with
   |nil=>intro h;simp[fC,fnP] at h
   |cons c l ih =>
    intro hf
    rcases Decidable.em (c.frm≤s∧s≤c.to) with h1|h1
    ·have:fC (c::l) s=some (c.node,c.epoch):=Bz (p:=cP c) h1.1 h1.2
     rw[this] at hf
     exact⟨c,by simp,h1,Option.some.inj hf⟩
    ·have:fC (c::l) s=fC l s:=BH (p:=cP c) h1
     rw[this] at hf
     obtain⟨x,hx,h2⟩:=ih hf
     exact⟨x,by simp[hx],h2⟩
  exact key l hv
 ·rintro⟨c,hc,h1,rfl⟩
  exact (Dg h.1 (List.mem_map_of_mem hc)).2 s h1.1 h1.2
theorem GoodC.rises {l:List Claim} (h:GoodC l):l.Pairwise fun x y=>x.frm≤y.frm:=by
 have:∀ l:List Claim,canP (l.map cP)→l.Pairwise fun x y=>x.frm≤y.frm:=by
  intro l
  induction l with
  |nil=>intro _;exact List.Pairwise.nil
  |cons c l ih =>
   intro hc
   rw[List.pairwise_cons]
   refine⟨fun y hy=>?_,ih (canP.tail (p:=cP c) hc)⟩
   have h1:c.to<y.frm:=canP.lt (p:=cP c) hc (cP y) (List.mem_map_of_mem hy)
   have h2:c.frm≤c.to:=canP.head (p:=cP c) hc
   omega
 exact this l h.1
theorem normT:@Cw=@Co:=rfl
theorem JC {l:List Claim} {nd:Int} (hl:GoodC l) (h200:l.length≤200):Rn (B4 big l nd) fun r=>SaysS r (ownP (fC l) nd)∧r.length≤l.length:=by
 unfold B4
 refine Rn.lt (Rn.bn (P:=fun r=>Rises r∧r.length≤l.length∧∀ t,(∃ x∈r,x.frm≤t∧t≤x.to)↔∃ c∈l,(c.frm≤t∧t≤c.to)∧c.node=nd) (Rn.iter _ (fun j y=>∃ r:List Span,y=((j:Int),r)∧Rises r∧r.length≤j∧(∀ x∈r,∃ c∈l.take j,x.frm=c.frm)∧∀ t,(∃ x∈r,x.frm≤t∧t≤x.to)↔∃ c∈l.take j,(c.frm≤t∧t≤c.to)∧c.node=nd) l.length (by unfold big;omega) ⟨[],rfl,List.Pairwise.nil,by simp,by simp,by simp⟩ fun j y hj hI=>?_) fun r hr=>?_)
 ·obtain⟨r,rfl,r1,r2,r3,r4⟩:=hI
  refine Rn.lt (Rn.ite (fun hd=>?_) fun hd=>?_)
  ·have hjl:j<l.length:=by
    have:=of_decide_eq_true (p:=((j:Int)<(l.length:Int))) hd
    omega
   have hnth:=AC hjl
   have htk:l.take (j+1)=l.take j++[l[j]]:=(List.take_append_getElem hjl).symm
   have hbef:∀ y∈l.take j,y.frm≤l[j].frm:=by
    intro y hy
    obtain⟨i,hi,rfl⟩:=List.mem_take_iff_getElem.1 hy
    exact List.pairwise_iff_getElem.1 hl.rises i j (by omega) hjl (by omega)
   generalize l[j]=c at hnth htk hbef
   refine Rn.bn (P:=fun r'=>Rises r'∧r'.length≤j+1∧(∀ x∈r',∃ c∈l.take (j+1),x.frm=c.frm)∧∀ t,(∃ x∈r',x.frm≤t∧t≤x.to)↔∃ c∈l.take (j+1),(c.frm≤t∧t≤c.to)∧c.node=nd) ?_ fun r' hr'=>Rn.lt (Rn.some ⟨hjl,r',?_,hr'⟩)
   ·refine Rn.bnE hnth (Rn.lt (Rn.ite (fun hc=>Rn.chk (by simp[room];omega) (Rn.lt (Rn.some ⟨?_,by simp;omega,fun x hx=>?_,fun t=>?_⟩))) fun hc=>Rn.some ⟨r1,Nat.le_succ_of_le r2,fun x hx=>?_,fun t=>?_⟩))
    ·refine List.pairwise_append.2 ⟨r1,List.pairwise_singleton _ _,fun u hu w hw=>?_⟩
     simp at hw
     subst hw
     obtain⟨y,hy,e⟩:=r3 u hu
     have:=hbef y hy
     simp only
     omega
    ·rw[htk]
     rcases List.mem_append.1 hx with hx|hx
     ·obtain⟨y,hy,e⟩:=r3 x hx
      exact⟨y,by simp[hy],e⟩
     ·simp at hx
      subst hx
      exact⟨c,by simp,rfl⟩
    ·have hn:c.node=nd:=of_decide_eq_true hc
     rw[htk]
     constructor
     ·rintro⟨x,hx,h⟩
      rcases List.mem_append.1 hx with hx|hx
      ·obtain⟨y,hy,h2⟩:=(r4 t).1 ⟨x,hx,h⟩
       exact⟨y,by simp[hy],h2⟩
      ·simp at hx
       subst hx
       exact⟨c,by simp,h,hn⟩
     ·rintro⟨y,hy,h,h2⟩
      rcases List.mem_append.1 hy with hy|hy
      ·obtain⟨x,hx,h3⟩:=(r4 t).2 ⟨y,hy,h,h2⟩
       exact⟨x,by simp[hx],h3⟩
      ·simp at hy
       subst hy
       exact⟨⟨y.frm,y.to⟩,by simp,h⟩
    ·obtain⟨y,hy,e⟩:=r3 x hx
     exact⟨y,by rw[htk];simp[hy],e⟩
    ·have hn:c.node≠nd:=of_decide_eq_false hc
     rw[r4 t,htk]
     constructor
     ·rintro⟨y,hy,h⟩
      exact⟨y,by simp[hy],h⟩
     ·rintro⟨y,hy,h,h2⟩
      rcases List.mem_append.1 hy with hy|hy
      ·exact⟨y,hy,h,h2⟩
      ·simp at hy
       subst hy
       exact absurd h2 hn
   ·rw[Am (by first|omega|(simp only;omega)) (by first|omega|(simp only;omega))]
    rfl
  ·have hjl:j=l.length:=by
    have:=of_decide_eq_false (p:=((j:Int)<(l.length:Int))) hd
    omega
   subst hjl
   rw[List.take_length] at r4
   exact Rn.some ⟨r1,r2,r4⟩
 ·obtain⟨r1,r2,r3⟩:=hr
  refine Rn.chk (by simp[room];omega) ?_
  rw[normT]
  refine Rn.bn (F8 ⟨by omega,.inr r1⟩) fun v hv=>Rn.some ⟨?_,by omega⟩
  refine SaysS.of hv.1.1 fun t=>?_
  rw[hv.1.iff]
  unfold inS ownP
  rw[r3 t]
  constructor
  ·rintro⟨h1,c,hc,h2,h3⟩
   rw[(hl.iff t _).2 ⟨c,hc,h2,rfl⟩,← h3]
   rfl
  ·intro h
   cases hf:fC l t with
   |none=>rw[hf] at h;simp at h
   |some w =>
    rw[hf] at h
    obtain⟨c,hc,h2,rfl⟩:=(hl.iff t w).1 hf
    have:=(hl.tells t _ hf).1
    exact⟨by omega,c,hc,h2,by simpa using h⟩
theorem SaysS.empty {l:List Span} {p:Int→Prop} [DecidablePred p] (h:SaysS l p) (hp:∀ t,¬ p t):l=[]:=by
 cases l with
 |nil=>rfl
 |cons x l=>exact absurd ((h.iff x.frm).1 ⟨x,by simp,Int.le_refl _,h.1.head⟩) (hp _)
end Go.Proofs.Ythjenkmbbnjcnaa
