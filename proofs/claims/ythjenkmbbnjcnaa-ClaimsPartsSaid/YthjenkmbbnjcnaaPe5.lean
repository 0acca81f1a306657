/- Part 5 of the proof. -/
import Derived.Test.YthjenkmbbnjcnaaPe4
set_option linter.unusedVariables false
set_option linter.unusedSimpArgs false
set_option linter.constructorNameAsVariable false
set_option maxRecDepth 8000
set_option maxHeartbeats 8000000
namespace Go.Proofs.Ythjenkmbbnjcnaa
open Go Go.RowKit
def DC (n:Nat) (a0:List Span):Option (List Span) :=
lt (lenI a0) fun v1 =>
bn (iter n (fun (y2:Int×List Span) =>
lt (ltI y2.1 v1) fun v5 =>
ite' v5 (bn (bn (nth a0 y2.1) fun v7 =>
lt (maxI v7.frm 0) fun v8 =>
lt (minI v7.to 16383) fun v9 =>
lt (leI v8 v9) fun v10 =>
ite' v10 (chk (room (y2.2.length+1) 16) <|
lt (y2.2++[(⟨v8,v9⟩:Span)]) fun v12 =>
some (v12)) (some (y2.2))) fun (y6:List Span) =>
lt (addI .i64 y2.1 1) fun v13 =>
some (.inl (v13,y6))) (some (.inr y2.2))) (0,[])) fun (y3:List Span) =>
bn (Bf n y3) fun v14 =>
chk (lenB v14 y3) <|
chk (room v14.length 1) <|
some v14
theorem F4 {n:Nat} {a0:List Span} {r:List Span} (h:DC n a0=some r):Sound Try.prog 69 [.l (.d true 2 (encSpan a0))] [] (.l (.d false 2 (encSpan r))) []:=by
 unfold DC at h
 refine Sound.of_aw (fn:=Try.f69) (c:=_) Try.func69 rfl (by simp[Try.f69]) fun cx hG hnb=>?_
 rw[show Try.f69.ntmps=32 from rfl]
 have hn0:cx.nb=0:=hnb
 simp only[At,initTm,List.map_cons,List.map_nil]
 apply AW.step
 ·simp
  intros;rfl
 apply AW.step
 ·simp
  intros;rfl
 refine AW.seq ?_
 replace h:=ltE h;obtain⟨v1,e1,h⟩:=h
 apply AW.step
 ·simp[Al e1]
  intros;rfl
 refine AW.block ?_
 replace h:=bnE h;obtain⟨y3,g3,h⟩:=h
 refine AW.iterP g3 (mk:=fun gh ls q=>(⟨[(3,.l (.r 0 2 0 q.2.length)),(6,.l (.d true 2 (encSpan a0))),(7,.l (.s (.int .i64 v1))),(8,.l (.s (.int .i64 q.1)))],[some ⟨43,2,true,none,lvs (encSpan q.2)⟩],32,gh,ls⟩:St)) (N:=fun gh ls=>(xP 0 (cx:=cx) (fun q=>(⟨[(3,.l (.r 0 2 0 q.length))],[some ⟨43,2,true,none,lvs (encSpan q)⟩],32,gh,ls⟩:St)))) ?_ noX ?_ ?_
 ·refine W.nilRow 3 43 2 0 (by simp) rfl rfl ?_
  refine Weak.mixN [some 0] hn0 (by decide) ?_ ?_ rfl
  all_goals first|(simp[Ab,Ac,pickOb];done)|rfl
 ·clear h;intro y2 y4 h
  replace h:=ltE h;obtain⟨v5,e5,h⟩:=h
  apply AW.step
  ·simp[← e5]
   intros;rfl
  refine AW.seq ?_
  cases v5 with
  |true =>
   replace h:=iteT rfl h
   refine AW.cond_true (by simp) ?_
   refine AW.skip ?_
   try simp only[nm]
   replace h:=bnE h;obtain⟨y6,g6,h⟩:=h
   refine AW.flow (p:=fun gh ls=>(nP (cx:=cx) (fun q=>(⟨[(3,.l (.r 0 2 0 q.length)),(6,.l (.d true 2 (encSpan a0))),(7,.l (.s (.int .i64 v1))),(8,.l (.s (.int .i64 y2.1)))],[some ⟨43,2,true,none,lvs (encSpan q)⟩],32,gh,ls⟩:St))) y6) ?_ ?_
   ·replace h:=g6;clear g6
    refine AW.block ?_
    replace h:=bnE h;obtain⟨v7,e7,h⟩:=h
    apply AW.step
    ·simp[Aa e7]
     intros;rfl
    replace h:=ltE h;obtain⟨v8,e8,h⟩:=h
    replace h:=ltE h;obtain⟨v9,e9,h⟩:=h
    apply AW.step
    ·simp[← e8,← e9]
     intros;rfl
    replace h:=ltE h;obtain⟨v10,e10,h⟩:=h
    apply AW.step
    ·simp[← e10]
     intros;rfl
    cases v10 with
    |true =>
     replace h:=iteT rfl h
     refine AW.cond_true (by simp) ?_
     replace h:=chkE h;obtain⟨e11,h⟩:=h
     replace h:=ltE h;obtain⟨v12,e12,h⟩:=h
     apply AW.last
     ·simp[← Ap,← e12,Ax e12]
      intros
      refine Bu ?_
      try simp[← Ap,← e12,Ax e12]
      intros
      refine Br (acc:=encSpan y2.2) (ys:=encSpan [(⟨v8,v9⟩:Span)]) (cap:=none) (k:=1) Dv Du (by simp) (by simp[encSpan,lvs]) (AP _) (by simp) (by simp) (by first|(simp;done)|simpa using (Av e11).1) ?_
      try simp[← Ap,← e12,Ax e12]
      intros;rfl
     obtain rfl:=oi h
     refine nP_i ?_
     refine Weak.mixN [some 3] hn0 (by decide) ?_ ?_ rfl
     all_goals first|(simp[Ab,Ac,pickOb,Bk];done)|rfl
    |false =>
     replace h:=iteF rfl h
     refine AW.cond_false (by simp) ?_
     refine AW.skip ?_
     try simp only[nm]
     obtain rfl:=oi h
     refine nP_i ?_
     refine Weak.mixN [some 0] hn0 (by decide) ?_ ?_ rfl
     all_goals first|(simp[Ab,Ac,pickOb];done)|rfl
   ·rintro e s hp
    obtain⟨rfl,hw⟩:=hp
    refine⟨_,hw,?_⟩
    try simp only[nm]
    replace h:=ltE h;obtain⟨v13,e13,h⟩:=h
    apply AW.last
    ·simp[← e13]
     intros;rfl
    obtain rfl:=oi h
    refine nP_i ?_
    refine Weak.mixN [some 0] hn0 (by decide) ?_ ?_ rfl
    all_goals first|(simp[Ab,Ac,pickOb];done)|rfl
  |false =>
   replace h:=iteF rfl h
   refine AW.cond_false (by simp) ?_
   refine AW.exit ?_
   try simp only[nm]
   obtain rfl:=oi h
   refine xP_i ?_
   refine Weak.mixN [some 0] hn0 (by decide) ?_ ?_ rfl
   all_goals first|(simp[Ab,Ac,pickOb];done)|rfl
 ·rintro e s hp
  obtain⟨rfl,hw⟩:=hp
  refine⟨_,hw,?_⟩
  try simp only[nm]
  refine AW.pin 0 (ty:=43) (sz:=2) (cs:=lvs (encSpan y3)) (by simp) hn0 (by omega) rfl ?_
  replace h:=bnE h;obtain⟨v14,e14,h⟩:=h
  replace h:=chkE h;obtain⟨e15,h⟩:=h
  apply AW.step
  ·simp
   intros
   refine Aq [0] DW (D1 e14) (by decide) (by simp[pickOb,Ab,Ac]) rfl rfl (by simp) ⟨.l (.own' (by simp[Ab,Ac]) (by simp)),.l (.s _),trivial⟩ ?_
   try simp
   intros;rfl
  apply AW.step
  ·simp
   intros;rfl
  replace h:=chkE h;obtain⟨e16,h⟩:=h
  refine AW.unpin 0 (ty:=43) (sz:=2) (cs:=lvs (encSpan v14)) (by simp) rfl ?_
  refine AW.frzRow 0 (ty:=43) (cap:=none) (sz:=2) (es:=encSpan v14) (by simp) (by omega) (AP _) (by first|exact (Av e16).2|simpa using (Av e16).2|simp) (by simp[Tm.frz,AV.frz,LV.frz,Ak e15];rfl) (by simp[Ob.frz,LV.frz,Ak e15];rfl) rfl ?_
  obtain rfl:=oi h
  refine AW.ret ?_
  refine Left.plain hnb (by simp[Try.f69,resV,resC,comp];rfl) rfl rfl ?_
  simp
theorem FP:Enters Try.prog 69:=enters Try.func69 (by kernel_rfl) rfl
def B7 (n:Nat) (a0:List Span):Option (List Span) :=
bn (DC n a0) fun v1 =>
lt (lenI v1) fun v2 =>
bn (iter n (fun (y3:Int×List Span) =>
lt (ltI y3.1 v2) fun v6 =>
ite' v6 (bn (bn (nth v1 y3.1) fun v8 =>
lt (lenI y3.2) fun v9 =>
bn (lt (gtI v9 0) fun v11 =>
ite' v11 (lt (subI .i64 v9 1) fun v12 =>
bn (nth y3.2 v12) fun v13 =>
lt (addI .i64 v13.to 1) fun v15 =>
lt (leI v8.frm v15) fun v16 =>
some (v16)) (some (false))) fun (y10:Bool) =>
lt (y10) fun v17 =>
ite' v17 (lt (subI .i64 v9 1) fun v18 =>
bn (nth y3.2 v18) fun v19 =>
lt (maxI v19.to v8.to) fun v21 =>
lt (y3.2.set v18.toNat (⟨v19.frm,v21⟩:Span)) fun v23 =>
some (v23)) (chk (room (y3.2.length+1) 16) <|
lt (y3.2++[v8]) fun v28 =>
some (v28))) fun (y7:List Span) =>
lt (addI .i64 y3.1 1) fun v29 =>
some (.inl (v29,y7))) (some (.inr y3.2))) (0,[])) fun (y4:List Span) =>
chk (room y4.length 1) <|
some y4
def DX3t1:List DI:=[⟨[0],[],[(6,none)],false⟩,⟨[0],[0],[(16,some 0)],false⟩,⟨[0],[0,1],[(17,some 1)],false⟩,⟨[0],[0,1,2],[(5,none),(18,some 2)],false⟩,⟨[0],[0,1,2,3],[(18,some 2),(19,some 3)],false⟩,⟨[0],[0,1,2],[(3,none),(18,some 2)],false⟩,⟨[0],[0,1,2],[(6,none),(18,some 2)],false⟩,⟨[0],[0,1,2,6],[(18,some 2),(22,some 6)],false⟩,⟨[0],[0,1,2,5,6,7],[(18,some 2),(21,some 5),(23,some 7)],false⟩,⟨[0],[0,1,2,5,6,7,8],[(18,some 2),(24,some 8)],false⟩,⟨[0],[0,1,2,5,6,7,8,9],[(18,some 2),(25,some 9)],false⟩,⟨[0],[0,1,2,5,6,7,8,9,10],[(18,some 2),(26,some 10)],false⟩,⟨[],[0,1,2,3,4,5,6,7,8,9,10,11],[],false⟩,⟨[],[0,1,2,3,4,5,6,7,8,9,10,11,12],[],false⟩]
theorem Ey {n:Nat} {a0:List Span} {r:List Span} (h:B7 n a0=some r):Sound Try.prog 49 [.l (.d true 2 (encSpan a0))] [] (.l (.d false 2 (encSpan r))) []:=by
 unfold B7 at h
 refine Sound.of_aw (fn:=Try.f49) (c:=_) Try.func49 rfl (by simp[Try.f49]) fun cx hG hnb=>?_
 rw[show Try.f49.ntmps=50 from rfl]
 have hn0:cx.nb=0:=hnb
 simp only[At,initTm,List.map_cons,List.map_nil]
 apply AW.step
 ·simp
  intros;rfl
 apply AW.step
 ·simp
  intros;rfl
 refine AW.seq ?_
 replace h:=bnE h;obtain⟨v1,e1,h⟩:=h
 replace h:=ltE h;obtain⟨v2,e2,h⟩:=h
 apply AW.step
 ·simp[Al e2]
  intros
  refine Ai FP (F4 e1) rfl ⟨.d _ _ _,trivial⟩ ?_
  try simp[Al e2]
  intros;rfl
 refine AW.block ?_
 replace h:=bnE h;obtain⟨y4,g4,h⟩:=h
 refine AW.iterP g4 (mk:=fun gh ls q=>(⟨[(3,.l (.r 0 2 0 q.2.length)),(8,.l (.d false 2 (encSpan v1))),(9,.l (.s (.int .i64 v2))),(10,.l (.s (.int .i64 q.1)))],[some ⟨43,2,true,none,lvs (encSpan q.2)⟩],50,gh,ls⟩:St)) (N:=fun gh ls=>(xP 0 (cx:=cx) (fun q=>(⟨[(3,.l (.r 0 2 0 q.length))],[some ⟨43,2,true,none,lvs (encSpan q)⟩],50,gh,ls⟩:St)))) ?_ noX ?_ ?_
 ·refine W.nilRow 3 43 2 0 (by simp) rfl rfl ?_
  refine Weak.mixN [some 0] hn0 (by decide) ?_ ?_ rfl
  all_goals first|(simp[Ab,Ac,pickOb];done)|rfl
 ·clear h;intro y3 y5 h
  replace h:=ltE h;obtain⟨v6,e6,h⟩:=h
  apply AW.step
  ·simp[← e6]
   intros;rfl
  refine AW.seq ?_
  cases v6 with
  |true =>
   replace h:=iteT rfl h
   refine AW.cond_true (by simp) ?_
   refine AW.skip ?_
   try simp only[nm]
   replace h:=bnE h;obtain⟨y7,g7,h⟩:=h
   refine AW.flow (p:=fun gh ls=>(nP (cx:=cx) (fun q=>(⟨[(3,.l (.r 0 2 0 q.length)),(8,.l (.d false 2 (encSpan v1))),(9,.l (.s (.int .i64 v2))),(10,.l (.s (.int .i64 y3.1)))],[some ⟨43,2,true,none,lvs (encSpan q)⟩],50,gh,ls⟩:St))) y7) ?_ ?_
   ·replace h:=g7;clear g7
    refine AW.block ?_
    replace h:=bnE h;obtain⟨v8,e8,h⟩:=h
    apply AW.step
    ·simp[Aa e8]
     intros;rfl
    refine AW.seq ?_
    replace h:=ltE h;obtain⟨v9,e9,h⟩:=h
    apply AW.step
    ·simp[Al e9]
     intros;rfl
    replace h:=bnE h;obtain⟨y10,g10,h⟩:=h
    refine AW.flow (p:=fun gh ls=>(nP (cx:=cx) (fun q=>(⟨[(3,.l (.r 0 2 0 y3.2.length)),(5,.l (.p 1 0)),(6,.l (.s (.int .i64 v9))),(8,.l (.d false 2 (encSpan v1))),(9,.l (.s (.int .i64 v2))),(10,.l (.s (.int .i64 y3.1))),(29,.l (.s (.bool q)))],[some ⟨43,2,true,none,lvs (encSpan y3.2)⟩,some ⟨43,2,false,none,[.s (.int .i64 v8.frm),.s (.int .i64 v8.to)]⟩],50,gh,ls⟩:St))) y10) ?_ ?_
    ·replace h:=g10;clear g10
     replace h:=ltE h;obtain⟨v11,e11,h⟩:=h
     cases v11 with
     |true =>
      replace h:=iteT rfl h
      replace h:=ltE h;obtain⟨v12,e12,h⟩:=h
      replace h:=bnE h;obtain⟨v13,e13,h⟩:=h
      have f14:=Ah e13
      try simp[← e11,← e12,Aa e13] at f14
      replace h:=ltE h;obtain⟨v15,e15,h⟩:=h
      replace h:=ltE h;obtain⟨v16,e16,h⟩:=h
      apply AW.drawnR (V:=[_,_,_,_,_,_,_,_,_,_,_,_]) mixed DX3t1 12 (by kernel_rfl) (by kernel_rfl)
      ·refine⟨?_,?_,?_,?_,?_,?_,?_,?_,?_,?_,?_,?_,trivial⟩
       iterate 12 (· intro tm hr;simp[AllL,rdV] at hr;simp[hr,← e11,← e12,Aa e13,f14,Bl (Aa e13).2 (j:=1) (by decide),lvs1,← e15,← e16];intros;first|exact KD.mk|exact KD.mkN)
      ·rfl
      ·simp[tmD,putD,← e11,← e12,Aa e13,f14,Bl (Aa e13).2 (j:=1) (by decide),lvs1,← e15,← e16];rfl
      ·simp[← e11,← e12,Aa e13,f14,Bl (Aa e13).2 (j:=1) (by decide),lvs1,← e15,← e16]
       intros;rfl
      obtain rfl:=oi h
      refine nP_i ?_
      refine Weak.mixN [some 0,some 1] hn0 (by decide) ?_ ?_ rfl
      all_goals first|(simp[Ab,Ac,pickOb];done)|rfl
     |false =>
      replace h:=iteF rfl h
      apply AW.drawnR (V:=[_,_,_,_,_,_,_,_,_,_,_,_]) mixed DX3t1 12 (by kernel_rfl) (by kernel_rfl)
      ·refine⟨?_,?_,?_,?_,?_,?_,?_,?_,?_,?_,?_,?_,trivial⟩
       iterate 12 (· intro tm hr;simp[AllL,rdV] at hr;simp[hr,← e11];intros;first|exact KD.mk|exact KD.mkN)
      ·rfl
      ·simp[tmD,putD,← e11];rfl
      ·simp[← e11]
       intros;rfl
      obtain rfl:=oi h
      refine nP_i ?_
      refine Weak.mixN [some 0,some 1] hn0 (by decide) ?_ ?_ rfl
      all_goals first|(simp[Ab,Ac,pickOb];done)|rfl
    ·rintro e s hp
     obtain⟨rfl,hw⟩:=hp
     refine⟨_,hw,?_⟩
     try simp only[nm]
     replace h:=ltE h;obtain⟨v17,e17,h⟩:=h
     rw[← e17]
     cases v17 with
     |true =>
      replace h:=iteT rfl h
      refine AW.cond_true (by simp) ?_
      replace h:=ltE h;obtain⟨v18,e18,h⟩:=h
      replace h:=bnE h;obtain⟨v19,e19,h⟩:=h
      have f20:=Ah e19
      try simp[← e18,Aa e19] at f20
      replace h:=ltE h;obtain⟨v21,e21,h⟩:=h
      have f22:=Ah e19
      try simp[← e18,Aa e19,f20,Bl (Aa e19).2 (j:=1) (by decide),lvs1,← e21] at f22
      replace h:=ltE h;obtain⟨v23,e23,h⟩:=h
      have f24:=Es (Aa e19).2 e23 (j:=1) (cs:=[.s (.int .i64 v21)]) (by simp) rfl
      try simp at f24
      have f25:=f20
      try simp only[Af e23] at f25
      have f26:=f22
      try simp only[Af e23] at f26
      apply AW.drawnP (V:=[_,_,_,_,_,_,_,_,_,_,_,_]) mixed [⟨[0],[],[(3,none)],false⟩,⟨[0],[],[(6,none)],false⟩,⟨[0],[1],[(31,some 1)],false⟩,⟨[0],[],[(3,none)],false⟩,⟨[0],[],[(6,none)],false⟩,⟨[0],[4],[(34,some 4)],false⟩,⟨[0],[3,4,5],[(33,some 3),(35,some 5)],false⟩,⟨[0],[3,4,5,6],[(36,some 6)],false⟩,⟨[0],[3,4,5,6,7],[(37,some 7)],false⟩,⟨[0],[],[(5,none)],false⟩,⟨[0],[9],[(39,some 9)],false⟩,⟨[0],[3,4,5,6,7,8,9,10],[(38,some 8),(40,some 10)],false⟩,⟨[],[0,1,2,3,4,5,6,7,8,9,10,11],[],false⟩,⟨[],[0,1,2,3,4,5,6,7,8,9,10,11,12],[],false⟩,⟨[],[0,1,2,3,4,5,6,7,8,9,10,11,12,13],[],false⟩] 12 (by kernel_rfl) (by kernel_rfl)
      ·refine⟨?_,?_,?_,?_,?_,?_,?_,?_,?_,?_,?_,?_,trivial⟩
       iterate 12 (· intro tm hr;simp[AllL,rdV] at hr;simp[hr,← e18,Aa e19,f20,Bl (Aa e19).2 (j:=1) (by decide),lvs1,← e21,f22,CO (Aa e19).2 (j:=1) (m:=1) (by decide),f24,f25,f26];intros;first|exact KD.mk|exact KD.mkN)
      ·rfl
      ·simp[tmD,putD,← e18,Aa e19,f20,Bl (Aa e19).2 (j:=1) (by decide),lvs1,← e21,f22,CO (Aa e19).2 (j:=1) (m:=1) (by decide),f24,f25,f26];rfl
      ·simp[← e18,Aa e19,f20,Bl (Aa e19).2 (j:=1) (by decide),lvs1,← e21,f22,CO (Aa e19).2 (j:=1) (m:=1) (by decide),f24,f25,f26]
       intros;rfl
      refine AW.exit ?_
      try simp only[nm]
      obtain rfl:=oi h
      refine nP_i ?_
      refine Weak.mixN [some 0] hn0 (by decide) ?_ ?_ rfl
      all_goals first|(simp[Ab,Ac,pickOb,Af e23];done)|rfl
     |false =>
      replace h:=iteF rfl h
      refine AW.cond_false (by simp) ?_
      refine AW.skip ?_
      try simp only[nm]
      replace h:=chkE h;obtain⟨e27,h⟩:=h
      replace h:=ltE h;obtain⟨v28,e28,h⟩:=h
      apply AW.last
      ·simp[← Ap,← e28,Ax e28]
       intros
       refine Bu ?_
       try simp[← Ap,← e28,Ax e28]
       intros
       refine Br (acc:=encSpan y3.2) (ys:=encSpan [v8]) (cap:=none) (k:=1) Dv Du (by simp) (by simp[encSpan,lvs]) (AP _) (by simp) (by simp) (by first|(simp;done)|simpa using (Av e27).1) ?_
       try simp[← Ap,← e28,Ax e28]
       intros;rfl
      obtain rfl:=oi h
      refine nP_i ?_
      refine Weak.mixN [some 3] hn0 (by decide) ?_ ?_ rfl
      all_goals first|(simp[Ab,Ac,pickOb,Bk];done)|rfl
   ·rintro e s hp
    obtain⟨rfl,hw⟩:=hp
    refine⟨_,hw,?_⟩
    try simp only[nm]
    replace h:=ltE h;obtain⟨v29,e29,h⟩:=h
    apply AW.last
    ·simp[← e29]
     intros;rfl
    obtain rfl:=oi h
    refine nP_i ?_
    refine Weak.mixN [some 0] hn0 (by decide) ?_ ?_ rfl
    all_goals first|(simp[Ab,Ac,pickOb];done)|rfl
  |false =>
   replace h:=iteF rfl h
   refine AW.cond_false (by simp) ?_
   refine AW.exit ?_
   try simp only[nm]
   obtain rfl:=oi h
   refine xP_i ?_
   refine Weak.mixN [some 0] hn0 (by decide) ?_ ?_ rfl
   all_goals first|(simp[Ab,Ac,pickOb];done)|rfl
 ·rintro e s hp
  obtain⟨rfl,hw⟩:=hp
  refine⟨_,hw,?_⟩
  try simp only[nm]
  apply AW.step
  ·simp
   intros;rfl
  replace h:=chkE h;obtain⟨e30,h⟩:=h
  refine AW.frzRow 0 (ty:=43) (cap:=none) (sz:=2) (es:=encSpan y4) (by simp) (by omega) (AP _) (by first|exact (Av e30).2|simpa using (Av e30).2|simp) (by simp[Tm.frz,AV.frz,LV.frz];rfl) (by simp[Ob.frz,LV.frz];rfl) rfl ?_
  obtain rfl:=oi h
  refine AW.ret ?_
  refine Left.plain hnb (by simp[Try.f49,resV,resC,comp];rfl) rfl rfl ?_
  simp
theorem Eq:Enters Try.prog 49:=enters Try.func49 (by kernel_rfl) rfl
def CG (n:Nat) (a0:List Claim) (a1:List Span) (a2:Int) (a3:Int):Option (List Claim) :=
bn (B7 n a1) fun v1 =>
lt (lenI v1) fun v2 =>
bn (iter n (fun (y3:Int×List Claim) =>
lt (ltI y3.1 v2) fun v6 =>
ite' v6 (bn (nth v1 y3.1) fun v7 =>
chk (room (y3.2.length+1) 32) <|
lt (y3.2++[(⟨v7.frm,v7.to,a2,a3⟩:Claim)]) fun v9 =>
lt (addI .i64 y3.1 1) fun v10 =>
some (.inl (v10,v9))) (some (.inr y3.2))) (0,[])) fun (y4:List Claim) =>
bn (chk (room y4.length 1) <|
bn (Ct n a0 y4) fun v13 =>
bn (iter n (fun (y14:Int×List Claim×List Claim×ClaimsPiece×List Claim) =>
lt (leI y14.1 16383) fun v17 =>
ite' v17 (bn (BT n y14.2.1 y14.1) fun v18 =>
bn (BT n y14.2.2.1 y14.1) fun v19 =>
lt (minI v18.1.to v19.1.to) fun v20 =>
bn (lt (gtI v19.1.epoch 0) fun v22 =>
ite' v22 (some ((⟨(⟨v19.1.frm,v20,v19.1.node,v19.1.epoch⟩:Claim),(⟨v19.1.frm,v20,v19.1.node,v19.1.epoch⟩:Claim)⟩:ClaimsPiece))) (some ((⟨(⟨v18.1.frm,v20,v18.1.node,v18.1.epoch⟩:Claim),(⟨v19.1.frm,v20,v19.1.node,v19.1.epoch⟩:Claim)⟩:ClaimsPiece)))) fun (y21:ClaimsPiece) =>
bn (BY n y14.2.2.2.2 y21.a) fun v23 =>
lt (addI .i64 v20 1) fun v24 =>
some (.inl (v24,v18.2,v19.2,(⟨(⟨v18.1.frm,v20,v18.1.node,v18.1.epoch⟩:Claim),(⟨v19.1.frm,v20,v19.1.node,v19.1.epoch⟩:Claim)⟩:ClaimsPiece),v23))) (some (.inr (y14.2.1,y14.2.2.1,y14.2.2.2.2)))) (0,v13.1,v13.2,(⟨(⟨0,0,0,0⟩:Claim),(⟨0,0,0,0⟩:Claim)⟩:ClaimsPiece),[])) fun (y15:List Claim×List Claim×List Claim) =>
some (y15.2.2)) fun (y11:List Claim) =>
chk (room y11.length 1) <|
some y11
theorem E4 {n:Nat} {a0:List Claim} {a1:List Span} {a2:Int} {a3:Int} {r:List Claim} (h:CG n a0 a1 a2 a3=some r):Sound Try.prog 19 [.l (.d false 4 (encClaim a0)),.l (.d true 2 (encSpan a1)),.l (.s (.int .i64 a2)),.l (.s (.int .i64 a3))] [] (.l (.d false 4 (encClaim r))) []:=by
 unfold CG at h
 refine Sound.of_aw (fn:=Try.f19) (c:=_) Try.func19 rfl (by simp[Try.f19]) fun cx hG hnb=>?_
 rw[show Try.f19.ntmps=48 from rfl]
 have hn0:cx.nb=0:=hnb
 simp only[At,initTm,List.map_cons,List.map_nil]
 apply AW.step
 ·simp
  intros;rfl
 apply AW.step
 ·simp
  intros;rfl
 refine AW.seq ?_
 replace h:=bnE h;obtain⟨v1,e1,h⟩:=h
 replace h:=ltE h;obtain⟨v2,e2,h⟩:=h
 apply AW.step
 ·simp[Al e2]
  intros
  refine Ai Eq (Ey e1) rfl ⟨.d _ _ _,trivial⟩ ?_
  try simp[Al e2]
  intros;rfl
 refine AW.block ?_
 replace h:=bnE h;obtain⟨y4,g4,h⟩:=h
 refine AW.iterP g4 (mk:=fun gh ls q=>(⟨[(0,.l (.d false 4 (encClaim a0))),(2,.l (.s (.int .i64 a2))),(3,.l (.s (.int .i64 a3))),(9,.l (.r 0 4 0 q.2.length)),(10,.l (.p 1 0)),(15,.l (.d false 2 (encSpan v1))),(16,.l (.s (.int .i64 v2))),(17,.l (.s (.int .i64 q.1)))],[some ⟨41,4,true,none,lvs (encClaim q.2)⟩,some ⟨24,1,false,none,[.s (.slice none 0 0)]⟩],48,gh,ls⟩:St)) (N:=fun gh ls=>(xP 0 (cx:=cx) (fun q=>(⟨[(0,.l (.d false 4 (encClaim a0))),(9,.l (.r 0 4 0 q.length)),(10,.l (.p 1 0))],[some ⟨41,4,true,none,lvs (encClaim q)⟩,some ⟨24,1,false,none,[.s (.slice none 0 0)]⟩],48,gh,ls⟩:St)))) ?_ noX ?_ ?_
 ·refine W.nilRow 9 41 4 1 (by simp) rfl rfl ?_
  refine Weak.mixN [some 1,some 0] hn0 (by decide) ?_ ?_ rfl
  all_goals first|(simp[Ab,Ac,pickOb];done)|rfl
 ·clear h;intro y3 y5 h
  replace h:=ltE h;obtain⟨v6,e6,h⟩:=h
  apply AW.step
  ·simp[← e6]
   intros;rfl
  refine AW.seq ?_
  cases v6 with
  |true =>
   replace h:=iteT rfl h
   refine AW.cond_true (by simp) ?_
   refine AW.skip ?_
   try simp only[nm]
   refine AW.seq ?_
   refine AW.block ?_
   replace h:=bnE h;obtain⟨v7,e7,h⟩:=h
   apply AW.step
   ·simp[Aa e7]
    intros;rfl
   replace h:=chkE h;obtain⟨e8,h⟩:=h
   replace h:=ltE h;obtain⟨v9,e9,h⟩:=h
   apply AW.last
   ·simp[← Bp,← e9,Ax e9]
    intros
    refine Bu ?_
    try simp[← Bp,← e9,Ax e9]
    intros
    refine Br (acc:=encClaim y3.2) (ys:=encClaim [(⟨v7.frm,v7.to,a2,a3⟩:Claim)]) (cap:=none) (k:=1) FY FX (by simp) (by simp[encClaim,lvs]) (Cc _) (by simp) (by simp) (by first|(simp;done)|simpa using (Av e8).1) ?_
    try simp[← Bp,← e9,Ax e9]
    intros;rfl
   try simp only[nm]
   replace h:=ltE h;obtain⟨v10,e10,h⟩:=h
   apply AW.last
   ·simp[← e10]
    intros;rfl
   obtain rfl:=oi h
   refine nP_i ?_
   refine Weak.mixN [some 4,some 1] hn0 (by decide) ?_ ?_ rfl
   all_goals first|(simp[Ab,Ac,pickOb,Di];done)|rfl
  |false =>
   replace h:=iteF rfl h
   refine AW.cond_false (by simp) ?_
   refine AW.exit ?_
   try simp only[nm]
   obtain rfl:=oi h
   refine xP_i ?_
   refine Weak.mixN [some 0,some 1] hn0 (by decide) ?_ ?_ rfl
   all_goals first|(simp[Ab,Ac,pickOb];done)|rfl
 ·rintro e s hp
  obtain⟨rfl,hw⟩:=hp
  refine⟨_,hw,?_⟩
  try simp only[nm]
  replace h:=bnE h;obtain⟨y11,g11,h⟩:=h
  refine AW.flow (p:=fun gh ls=>(nP (cx:=cx) (fun q=>(⟨[(10,.l (.p 0 0))],[some ⟨24,1,false,none,[.r 1 4 0 q.length]⟩,some ⟨41,4,true,none,lvs (encClaim q)⟩],48,gh,ls⟩:St))) y11) ?_ ?_
  ·replace h:=g11;clear g11
   replace h:=chkE h;obtain⟨e12,h⟩:=h
   refine AW.frzRow 0 (ty:=41) (cap:=none) (sz:=4) (es:=encClaim y4) (by simp) (by omega) (Cc _) (by first|exact (Av e12).2|simpa using (Av e12).2|simp) (by simp[Tm.frz,AV.frz,LV.frz];rfl) (by simp[Ob.frz,LV.frz];rfl) rfl ?_
   replace h:=bnE h;obtain⟨v13,e13,h⟩:=h
   apply AW.step
   ·simp
    intros
    refine Gk Ei (Ep e13) rfl (by simp) ⟨.same rfl,.same rfl,trivial⟩ ?_
    try simp
    intros;rfl
   refine AW.block ?_
   refine AW.weak (Weak.keep [(10,.l (.p 1 0)),(34,.l (.f 67 [2,3]))] (by simp)) ?_
   refine AW.rangeG rfl Try.func67 (by kernel_rfl) rfl (by decide) rfl rfl fun cxI1 yl1 hnI1 hY1=>?_
   have hnJ1:cxI1.nb=0:=hnI1.trans hn0
   simp only[initTm,List.map_cons,List.map_nil]
   apply AW.step
   ·simp
    intros;rfl
   apply AW.step
   ·simp
    intros;rfl
   refine AW.block ?_
   replace h:=bnE h;obtain⟨y15,g15,h⟩:=h
   refine AW.iterP g15 (mk:=fun gh ls q=>(⟨[(0,.l (.s (.func (.yield yl1) #[] #[]))),(1,.l (.p 2 0)),(2,.l (.p 3 0)),(4,.l (.p 4 0)),(5,.l (.s (.int .i64 q.1)))],[none,some ⟨24,1,false,none,[.r 5 4 0 q.2.2.2.2.length]⟩,some ⟨24,1,false,none,[.d false 4 (encClaim q.2.1)]⟩,some ⟨24,1,false,none,[.d false 4 (encClaim q.2.2.1)]⟩,some ⟨95,8,false,none,[.s (.int .i64 q.2.2.2.1.a.frm),.s (.int .i64 q.2.2.2.1.a.to),.s (.int .i64 q.2.2.2.1.a.node),.s (.int .i64 q.2.2.2.1.a.epoch),.s (.int .i64 q.2.2.2.1.b.frm),.s (.int .i64 q.2.2.2.1.b.to),.s (.int .i64 q.2.2.2.1.b.node),.s (.int .i64 q.2.2.2.1.b.epoch)]⟩,some ⟨41,4,true,none,lvs (encClaim q.2.2.2.2)⟩],44,gh,ls⟩:St)) (N:=fun gh ls=>(xP 0 (cx:=cxI1) (fun q=>(⟨[],[none,some ⟨24,1,false,none,[.r 4 4 0 q.2.2.length]⟩,some ⟨24,1,false,none,[.d false 4 (encClaim q.1)]⟩,some ⟨24,1,false,none,[.d false 4 (encClaim q.2.1)]⟩,some ⟨41,4,true,none,lvs (encClaim q.2.2)⟩],44,gh,ls⟩:St)))) ?_ noX ?_ ?_
   ·refine W.nilCell 1 0 41 4 5 rfl rfl rfl rfl rfl ?_
    refine Weak.mixB 0 [some 0,some 1,some 2,some 3,some 4,some 5] hnJ1 (by decide) (by decide) ?_ ?_ ?_
    all_goals first|(simp[Ab,Ac,pickOb];done)|rfl
   ·clear h;intro y14 y16 h
    refine AW.seq ?_
    replace h:=ltE h;obtain⟨v17,e17,h⟩:=h
    apply AW.step
    ·simp[← e17]
     intros;rfl
    cases v17 with
    |true =>
     replace h:=iteT rfl h
     refine AW.cond_true (by simp) ?_
     refine AW.skip ?_
     try simp only[nm]
     refine AW.seq ?_
     refine AW.block ?_
     replace h:=bnE h;obtain⟨v18,e18,h⟩:=h
     apply AW.step
     ·simp
      intros
      refine Ai CY (Dk e18) rfl ⟨.same rfl,.same rfl,trivial⟩ ?_
      try simp
      intros;rfl
     replace h:=bnE h;obtain⟨v19,e19,h⟩:=h
     apply AW.step
     ·simp
      intros
      refine Ai CY (Dk e19) rfl ⟨.same rfl,.same rfl,trivial⟩ ?_
      try simp
      intros;rfl
     replace h:=ltE h;obtain⟨v20,e20,h⟩:=h
     apply AW.step
     ·simp[← e20]
      intros;rfl
     apply AW.step
     ·simp
      intros;rfl
     refine AW.stepYK ?_
     apply xopsY.yield hY1 0 2 rfl rfl rfl (by decide)
     ·simp
      intros;rfl
     ·rfl
     ·first|trivial|simp
     ·rfl
     ·rfl
     ·simp[puts];rfl
     intro cxR1 hnR1
     have hnS1:cxR1.nb=0:=hnR1.trans hnJ1
     apply AW.last
     ·simp
      intros;rfl
     refine⟨rfl,?_⟩
     refine AW.block ?_
     replace h:=bnE h;obtain⟨y21,g21,h⟩:=h
     refine AW.flow (p:=fun gh ls=>(nP (cx:=cxR1) (fun q=>(⟨[(10,.l (.p 1 0)),(13,.l (.p 6 0))],[none,some ⟨24,1,false,none,[.r 5 4 0 y14.2.2.2.2.length]⟩,some ⟨24,1,false,none,[.d false 4 (encClaim v18.2)]⟩,some ⟨24,1,false,none,[.d false 4 (encClaim v19.2)]⟩,some ⟨95,8,false,none,[.s (.int .i64 v18.1.frm),.s (.int .i64 v20),.s (.int .i64 v18.1.node),.s (.int .i64 v18.1.epoch),.s (.int .i64 v19.1.frm),.s (.int .i64 v20),.s (.int .i64 v19.1.node),.s (.int .i64 v19.1.epoch)]⟩,some ⟨41,4,true,none,lvs (encClaim y14.2.2.2.2)⟩,some ⟨95,8,false,none,[.s (.int .i64 q.a.frm),.s (.int .i64 q.a.to),.s (.int .i64 q.a.node),.s (.int .i64 q.a.epoch),.s (.int .i64 q.b.frm),.s (.int .i64 q.b.to),.s (.int .i64 q.b.node),.s (.int .i64 q.b.epoch)]⟩],48,gh,ls⟩:St))) y21) ?_ ?_
     ·replace h:=g21;clear g21
      replace h:=ltE h;obtain⟨v22,e22,h⟩:=h
      apply AW.step
      ·simp[← e22]
       intros;rfl
      cases v22 with
      |true =>
       replace h:=iteT rfl h
       refine AW.cond_true (by simp) ?_
       apply AW.last
       ·simp
        intros;rfl
       obtain rfl:=oi h
       refine nP_i ?_
       refine Weak.mixB 0 [some 0,some 1,some 2,some 3,some 4,some 5,some 6] hnS1 (by decide) (by decide) ?_ ?_ ?_
       all_goals first|(simp[Ab,Ac,pickOb];done)|rfl
      |false =>
       replace h:=iteF rfl h
       refine AW.cond_false (by simp) ?_
       refine AW.skip ?_
       try simp only[nm]
       obtain rfl:=oi h
       refine nP_i ?_
       refine Weak.mixB 0 [some 0,some 1,some 2,some 3,some 4,some 5,some 6] hnS1 (by decide) (by decide) ?_ ?_ ?_
       all_goals first|(simp[Ab,Ac,pickOb];done)|rfl
     ·rintro e s hp
      obtain⟨rfl,hw⟩:=hp
      refine⟨_,hw,?_⟩
      try simp only[nm]
      replace h:=bnE h;obtain⟨v23,e23,h⟩:=h
      apply AW.last
      ·simp[obAfter,outR,keptR,Ab,Ac]
       intros
       refine Aq [5] Do (DB e23) (by decide) (by simp[pickOb,Ab,Ac]) rfl rfl (by simp) ⟨.l (.own' (by simp[Ab,Ac]) (by simp)),.g ⟨.s _,.s _,.s _,.s _,trivial⟩,trivial⟩ ?_
       try simp[obAfter,outR,keptR,Ab,Ac]
       intros;rfl
      refine⟨_,_,rfl,?_⟩
      refine Ev _ _ _ rfl ?_
      simp[puts]
      try intros
      unfold KK
      refine AW.cond_false (by simp) ?_
      refine AW.skip ?_
      try simp only[nm]
      replace h:=ltE h;obtain⟨v24,e24,h⟩:=h
      apply AW.last
      ·simp[← e24]
       intros;rfl
      obtain rfl:=oi h
      refine nP_i ?_
      refine Weak.mixB 0 [some 0,some 1,some 2,some 3,some 4,some 5] hnJ1 (by decide) (by decide) ?_ ?_ ?_
      all_goals first|(simp[Ab,Ac,pickOb];done)|rfl
    |false =>
     replace h:=iteF rfl h
     refine AW.cond_false (by simp) ?_
     refine AW.exit ?_
     try simp only[nm]
     obtain rfl:=oi h
     refine xP_i ?_
     refine Weak.mixB 0 [some 0,some 1,some 2,some 3,some 5] hnJ1 (by decide) (by decide) ?_ ?_ ?_
     all_goals first|(simp[Ab,Ac,pickOb];done)|rfl
   ·rintro e s hp
    obtain⟨rfl,hw⟩:=hp
    refine⟨_,hw,?_⟩
    try simp only[nm]
    refine⟨_,_,rfl,?_⟩
    try simp only[]
    try simp only[nm]
    obtain rfl:=oi h
    refine nP_i ?_
    refine Weak.mixN [some 1,some 4] hn0 (by decide) ?_ ?_ rfl
    all_goals first|(simp[Ab,Ac,pickOb];done)|rfl
  ·rintro e s hp
   obtain⟨rfl,hw⟩:=hp
   refine⟨_,hw,?_⟩
   try simp only[nm]
   apply AW.step
   ·simp
    intros;rfl
   replace h:=chkE h;obtain⟨e25,h⟩:=h
   refine AW.frzRow 1 (ty:=41) (cap:=none) (sz:=4) (es:=encClaim y11) (by simp) (by omega) (Cc _) (by first|exact (Av e25).2|simpa using (Av e25).2|simp) (by simp[Tm.frz,AV.frz,LV.frz];rfl) (by simp[Ob.frz,LV.frz];rfl) rfl ?_
   obtain rfl:=oi h
   refine AW.ret ?_
   refine Left.plain hnb (by simp[Try.f19,resV,resC,comp];rfl) rfl rfl ?_
   simp
theorem EM:Enters Try.prog 19:=enters Try.func19 (by kernel_rfl) rfl
def CW (n:Nat) :Option Bool :=
chk (room 1 1) <|
bn (CG n [] [(⟨3,5⟩:Span)] 1 2) fun v2 =>
bn (Ej n v2 4) fun v3 =>
bn (lt (lenI v2) fun v5 =>
lt (eqI v5 1) fun v6 =>
ite' v6 (lt (eqI v3.1 1) fun v7 =>
ite' v7 (lt (eqI v3.2.1 2) fun v8 =>
ite' v8 (lt (v3.2.2) fun v9 =>
ite' v9 (bn (DO n v2 []) fun v10 =>
bn (C2 n v10 v2) fun v11 =>
some (v11)) (some (false))) (some (false))) (some (false))) (some (false))) fun (y4:Bool) =>
some y4
theorem Fo {n:Nat}  {r:Bool} (h:CW n =some r):Sound Try.prog 14 [] [] (.l (.s (.bool r))) []:=by
 unfold CW at h
 refine Sound.of_aw (fn:=Try.f14) (c:=_) Try.func14 rfl (by simp[Try.f14]) fun cx hG hnb=>?_
 rw[show Try.f14.ntmps=34 from rfl]
 have hn0:cx.nb=0:=hnb
 simp only[At,initTm,List.map_cons,List.map_nil]
 apply AW.step
 ·simp
  intros;rfl
 replace h:=chkE h;obtain⟨e1,h⟩:=h
 replace h:=bnE h;obtain⟨v2,e2,h⟩:=h
 apply AW.step
 ·simp
  intros
  refine Bu ?_
  try simp
  intros
  refine Ai EM (E4 e2) rfl ⟨.nil _ _,.rowd (by simp[Bk]) rfl (by omega) (AP _) (by simp) (by first|exact (Av e1).2|simpa using (Av e1).2|simp),.same rfl,.same rfl,trivial⟩ ?_
  try simp
  intros;rfl
 replace h:=bnE h;obtain⟨v3,e3,h⟩:=h
 apply AW.step
 ·simp
  intros
  refine Ai G5 (Hn e3) rfl ⟨.same rfl,.same rfl,trivial⟩ ?_
  try simp
  intros;rfl
 replace h:=bnE h;obtain⟨y4,g4,h⟩:=h
 refine AW.flow (p:=fun gh ls=>(nP (cx:=cx) (fun q=>(⟨[(0,.l (.s (.bool q)))],[],34,gh,ls⟩:St))) y4) ?_ ?_
 ·replace h:=g4;clear g4
  replace h:=ltE h;obtain⟨v5,e5,h⟩:=h
  replace h:=ltE h;obtain⟨v6,e6,h⟩:=h
  cases v6 with
  |true =>
   replace h:=iteT rfl h
   replace h:=ltE h;obtain⟨v7,e7,h⟩:=h
   cases v7 with
   |true =>
    replace h:=iteT rfl h
    replace h:=ltE h;obtain⟨v8,e8,h⟩:=h
    cases v8 with
    |true =>
     replace h:=iteT rfl h
     replace h:=ltE h;obtain⟨v9,e9,h⟩:=h
     cases v9 with
     |true =>
      replace h:=iteT rfl h
      replace h:=bnE h;obtain⟨v10,e10,h⟩:=h
      replace h:=bnE h;obtain⟨v11,e11,h⟩:=h
      apply AW.last
      ·simp[Al e5,← e6,← e7,← e8,← e9]
       intros
       refine Ai F3 (GB e10) rfl ⟨.same rfl,.nil _ _,trivial⟩ ?_
       try simp[Al e5,← e6,← e7,← e8,← e9]
       intros
       refine Ai Fe (Fz e11) rfl ⟨.same rfl,.same rfl,trivial⟩ ?_
       try simp[Al e5,← e6,← e7,← e8,← e9]
       intros;rfl
      obtain rfl:=oi h
      refine nP_i ?_
      refine Weak.mixN [] hn0 (by decide) ?_ ?_ rfl
      all_goals first|(simp[Ab,Ac,pickOb,Bk];done)|rfl
     |false =>
      replace h:=iteF rfl h
      apply AW.last
      ·simp[Al e5,← e6,← e7,← e8,← e9]
       intros;rfl
      obtain rfl:=oi h
      refine nP_i ?_
      refine Weak.mixN [] hn0 (by decide) ?_ ?_ rfl
      all_goals first|(simp[Ab,Ac,pickOb,Bk];done)|rfl
    |false =>
     replace h:=iteF rfl h
     apply AW.last
     ·simp[Al e5,← e6,← e7,← e8]
      intros;rfl
     obtain rfl:=oi h
     refine nP_i ?_
     refine Weak.mixN [] hn0 (by decide) ?_ ?_ rfl
     all_goals first|(simp[Ab,Ac,pickOb,Bk];done)|rfl
   |false =>
    replace h:=iteF rfl h
    apply AW.last
    ·simp[Al e5,← e6,← e7]
     intros;rfl
    obtain rfl:=oi h
    refine nP_i ?_
    refine Weak.mixN [] hn0 (by decide) ?_ ?_ rfl
    all_goals first|(simp[Ab,Ac,pickOb,Bk];done)|rfl
  |false =>
   replace h:=iteF rfl h
   apply AW.last
   ·simp[Al e5,← e6]
    intros;rfl
   obtain rfl:=oi h
   refine nP_i ?_
   refine Weak.mixN [] hn0 (by decide) ?_ ?_ rfl
   all_goals first|(simp[Ab,Ac,pickOb,Bk];done)|rfl
 ·rintro e s hp
  obtain⟨rfl,hw⟩:=hp
  refine⟨_,hw,?_⟩
  try simp only[nm]
  obtain rfl:=oi h
  refine AW.ret ?_
  refine Left.plain hnb (by simp[Try.f14,resV,resC,comp];rfl) rfl rfl ?_
  simp
theorem E5:Enters Try.prog 14:=enters Try.func14 (by kernel_rfl) rfl
def DD (n:Nat) (a0:List Int):Option (List Span) :=
bn (iter n (fun (y1:Int×List Span) =>
lt (addI .i64 y1.1 1) fun v4 =>
lt (lenI a0) fun v5 =>
lt (ltI v4 v5) fun v6 =>
ite' v6 (bn (nth a0 y1.1) fun v7 =>
lt (cvI .i64 v7) fun v8 =>
bn (remI .i64 v8 16384) fun v9 =>
bn (nth a0 v4) fun v10 =>
lt (cvI .i64 v10) fun v11 =>
bn (remI .i64 v11 300) fun v12 =>
lt (addI .i64 v9 v12) fun v13 =>
lt (minI 16383 v13) fun v14 =>
chk (room (y1.2.length+1) 16) <|
lt (y1.2++[(⟨v9,v14⟩:Span)]) fun v16 =>
lt (addI .i64 y1.1 2) fun v17 =>
some (.inl (v17,v16))) (some (.inr y1.2))) (0,[])) fun (y2:List Span) =>
chk (room y2.length 1) <|
some y2
theorem IF {n:Nat} {a0:List Int} {r:List Span} (h:DD n a0=some r):Sound Try.prog 18 [.l (.d false 1 (encIu16 a0))] [] (.l (.d false 2 (encSpan r))) []:=by
 unfold DD at h
 refine Sound.of_aw (fn:=Try.f18) (c:=_) Try.func18 rfl (by simp[Try.f18]) fun cx hG hnb=>?_
 rw[show Try.f18.ntmps=35 from rfl]
 have hn0:cx.nb=0:=hnb
 simp only[At,initTm,List.map_cons,List.map_nil]
 apply AW.step
 ·simp
  intros;rfl
 apply AW.step
 ·simp
  intros;rfl
 refine AW.seq ?_
 apply AW.step
 ·simp
  intros;rfl
 refine AW.block ?_
 replace h:=bnE h;obtain⟨y2,g2,h⟩:=h
 refine AW.iterP g2 (mk:=fun gh ls q=>(⟨[(0,.l (.d false 1 (encIu16 a0))),(3,.l (.r 0 2 0 q.2.length)),(4,.l (.s (.int .i64 q.1)))],[some ⟨43,2,true,none,lvs (encSpan q.2)⟩],35,gh,ls⟩:St)) (N:=fun gh ls=>(xP 0 (cx:=cx) (fun q=>(⟨[(3,.l (.r 0 2 0 q.length))],[some ⟨43,2,true,none,lvs (encSpan q)⟩],35,gh,ls⟩:St)))) ?_ noX ?_ ?_
 ·refine W.nilRow 3 43 2 0 (by simp) rfl rfl ?_
  refine Weak.mixN [some 0] hn0 (by decide) ?_ ?_ rfl
  all_goals first|(simp[Ab,Ac,pickOb];done)|rfl
 ·clear h;intro y1 y3 h
  refine AW.seq ?_
  replace h:=ltE h;obtain⟨v4,e4,h⟩:=h
  replace h:=ltE h;obtain⟨v5,e5,h⟩:=h
  replace h:=ltE h;obtain⟨v6,e6,h⟩:=h
  apply AW.step
  ·simp[← e4,Al e5,← e6]
   intros;rfl
  cases v6 with
  |true =>
   replace h:=iteT rfl h
   refine AW.cond_true (by simp) ?_
   refine AW.skip ?_
   try simp only[nm]
   refine AW.seq ?_
   refine AW.block ?_
   replace h:=bnE h;obtain⟨v7,e7,h⟩:=h
   replace h:=ltE h;obtain⟨v8,e8,h⟩:=h
   replace h:=bnE h;obtain⟨v9,e9,h⟩:=h
   apply AW.step
   ·simp[Aa e7,← e8,e9]
    intros;rfl
   replace h:=bnE h;obtain⟨v10,e10,h⟩:=h
   replace h:=ltE h;obtain⟨v11,e11,h⟩:=h
   replace h:=bnE h;obtain⟨v12,e12,h⟩:=h
   replace h:=ltE h;obtain⟨v13,e13,h⟩:=h
   replace h:=ltE h;obtain⟨v14,e14,h⟩:=h
   replace h:=chkE h;obtain⟨e15,h⟩:=h
   replace h:=ltE h;obtain⟨v16,e16,h⟩:=h
   apply AW.last
   ·simp[← e4,Aa e10,← e11,e12,← e13,← e14,← Ap,← e16,Ax e16]
    intros
    refine Bu ?_
    try simp[← e4,Aa e10,← e11,e12,← e13,← e14,← Ap,← e16,Ax e16]
    intros
    refine Br (acc:=encSpan y1.2) (ys:=encSpan [(⟨v9,v14⟩:Span)]) (cap:=none) (k:=1) Dv Du (by simp) (by simp[encSpan,lvs]) (AP _) (by simp) (by simp) (by first|(simp;done)|simpa using (Av e15).1) ?_
    try simp[← e4,Aa e10,← e11,e12,← e13,← e14,← Ap,← e16,Ax e16]
    intros;rfl
   try simp only[nm]
   replace h:=ltE h;obtain⟨v17,e17,h⟩:=h
   apply AW.last
   ·simp[← e17]
    intros;rfl
   obtain rfl:=oi h
   refine nP_i ?_
   refine Weak.mixN [some 2] hn0 (by decide) ?_ ?_ rfl
   all_goals first|(simp[Ab,Ac,pickOb,Bk];done)|rfl
  |false =>
   replace h:=iteF rfl h
   refine AW.cond_false (by simp) ?_
   refine AW.exit ?_
   try simp only[nm]
   obtain rfl:=oi h
   refine xP_i ?_
   refine Weak.mixN [some 0] hn0 (by decide) ?_ ?_ rfl
   all_goals first|(simp[Ab,Ac,pickOb];done)|rfl
 ·rintro e s hp
  obtain⟨rfl,hw⟩:=hp
  refine⟨_,hw,?_⟩
  try simp only[nm]
  apply AW.step
  ·simp
   intros;rfl
  replace h:=chkE h;obtain⟨e18,h⟩:=h
  refine AW.frzRow 0 (ty:=43) (cap:=none) (sz:=2) (es:=encSpan y2) (by simp) (by omega) (AP _) (by first|exact (Av e18).2|simpa using (Av e18).2|simp) (by simp[Tm.frz,AV.frz,LV.frz];rfl) (by simp[Ob.frz,LV.frz];rfl) rfl ?_
  obtain rfl:=oi h
  refine AW.ret ?_
  refine Left.plain hnb (by simp[Try.f18,resV,resC,comp];rfl) rfl rfl ?_
  simp
theorem H5:Enters Try.prog 18:=enters Try.func18 (by kernel_rfl) rfl
def Dd (n:Nat) (a0:List Int):Option (List Claim) :=
bn (iter n (fun (y1:List Claim×Int) =>
bn (lt (addI .i64 y1.2 3) fun v5 =>
lt (lenI a0) fun v6 =>
lt (ltI v5 v6) fun v7 =>
ite' v7 (lt (ltI y1.2 80) fun v8 =>
some (v8)) (some (false))) fun (y4:Bool) =>
lt (y4) fun v9 =>
ite' v9 (lt (addI .i64 y1.2 2) fun v10 =>
bn (seglh a0 y1.2 v10) fun v11 =>
bn (DD n v11) fun v13 =>
bn (nth a0 v10) fun v14 =>
lt (cvI .i64 v14) fun v15 =>
bn (remI .i64 v15 4) fun v16 =>
lt (addI .i64 y1.2 3) fun v17 =>
bn (nth a0 v17) fun v18 =>
lt (cvI .i64 v18) fun v19 =>
bn (remI .i64 v19 6) fun v20 =>
lt (addI .i64 1 v20) fun v21 =>
bn (CB n y1.1 v13 v16 v21) fun v22 =>
lt (addI .i64 y1.2 4) fun v23 =>
some (.inl (v22,v23))) (some (.inr y1.1))) ([],0)) fun (y2:List Claim) =>
some y2
theorem H6 {n:Nat} {a0:List Int} {r:List Claim} (h:Dd n a0=some r):Sound Try.prog 15 [.l (.d false 1 (encIu16 a0))] [] (.l (.d false 4 (encClaim r))) []:=by
 unfold Dd at h
 refine Sound.of_aw (fn:=Try.f15) (c:=_) Try.func15 rfl (by simp[Try.f15]) fun cx hG hnb=>?_
 rw[show Try.f15.ntmps=40 from rfl]
 have hn0:cx.nb=0:=hnb
 simp only[At,initTm,List.map_cons,List.map_nil]
 apply AW.step
 ·simp
  intros;rfl
 apply AW.step
 ·simp
  intros;rfl
 refine AW.seq ?_
 apply AW.step
 ·simp
  intros;rfl
 refine AW.block ?_
 replace h:=bnE h;obtain⟨y2,g2,h⟩:=h
 refine AW.iterP g2 (mk:=fun gh ls q=>(⟨[(0,.l (.d false 1 (encIu16 a0))),(3,.l (.d false 4 (encClaim q.1))),(4,.l (.s (.int .i64 q.2)))],[],40,gh,ls⟩:St)) (N:=fun gh ls=>(xP 0 (cx:=cx) (fun q=>(⟨[(3,.l (.d false 4 (encClaim q)))],[],40,gh,ls⟩:St)))) ?_ noX ?_ ?_
 ·refine W.nilD 3 4 (by simp) ?_
  refine Weak.mixN [] hn0 (by decide) ?_ ?_ rfl
  all_goals first|(simp[Ab,Ac,pickOb];done)|rfl
 ·clear h;intro y1 y3 h
  refine AW.seq ?_
  replace h:=bnE h;obtain⟨y4,g4,h⟩:=h
  refine AW.flow (p:=fun gh ls=>(nP (cx:=cx) (fun q=>(⟨[(0,.l (.d false 1 (encIu16 a0))),(3,.l (.d false 4 (encClaim y1.1))),(4,.l (.s (.int .i64 y1.2))),(13,.l (.s (.bool q)))],[],40,gh,ls⟩:St))) y4) ?_ ?_
  ·replace h:=g4;clear g4
   replace h:=ltE h;obtain⟨v5,e5,h⟩:=h
   replace h:=ltE h;obtain⟨v6,e6,h⟩:=h
   replace h:=ltE h;obtain⟨v7,e7,h⟩:=h
   cases v7 with
   |true =>
    replace h:=iteT rfl h
    replace h:=ltE h;obtain⟨v8,e8,h⟩:=h
    apply AW.last
    ·simp[← e5,Al e6,← e7,← e8]
     intros;rfl
    obtain rfl:=oi h
    refine nP_i ?_
    refine Weak.mixN [] hn0 (by decide) ?_ ?_ rfl
    all_goals first|(simp[Ab,Ac,pickOb];done)|rfl
   |false =>
    replace h:=iteF rfl h
    apply AW.last
    ·simp[← e5,Al e6,← e7]
     intros;rfl
    obtain rfl:=oi h
    refine nP_i ?_
    refine Weak.mixN [] hn0 (by decide) ?_ ?_ rfl
    all_goals first|(simp[Ab,Ac,pickOb];done)|rfl
  ·rintro e s hp
   obtain⟨rfl,hw⟩:=hp
   refine⟨_,hw,?_⟩
   try simp only[nm]
   replace h:=ltE h;obtain⟨v9,e9,h⟩:=h
   rw[← e9]
   cases v9 with
   |true =>
    replace h:=iteT rfl h
    refine AW.cond_true (by simp) ?_
    refine AW.skip ?_
    try simp only[nm]
    refine AW.seq ?_
    refine AW.block ?_
    replace h:=ltE h;obtain⟨v10,e10,h⟩:=h
    replace h:=bnE h;obtain⟨v11,e11,h⟩:=h
    have f12:=Gx e11
    try simp[← e10] at f12
    replace h:=bnE h;obtain⟨v13,e13,h⟩:=h
    replace h:=bnE h;obtain⟨v14,e14,h⟩:=h
    replace h:=ltE h;obtain⟨v15,e15,h⟩:=h
    replace h:=bnE h;obtain⟨v16,e16,h⟩:=h
    replace h:=ltE h;obtain⟨v17,e17,h⟩:=h
    replace h:=bnE h;obtain⟨v18,e18,h⟩:=h
    replace h:=ltE h;obtain⟨v19,e19,h⟩:=h
    replace h:=bnE h;obtain⟨v20,e20,h⟩:=h
    replace h:=ltE h;obtain⟨v21,e21,h⟩:=h
    replace h:=bnE h;obtain⟨v22,e22,h⟩:=h
    apply AW.drawnR (V:=[_,_,_,_,_,_,_,_,_,_,_,_,_,_,_,_,_,_,_,_,_,_]) mixed [⟨[0],[],[(3,none)],false⟩,⟨[0],[],[(0,none)],false⟩,⟨[0],[],[(4,none)],false⟩,⟨[0],[],[(4,none)],false⟩,⟨[0],[3],[(19,some 3)],false⟩,⟨[0],[1,2,3,4],[(17,some 1),(18,some 2),(20,some 4)],false⟩,⟨[0],[1,2,3,4,5],[(21,some 5)],false⟩,⟨[0],[],[(0,none)],false⟩,⟨[0],[],[(4,none)],false⟩,⟨[0],[8],[(24,some 8)],false⟩,⟨[0],[7,8,9],[(23,some 7),(25,some 9)],false⟩,⟨[0],[7,8,9,10],[(26,some 10)],false⟩,⟨[0],[7,8,9,10,11],[(27,some 11)],false⟩,⟨[0],[7,8,9,10,11,12],[(28,some 12)],false⟩,⟨[0],[],[(0,none)],false⟩,⟨[0],[],[(4,none)],false⟩,⟨[0],[15],[(31,some 15)],false⟩,⟨[0],[14,15,16],[(30,some 14),(32,some 16)],false⟩,⟨[0],[14,15,16,17],[(33,some 17)],false⟩,⟨[0],[14,15,16,17,18],[(34,some 18)],false⟩,⟨[0],[14,15,16,17,18,19],[(35,some 19)],false⟩,⟨[0],[14,15,16,17,18,19,20],[(36,some 20)],false⟩,⟨[],[0,1,2,3,4,5,6,7,8,9,10,11,12,13,14,15,16,17,18,19,20,21],[],false⟩,⟨[],[0,1,2,3,4,5,6,7,8,9,10,11,12,13,14,15,16,17,18,19,20,21,22],[],false⟩] 22 (by kernel_rfl) (by kernel_rfl)
    ·refine⟨?_,?_,?_,?_,?_,?_,?_,?_,?_,?_,?_,?_,?_,?_,?_,?_,?_,?_,?_,?_,?_,?_,trivial⟩
     iterate 6 (· intro tm hr;simp[AllL,rdV] at hr;simp[hr,← e10,f12,Aa e14,← e15,e16,← e17,Aa e18,← e19,e20,← e21];intros;first|exact KD.mk|exact KD.mkN)
     ·intro tm hr
      simp[AllL,rdV] at hr
      simp[hr,← e10,f12,Aa e14,← e15,e16,← e17,Aa e18,← e19,e20,← e21]
      intros
      refine Ai H5 (IF e13) rfl ⟨.same rfl,trivial⟩ ?_
      try simp[← e10,f12,Aa e14,← e15,e16,← e17,Aa e18,← e19,e20,← e21]
      intros;first|exact KD.mk|exact KD.mkN
     iterate 15 (· intro tm hr;simp[AllL,rdV] at hr;simp[hr,← e10,f12,Aa e14,← e15,e16,← e17,Aa e18,← e19,e20,← e21];intros;first|exact KD.mk|exact KD.mkN)
    ·rfl
    ·simp[tmD,putD,← e10,f12,Aa e14,← e15,e16,← e17,Aa e18,← e19,e20,← e21];rfl
    ·simp[← e10,f12,Aa e14,← e15,e16,← e17,Aa e18,← e19,e20,← e21]
     intros
     refine Ai Hm (H4 e22) rfl ⟨.same rfl,.same rfl,.same rfl,.same rfl,trivial⟩ ?_
     try simp[← e10,f12,Aa e14,← e15,e16,← e17,Aa e18,← e19,e20,← e21]
     intros;rfl
    try simp only[nm]
    replace h:=ltE h;obtain⟨v23,e23,h⟩:=h
    apply AW.last
    ·simp[← e23]
     intros;rfl
    obtain rfl:=oi h
    refine nP_i ?_
    refine Weak.mixN [] hn0 (by decide) ?_ ?_ rfl
    all_goals first|(simp[Ab,Ac,pickOb];done)|rfl
   |false =>
    replace h:=iteF rfl h
    refine AW.cond_false (by simp) ?_
    refine AW.exit ?_
    try simp only[nm]
    obtain rfl:=oi h
    refine xP_i ?_
    refine Weak.mixN [] hn0 (by decide) ?_ ?_ rfl
    all_goals first|(simp[Ab,Ac,pickOb];done)|rfl
 ·rintro e s hp
  obtain⟨rfl,hw⟩:=hp
  refine⟨_,hw,?_⟩
  try simp only[nm]
  apply AW.step
  ·simp
   intros;rfl
  obtain rfl:=oi h
  refine AW.ret ?_
  refine Left.plain hnb (by simp[Try.f15,resV,resC,comp];rfl) rfl rfl ?_
  simp
theorem Ho:Enters Try.prog 15:=enters Try.func15 (by kernel_rfl) rfl
end Go.Proofs.Ythjenkmbbnjcnaa
namespace Go.Proofs.Ythjenkmbbnjcnaa
open Go Go.RowKit
theorem vrem {k:IntKind} {a b:Int} (h:0≤a) (hb:0<b):remI k a b=some (a % b):=by
 have:¬ b=0:=by omega
 simp only[remI,ne_eq,this,not_false_eq_true,if_true,Int.tmod_eq_emod_of_nonneg h]
def rngH (l:List Int):Prop:=∀ x∈l,0≤x∧x≤65535
theorem IG {ns:List Int} (hn:rngH ns) (hl:ns.length≤1000):Rn (DD big ns) fun r=>2*r.length≤ns.length:=by
 unfold DD
 refine Rn.bn (P:=fun r=>2*r.length≤ns.length) (Rn.iter _ (fun j a=>∃ r:List Span,a=(((2*j:Nat):Int),r)∧r.length=j∧2*j≤ns.length) ns.length (by unfold big;omega) ⟨[],rfl,rfl,by omega⟩ fun j a hj hI=>?_) fun r hr=>Rn.chk (by simp[room];omega) (Rn.some hr)
 obtain⟨r,rfl,r1,r2⟩:=hI
 refine Rn.lt (Rn.lt (Rn.lt ?_))
 have e1:addI .i64 ((2*j:Nat):Int) 1=((2*j+1:Nat):Int):=by rw[Am (by omega) (by omega)];omega
 have e2:addI .i64 ((2*j:Nat):Int) 2=((2*(j+1):Nat):Int):=by rw[Am (by omega) (by omega)];omega
 simp only
 rw[e1]
 refine Rn.ite (fun hd=>?_) fun hd=>Rn.some (by show 2*r.length≤ns.length;omega)
 have hjl:2*j+1<ns.length:=by
  have:=of_decide_eq_true (p:=(((2*j+1:Nat):Int)<(ns.length:Int))) hd
  omega
 have h0:=hn _ (List.getElem_mem (show 2*j<ns.length by omega))
 have h1:=hn _ (List.getElem_mem hjl)
 refine Rn.bnE (AM (show 2*j<ns.length by omega)) (Rn.lt ?_)
 rw[Ex (by omega) (by omega)]
 refine Rn.bnE (vrem h0.1 (by omega)) (Rn.bnE (AM hjl) (Rn.lt ?_))
 rw[Ex (by omega) (by omega)]
 refine Rn.bnE (vrem h1.1 (by omega)) (Rn.lt (Rn.lt (Rn.chk (by simp[room];omega) (Rn.lt (Rn.lt (Rn.some ⟨by omega,_,Prod.ext e2 rfl,?_,by omega⟩))))))
 rw[List.length_append,r1]
 rfl
theorem Hp {f:Int→Option (Int×Int)} {p:Int→Prop} [DecidablePred p] {v:Int×Int} (hf:Tells f) (hp:∀ s,p s→0≤s∧s≤16383) (h1:0≤v.1) (h2:1≤v.2):Tells (giveF f p v):=by
 intro s w h
 unfold giveF at h
 split at h
 ·rename_i hps
  have:=Option.some.inj h
  subst this
  exact⟨hp s hps,h1,h2⟩
 ·exact hf s w h
def okV (x:Option (Int×Int)):Prop:=∀ v,x=some v→0≤v.1∧1≤v.2
theorem Tells.okV {f:Int→Option (Int×Int)} (h:Tells f) (s:Int):Go.Proofs.Ythjenkmbbnjcnaa.okV (f s):=fun v hv=>(h s v hv).2
def leV (x z:Option (Int×Int)):Prop:=epo x<epo z∨(epo x=epo z∧nod x≤nod z)
theorem leV.refl (x:Option (Int×Int)):leV x x:=.inr ⟨rfl,Int.le_refl _⟩
theorem leV.trans {x y z:Option (Int×Int)} (h1:leV x y) (h2:leV y z):leV x z:=by
 unfold leV at *
 omega
theorem FQ:CW big=some true:=by kernel_rfl
theorem GoodC.ext {a b:List Claim} (ha:GoodC a) (hb:GoodC b) (h:∀ s,fC a s=fC b s):a=b:=F1 (f:=cP) J4 (ED ha.1 hb.1 h)
end Go.Proofs.Ythjenkmbbnjcnaa
namespace Go.Proofs.Ythjenkmbbnjcnaa
open Go Go.RowKit
def keyS (x:Span):Int:=x.frm
def ksS (d:List Span) (i:Nat):Int:=keyS (d.getD i (⟨0,0⟩:Span))
theorem nthD {α:Type} {d:List α} {i:Nat} (h:i<d.length) (z:α):nth d (i:Int)=some (d.getD i z):=by
 rw[AM h,List.getD_eq_getElem?_getD,List.getElem?_eq_getElem h]
 rfl
theorem scanUp {c:Int→Option Bool} {p:Nat→Bool} {i0 hi:Nat} (hhi:hi≤1000000) (h:∀ i:Nat,i0≤i→i<hi→c (i:Int)=some (p i)) (hE:c (hi:Int)=some false) (h0:i0≤hi) :
  Rn (iter big (fun (y:Int)=>bn (c y) fun (b:Bool)=>lt b fun v=>ite' v (lt (addI .i64 y 1) fun z=>some (.inl z)) (some (.inr y))) (i0:Int)) fun r=>∃ k:Nat,r=(k:Int)∧i0≤k∧k≤hi∧(∀ i,i0≤i→i<k→p i=true)∧(k<hi→p k=false):=by
 refine Rn.iter _ (fun t y=>∃ k:Nat,y=(k:Int)∧k=i0+t∧k≤hi∧∀ i,i0≤i→i<k→p i=true) (hi - i0) (by unfold big;omega) ⟨i0,rfl,rfl,h0,fun i h1 h2=>by omega⟩ fun t y ht hI=>?_
 obtain⟨k,rfl,e,hk,hp⟩:=hI
 rcases Nat.lt_or_ge k hi with hlt|hge
 ·refine Rn.bnE (h k (by omega) hlt) (Rn.lt (Rn.ite (fun hc=>Rn.lt (Rn.some ⟨by omega,k+1,?_,by omega,by omega,fun i h1 h2=>?_⟩)) fun hc=>Rn.some ⟨k,rfl,by omega,hk,hp,fun _=>hc⟩))
  ·rw[Am (by omega) (by omega)]
   rfl
  ·rcases Nat.lt_or_ge i k with h3|h3
   ·exact hp i h1 h3
   ·rwa [show i=k by omega]
 ·have e2:k=hi:=by omega
  subst e2
  exact Rn.bnE hE (Rn.lt (Rn.ite (fun hc=>by simp at hc) fun _=>Rn.some ⟨k,rfl,by omega,hk,hp,fun h=>by omega⟩))
theorem scanDown {c:Int→Option Bool} {p:Nat→Bool} {j0 lo:Nat} (hj:j0≤1000000) (h:∀ i:Nat,lo+1≤i→i≤j0→c (i:Int)=some (p i)) (hE:c (lo:Int)=some false) (h0:lo≤j0) :
  Rn (iter big (fun (y:Int)=>bn (c y) fun (b:Bool)=>lt b fun v=>ite' v (lt (subI .i64 y 1) fun z=>some (.inl z)) (some (.inr y))) (j0:Int)) fun r=>∃ k:Nat,r=(k:Int)∧lo≤k∧k≤j0∧(∀ i,k<i→i≤j0→p i=true)∧(lo<k→p k=false):=by
 refine Rn.iter _ (fun t y=>∃ k:Nat,y=(k:Int)∧k+t=j0∧lo≤k∧∀ i,k<i→i≤j0→p i=true) (j0 - lo) (by unfold big;omega) ⟨j0,rfl,rfl,h0,fun i h1 h2=>by omega⟩ fun t y ht hI=>?_
 obtain⟨k,rfl,e,hk,hp⟩:=hI
 rcases Nat.lt_or_ge lo k with hlt|hge
 ·refine Rn.bnE (h k (by omega) (by omega)) (Rn.lt (Rn.ite (fun hc=>Rn.lt (Rn.some ⟨by omega,k - 1,?_,by omega,by omega,fun i h1 h2=>?_⟩)) fun hc=>Rn.some ⟨k,rfl,by omega,by omega,hp,fun _=>hc⟩))
  ·rw[Ao (by omega) (by omega)]
   omega
  ·rcases Nat.lt_or_ge k i with h3|h3
   ·exact hp i h3 h2
   ·rwa [show i=k by omega]
 ·have e2:k=lo:=by omega
  subst e2
  exact Rn.bnE hE (Rn.lt (Rn.ite (fun hc=>by simp at hc) fun _=>Rn.some ⟨k,rfl,by omega,by omega,hp,fun h=>by omega⟩))
def cvS (x y:Span):Int:=if x.frm<y.frm then -1 else if y.frm<x.frm then 1 else 0
theorem noNaN (a:Int):Bq big a=some false:=by simp[Bq,neI,AA]
theorem cmpES (x y:Span):AI big x y=some (cvS x y):=by
 have hc:BL big x.frm y.frm=some (cvS x y):=by
  unfold BL cvS
  rw[noNaN,noNaN]
  simp only[An,Bh,AA]
  rcases Int.lt_trichotomy x.frm y.frm with h|h|h
  ·rw[lt_t h,AX,if_pos h]
  ·rw[lt_f (by omega),Bh,gt_f (by omega),Bh,if_neg (by omega),if_neg (by omega)]
  ·rw[lt_f (by omega),Bh,gt_t h,AX,if_neg (by omega),if_pos h]
 unfold AI
 rw[hc]
 rfl
theorem cvLtS (x y:Span):ltI (cvS x y) 0=decide (keyS x<keyS y):=by
 unfold cvS keyS
 rcases Int.lt_trichotomy x.frm y.frm with h|h|h
 ·rw[if_pos h,decide_eq_true h];rfl
 ·rw[if_neg (by omega),if_neg (by omega),decide_eq_false (by omega)];rfl
 ·rw[if_neg (by omega),if_pos h,decide_eq_false (by omega)];rfl
theorem Ci (p:Prop) [Decidable p]:notB (decide p)=decide (¬ p):=by
 by_cases h:p <;> simp[notB,h]
structure RP {α:Type} (a b:Nat) (l r:List α):Prop where
 perm:r.Perm l
 off:∀ p,(p<a∨b≤p)→r[p]?=l[p]?
section
variable {α:Type} {a b:Nat} {l r s:List α}
theorem RP.refl (a b:Nat) (l:List α):RP a b l l:=⟨List.Perm.refl _,fun _ _=>rfl⟩
theorem RP.trans (h1:RP a b l r) (h2:RP a b r s):RP a b l s:=⟨h2.perm.trans h1.perm,fun p hp=>(h2.off p hp).trans (h1.off p hp)⟩
theorem RP.mono {a' b':Nat} (h:RP a b l r) (h1:a'≤a) (h2:b≤b'):RP a' b' l r:=⟨h.perm,fun p hp=>h.off p (by omega)⟩
theorem RP.len (h:RP a b l r):r.length=l.length:=h.perm.length_eq
theorem RP.seg (h:RP a b l r) (hab:a≤b) (hb:b≤l.length) {i:Nat} (h1:a≤i) (h2:i<b):∃ j,a≤j∧j<b∧r[i]?=l[j]?:=by
 have hlen:=h.len
 have e1:r.take a=l.take a:=List.ext_getElem? fun i=>by
  rw[List.getElem?_take,List.getElem?_take]
  split
  ·exact h.off i (.inl (by assumption))
  ·rfl
 have e2:r.drop b=l.drop b:=List.ext_getElem? fun i=>by
  rw[List.getElem?_drop,List.getElem?_drop]
  exact h.off _ (.inr (by omega))
 have split3:∀ m:List α,m=m.take a++((m.drop a).take (b - a)++m.drop b):=fun m=>by
  have:m.drop b=(m.drop a).drop (b - a):=by rw[List.drop_drop];congr 1;omega
  rw[this,List.take_append_drop,List.take_append_drop]
 have hp:=h.perm
 rw[split3 r,split3 l,e1,e2] at hp
 have hp2:=(List.perm_append_right_iff _).1 ((List.perm_append_left_iff _).1 hp)
 have hi:i<r.length:=by omega
 have hm:r[i]∈(r.drop a).take (b - a):=by
  refine List.mem_take_iff_getElem.2 ⟨i - a,by simp;omega,?_⟩
  rw[List.getElem_drop]
  congr 1
  omega
 obtain⟨k,hk,he⟩:=List.mem_take_iff_getElem.1 (hp2.mem_iff.1 hm)
 rw[List.getElem_drop] at he
 simp at hk
 refine⟨a+k,by omega,by omega,?_⟩
 rw[List.getElem?_eq_getElem hi,← he,List.getElem?_eq_getElem]
end
def swS (d:List Span) (i j:Nat):List Span:=(d.set i (d.getD j (⟨0,0⟩:Span))).set j (d.getD i (⟨0,0⟩:Span))
theorem Jy (d:List Span) (i j:Nat):(swS d i j).length=d.length:=by simp[swS]
theorem BG {d e:List Span} {i j:Nat} (h:d[i]?=e[j]?):ksS d i=ksS e j:=by
 unfold ksS
 rw[List.getD_eq_getElem?_getD,List.getD_eq_getElem?_getD,h]
theorem DX {d:List Span} {i j:Nat} (hi:i<d.length) (hj:j<d.length) (p:Nat):ksS (swS d i j) p=if p=j then ksS d i else if p=i then ksS d j else ksS d p:=by
 unfold ksS swS
 rw[List.getD_eq_getElem?_getD,List.getElem?_set]
 by_cases e:j=p
 ·subst e
  rw[if_pos rfl,if_pos (by simpa using hj),if_pos rfl]
  rfl
 ·rw[if_neg e,if_neg fun h=>e h.symm,List.getElem?_set]
  by_cases e2:i=p
  ·subst e2
   rw[if_pos rfl,if_pos hi,if_pos rfl]
   rfl
  ·rw[if_neg e2,if_neg fun h=>e2 h.symm,← List.getD_eq_getElem?_getD]
theorem RP.swS {d:List Span} {a b i j:Nat} (hi:i<d.length) (hj:j<d.length) (h1:a≤i∧i<b) (h2:a≤j∧j<b):RP a b d (Go.Proofs.Ythjenkmbbnjcnaa.swS d i j):=by
 have e1:d.getD i (⟨0,0⟩:Span)=d[i]:=by rw[List.getD_eq_getElem?_getD,List.getElem?_eq_getElem hi];rfl
 have e2:d.getD j (⟨0,0⟩:Span)=d[j]:=by rw[List.getD_eq_getElem?_getD,List.getElem?_eq_getElem hj];rfl
 unfold Go.Proofs.Ythjenkmbbnjcnaa.swS
 rw[e1,e2]
 refine⟨List.set_set_perm hi hj,fun p hp=>?_⟩
 rw[List.getElem?_set_ne (by omega),List.getElem?_set_ne (by omega)]
theorem swapS {d:List Span} {i j:Nat} {x y:Int} (hx:x=(i:Int)) (hy:y=(j:Int)) (hi:i<d.length) (hj:j<d.length) {β:Type} {k:List Span→Option β} {Q:β→Prop} (h:Rn (k (swS d i j)) Q) :
  Rn (bn (nth d y) fun u=>bn (nth d x) fun v=>lt (d.set x.toNat u) fun w=>bn (nth w y) fun _=>lt (w.set y.toNat v) k) Q:=by
 subst hx hy
 refine Rn.bnE (nthD hj (⟨0,0⟩:Span)) (Rn.bnE (nthD hi (⟨0,0⟩:Span)) (Rn.lt ?_))
 rw[Int.toNat_natCast,Int.toNat_natCast]
 exact Rn.bnE (nthD (by simpa using hj) (⟨0,0⟩:Span)) (Rn.lt h)
def SortedS (d:List Span) (a b:Nat):Prop:=∀ p q,a≤p→p<q→q<b→ksS d p≤ksS d q
structure InsS (l d:List Span) (a i j:Nat):Prop where
 rp:RP a (i+1) l d
 aj:a≤j
 ji:j≤i
 srt:∀ p q,a≤p→p<q→q≤i→p≠j→q≠j→ksS d p≤ksS d q
 low:∀ q,j<q→q≤i→ksS d j≤ksS d q
theorem InsS.step {l d:List Span} {a i j:Nat} (h:InsS l d a i (j+1)) (hi:i<l.length) (haj:a≤j) (hlt:ksS d (j+1)<ksS d j):InsS l (swS d (j+1) j) a i j:=by
 have hji:=h.ji
 have hl:=h.rp.len
 have hk:=DX (d:=d) (i:=j+1) (j:=j) (by omega) (by omega)
 refine⟨h.rp.trans (RP.swS (by omega) (by omega) (by omega) (by omega)),haj,by omega,fun p q g1 g2 g3 g4 g5=>?_,fun q g1 g2=>?_⟩
 ·rw[hk,hk,if_neg g4,if_neg g5]
  rcases Decidable.em (p=j+1) with e|e
  ·subst e
   rw[if_pos rfl,if_neg (by omega)]
   exact h.srt j q haj (by omega) g3 (by omega) (by omega)
  ·rw[if_neg e]
   rcases Decidable.em (q=j+1) with e'|e'
   ·subst e'
    rw[if_pos rfl]
    exact h.srt p j g1 (by omega) (by omega) (by omega) (by omega)
   ·rw[if_neg e']
    exact h.srt p q g1 g2 g3 e e'
 ·rw[hk,hk,if_pos rfl,if_neg (by omega)]
  rcases Decidable.em (q=j+1) with e|e
  ·rw[if_pos e]
   omega
  ·rw[if_neg e]
   exact h.low q (by omega) g2
theorem InsS.done {l d:List Span} {a i j:Nat} (h:InsS l d a i j) (hc:a<j→ksS d (j - 1)≤ksS d j):RP a (i+1) l d∧SortedS d a (i+1):=by
 refine⟨h.rp,fun p q h1 h2 h3=>?_⟩
 rcases Decidable.em (p=j) with e|e
 ·subst e
  exact h.low q h2 (by omega)
 ·rcases Decidable.em (q=j) with e'|e'
  ·subst e'
   have g3:=hc (by omega)
   rcases Decidable.em (p=q - 1) with e2|e2
   ·subst e2
    exact g3
   ·have:=h.srt p (q - 1) h1 (by omega) (by have:=h.ji;omega) e (by omega)
    omega
  ·exact h.srt p q h1 h2 (by omega) e e'
theorem HO {l:List Span} {a b:Nat} (hab:a≤b) (hb:b≤l.length) (hl:l.length≤1000000):Rn (AS big l (a:Int) (b:Int)) fun r=>RP a b l r∧SortedS r a b:=by
 unfold AS
 refine Rn.lt ?_
 have e0:addI .i64 (a:Int) 1=((a+1:Nat):Int):=by rw[Am (by omega) (by omega)];omega
 rw[e0]
 refine Rn.bn (P:=fun r=>RP a b l r∧SortedS r a b) (Rn.iter _ (fun k y=>∃ d:List Span,y=(((a+1+k:Nat):Int),d)∧RP a b l d∧SortedS d a (a+1+k)) (b - a - 1) (by unfold big;omega) ⟨l,rfl,RP.refl _ _ _,fun p q h1 h2 h3=>by omega⟩ fun k y hk hI=>?_) fun r hr=>Rn.some hr
 obtain⟨d,rfl,hp,hs⟩:=hI
 have hdl:=hp.len
 refine Rn.lt (Rn.ite (fun hd=>?_) fun hd=>?_)
 ·have hi:a+1+k<b:=by
   have:=of_decide_eq_true (p:=(((a+1+k:Nat):Int)<(b:Int))) hd
   omega
  refine Rn.bn (P:=fun r=>RP a (a+1+k+1) d r∧SortedS r a (a+1+k+1)) ?_ fun r hr=>Rn.lt (Rn.some ⟨by omega,r,?_,hp.trans (hr.1.mono (Nat.le_refl _) (by omega)),fun p q h1 h2 h3=>hr.2 p q h1 h2 (by omega)⟩)
  ·have h0:InsS d d a (a+1+k) (a+1+k):=⟨RP.refl _ _ _,by omega,Nat.le_refl _,fun p q h1 h2 h3 h4 h5=>hs p q h1 h2 (by omega),fun q h1 h2=>by omega⟩
   refine Rn.iter _ (fun t y=>∃ (j:Nat) (d':List Span),y=((j:Int),d')∧j+t=a+1+k∧InsS d d' a (a+1+k) j) (k+1) (by unfold big;omega) ⟨a+1+k,d,rfl,rfl,h0⟩ fun t y ht hI=>?_
   obtain⟨j,d',rfl,hj,h⟩:=hI
   have hdl':=h.rp.len
   rcases Decidable.em (a<j) with haj|haj
   ·obtain⟨j,rfl⟩:∃ i,j=i+1:=⟨j - 1,by omega⟩
    have hji:=h.ji
    have h2:j+1<d'.length:=by omega
    have h1:j<d'.length:=by omega
    have es:subI .i64 ((j+1:Nat):Int) 1=(j:Int):=by rw[Ao (by omega) (by omega)];omega
    refine Rn.bnE (v:=decide (ksS d' (j+1)<ksS d' j)) ?_ (Rn.lt (Rn.ite (fun hc=>?_) fun hc=>Rn.some (h.done fun _=>?_)))
    ·simp only[AA]
     rw[gt_t (show (a:Int)<((j+1:Nat):Int) by omega),AX,nthD h2 (⟨0,0⟩:Span)]
     simp only[An]
     rw[es,nthD h1 (⟨0,0⟩:Span)]
     simp only[An,cmpES,cvLtS]
     rfl
    ·have hlt:=of_decide_eq_true hc
     refine Rn.lt ?_
     simp only
     rw[es]
     exact swapS (x:=((j+1:Nat):Int)) rfl rfl h2 h1 (Rn.some ⟨by omega,j,_,rfl,by omega,h.step (by omega) (by omega) hlt⟩)
    ·have:=of_decide_eq_false hc
     show ksS d' j≤ksS d' (j+1)
     omega
   ·refine Rn.bnE (v:=false) ?_ (Rn.lt (Rn.ite (fun hc=>by simp at hc) fun _=>Rn.some (h.done fun hc=>absurd hc haj)))
    simp only[AA]
    rw[gt_f (by omega),Bh]
  ·rw[Am (by first|omega|(simp only;omega)) (by first|omega|(simp only;omega))]
   rfl
 ·have hi:b≤a+1+k:=by
   have:=of_decide_eq_false (p:=(((a+1+k:Nat):Int)<(b:Int))) hd
   omega
  exact Rn.some ⟨hp,fun p q h1 h2 h3=>hs p q h1 h2 (by omega)⟩
theorem vquo {a b:Int} (h:0≤a) (h2:a<9223372036854775808) (hb:0<b):quoI .i64 a b=some (a / b):=by
 have hne:¬ b=0:=by omega
 have h3:a / b≤a:=Int.ediv_le_self b h
 have h4:0≤a / b:=Int.ediv_nonneg h (by omega)
 simp only[quoI,ne_eq,hne,not_false_eq_true,if_true,Int.tdiv_eq_ediv_of_nonneg h]
 rw[wrap64 (by omega) (by omega)]
theorem BU {a b:Int} (h:-9223372036854775808≤a*b) (h2:a*b≤9223372036854775807):mulI .i64 a b=a*b:=wrap64 h h2
def sortMost:Nat:=49
theorem EG {l:List Span} {i j:Nat} (hi:i<l.length) (hj:j<l.length) (s:Int):Rn (AC big l (i:Int) (j:Int) s) fun r=>((r.1=(i:Int)∧r.2.1=(j:Int))∨(r.1=(j:Int)∧r.2.1=(i:Int)))∧r.2.2.1=l:=by
 unfold AC
 refine Rn.bnE (nthD hj (⟨0,0⟩:Span)) (Rn.bnE (nthD hi (⟨0,0⟩:Span)) ?_)
 simp only[cmpES,cvLtS,An,AA]
 exact Rn.ite (fun _=>Rn.some ⟨.inr ⟨rfl,rfl⟩,rfl⟩) fun _=>Rn.some ⟨.inl ⟨rfl,rfl⟩,rfl⟩
theorem H7 {l:List Span} {i j k:Nat} (hi:i<l.length) (hj:j<l.length) (hk:k<l.length) (s:Int):Rn (AD big l (i:Int) (j:Int) (k:Int) s) fun r=>(∃ x:Nat,r.1=(x:Int)∧(x=i∨x=j∨x=k))∧r.2.1=l:=by
 unfold AD
 refine Rn.bn (EG hi hj s) fun v hv=>?_
 obtain⟨v1,v2,v3,v4⟩:=v
 obtain⟨hv1,hv2⟩:=hv
 simp only at hv1 hv2
 subst v3
 refine Rn.chk (by simp[lenB]) ?_
 obtain⟨x,y,ex,ey,hxy⟩:∃ x y:Nat,v1=(x:Int)∧v2=(y:Int)∧((x=i∧y=j)∨(x=j∧y=i)):=by
  rcases hv1 with ⟨a,b⟩|⟨a,b⟩
  ·exact⟨i,j,a,b,.inl ⟨rfl,rfl⟩⟩
  ·exact⟨j,i,a,b,.inr ⟨rfl,rfl⟩⟩
 subst ex ey
 have hx:x<l.length:=by omega
 have hy:y<l.length:=by omega
 refine Rn.bn (EG hy hk v4) fun w hw=>?_
 obtain⟨w1,w2,w3,w4⟩:=w
 obtain⟨hw1,hw2⟩:=hw
 simp only at hw1 hw2
 subst w3
 refine Rn.chk (by simp[lenB]) ?_
 obtain⟨z,t,ez,et,hzt⟩:∃ z t:Nat,w1=(z:Int)∧w2=(t:Int)∧((z=y∧t=k)∨(z=k∧t=y)):=by
  rcases hw1 with ⟨a,b⟩|⟨a,b⟩
  ·exact⟨y,k,a,b,.inl ⟨rfl,rfl⟩⟩
  ·exact⟨k,y,a,b,.inr ⟨rfl,rfl⟩⟩
 subst ez et
 have hz:z<l.length:=by omega
 refine Rn.bn (EG hx hz w4) fun u hu=>?_
 obtain⟨u1,u2,u3,u4⟩:=u
 obtain⟨hu1,hu2⟩:=hu
 simp only at hu1 hu2
 subst u3
 refine Rn.chk (by simp[lenB]) (Rn.some ⟨?_,rfl⟩)
 simp only
 rcases hu1 with ⟨a,b⟩|⟨a,b⟩
 ·exact⟨z,b,by omega⟩
 ·exact⟨x,b,by omega⟩
theorem H8 {l:List Span} {a b:Nat} (hab:a+12<b) (hb:b≤l.length) (hl:l.length≤sortMost):Rn (AF big l (a:Int) (b:Int)) fun r=>(∃ k:Nat,r.1=(k:Int)∧a≤k∧k<b)∧r.2.2=l:=by
 unfold sortMost at hl
 unfold AF
 refine Rn.lt ?_
 rw[Ao (by omega) (by omega)]
 refine Rn.bnE (vquo (by omega) (by omega) (by omega)) (Rn.lt ?_)
 obtain⟨q,hq⟩:∃ q:Nat,((b:Int) - (a:Int)) / 4=(q:Int):=⟨((b:Int) - (a:Int)).toNat / 4,by omega⟩
 rw[hq]
 refine Rn.lt (Rn.lt (Rn.lt (Rn.lt (Rn.lt ?_))))
 rw[BU (by omega) (by omega),BU (show -9223372036854775808≤(q:Int)*2 by omega) (by omega),BU (show -9223372036854775808≤(q:Int)*3 by omega) (by omega),Am (by omega) (by omega),Am (show -9223372036854775808≤(a:Int)+(q:Int)*2 by omega) (by omega),Am (show -9223372036854775808≤(a:Int)+(q:Int)*3 by omega) (by omega)]
 refine Rn.bn (P:=fun y=>(∃ k:Nat,y.1=(k:Int)∧a≤k∧k<b)∧y.2.1=l) ?_ fun y hy=>?_
 ·refine Rn.lt (Rn.ite (fun _=>?_) fun h=>?_)
  ·refine Rn.bnE (v:=((a:Int)+(q:Int)*1,(a:Int)+(q:Int)*2,(a:Int)+(q:Int)*3,l,0)) ?_ ?_
   ·simp only[AA]
    rw[ge_f (by omega),Bh]
   ·simp only
    rw[show (a:Int)+(q:Int)*1=((a+q:Nat):Int) by omega,show (a:Int)+(q:Int)*2=((a+q*2:Nat):Int) by omega,show (a:Int)+(q:Int)*3=((a+q*3:Nat):Int) by omega]
    refine Rn.bn (H7 (by omega) (by omega) (by omega) 0) fun v hv=>Rn.chk (by rw[hv.2];simp[lenB]) (Rn.some ⟨?_,hv.2⟩)
    obtain⟨x,e,hx⟩:=hv.1
    exact⟨x,e,by omega⟩
  ·have:=of_decide_eq_false (p:=(8:Int)≤(b:Int) - (a:Int)) h
   omega
 ·obtain⟨⟨k,e,hk⟩,hy2⟩:=hy
  obtain⟨y1,y2,y3⟩:=y
  simp only at e hy2
  subst y2
  exact Rn.lt (Rn.ite (fun _=>Rn.some ⟨⟨k,e,hk⟩,rfl⟩) fun _=>Rn.lt (Rn.ite (fun _=>Rn.some ⟨⟨k,e,hk⟩,rfl⟩) fun _=>Rn.some ⟨⟨k,e,hk⟩,rfl⟩))
theorem Hq {l:List Span} {a b:Nat} (hab:a<b) (hb:b≤l.length) (hl:l.length≤sortMost):Rn (AU big l (a:Int) (b:Int)) fun r=>RP a b l r:=by
 unfold sortMost at hl
 unfold AU
 refine Rn.lt ?_
 rw[Ao (by omega) (by omega),show (b:Int) - 1=((b - 1:Nat):Int) by omega]
 refine Rn.bn (P:=fun r=>RP a b l r) (Rn.iter _ (fun t y=>∃ (i j:Nat) (d:List Span),y=((i:Int),(j:Int),d)∧i=a+t∧j<b∧i≤j+1∧RP a b l d) (b - a) (by unfold big;omega) ⟨a,b - 1,l,rfl,rfl,by omega,by omega,RP.refl _ _ _⟩ fun t y ht hI=>?_) fun r hr=>Rn.some hr
 obtain⟨i,j,d,rfl,h1,h2,h3,h4⟩:=hI
 have hd:=h4.len
 refine Rn.lt (Rn.ite (fun hc=>?_) fun hc=>Rn.some h4)
 have hij:i<j:=by
  have:=of_decide_eq_true (p:=((i:Int)<(j:Int))) hc
  omega
 refine swapS rfl rfl (show i<d.length by omega) (show j<d.length by omega) (Rn.lt (Rn.lt (Rn.some ⟨by omega,i+1,j - 1,swS d i j,?_,by omega,by omega,by omega,h4.trans (RP.swS (by omega) (by omega) (by omega) (by omega))⟩)))
 show (addI .i64 (i:Int) 1,subI .i64 (j:Int) 1,swS d i j)=_
 rw[Am (by omega) (by omega),Ao (by omega) (by omega),show ((j - 1:Nat):Int)=(j:Int) - 1 by omega]
 rfl
theorem Hr {l:List Span} {a b:Nat} (hab:a<b) (hb:b≤l.length) (hl:l.length≤sortMost):Rn (Ay big l (a:Int) (b:Int)) fun r=>r.2=l∧(r.1=true→SortedS l a b):=by
 unfold sortMost at hl
 unfold Ay
 refine Rn.lt ?_
 rw[Am (by omega) (by omega),show (a:Int)+1=((a+1:Nat):Int) by omega]
 refine Rn.bn (P:=fun y=>y=.inr (false,l)∨(y=.inr (true,l)∧SortedS l a b)) (Rn.iter _ (fun t y=>t=0∧y=(((a+1:Nat):Int),0,l)) 0 (by unfold big;omega) ⟨rfl,rfl⟩ fun t y ht hI=>?_) fun y hy=>?_
 ·obtain⟨rfl,rfl⟩:=hI
  refine Rn.lt (Rn.ite (fun _=>?_) fun h=>absurd (show ltI 0 5=false from h) (by decide))
  refine Rn.bn (P:=fun y=>y=.inr (false,l)∨(y=.inr (true,l)∧SortedS l a b)) ?_ fun y hy=>?_
  ·refine Rn.bn (scanUp (p:=fun i=>decide (¬ ksS l i<ksS l (i - 1))) (i0:=a+1) (hi:=b) (by omega) (fun i h1 h2=>?_) ?_ (by omega)) fun r hr=>?_
   ·simp only[AA]
    rw[lt_t (by omega),AX,nthD (show i<l.length by omega) (⟨0,0⟩:Span)]
    simp only[An]
    rw[Ao (by omega) (by omega),show (i:Int) - 1=((i - 1:Nat):Int) by omega,nthD (show i - 1<l.length by omega) (⟨0,0⟩:Span)]
    simp only[An,cmpES,cvLtS,Ci]
    rfl
   ·simp only[AA]
    rw[lt_f (by omega),Bh]
   ·obtain⟨k,rfl,k1,k2,k3,k4⟩:=hr
    refine Rn.lt (Rn.ite (fun h=>Rn.some (.inr ⟨rfl,?_⟩)) fun h=>Rn.lt (Rn.lt ?_))
    ·have hk:k=b:=by
      have:=of_decide_eq_true (p:=((k:Int)=(b:Int))) h
      omega
     subst hk
     have hadj:∀ i,a+1≤i→i<k→ksS l (i - 1)≤ksS l i:=fun i g1 g2=>by
      have:=of_decide_eq_true (k3 i g1 g2)
      omega
     intro p q h1 h2 h3
     obtain⟨n,rfl⟩:∃ n,q=p+1+n:=⟨q - (p+1),by omega⟩
     clear h2
     induction n with
     |zero=>exact hadj (p+1) (by omega) h3
     |succ n ih =>
      have g1:=ih (by omega)
      have g2:=hadj (p+1+n+1) (by omega) h3
      rw[show p+1+n+1 - 1=p+1+n by omega] at g2
      exact Int.le_trans g1 g2
    ·rw[Ao (by omega) (by omega),lt_t (by omega)]
     exact Rn.ite (fun _=>Rn.some (.inl rfl)) fun h=>by simp at h
  ·rcases hy with rfl|⟨rfl,hs⟩
   ·rw[BW]
    exact Rn.some (.inl rfl)
   ·rw[BW]
    exact Rn.some (.inr ⟨rfl,hs⟩)
 ·rcases hy with rfl|⟨rfl,hs⟩
  ·rw[BW]
   exact Rn.some ⟨rfl,fun h=>by simp at h⟩
  ·rw[BW]
   exact Rn.some ⟨rfl,fun _=>hs⟩
structure PES (l d:List Span) (a b:Nat) (K:Int) (i j:Nat):Prop where
 rp:RP a b l d
 pv:ksS d a=K
 lo:∀ p,a<p→p<i→ksS d p≤K
 hi:∀ p,j<p→p<b→K<ksS d p
 ai:a+1≤i
 ij:i≤j+1
 jb:j<b
theorem H9 {l:List Span} {a b k:Nat} (hk1:a≤k) (hk2:k<b) (hb:b≤l.length) (hl:l.length≤sortMost):Rn (AQ big l (a:Int) (b:Int) (k:Int)) fun r=>∃ m:Nat,r.1=(m:Int)∧a<m∧m≤b∧RP a b l r.2∧(∀ p,a≤p→p<m→ksS r.2 p≤ksS l k)∧(∀ p,m≤p→p<b→ksS l k<ksS r.2 p):=by
 unfold sortMost at hl
 unfold AQ
 refine swapS rfl rfl (show a<l.length by omega) (show k<l.length by omega) (Rn.lt (Rn.lt ?_))
 have hs:=RP.swS (d:=l) (a:=a) (b:=b) (i:=a) (j:=k) (by omega) (by omega) (by omega) (by omega)
 have hpv:ksS (swS l a k) a=ksS l k:=by
  rw[DX (by omega) (by omega)]
  split
  ·rename_i h
   rw[← h]
  ·rw[if_pos rfl]
 generalize swS l a k=d0 at hs hpv
 rw[Am (by omega) (by omega),Ao (by omega) (by omega),show (a:Int)+1=((a+1:Nat):Int) by omega,show (b:Int) - 1=((b - 1:Nat):Int) by omega]
 refine Rn.bn (P:=fun y=>∃ m:Nat,y.1=(m:Int)∧a<m∧m≤b∧RP a b l y.2∧(∀ p,a≤p→p<m→ksS y.2 p≤ksS l k)∧(∀ p,m≤p→p<b→ksS l k<ksS y.2 p)) (Rn.iter _ (fun t y=>∃ (i j:Nat) (d:List Span),y=((i:Int),(j:Int),d)∧a+1+t≤i∧PES l d a b (ksS l k) i j) (b - a) (by unfold big;omega) ⟨a+1,b - 1,d0,rfl,by omega,⟨hs,hpv,fun p h1 h2=>by omega,fun p h1 h2=>by omega,by omega,by omega,by omega⟩⟩ fun t y ht hI=>?_) fun y hy=>Rn.some hy
 obtain⟨i,j,d,rfl,h1,h⟩:=hI
 have hd:=h.rp.len
 have hai:=h.ai
 have hij:=h.ij
 have hjb:=h.jb
 generalize ksS l k=K at h
 refine Rn.bn (scanUp (p:=fun p=>decide (¬ K<ksS d p)) (i0:=i) (hi:=j+1) (by omega) (fun p g1 g2=>?_) ?_ (by omega)) fun r hr=>?_
 ·simp only[AA]
  rw[le_t (by omega),AX,nthD (show a<d.length by omega) (⟨0,0⟩:Span)]
  simp only[An]
  rw[nthD (show p<d.length by omega) (⟨0,0⟩:Span)]
  simp only[An,cmpES,cvLtS,Ci]
  rw[← h.pv]
  rfl
 ·simp only[AA]
  rw[le_f (by omega),Bh]
 obtain⟨i',rfl,i1,i2,i3,i4⟩:=hr
 refine Rn.bn (scanDown (p:=fun p=>decide (K<ksS d p)) (j0:=j) (lo:=i' - 1) (by omega) (fun p g1 g2=>?_) ?_ (by omega)) fun r hr=>?_
 ·simp only[AA]
  rw[le_t (by omega),AX,nthD (show a<d.length by omega) (⟨0,0⟩:Span)]
  simp only[An]
  rw[nthD (show p<d.length by omega) (⟨0,0⟩:Span)]
  simp only[An,cmpES,cvLtS]
  rw[← h.pv]
  rfl
 ·simp only[AA]
  rw[le_f (by omega),Bh]
 obtain⟨j',rfl,j1,j2,j3,j4⟩:=hr
 have hlo:∀ p,a<p→p<i'→ksS d p≤K:=fun p g1 g2=>by
  rcases Nat.lt_or_ge p i with g3|g3
  ·exact h.lo p g1 g3
  ·have:=of_decide_eq_true (i3 p g3 g2)
   omega
 have hhi:∀ p,j'<p→p<b→K<ksS d p:=fun p g1 g2=>by
  rcases Nat.lt_or_ge j p with g3|g3
  ·exact h.hi p g3 g2
  ·exact of_decide_eq_true (j3 p g1 g3)
 refine Rn.lt (Rn.ite (fun hc=>Rn.some ⟨i',rfl,by omega,by omega,h.rp,fun p g1 g2=>?_,fun p g1 g2=>hhi p ?_ g2⟩) fun hc=>?_)
 ·rcases Nat.eq_or_lt_of_le g1 with g3|g3
  ·subst g3
   show ksS d a≤K
   rw[h.pv]
   exact Int.le_refl _
  ·exact hlo p g3 g2
 ·have:=of_decide_eq_true (p:=((j':Int)<(i':Int))) hc
  omega
 ·have hle:i'≤j':=by
   have:=of_decide_eq_false (p:=((j':Int)<(i':Int))) hc
   omega
  have e1:=of_decide_eq_false (i4 (by omega))
  have e2:=of_decide_eq_false (j4 (by omega))
  have hne:i'≠j':=fun e=>by subst e;omega
  refine swapS rfl rfl (show i'<d.length by omega) (show j'<d.length by omega) (Rn.lt (Rn.lt (Rn.some ⟨by omega,i'+1,j' - 1,swS d i' j',?_,by omega,?_⟩)))
  ·rw[Am (by omega) (by omega),Ao (by omega) (by omega),show ((j' - 1:Nat):Int)=(j':Int) - 1 by omega]
   rfl
  ·have hk:=DX (d:=d) (i:=i') (j:=j') (by omega) (by omega)
   refine⟨h.rp.trans (RP.swS (by omega) (by omega) (by omega) (by omega)),?_,fun p g1 g2=>?_,fun p g1 g2=>?_,by omega,by omega,by omega⟩
   ·rw[hk,if_neg (by omega),if_neg (by omega)]
    exact h.pv
   ·rw[hk,if_neg (by omega)]
    split
    ·omega
    ·exact hlo p g1 (by omega)
   ·rw[hk]
    split
    ·omega
    ·rw[if_neg (by omega)]
     exact hhi p (by omega) g2
structure PTS (l d:List Span) (a b:Nat) (K:Int) (i j:Nat):Prop where
 rp:RP a b l d
 pv:ksS d a=K
 lo:∀ p,a<p→p<i→ksS d p<K
 hi:∀ p,j<p→p<b→K≤ksS d p
 ai:a+1≤i
 ij:i≤j+1
 jb:j<b
structure PSS (d:List Span) (a b:Nat) (K:Int) (i' j':Nat):Prop where
 lo:∀ p,a<p→p<i'→ksS d p<K
 hi:∀ p,j'<p→p<b→K≤ksS d p
 ge:i'≤j'+1
 both:i'≤j'→K≤ksS d i'∧ksS d j'<K
theorem PTS.scan {l d:List Span} {a b i j i' j':Nat} {K:Int} (h:PTS l d a b K i j) (i1:i≤i') (i3:∀ p,i≤p→p<i'→decide (ksS d p<K)=true) (i4:i'<j+1→decide (ksS d i'<K)=false)
  (j1:i' - 1≤j') (j2:j'≤j) (j3:∀ p,j'<p→p≤j→decide (¬ ksS d p<K)=true) (j4:i' - 1<j'→decide (¬ ksS d j'<K)=false):PSS d a b K i' j':=by
 have hai:=h.ai
 refine⟨fun p g1 g2=>?_,fun p g1 g2=>?_,by omega,fun hle=>⟨?_,?_⟩⟩
 ·rcases Nat.lt_or_ge p i with g3|g3
  ·exact h.lo p g1 g3
  ·exact of_decide_eq_true (i3 p g3 g2)
 ·rcases Nat.lt_or_ge j p with g3|g3
  ·exact h.hi p g3 g2
  ·have:=of_decide_eq_true (j3 p g1 g3)
   omega
 ·have:=of_decide_eq_false (i4 (by omega))
  omega
 ·have:=of_decide_eq_false (j4 (by omega))
  omega
theorem PSS.last {l d:List Span} {a b i' j':Nat} {K:Int} (hr:RP a b l d) (pv:ksS d a=K) (h:PSS d a b K i' j') (hb:b≤l.length) (h1:a≤j') (h2:j'<b) (h3:j'<i') :
  RP a b l (swS d j' a)∧ksS (swS d j' a) j'=K∧(∀ p,a≤p→p<j'→ksS (swS d j' a) p<K)∧∀ p,j'<p→p<b→K≤ksS (swS d j' a) p:=by
 have hd:=hr.len
 have hge:=h.ge
 have hk:=DX (d:=d) (i:=j') (j:=a) (by omega) (by omega)
 refine⟨hr.trans (RP.swS (by omega) (by omega) (by omega) (by omega)),?_,fun p g1 g2=>?_,fun p g1 g2=>?_⟩
 ·rw[hk]
  split
  ·rename_i e
   rw[e]
   exact pv
  ·rw[if_pos rfl]
   exact pv
 ·rw[hk]
  split
  ·exact h.lo j' (by omega) (by omega)
  ·rw[if_neg (by omega)]
   exact h.lo p (by omega) (by omega)
 ·rw[hk,if_neg (by omega),if_neg (by omega)]
  exact h.hi p g1 g2
theorem PSS.more {l d:List Span} {a b i' j':Nat} {K:Int} (hr:RP a b l d) (pv:ksS d a=K) (h:PSS d a b K i' j') (hb:b≤l.length) (h1:a+1≤i') (h2:j'<b) (h3:i'≤j') :
  i'≠j'∧PTS l (swS d i' j') a b K (i'+1) (j' - 1):=by
 have hd:=hr.len
 obtain⟨e1,e2⟩:=h.both h3
 have hne:i'≠j':=fun e=>by subst e;omega
 have hk:=DX (d:=d) (i:=i') (j:=j') (by omega) (by omega)
 refine⟨hne,hr.trans (RP.swS (by omega) (by omega) (by omega) (by omega)),?_,fun p g1 g2=>?_,fun p g1 g2=>?_,by omega,by omega,by omega⟩
 ·rw[hk,if_neg (by omega),if_neg (by omega)]
  exact pv
 ·rw[hk,if_neg (by omega)]
  split
  ·exact e2
  ·exact h.lo p g1 (by omega)
 ·rw[hk]
  split
  ·exact e1
  ·rw[if_neg (by omega)]
   exact h.hi p (by omega) g2
theorem I3 {l:List Span} {a b k:Nat} (hk1:a≤k) (hk2:k<b) (hb:b≤l.length) (hl:l.length≤sortMost):Rn (A3 big l (a:Int) (b:Int) (k:Int)) fun r=>∃ m:Nat,r.1=(m:Int)∧a≤m∧m<b∧RP a b l r.2.2∧ksS r.2.2 m=ksS l k∧(∀ p,a≤p→p<m→ksS r.2.2 p<ksS l k)∧(∀ p,m<p→p<b→ksS l k≤ksS r.2.2 p):=by
 unfold sortMost at hl
 unfold A3
 refine swapS rfl rfl (show a<l.length by omega) (show k<l.length by omega) (Rn.lt (Rn.lt ?_))
 have hs:=RP.swS (d:=l) (a:=a) (b:=b) (i:=a) (j:=k) (by omega) (by omega) (by omega) (by omega)
 have hpv:ksS (swS l a k) a=ksS l k:=by
  rw[DX (by omega) (by omega)]
  split
  ·rename_i h
   rw[← h]
  ·rw[if_pos rfl]
 generalize swS l a k=d at hs hpv
 generalize ksS l k=K at hpv
 rw[Am (by omega) (by omega),Ao (by omega) (by omega),show (a:Int)+1=((a+1:Nat):Int) by omega,show (b:Int) - 1=((b - 1:Nat):Int) by omega]
 have h0:PTS l d a b K (a+1) (b - 1):=⟨hs,hpv,fun p h1 h2=>by omega,fun p h1 h2=>by omega,by omega,by omega,by omega⟩
 have hd:=hs.len
 refine Rn.bn (scanUp (p:=fun p=>decide (ksS d p<K)) (i0:=a+1) (hi:=b - 1+1) (by omega) (fun p g1 g2=>?_) ?_ (by omega)) fun r hr=>?_
 ·simp only[AA]
  rw[le_t (by omega),AX,nthD (show p<d.length by omega) (⟨0,0⟩:Span)]
  simp only[An]
  rw[nthD (show a<d.length by omega) (⟨0,0⟩:Span)]
  simp only[An,cmpES,cvLtS]
  rw[← hpv]
  rfl
 ·simp only[AA]
  rw[le_f (by omega),Bh]
 obtain⟨i',rfl,i1,i2,i3,i4⟩:=hr
 refine Rn.bn (scanDown (p:=fun p=>decide (¬ ksS d p<K)) (j0:=b - 1) (lo:=i' - 1) (by omega) (fun p g1 g2=>?_) ?_ (by omega)) fun r hr=>?_
 ·simp only[AA]
  rw[le_t (by omega),AX,nthD (show p<d.length by omega) (⟨0,0⟩:Span)]
  simp only[An]
  rw[nthD (show a<d.length by omega) (⟨0,0⟩:Span)]
  simp only[An,cmpES,cvLtS,Ci]
  rw[← hpv]
  rfl
 ·simp only[AA]
  rw[le_f (by omega),Bh]
 obtain⟨j',rfl,j1,j2,j3,j4⟩:=hr
 have ps:=h0.scan i1 i3 i4 j1 j2 j3 j4
 refine Rn.lt (Rn.ite (fun hc=>?_) fun hc=>?_)
 ·have hji:j'<i':=by
   have:=of_decide_eq_true (p:=((j':Int)<(i':Int))) hc
   omega
  obtain⟨q1,q2,q3,q4⟩:=ps.last hs hpv hb (by omega) (by omega) hji
  exact swapS rfl rfl (show j'<d.length by omega) (show a<d.length by omega) (Rn.some ⟨j',rfl,by omega,by omega,q1,q2,q3,q4⟩)
 have hij:i'≤j':=by
  have:=of_decide_eq_false (p:=((j':Int)<(i':Int))) hc
  omega
 obtain⟨hne,h1⟩:=ps.more hs hpv hb (by omega) (by omega) hij
 refine swapS rfl rfl (show i'<d.length by omega) (show j'<d.length by omega) (Rn.lt (Rn.lt ?_))
 rw[Am (by omega) (by omega),Ao (by omega) (by omega),show (i':Int)+1=((i'+1:Nat):Int) by omega,show (j':Int) - 1=((j' - 1:Nat):Int) by omega]
 generalize swS d i' j'=d1 at h1
 refine Rn.bn (P:=fun y=>∃ (m i:Nat) (d:List Span),y=((m:Int),d)∧RP a b l d∧ksS d a=K∧PSS d a b K i m∧a≤m∧m<b∧m<i) (Rn.iter _ (fun t y=>∃ (i j:Nat) (d:List Span),y=((i:Int),(j:Int),d)∧a+1+t≤i∧PTS l d a b K i j) (b - a) (by unfold big;omega) ⟨i'+1,j' - 1,d1,rfl,by omega,h1⟩ fun t y ht hI=>?_) fun y hy=>?_
 ·clear i3 i4 j3 j4 ps h0 hpv hs
  obtain⟨i,j,d,rfl,ht1,h⟩:=hI
  have hd:=h.rp.len
  have hai:=h.ai
  have hij:=h.ij
  have hjb:=h.jb
  refine Rn.bn (scanUp (p:=fun p=>decide (ksS d p<K)) (i0:=i) (hi:=j+1) (by omega) (fun p g1 g2=>?_) ?_ (by omega)) fun r hr=>?_
  ·simp only[AA]
   rw[le_t (by omega),AX,nthD (show p<d.length by omega) (⟨0,0⟩:Span)]
   simp only[An]
   rw[nthD (show a<d.length by omega) (⟨0,0⟩:Span)]
   simp only[An,cmpES,cvLtS]
   rw[← h.pv]
   rfl
  ·simp only[AA]
   rw[le_f (by omega),Bh]
  obtain⟨i',rfl,i1,i2,i3,i4⟩:=hr
  refine Rn.bn (scanDown (p:=fun p=>decide (¬ ksS d p<K)) (j0:=j) (lo:=i' - 1) (by omega) (fun p g1 g2=>?_) ?_ (by omega)) fun r hr=>?_
  ·simp only[AA]
   rw[le_t (by omega),AX,nthD (show p<d.length by omega) (⟨0,0⟩:Span)]
   simp only[An]
   rw[nthD (show a<d.length by omega) (⟨0,0⟩:Span)]
   simp only[An,cmpES,cvLtS,Ci]
   rw[← h.pv]
   rfl
  ·simp only[AA]
   rw[le_f (by omega),Bh]
  obtain⟨j',rfl,j1,j2,j3,j4⟩:=hr
  have ps:=h.scan i1 i3 i4 j1 j2 j3 j4
  refine Rn.lt (Rn.ite (fun hc=>Rn.some ⟨j',i',d,rfl,h.rp,h.pv,ps,by omega,by omega,?_⟩) fun hc=>?_)
  ·have:=of_decide_eq_true (p:=((j':Int)<(i':Int))) hc
   omega
  ·have hij:i'≤j':=by
    have:=of_decide_eq_false (p:=((j':Int)<(i':Int))) hc
    omega
   obtain⟨hne,h1⟩:=ps.more h.rp h.pv hb (by omega) (by omega) hij
   refine swapS rfl rfl (show i'<d.length by omega) (show j'<d.length by omega) (Rn.lt (Rn.lt (Rn.some ⟨by omega,i'+1,j' - 1,swS d i' j',?_,by omega,h1⟩)))
   rw[Am (by omega) (by omega),Ao (by omega) (by omega),show ((j' - 1:Nat):Int)=(j':Int) - 1 by omega]
   rfl
 ·obtain⟨m,i,e,rfl,y1,y2,y3,y4,y5,y6⟩:=hy
  have he:=y1.len
  obtain⟨q1,q2,q3,q4⟩:=y3.last y1 y2 hb y4 y5 y6
  exact swapS rfl rfl (show m<e.length by omega) (show a<e.length by omega) (Rn.some ⟨m,rfl,y4,y5,q1,q2,q3,q4⟩)
def HeapS (d:List Span) (f lo hi:Nat):Prop:=∀ i c,lo≤i→(c=2*i+1∨c=2*i+2)→c<hi→ksS d (f+c)≤ksS d (f+i)
theorem HeapS.max {d:List Span} {f hi:Nat} (h:HeapS d f 0 hi):∀ i,i<hi→ksS d (f+i)≤ksS d f:=by
 intro i
 induction i using Nat.strongRecOn with
 |ind i ih =>
  intro hi'
  rcases Nat.eq_zero_or_pos i with rfl|hp
  ·exact Int.le_refl _
  ·have h1:=h ((i - 1) / 2) i (Nat.zero_le _) (by omega) hi'
   have h2:=ih ((i - 1) / 2) (by omega) (by omega)
   omega
structure SDS (l d:List Span) (f lo hi r:Nat):Prop where
 rp:RP f (f+hi) l d
 lr:lo≤r
 oth:∀ i c,lo≤i→i≠r→(c=2*i+1∨c=2*i+2)→c<hi→ksS d (f+c)≤ksS d (f+i)
 up:∀ p c,lo≤p→(r=2*p+1∨r=2*p+2)→(c=2*r+1∨c=2*r+2)→c<hi→ksS d (f+c)≤ksS d (f+p)
theorem SDS.stop {l d:List Span} {f lo hi r:Nat} (h:SDS l d f lo hi r) (hc:∀ c,(c=2*r+1∨c=2*r+2)→c<hi→ksS d (f+c)≤ksS d (f+r)):RP f (f+hi) l d∧HeapS d f lo hi:=by
 refine⟨h.rp,fun i c h1 h2 h3=>?_⟩
 rcases Decidable.em (i=r) with e|e
 ·subst e
  exact hc c h2 h3
 ·exact h.oth i c h1 e h2 h3
theorem SDS.step {l d:List Span} {f lo hi r c0:Nat} (h:SDS l d f lo hi r) (hb:f+hi≤l.length) (h1:c0=2*r+1∨c0=2*r+2) (h2:c0<hi) (h3:ksS d (f+r)<ksS d (f+c0))
  (h4:∀ c,(c=2*r+1∨c=2*r+2)→c<hi→ksS d (f+c)≤ksS d (f+c0)):SDS l (swS d (f+r) (f+c0)) f lo hi c0:=by
 have hd:=h.rp.len
 have hlr:=h.lr
 have hk:=DX (d:=d) (i:=f+r) (j:=f+c0) (by omega) (by omega)
 refine⟨h.rp.trans (RP.swS (by omega) (by omega) (by omega) (by omega)),by omega,fun i c g1 g2 g3 g4=>?_,fun p c g1 g2 g3 g4=>?_⟩
 ·rw[hk,hk,if_neg (show ¬ f+i=f+c0 by omega)]
  rcases Decidable.em (i=r) with e|e
  ·subst e
   rw[if_pos (show f+i=f+i from rfl)]
   rcases Decidable.em (c=c0) with e2|e2
   ·rw[if_pos (by omega)]
    omega
   ·rw[if_neg (by omega),if_neg (by omega)]
    exact h4 c g3 g4
  ·rw[if_neg (show ¬ f+i=f+r by omega),if_neg (show ¬ f+c=f+c0 by omega)]
   rcases Decidable.em (c=r) with e2|e2
   ·subst e2
    rw[if_pos rfl]
    exact h.up i c0 g1 g3 h1 h2
   ·rw[if_neg (by omega)]
    exact h.oth i c g1 e g3 g4
 ·have hp:p=r:=by omega
  subst hp
  rw[hk,hk,if_neg (by omega),if_neg (by omega),if_neg (by omega),if_pos rfl]
  exact h.oth c0 c (by omega) (by omega) g3 g4
theorem G6 {l:List Span} {f lo hi:Nat} (hb:f+hi≤l.length) (hl:l.length≤sortMost) (hh:HeapS l f (lo+1) hi) (hlo:lo≤100):Rn (AR big l (lo:Int) (hi:Int) (f:Int)) fun r=>RP f (f+hi) l r∧HeapS r f lo hi:=by
 unfold sortMost at hl
 unfold AR
 refine Rn.bn (P:=fun y=>∃ d,(y=.inl d∨y=.inr d)∧RP f (f+hi) l d∧HeapS d f lo hi) (Rn.iter _ (fun t y=>∃ (r:Nat) (d:List Span),y=((r:Int),d)∧t≤r∧(t≤hi)∧(r<hi∨r=lo)∧SDS l d f lo hi r) hi (by unfold big;omega) ⟨lo,l,rfl,Nat.zero_le _,Nat.zero_le _,.inr rfl,RP.refl _ _ _,Nat.le_refl _,fun i c h1 h2 h3 h4=>hh i c (by omega) h3 h4,fun p c h1 h2 h3 h4=>by omega⟩ fun t y ht hI=>?_) fun y hy=>?_
 ·obtain⟨r,d,rfl,t1,t2,hr,h⟩:=hI
  have hd:=h.rp.len
  refine Rn.lt (Rn.lt (Rn.lt ?_))
  have hr2:r≤200:=by omega
  have em:mulI .i64 2 (r:Int)=((2*r:Nat):Int):=by rw[BU (by omega) (by omega)];omega
  have e1:addI .i64 ((2*r:Nat):Int) 1=((2*r+1:Nat):Int):=by rw[Am (by omega) (by omega)];omega
  simp only
  rw[em,e1]
  refine Rn.ite (fun hc=>Rn.some ⟨d,.inl rfl,h.stop fun c g1 g2=>?_⟩) fun hc=>?_
  ·have:=of_decide_eq_true (p:=((hi:Int)≤((2*r+1:Nat):Int))) hc
   omega
  ·have hc1:2*r+1<hi:=by
    have:=of_decide_eq_false (p:=((hi:Int)≤((2*r+1:Nat):Int))) hc
    omega
   refine Rn.bn (P:=fun y=>∃ c0:Nat,y=(c0:Int)∧(c0=2*r+1∨c0=2*r+2)∧c0<hi∧∀ c,(c=2*r+1∨c=2*r+2)→c<hi→ksS d (f+c)≤ksS d (f+c0)) ?_ fun y hy=>?_
   ·have e2:addI .i64 ((2*r+1:Nat):Int) 1=((2*r+2:Nat):Int):=by rw[Am (by omega) (by omega)];omega
    rcases Nat.lt_or_ge (2*r+2) hi with g|g
    ·refine Rn.bnE (v:=decide (ksS d (f+(2*r+1))<ksS d (f+(2*r+2)))) ?_ (Rn.lt (Rn.ite (fun hq=>?_) fun hq=>?_))
     ·simp only[AA]
      have e3:addI .i64 (f:Int) ((2*r+1:Nat):Int)=((f+(2*r+1):Nat):Int):=by rw[Am (by omega) (by omega)];omega
      have e4:addI .i64 ((f+(2*r+1):Nat):Int) 1=((f+(2*r+2):Nat):Int):=by rw[Am (by omega) (by omega)];omega
      rw[e2,lt_t (by omega),AX,e3,e4,nthD (show f+(2*r+1)<d.length by omega) (⟨0,0⟩:Span)]
      simp only[An]
      rw[nthD (show f+(2*r+2)<d.length by omega) (⟨0,0⟩:Span)]
      simp only[An,cmpES,cvLtS]
      rfl
     ·have hq':=of_decide_eq_true hq
      rw[e2]
      refine Rn.lt (Rn.some ⟨2*r+2,rfl,.inr rfl,g,fun c g1 g2=>?_⟩)
      rcases g1 with rfl|rfl
      ·omega
      ·exact Int.le_refl _
     ·have hq':=of_decide_eq_false hq
      refine Rn.some ⟨2*r+1,rfl,.inl rfl,hc1,fun c g1 g2=>?_⟩
      rcases g1 with rfl|rfl
      ·exact Int.le_refl _
      ·omega
    ·refine Rn.bnE (v:=false) ?_ (Rn.lt (Rn.ite (fun hq=>by simp at hq) fun _=>Rn.some ⟨2*r+1,rfl,.inl rfl,hc1,fun c g1 g2=>?_⟩))
     ·simp only[AA]
      rw[e2,lt_f (by omega),Bh]
     ·rcases g1 with rfl|rfl
      ·exact Int.le_refl _
      ·omega
   ·obtain⟨c0,rfl,k1,k2,k3⟩:=hy
    have e5:addI .i64 (f:Int) (r:Int)=((f+r:Nat):Int):=by rw[Am (by omega) (by omega)];omega
    have e6:addI .i64 (f:Int) (c0:Int)=((f+c0:Nat):Int):=by rw[Am (by omega) (by omega)];omega
    have hfr:f+r<d.length:=by omega
    have hfc:f+c0<d.length:=by omega
    refine Rn.lt ?_
    rw[e5,e6]
    refine Rn.bnE (nthD hfr (⟨0,0⟩:Span)) (Rn.lt (Rn.bnE (nthD hfc (⟨0,0⟩:Span)) ?_))
    simp only[cmpES,cvLtS,An,Ci,AA]
    refine Rn.ite (fun hq=>Rn.some ⟨d,.inr rfl,h.stop fun c g1 g2=>?_⟩) fun hq=>?_
    ·have hq':¬ ksS d (f+r)<ksS d (f+c0):=of_decide_eq_true hq
     have:=k3 c g1 g2
     omega
    ·have hq':¬ ¬ ksS d (f+r)<ksS d (f+c0):=of_decide_eq_false hq
     rw[Int.toNat_natCast,Int.toNat_natCast]
     refine Rn.bnE (nthD (by simpa using hfc) (⟨0,0⟩:Span)) (Rn.some ⟨by omega,c0,_,rfl,by omega,by omega,.inl k2,h.step hb k1 k2 (by omega) k3⟩)
 ·obtain⟨d,h1,h2⟩:=hy
  rcases h1 with rfl|rfl
  ·rw[EZ]
   exact Rn.some h2
  ·rw[BW]
   exact Rn.some h2
theorem I4 {l:List Span} {a b:Nat} (hab:a<b) (hb:b≤l.length) (hl:l.length≤sortMost):Rn (A8 big l (a:Int) (b:Int)) fun r=>RP a b l r∧SortedS r a b:=by
 have hl':=hl
 unfold sortMost at hl
 unfold A8
 obtain⟨hi,rfl⟩:∃ hi,b=a+hi:=⟨b - a,by omega⟩
 have e0:subI .i64 ((a+hi:Nat):Int) (a:Int)=(hi:Int):=by rw[Ao (by omega) (by omega)];omega
 have e1:subI .i64 (hi:Int) 1=(hi:Int) - 1:=Ao (by omega) (by omega)
 rw[e0]
 refine Rn.lt (Rn.lt ?_)
 rw[e1]
 refine Rn.bnE (vquo (by omega) (by omega) (by omega)) ?_
 refine Rn.bn (P:=fun d=>RP a (a+hi) l d∧HeapS d a 0 hi) (Rn.iter _ (fun t y=>∃ (k:Nat) (d:List Span),y=((k:Int) - 1,d)∧k+t=(hi - 1) / 2+1∧RP a (a+hi) l d∧HeapS d a k hi) hi (by unfold big;omega) ⟨(hi - 1) / 2+1,l,?_,by omega,RP.refl _ _ _,fun i c h1 h2 h3=>by omega⟩ fun t y ht hI=>?_) fun d hd=>?_
 ·refine Prod.ext ?_ rfl
  simp only
  omega
 ·obtain⟨k,d,rfl,hk,hr,hh⟩:=hI
  have hd:=hr.len
  refine Rn.lt (Rn.ite (fun hc=>?_) fun hc=>Rn.some ⟨hr,?_⟩)
  ·have hk1:1≤k:=by
    have:=of_decide_eq_true (p:=((0:Int)≤(k:Int) - 1)) hc
    omega
   obtain⟨k,rfl⟩:∃ j,k=j+1:=⟨k - 1,by omega⟩
   have e2:((k+1:Nat):Int) - 1=(k:Int):=by omega
   simp only
   rw[e2]
   refine Rn.bn (G6 (by omega) (by omega) hh (by omega)) fun r hr2=>Rn.chk (by have:=hr2.1.len;simp[lenB,this]) (Rn.lt (Rn.some ⟨by omega,k,r,?_,by omega,hr.trans hr2.1,hr2.2⟩))
   rw[Ao (by omega) (by omega)]
  ·have:k=0:=by
    have:=of_decide_eq_false (p:=((0:Int)≤(k:Int) - 1)) hc
    omega
   subst this
   exact hh
 ·obtain⟨h1,h2⟩:=hd
  refine Rn.lt ?_
  refine Rn.bn (P:=fun d=>RP a (a+hi) l d∧SortedS d a (a+hi)) (Rn.iter _ (fun t y=>∃ (k:Nat) (d:List Span),y=((k:Int) - 1,d)∧k+t=hi∧RP a (a+hi) l d∧HeapS d a 0 k∧∀ p q,a≤p→p<q→a+k≤q→q<a+hi→ksS d p≤ksS d q) hi (by unfold big;omega) ⟨hi,d,rfl,by omega,h1,h2,fun p q g1 g2 g3 g4=>by omega⟩ fun t y ht hI=>?_) fun r hr=>Rn.some hr
  obtain⟨k,d,rfl,hk,hr,hh,htop⟩:=hI
  have hd:=hr.len
  refine Rn.lt (Rn.ite (fun hc=>?_) fun hc=>Rn.some ⟨hr,fun p q g1 g2 g3=>?_⟩)
  ·have hk1:1≤k:=by
    have:=of_decide_eq_true (p:=((0:Int)≤(k:Int) - 1)) hc
    omega
   obtain⟨k,rfl⟩:∃ j,k=j+1:=⟨k - 1,by omega⟩
   have e2:((k+1:Nat):Int) - 1=(k:Int):=by omega
   have e3:addI .i64 (a:Int) (k:Int)=((a+k:Nat):Int):=by rw[Am (by omega) (by omega)];omega
   simp only
   rw[e2,e3]
   refine Rn.lt (swapS rfl rfl (show a<d.length by omega) (show a+k<d.length by omega) ?_)
   have hks:=DX (d:=d) (i:=a) (j:=a+k) (by omega) (by omega)
   have hsw:=RP.swS (d:=d) (a:=a) (b:=a+hi) (i:=a) (j:=a+k) (by omega) (by omega) (by omega) (by omega)
   have hh1:HeapS (swS d a (a+k)) a (0+1) k:=fun i c g1 g2 g3=>by
    rw[hks,hks,if_neg (by omega),if_neg (by omega),if_neg (by omega),if_neg (by omega)]
    exact hh i c (Nat.zero_le _) g2 (by omega)
   have hl1:(swS d a (a+k)).length=d.length:=Jy _ _ _
   have hmax:=hh.max
   generalize swS d a (a+k)=d1 at hks hsw hh1 hl1
   refine Rn.bn (G6 (lo:=0) (by omega) (by omega) hh1 (by omega)) fun r hr2=>Rn.chk (by have:=hr2.1.len;simp[lenB,this]) (Rn.lt (Rn.some ⟨by omega,k,r,?_,by omega,(hr.trans hsw).trans (hr2.1.mono (Nat.le_refl _) (by omega)),hr2.2,fun p q g1 g2 g3 g4=>?_⟩))
   ·rw[Ao (by omega) (by omega)]
   ·have hq:ksS r q=ksS d1 q:=BG (hr2.1.off q (.inr (by omega)))
    -- what stands at p is one of d's,not behind a+k,or p stays
    have hp:(∃ p',a≤p'∧p'<a+k∧ksS r p=ksS d1 p')∨(a+k≤p∧ksS r p=ksS d1 p):=by
     rcases Nat.lt_or_ge p (a+k) with h|h
     ·obtain⟨p',x1,x2,x3⟩:=hr2.1.seg (by omega) (by omega) g1 h
      exact .inl ⟨p',x1,x2,BG x3⟩
     ·exact .inr ⟨h,BG (hr2.1.off p (.inr h))⟩
    rw[hq,hks,if_neg (show ¬ q=a by omega) |> fun e=>e]
    rcases Nat.eq_or_lt_of_le g3 with g5|g5
    ·subst g5
     rw[if_pos rfl]
     rcases hp with ⟨p',x1,x2,x3⟩|⟨x1,x3⟩
     ·rw[x3,hks,if_neg (by omega)]
      split
      ·exact hmax k (by omega)
      ·obtain⟨j,rfl⟩:∃ j,p'=a+j:=⟨p' - a,by omega⟩
       exact hmax j (by omega)
     ·omega
    ·rw[if_neg (by omega)]
     rcases hp with ⟨p',x1,x2,x3⟩|⟨x1,x3⟩
     ·rw[x3,hks,if_neg (by omega)]
      split
      ·exact htop (a+k) q (by omega) (by omega) (by omega) g4
      ·exact htop p' q x1 (by omega) (by omega) g4
     ·rw[x3,hks]
      split
      ·exact htop a q (by omega) (by omega) (by omega) g4
      ·rw[if_neg (by omega)]
       exact htop p q g1 g2 (by omega) g4
  ·have:k=0:=by
    have:=of_decide_eq_false (p:=((0:Int)≤(k:Int) - 1)) hc
    omega
   subst this
   exact htop p q g1 g2 (by omega) g3
theorem IH {n:Nat} (h1:8≤n) (h2:n≤49):∃ p:Nat,Bm big (n:Int)=some (p:Int)∧1≤p∧p≤2*n:=by
 have hb:(List.range 50).all (fun n=>decide (n<8) || (match Bm big (n:Int) with|some p=>decide (1≤p∧p≤2*(n:Int))|none=>false))=true:=by kernel_rfl
 rw[List.all_eq_true] at hb
 have h:=hb n (by simp;omega)
 rw[decide_eq_false (by omega),Bool.false_or] at h
 split at h
 ·rename_i p e
  have:=of_decide_eq_true h
  exact⟨p.toNat,by rw[e];congr 1;omega,by omega,by omega⟩
 ·simp at h
theorem wrapU {a:Int} (h:0≤a) (h2:a<18446744073709551616):IntKind.u64.wrap a=a:=by
 have e:IntKind.u64.wrap a=a % 18446744073709551616:=rfl
 rw[e]
 exact Int.emod_eq_of_lt h h2
theorem II (x m:Int) (h:0≤m) (h2:m≤1000000):0≤andI .u64 x m∧andI .u64 x m≤m:=by
 have e:(BitVec.ofInt 64 x &&& BitVec.ofInt 64 m).toNat≤m.toNat:=by
  rw[BitVec.toNat_and,BitVec.toNat_ofInt m]
  refine Nat.le_trans Nat.and_le_right ?_
  have:m % 2 ^ 64=m:=Int.emod_eq_of_lt h (by omega)
  simp only[Int.natCast_pow] at *
  omega
 have e2:andI .u64 x m=((BitVec.ofInt 64 x &&& BitVec.ofInt 64 m).toNat:Int):=by
  have h3:(BitVec.ofInt 64 x &&& BitVec.ofInt 64 m).toNat<18446744073709551616:=(BitVec.ofInt 64 x &&& BitVec.ofInt 64 m).isLt
  exact wrapU (a:=((BitVec.ofInt 64 x &&& BitVec.ofInt 64 m).toNat:Int)) (by omega) (by omega)
 rw[e2]
 omega
theorem Gr (r:Int):∃ x y,Bt big r=some (x,y):=⟨_,_,rfl⟩
theorem IJ {l:List Span} {a b:Nat} (hab:a+12<b) (hb:b≤l.length) (hl:l.length≤sortMost):Rn (AT big l (a:Int) (b:Int)) fun r=>RP a b l r:=by
 unfold sortMost at hl
 unfold AT
 obtain⟨n,rfl⟩:∃ n,b=a+n:=⟨b - a,by omega⟩
 have e0:subI .i64 ((a+n:Nat):Int) (a:Int)=(n:Int):=by rw[Ao (by omega) (by omega)];omega
 rw[e0]
 refine Rn.lt (Rn.lt (Rn.ite (fun _=>?_) fun h=>?_))
 ·obtain⟨p,ep,p1,p2⟩:=IH (n:=n) (by omega) (by omega)
  obtain⟨q,hq⟩:∃ q:Nat,(n:Int) / 4=(q:Int):=⟨n / 4,by omega⟩
  have e1:mulI .i64 (q:Int) 2=((q*2:Nat):Int):=by rw[BU (by omega) (by omega)];omega
  have e2:addI .i64 (a:Int) ((q*2:Nat):Int)=((a+q*2:Nat):Int):=by rw[Am (by omega) (by omega)];omega
  have e3:subI .i64 ((a+q*2:Nat):Int) 1=((a+q*2 - 1:Nat):Int):=by rw[Ao (by omega) (by omega)];omega
  have e4:addI .i64 ((a+q*2:Nat):Int) 1=((a+q*2+1:Nat):Int):=by rw[Am (by omega) (by omega)];omega
  have eq4:quoI .i64 (n:Int) 4=some (q:Int):=by rw[vquo (by omega) (by omega) (by omega),hq]
  refine Rn.lt (Rn.bnE ep ?_)
  rw[eq4]
  refine Rn.bnE rfl (Rn.lt (Rn.lt (Rn.lt ?_)))
  rw[e1,e2,e3]
  refine Rn.bn (P:=fun r=>RP a (a+n) l r) (Rn.iter _ (fun t y=>∃ (i:Nat) (d:List Span) (r:Int),y=((i:Int),d,r)∧i=a+q*2 - 1+t∧RP a (a+n) l d) 3 (by unfold big;omega) ⟨a+q*2 - 1,l,_,rfl,by omega,RP.refl _ _ _⟩ fun t y ht hI=>?_) fun r hr=>Rn.some hr
  obtain⟨i,d,r,rfl,hi,hr⟩:=hI
  have hd:=hr.len
  refine Rn.bnE rfl (Rn.lt ?_)
  rw[e1]
  refine Rn.lt ?_
  rw[e2]
  refine Rn.lt ?_
  rw[e4]
  refine Rn.lt (Rn.ite (fun hc=>?_) fun _=>Rn.some hr)
  have hi2:i≤a+q*2+1:=by
   have:=of_decide_eq_true (p:=((i:Int)≤((a+q*2+1:Nat):Int))) hc
   omega
  obtain⟨x,y,exy⟩:=Gr r
  refine Rn.bnE exy (Rn.lt (Rn.lt (Rn.lt ?_)))
  have e5:subI .u64 (p:Int) 1=(p:Int) - 1:=wrapU (by omega) (by omega)
  rw[e5]
  obtain⟨g1,g2⟩:=II x ((p:Int) - 1) (by omega) (by omega)
  simp only
  generalize andI .u64 x ((p:Int) - 1)=w at g1 g2
  rw[Ex (by omega) (by omega)]
  refine Rn.bn (P:=fun o=>∃ k:Nat,o=(k:Int)∧k<n) (Rn.lt (Rn.ite (fun h=>Rn.lt (Rn.some ?_)) fun h=>Rn.some ?_)) fun o ho=>?_
  ·have:=of_decide_eq_true (p:=((n:Int)≤w)) h
   rw[Ao (by omega) (by omega)]
   exact⟨(w - n).toNat,by omega,by omega⟩
  ·have:=of_decide_eq_false (p:=((n:Int)≤w)) h
   exact⟨w.toNat,by omega,by omega⟩
  ·obtain⟨k,rfl,hk⟩:=ho
   refine Rn.lt ?_
   have e6:addI .i64 (a:Int) (k:Int)=((a+k:Nat):Int):=by rw[Am (by omega) (by omega)];omega
   rw[e6]
   refine swapS rfl rfl (show i<d.length by omega) (show a+k<d.length by omega) (Rn.lt (Rn.some ⟨by omega,i+1,swS d i (a+k),y,?_,by omega,hr.trans (RP.swS (by omega) (by omega) (by omega) (by omega))⟩))
   rw[Am (by omega) (by omega)]
   rfl
 ·have:=of_decide_eq_false (p:=((8:Int)≤(n:Int))) h
  omega
def PreS (d:List Span) (a b:Nat):Prop:=0<a→∀ i,a≤i→i<b→ksS d (a - 1)≤ksS d i
def SepS (d:List Span) (a b a' b':Nat):Prop:=∀ p q,a≤p→p<q→q<b→(p<a'∨b'≤q)→ksS d p≤ksS d q
theorem PreS.keep {d r:List Span} {a b:Nat} (h:PreS d a b) (hr:RP a b d r) (hab:a≤b) (hb:b≤d.length):PreS r a b:=by
 intro h0 i h1 h2
 obtain⟨j,x1,x2,x3⟩:=hr.seg hab hb h1 h2
 rw[BG x3,BG (hr.off (a - 1) (.inl (by omega)))]
 exact h h0 j x1 x2
theorem SepS.keep {d r:List Span} {a b a' b':Nat} (h:SepS d a b a' b') (hr:RP a' b' d r) (h1:a≤a') (h2:a'≤b') (h3:b'≤b) (hb:b≤d.length):SepS r a b a' b':=by
 intro p q g1 g2 g3 g4
 have key:∀ i,∃ j,ksS r i=ksS d j∧((i<a'∧j=i)∨(b'≤i∧j=i)∨(a'≤i∧i<b'∧a'≤j∧j<b')):=by
  intro i
  rcases Nat.lt_or_ge i a' with x|x
  ·exact⟨i,BG (hr.off i (.inl x)),.inl ⟨x,rfl⟩⟩
  ·rcases Nat.lt_or_ge i b' with y|y
   ·obtain⟨j,x1,x2,x3⟩:=hr.seg h2 (by omega) x y
    exact⟨j,BG x3,.inr (.inr ⟨x,y,x1,x2⟩)⟩
   ·exact⟨i,BG (hr.off i (.inr y)),.inr (.inl ⟨y,rfl⟩)⟩
 obtain⟨p',e1,f1⟩:=key p
 obtain⟨q',e2,f2⟩:=key q
 rw[e1,e2]
 exact h p' q' (by omega) (by omega) (by omega) (by omega)
theorem SepS.done {r:List Span} {a b a' b':Nat} (h:SepS r a b a' b') (hs:SortedS r a' b'):SortedS r a b:=by
 intro p q g1 g2 g3
 rcases Decidable.em (p<a'∨b'≤q) with x|x
 ·exact h p q g1 g2 g3 x
 ·exact hs p q (by omega) g2 (by omega)
theorem Jz:∀ (m:Nat) {l:List Span} {a b:Nat} {lim:Int},b - a<m→a≤b→b≤l.length→l.length≤sortMost→PreS l a b→0≤lim→lim≤1000→Rn (Au big m l (a:Int) (b:Int) lim) fun r=>RP a b l r∧SortedS r a b:=by
 intro m
 induction m with
 |zero=>intro l a b lim h;omega
 |succ m ih =>
  intro l a b lim hm hab hb hl hpre hl0 hl1
  have hl':=hl
  unfold sortMost at hl
  rw[Au]
  refine Rn.bn (P:=fun r=>RP a b l r∧SortedS r a b) (Rn.iter _ (fun t y=>∃ (a' b':Nat) (lim':Int) (bal part:Bool) (d:List Span),y=((a':Int),(b':Int),lim',bal,part,d)∧a≤a'∧a'≤b'∧b'≤b∧t+(b' - a')≤b - a∧RP a b l d∧SepS d a b a' b'∧PreS d a' b'∧0≤lim'∧lim'≤1000) (b - a) (by unfold big;omega)
   ⟨a,b,lim,true,true,l,rfl,Nat.le_refl _,hab,Nat.le_refl _,by omega,RP.refl _ _ _,fun p q h1 h2 h3 h4=>by omega,hpre,hl0,hl1⟩ fun t y ht hI=>?_) fun r hr=>Rn.some hr
  obtain⟨a',b',lim',bal,part,d,rfl,i1,i2,i3,i4,hr,hsep,hp,hm0,hm1⟩:=hI
  have hd:=hr.len
  -- what is sorted within is sorted
  have hdone:∀ r,RP a' b' d r→SortedS r a' b'→RP a b l r∧SortedS r a b:=fun r h1 h2 =>
   ⟨hr.trans (h1.mono i1 i3),(hsep.keep h1 i1 i2 i3 (by omega)).done h2⟩
  refine Rn.lt (Rn.lt ?_)
  have e0:subI .i64 (b':Int) (a':Int)=((b' - a':Nat):Int):=by rw[Ao (by omega) (by omega)];omega
  simp only
  rw[e0]
  refine Rn.ite (fun hc=>?_) fun hc=>?_
  ·refine Rn.bn (HO i2 (by omega) (by omega)) fun r hr2=>Rn.chk (by have:=hr2.1.len;simp[lenB,this]) (Rn.some (hdone r hr2.1 hr2.2))
  have hlong:a'+12<b':=by
   have:=of_decide_eq_false (p:=(((b' - a':Nat):Int)≤12)) hc
   omega
  refine Rn.lt (Rn.ite (fun hz=>?_) fun hz=>?_)
  ·refine Rn.bn (I4 (by omega) (by omega) (by omega)) fun r hr2=>Rn.chk (by have:=hr2.1.len;simp[lenB,this]) (Rn.some (hdone r hr2.1 hr2.2))
  have hlim:lim'≠0:=of_decide_eq_false (p:=lim'=0) hz
  refine Rn.bn (P:=fun y=>(0≤y.1∧y.1≤1000)∧RP a' b' d y.2) ?_ fun y hy=>?_
  ·refine Rn.lt (Rn.ite (fun _=>?_) fun _=>Rn.some ⟨⟨hm0,hm1⟩,RP.refl _ _ _⟩)
   refine Rn.bn (IJ hlong (by omega) (by omega)) fun r hr2=>Rn.chk (by have:=hr2.len;simp[lenB,this]) (Rn.lt (Rn.some ⟨?_,hr2⟩))
   rw[Ao (by omega) (by omega)]
   exact⟨by omega,by omega⟩
  obtain⟨lim2,d1⟩:=y
  obtain⟨⟨hm2,hm3⟩,hr1⟩:=hy
  simp only at hm2 hm3 hr1
  have hd1:=hr1.len
  refine Rn.bn (H8 (l:=d1) hlong (by omega) (by omega)) fun v hv=>?_
  obtain⟨v1,v2,v3⟩:=v
  obtain⟨⟨k,hk,hk1,hk2⟩,hv3⟩:=hv
  simp only at hk hv3
  subst v3 v1
  refine Rn.chk (by simp[lenB]) ?_
  refine Rn.bn (P:=fun y=>(∃ k:Nat,y.1=(k:Int)∧a'≤k∧k<b')∧RP a' b' d y.2.2) ?_ fun y hy=>?_
  ·refine Rn.lt (Rn.ite (fun _=>?_) fun _=>Rn.some ⟨⟨k,rfl,hk1,hk2⟩,hr1⟩)
   refine Rn.bn (Hq (l:=d1) (by omega) (by omega) (by omega)) fun r hr2=>Rn.chk (by have:=hr2.len;simp[lenB,this]) (Rn.lt (Rn.lt (Rn.lt (Rn.some ⟨⟨b' - 1 - (k - a'),?_,by omega,by omega⟩,hr1.trans hr2⟩))))
   simp only
   rw[Ao (a:=(b':Int)) (by omega) (by omega),Ao (a:=(k:Int)) (by omega) (by omega),Ao (by omega) (by omega)]
   omega
  obtain⟨y1,y2,d2⟩:=y
  obtain⟨⟨k2,hk,hk1,hk2⟩,hr2⟩:=hy
  simp only at hk hr2
  subst y1
  have hd2:=hr2.len
  refine Rn.bn (P:=fun y=>(∃ c e r,y=.inl (c,e,r)∧RP a' b' d r)∨∃ r,y=.inr r∧RP a' b' d r∧SortedS r a' b') ?_ fun y hy=>?_
  ·refine Rn.bn (P:=fun _=>True) ?_ fun w _=>?_
   ·refine Rn.lt (Rn.ite (fun _=>Rn.lt (Rn.ite (fun _=>Rn.lt (Rn.some trivial)) fun _=>Rn.some trivial)) fun _=>Rn.some trivial)
   ·refine Rn.lt (Rn.ite (fun _=>?_) fun _=>Rn.some (.inl ⟨_,_,d2,rfl,hr2⟩))
    refine Rn.bn (Hr (l:=d2) (by omega) (by omega) (by omega)) fun r hr3=>?_
    obtain⟨r1,r2⟩:=r
    obtain⟨g1,g2⟩:=hr3
    simp only at g1 g2
    subst r2
    refine Rn.chk (by simp[lenB]) (Rn.lt (Rn.ite (fun h=>Rn.some (.inr ⟨d2,rfl,hr2,g2 h⟩)) fun _=>Rn.some (.inl ⟨_,_,d2,rfl,hr2⟩)))
  rcases hy with ⟨c,e,d3,rfl,hr3⟩|⟨r,rfl,hr3,hs3⟩
  rotate_left
  ·rw[BW]
   exact Rn.some (hdone r hr3 hs3)
  rw[EZ]
  have hd3:=hr3.len
  have hsep3:=hsep.keep hr3 i1 i2 i3 (by omega)
  have hp3:=hp.keep hr3 i2 (by omega)
  have hrl3:=hr.trans (hr3.mono i1 i3)
  refine Rn.bn (P:=fun c=>c=decide (0<a'∧¬ ksS d3 (a' - 1)<ksS d3 k2)) ?_ fun q hq=>?_
  ·refine Rn.lt (Rn.ite (fun h=>?_) fun h=>Rn.some ?_)
   ·have h0:0<a':=by
     have:=of_decide_eq_true (p:=((0:Int)<(a':Int))) h
     omega
    have e1:subI .i64 (a':Int) 1=((a' - 1:Nat):Int):=by rw[Ao (by omega) (by omega)];omega
    refine Rn.lt ?_
    rw[e1]
    refine Rn.bnE (nthD (show a' - 1<d3.length by omega) (⟨0,0⟩:Span)) (Rn.bnE (nthD (show k2<d3.length by omega) (⟨0,0⟩:Span)) ?_)
    simp only[cmpES,cvLtS,An,AA,Ci]
    refine Rn.some ?_
    simp only[h0,true_and]
    rfl
   ·have h0:¬ 0<a':=by
     have:=of_decide_eq_false (p:=((0:Int)<(a':Int))) h
     omega
    simp[h0]
  subst hq
  refine Rn.lt (Rn.ite (fun h=>?_) fun h=>?_)
  ·obtain⟨h0,hK⟩:=of_decide_eq_true h
   refine Rn.bn (H9 (l:=d3) hk1 hk2 (by omega) (by omega)) fun r hr4=>?_
   obtain⟨r1,r2⟩:=r
   obtain⟨md,g0,g1,g2,g3,g4,g5⟩:=hr4
   simp only at g0 g3 g4 g5
   subst r1
   refine Rn.chk (by have:=g3.len;simp[lenB,this]) (Rn.some ⟨by omega,md,b',lim2,c,e,r2,rfl,by omega,g2,i3,by omega,hrl3.trans (g3.mono i1 i3),?_,?_,hm2,hm3⟩)
   ·have hs4:=hsep3.keep g3 i1 i2 i3 (by omega)
    have hp4:=hp3.keep g3 i2 (by omega)
    have hK2:ksS d3 k2≤ksS r2 (a' - 1):=by
     rw[BG (g3.off (a' - 1) (.inl (by omega)))]
     omega
    intro p q x1 x2 x3 x4
    rcases Decidable.em (p<a'∨b'≤q) with x5|x5
    ·exact hs4 p q x1 x2 x3 x5
    ·have z1:=g4 p (by omega) (by omega)
     rcases Nat.lt_or_ge q md with x6|x6
     ·have z2:=hp4 h0 q (by omega) (by omega)
      omega
     ·have z2:=g5 q x6 (by omega)
      omega
   ·intro _ i x1 x2
    have z1:=g4 (md - 1) (by omega) (by omega)
    have z2:=g5 i x1 x2
    omega
  ·refine Rn.bn (I3 (l:=d3) hk1 hk2 (by omega) (by omega)) fun r hr4=>?_
   obtain⟨r1,r2,r4⟩:=r
   obtain⟨md,g0,g1,g2,g3,g4,g5,g6⟩:=hr4
   simp only at g0 g3 g4 g5 g6
   subst r1
   have hd4:=g3.len
   have hs4:=hsep3.keep g3 i1 i2 i3 (by omega)
   have hp4:=hp3.keep g3 i2 (by omega)
   generalize ksS d3 k2=K at g4 g5 g6
   have e3:addI .i64 (md:Int) 1=((md+1:Nat):Int):=by rw[Am (by omega) (by omega)];omega
   refine Rn.chk (by simp[lenB,hd4]) (Rn.lt (Rn.lt (Rn.bnE (vquo (by omega) (by omega) (by omega)) (Rn.lt (Rn.ite (fun _=>Rn.lt ?_) fun _=>Rn.lt (Rn.lt ?_))))))
   ·refine Rn.bn (ih (l:=r4) (a:=a') (b:=md) (by omega) g1 (by omega) (by omega) (fun h0 i x1 x2=>hp4 h0 i x1 (by omega)) hm2 hm3) fun r hr5=>?_
    obtain⟨q1,q2⟩:=hr5
    have hd5:=q1.len
    refine Rn.chk (by simp[lenB,hd5]) (Rn.lt ?_)
    rw[e3]
    refine Rn.some ⟨by omega,md+1,b',lim2,_,_,r,rfl,by omega,by omega,i3,by omega,(hrl3.trans (g3.mono i1 i3)).trans (q1.mono i1 (by omega)),?_,?_,hm2,hm3⟩
    ·have hs5:=hs4.keep (q1.mono (Nat.le_refl _) (by omega)) i1 i2 i3 (by omega)
     intro p q x1 x2 x3 x4
     rcases Decidable.em (p<a'∨b'≤q) with x5|x5
     ·exact hs5 p q x1 x2 x3 x5
     ·have hge:∀ i,md<i→i<b'→K≤ksS r i:=fun i y1 y2=>by
       rw[BG (q1.off i (.inr (by omega)))]
       exact g6 i y1 y2
      have hmd:ksS r md=K:=by rw[BG (q1.off md (.inr (Nat.le_refl _)))];exact g4
      rcases Nat.lt_or_ge p md with x6|x6
      ·obtain⟨j,y1,y2,y3⟩:=q1.seg g1 (by omega) (show a'≤p by omega) x6
       have z1:=g5 j y1 y2
       rw[← BG y3] at z1
       rcases Nat.lt_trichotomy q md with x7|x7|x7
       ·exact q2 p q (by omega) x2 x7
       ·subst x7
        omega
       ·have:=hge q x7 (by omega)
        omega
      ·have:p=md:=by omega
       subst this
       have:=hge q x2 (by omega)
       omega
    ·intro _ i x1 x2
     show ksS r md≤_
     rw[BG (q1.off md (.inr (Nat.le_refl _))),BG (q1.off i (.inr (by omega))),g4]
     exact g6 i (by omega) x2
   ·rw[e3]
    refine Rn.bn (ih (l:=r4) (a:=md+1) (b:=b') (by omega) (by omega) (by omega) (by omega) (fun h0 i x1 x2=>by show ksS r4 md≤_;rw[g4];exact g6 i (by omega) x2) hm2 hm3) fun r hr5=>?_
    obtain⟨q1,q2⟩:=hr5
    have hd5:=q1.len
    refine Rn.chk (by simp[lenB,hd5]) ?_
    refine Rn.some ⟨by omega,a',md,lim2,_,_,r,rfl,i1,g1,by omega,by omega,(hrl3.trans (g3.mono i1 i3)).trans (q1.mono (by omega) i3),?_,?_,hm2,hm3⟩
    ·have hs5:=hs4.keep (q1.mono (by omega) (Nat.le_refl _)) i1 i2 i3 (by omega)
     intro p q x1 x2 x3 x4
     rcases Decidable.em (p<a'∨b'≤q) with x5|x5
     ·exact hs5 p q x1 x2 x3 x5
     ·have hmd:ksS r md=K:=by rw[BG (q1.off md (.inl (by omega)))];exact g4
      have hge:∀ i,md<i→i<b'→K≤ksS r i:=fun i y1 y2=>by
       obtain⟨j,z1,z2,z3⟩:=q1.seg (by omega) (by omega) (show md+1≤i by omega) y2
       rw[BG z3]
       exact g6 j (by omega) z2
      have hle:∀ i,a'≤i→i<md→ksS r i<K:=fun i y1 y2=>by
       rw[BG (q1.off i (.inl (by omega)))]
       exact g5 i y1 y2
      rcases Nat.lt_trichotomy p md with x6|x6|x6
      ·have z1:=hle p (by omega) x6
       rcases Nat.eq_or_lt_of_le (show md≤q by omega) with x7|x7
       ·subst x7
        omega
       ·have:=hge q x7 (by omega)
        omega
      ·subst x6
       have:=hge q x2 (by omega)
       omega
      ·exact q2 p q (by omega) x2 (by omega)
    ·intro h0 i x1 x2
     rw[BG (q1.off (a' - 1) (.inl (by omega))),BG (q1.off i (.inl (by omega)))]
     exact hp4 h0 i x1 (by omega)
theorem EH {l:List Span} {i j:Nat} (hi:i<l.length) (hj:j<l.length) (h:ksS l i≤ksS l j) (s:Int):AC big l (i:Int) (j:Int) s=some ((i:Int),(j:Int),l,s):=by
 unfold AC
 rw[nthD hj (⟨0,0⟩:Span)]
 simp only[An]
 rw[nthD hi (⟨0,0⟩:Span)]
 simp only[cmpES,cvLtS,An,AA]
 rw[show decide (keyS (l.getD j ⟨0,0⟩)<keyS (l.getD i ⟨0,0⟩))=false from decide_eq_false (by have h':keyS (l.getD i ⟨0,0⟩)≤keyS (l.getD j ⟨0,0⟩):=h;omega),Bh]
theorem FR {l:List Span} {i j k:Nat} (hi:i<l.length) (hj:j<l.length) (hk:k<l.length) (h1:ksS l i≤ksS l j) (h2:ksS l j≤ksS l k) (s:Int):AD big l (i:Int) (j:Int) (k:Int) s=some ((j:Int),l,s):=by
 unfold AD
 rw[EH hi hj h1]
 simp only[An]
 rw[show lenB l l=true from decide_eq_true rfl,Eo rfl,EH hj hk h2]
 simp only[An]
 rw[show lenB l l=true from decide_eq_true rfl,Eo rfl,EH hi hj h1]
 simp only[An]
 rw[show lenB l l=true from decide_eq_true rfl,Eo rfl]
theorem F5 {l:List Span} {i:Nat} (h0:1≤i) (hi:i+1<l.length) (hl:l.length≤1000) (h1:ksS l (i - 1)≤ksS l i) (h2:ksS l i≤ksS l (i+1)) (s:Int):Ar big l (i:Int) s=some ((i:Int),l,s):=by
 unfold Ar
 rw[Ao (by omega) (by omega),Am (by omega) (by omega),show (i:Int) - 1=((i - 1:Nat):Int) by omega,show (i:Int)+1=((i+1:Nat):Int) by omega]
 simp only[AA]
 rw[FR (by omega) (by omega) hi h1 h2]
 simp only[An]
 rw[show lenB l l=true from decide_eq_true rfl,Eo rfl]
theorem Ia {l:List Span} (hlen:12<l.length) (hl:l.length≤1000) (hs:SortedS l 0 l.length):∃ k:Nat,AF big l ((0:Nat):Int) (l.length:Int)=some ((k:Int),1,l):=by
 have key:∀ p q,p<q→q<l.length→ksS l p≤ksS l q:=fun p q h1 h2=>hs p q (Nat.zero_le _) h1 h2
 have lb:lenB l l=true:=decide_eq_true rfl
 unfold AF
 obtain⟨q,hq⟩:∃ q:Nat,((l.length:Int) - ((0:Nat):Int)) / 4=(q:Int):=⟨l.length / 4,by omega⟩
 refine⟨q*2,?_⟩
 simp only[AA]
 rw[Ao (by omega) (by omega),vquo (by omega) (by omega) (by omega),hq]
 simp only[An]
 rw[BU (by omega) (by omega),BU (show -9223372036854775808≤(q:Int)*2 by omega) (by omega),BU (show -9223372036854775808≤(q:Int)*3 by omega) (by omega),Am (by omega) (by omega),Am (show -9223372036854775808≤((0:Nat):Int)+(q:Int)*2 by omega) (by omega),Am (show -9223372036854775808≤((0:Nat):Int)+(q:Int)*3 by omega) (by omega)]
 rw[show ((0:Nat):Int)+(q:Int)*1=((q:Nat):Int) by omega,show ((0:Nat):Int)+(q:Int)*2=((q*2:Nat):Int) by omega,show ((0:Nat):Int)+(q:Int)*3=((q*3:Nat):Int) by omega,ge_t (by omega),AX]
 have hm:AD big l ((q:Nat):Int) ((q*2:Nat):Int) ((q*3:Nat):Int) 0=some (((q*2:Nat):Int),l,0):=FR (by omega) (by omega) (by omega) (key _ _ (by omega) (by omega)) (key _ _ (by omega) (by omega)) 0
 have hb:∀ (c:Bool),(c=true→50≤l.length)→(ite' c (bn (Ar big l ((q:Nat):Int) 0) fun v13 =>
   chk (lenB v13.2.1 l) <|
   bn (Ar big v13.2.1 ((q*2:Nat):Int) v13.2.2) fun v15 =>
   chk (lenB v15.2.1 v13.2.1) <|
   bn (Ar big v15.2.1 ((q*3:Nat):Int) v15.2.2) fun v17 =>
   chk (lenB v17.2.1 v15.2.1) <|
   some ((v13.1,v15.1,v17.1,v17.2.1,v17.2.2))) (some ((((q:Nat):Int),((q*2:Nat):Int),((q*3:Nat):Int),l,0))))=some (((q:Nat):Int),((q*2:Nat):Int),((q*3:Nat):Int),l,0):=by
  intro c hc
  cases c with
  |false=>rfl
  |true =>
   have h50:=hc rfl
   rw[AX,F5 (by omega) (by omega) hl (key _ _ (by omega) (by omega)) (key _ _ (by omega) (by omega))]
   simp only[An]
   rw[lb,Eo rfl,F5 (by omega) (by omega) hl (key _ _ (by omega) (by omega)) (key _ _ (by omega) (by omega))]
   simp only[An]
   rw[lb,Eo rfl,F5 (by omega) (by omega) hl (key _ _ (by omega) (by omega)) (key _ _ (by omega) (by omega))]
   simp only[An]
   rw[lb,Eo rfl]
 rw[hb _ fun h=>by
  have:=of_decide_eq_true (p:=((50:Int)≤(l.length:Int) - ((0:Nat):Int))) h
  omega]
 simp only[An]
 rw[hm]
 simp only[An]
 rw[lb,Eo rfl]
 rfl
theorem Hs {l:List Span} (hlen:12<l.length) (hl:l.length≤1000) (hs:SortedS l 0 l.length):Ay big l ((0:Nat):Int) (l.length:Int)=some (true,l):=by
 refine Rn.eqv ?_
 unfold Ay
 refine Rn.lt ?_
 rw[Am (by omega) (by omega),show ((0:Nat):Int)+1=((0+1:Nat):Int) by omega]
 refine Rn.bn (P:=fun y=>y=.inr (true,l)) (Rn.iter _ (fun t y=>t=0∧y=(((0+1:Nat):Int),0,l)) 0 (by unfold big;omega) ⟨rfl,rfl⟩ fun t y ht hI=>?_) fun y hy=>?_
 ·obtain⟨rfl,rfl⟩:=hI
  refine Rn.lt (Rn.ite (fun _=>?_) fun h=>absurd (show ltI 0 5=false from h) (by decide))
  refine Rn.bn (P:=fun y=>y=.inr (true,l)) ?_ fun y hy=>?_
  ·refine Rn.bn (scanUp (p:=fun i=>decide (¬ ksS l i<ksS l (i - 1))) (i0:=0+1) (hi:=l.length) (by omega) (fun i h1 h2=>?_) ?_ (by omega)) fun r hr=>?_
   ·simp only[AA]
    rw[lt_t (by omega),AX,nthD (show i<l.length by omega) (⟨0,0⟩:Span)]
    simp only[An]
    rw[Ao (by omega) (by omega),show (i:Int) - 1=((i - 1:Nat):Int) by omega,nthD (show i - 1<l.length by omega) (⟨0,0⟩:Span)]
    simp only[An,cmpES,cvLtS,Ci]
    rfl
   ·simp only[AA]
    rw[lt_f (by omega),Bh]
   ·obtain⟨k,rfl,k1,k2,k3,k4⟩:=hr
    have hk:k=l.length:=by
     rcases Nat.lt_or_ge k l.length with h|h
     ·have h5:=of_decide_eq_false (k4 h)
      have:=hs (k - 1) k (Nat.zero_le _) (by omega) h
      omega
     ·omega
    subst hk
    rw[eq_t rfl]
    exact Rn.lt (Rn.ite (fun _=>Rn.some rfl) fun h=>by simp at h)
  ·subst hy
   rw[BW]
   exact Rn.some rfl
 ·subst hy
  rw[BW]
  exact Rn.some rfl
theorem JA {l:List Span} (hl:l.length≤1000) (hs:SortedS l 0 l.length) {lim:Int} (h0:1≤lim) (h1:lim≤1000):Rn (By big l ((0:Nat):Int) (l.length:Int) lim) fun r=>r=l∨(RP 0 l.length l r∧SortedS r 0 l.length):=by
 show Rn (Au big (281474976710655+1) l ((0:Nat):Int) (l.length:Int) lim) _
 rw[Au]
 refine Rn.bn (P:=fun r=>r=l∨(RP 0 l.length l r∧SortedS r 0 l.length)) (Rn.iter _ (fun t y=>t=0∧y=(((0:Nat):Int),(l.length:Int),lim,true,true,l)) 0 (by unfold big;omega) ⟨rfl,rfl⟩ fun t y ht hI=>?_) fun r hr=>Rn.some hr
 obtain⟨rfl,rfl⟩:=hI
 refine Rn.lt (Rn.lt ?_)
 simp only
 rw[Ao (by omega) (by omega)]
 refine Rn.ite (fun hc=>?_) fun hc=>?_
 ·exact Rn.bn (HO (Nat.zero_le _) (Nat.le_refl _) (by omega)) fun r hr2=>Rn.chk (by have:=hr2.1.len;simp[lenB,this]) (Rn.some (.inr hr2))
 ·have hlong:12<l.length:=by
   have:=of_decide_eq_false (p:=((l.length:Int) - ((0:Nat):Int)≤12)) hc
   omega
  obtain⟨k,hk⟩:=Ia hlong hl hs
  refine Rn.lt ?_
  rw[eq_f (by omega)]
  refine Rn.ite (fun h=>by simp at h) fun _=>Rn.bnE (v:=(lim,l)) rfl (Rn.bnE hk (Rn.chk (decide_eq_true rfl) (Rn.bnE (v:=((k:Int),1,l)) rfl (Rn.bnE (v:=.inr l) ?_ ?_))))
  ·refine Rn.eqv (Rn.bnE (v:=(true,true,true)) rfl (Rn.lt (Rn.ite (fun _=>Rn.bnE (Hs hlong hl hs) (Rn.chk (decide_eq_true rfl) (Rn.lt (Rn.ite (fun _=>Rn.some rfl) fun h=>by simp at h)))) fun h=>by simp at h)))
  ·rw[BW]
   exact Rn.some (.inl rfl)
--MORE
end Go.Proofs.Ythjenkmbbnjcnaa
namespace Go.Proofs.Ythjenkmbbnjcnaa
open Go Go.RowKit
def Rises (l:List Span):Prop:=l.Pairwise fun x y=>x.frm≤y.frm
theorem SortedS.rises {l:List Span} (h:SortedS l 0 l.length):Rises l:=by
 refine List.pairwise_iff_getElem.2 fun i j hi hj hij=>?_
 have:=h i j (Nat.zero_le _) hij hj
 unfold ksS keyS at this
 rw[List.getD_eq_getElem?_getD,List.getD_eq_getElem?_getD,List.getElem?_eq_getElem hi,List.getElem?_eq_getElem hj] at this
 exact this
theorem Rises.sorted {l:List Span} (h:Rises l):SortedS l 0 l.length:=by
 intro p q h1 h2 h3
 have:=List.pairwise_iff_getElem.1 h p q (by omega) h3 h2
 unfold ksS keyS
 rw[List.getD_eq_getElem?_getD,List.getD_eq_getElem?_getD,List.getElem?_eq_getElem (show p<l.length by omega),List.getElem?_eq_getElem h3]
 exact this
theorem IK {n:Nat} (h:n≤200):∃ v,Cd big (cvI .u64 (n:Int))=some v∧0≤v∧v≤1000∧(1≤n→1≤v):=by
 have hb:(List.range 201).all (fun n=>match Cd big (cvI .u64 (n:Int)) with|some v=>decide (0≤v∧v≤1000) && (decide (n=0) || decide (1≤v))|none=>false)=true:=by kernel_rfl
 rw[List.all_eq_true] at hb
 have h:=hb n (List.mem_range.2 (by omega))
 split at h
 ·rename_i p e
  simp only[Bool.and_eq_true,Bool.or_eq_true,decide_eq_true_eq] at h
  exact⟨p,e,h.1.1,h.1.2,fun h1=>by omega⟩
 ·simp at h
def SortableS (l:List Span):Prop:=l.length≤200∧(l.length≤sortMost∨Rises l)
theorem JB {l:List Span} (hl:SortableS l):Rn (Bf big l) fun r=>r.Perm l∧Rises r:=by
 obtain⟨h200,hl⟩:=hl
 unfold Bf
 refine Rn.lt (Rn.lt ?_)
 obtain⟨v,ev,v0,v1,v2⟩:=IK h200
 refine Rn.bnE ev (Rn.bn (P:=fun r=>RP 0 l.length l r∧SortedS r 0 l.length) ?_ fun r hr=>Rn.chk (by simp[lenB,hr.1.len]) (Rn.some ⟨hr.1.perm,?_⟩))
 ·rcases Decidable.em (l.length≤sortMost) with h|h
  ·exact Jz big (l:=l) (a:=0) (b:=l.length) (lim:=v) (by unfold big;omega) (Nat.zero_le _) (Nat.le_refl _) h (fun h=>by omega) v0 v1
  ·have hr:Rises l:=hl.resolve_left h
   have h1:1≤l.length:=by unfold sortMost at h;omega
   refine (JA (by omega) hr.sorted (v2 h1) v1).mono fun r h2=>?_
   rcases h2 with rfl|h2
   ·exact⟨RP.refl _ _ _,hr.sorted⟩
   ·exact h2
 ·have h2:=hr.2
  rw[← hr.1.len] at h2
  exact h2.rises
theorem JC {l:List Span} (hl:SortableS l):Rn (D2 big l) fun r=>Rises r∧(∀ x∈r,0≤x.frm∧x.frm≤x.to∧x.to≤16383)∧(∀ t,(∃ x∈r,x.frm≤t∧t≤x.to)↔inS l t)∧r.length≤l.length:=by
 have hl12:l.length≤1000000:=Nat.le_trans hl.1 (by omega)
 unfold D2
 refine Rn.lt (Rn.bn (P:=fun r=>(∀ x∈r,0≤x.frm∧x.frm≤x.to∧x.to≤16383)∧(∀ t,(∃ x∈r,x.frm≤t∧t≤x.to)↔inS l t)∧r.length≤l.length∧(Rises l→Rises r)) (Rn.iter _ (fun j y=>∃ r:List Span,y=((j:Int),r)∧(∀ x∈r,0≤x.frm∧x.frm≤x.to∧x.to≤16383)∧(∀ t,(∃ x∈r,x.frm≤t∧t≤x.to)↔inS (l.take j) t)∧r.length≤j∧(Rises l→Rises r)∧∀ x∈r,∃ y∈l.take j,x.frm=max y.frm 0) l.length (by unfold big;omega) ⟨[],rfl,by simp,fun t=>by unfold inS;simp,by simp,fun _=>List.Pairwise.nil,by simp⟩ fun j y hj hI=>?_) fun r hr=>?_)
 ·obtain⟨r,rfl,r1,r2,r3,r4,r5⟩:=hI
  refine Rn.lt (Rn.ite (fun hd=>?_) fun hd=>?_)
  ·have hjl:j<l.length:=by
    have:=of_decide_eq_true (p:=((j:Int)<(l.length:Int))) hd
    omega
   have hnth:=AM hjl
   have htk:l.take (j+1)=l.take j++[l[j]]:=(List.take_append_getElem hjl).symm
   have hbef:Rises l→∀ y∈l.take j,y.frm≤l[j].frm:=by
    intro hri y hy
    obtain⟨i,hi,rfl⟩:=List.mem_take_iff_getElem.1 hy
    exact List.pairwise_iff_getElem.1 hri i j (by omega) hjl (by omega)
   generalize l[j]=x at hnth htk hbef
   have hin:∀ t,inS (l.take (j+1)) t↔inS (l.take j) t∨((0≤t∧t<16384)∧x.frm≤t∧t≤x.to):=by
    intro t
    rw[htk]
    unfold inS
    constructor
    ·rintro⟨h1,y,hy,h2⟩
     rcases List.mem_append.1 hy with hy|hy
     ·exact .inl ⟨h1,y,hy,h2⟩
     ·simp at hy
      subst hy
      exact .inr ⟨h1,h2⟩
    ·rintro (⟨h1,y,hy,h2⟩|⟨h1,h2⟩)
     ·exact⟨h1,y,by simp[hy],h2⟩
     ·exact⟨h1,x,by simp,h2⟩
   refine Rn.bn (P:=fun r'=>(∀ x∈r',0≤x.frm∧x.frm≤x.to∧x.to≤16383)∧(∀ t,(∃ x∈r',x.frm≤t∧t≤x.to)↔inS (l.take (j+1)) t)∧r'.length≤j+1∧(Rises l→Rises r')∧∀ x∈r',∃ y∈l.take (j+1),x.frm=max y.frm 0) ?_ fun r' hr'=>Rn.lt (Rn.some ⟨hjl,r',?_,hr'⟩)
   ·refine Rn.bnE hnth (Rn.lt (Rn.lt (Rn.lt (Rn.ite (fun hc=>Rn.chk (by simp[room];omega) (Rn.lt (Rn.some ⟨?_,fun t=>?_,by simp;omega,fun hri=>?_,fun y hy=>?_⟩))) fun hc=>Rn.some ⟨r1,fun t=>?_,Nat.le_succ_of_le r3,r4,fun y hy=>?_⟩))))
    ·intro y hy
     have hc':maxI x.frm 0≤minI x.to 16383:=of_decide_eq_true hc
     rcases List.mem_append.1 hy with hy|hy
     ·exact r1 y hy
     ·simp at hy
      subst hy
      simp only[maxI,minI] at hc' ⊢
      omega
    ·rw[hin t,← r2 t]
     constructor
     ·rintro⟨y,hy,h2⟩
      rcases List.mem_append.1 hy with hy|hy
      ·exact .inl ⟨y,hy,h2⟩
      ·simp at hy
       subst hy
       simp only[maxI,minI] at h2
       exact .inr ⟨by omega,by omega⟩
     ·rintro (⟨y,hy,h2⟩|⟨h1,h2⟩)
      ·exact⟨y,by simp[hy],h2⟩
      ·exact⟨⟨maxI x.frm 0,minI x.to 16383⟩,by simp,by simp only[maxI,minI];omega⟩
    ·refine List.pairwise_append.2 ⟨r4 hri,List.pairwise_singleton _ _,fun u hu w hw=>?_⟩
     simp at hw
     subst hw
     obtain⟨y,hy,e⟩:=r5 u hu
     have:=hbef hri y hy
     simp only[maxI]
     omega
    ·rcases List.mem_append.1 hy with hy|hy
     ·obtain⟨z,hz,e⟩:=r5 y hy
      exact⟨z,by rw[htk];simp[hz],e⟩
     ·simp at hy
      subst hy
      exact⟨x,by rw[htk];simp,rfl⟩
    ·have hc':¬ maxI x.frm 0≤minI x.to 16383:=of_decide_eq_false hc
     rw[hin t,← r2 t]
     refine⟨.inl,?_⟩
     rintro (h|⟨h1,h2⟩)
     ·exact h
     ·simp only[maxI,minI] at hc'
      omega
    ·obtain⟨z,hz,e⟩:=r5 y hy
     exact⟨z,by rw[htk];simp[hz],e⟩
   ·rw[Am (by first|omega|(simp only;omega)) (by first|omega|(simp only;omega))]
    rfl
  ·have hjl:j=l.length:=by
    have:=of_decide_eq_false (p:=((j:Int)<(l.length:Int))) hd
    omega
   subst hjl
   rw[List.take_length] at r2
   exact Rn.some ⟨r1,r2,r3,r4⟩
 ·obtain⟨r1,r2,r3,r4⟩:=hr
  refine Rn.bn (JB ⟨Nat.le_trans r3 hl.1,hl.2.imp (Nat.le_trans r3) r4⟩) fun v hv=>Rn.chk (by simp[lenB,hv.1.length_eq]) (Rn.chk (by have:=hv.1.length_eq;simp[room];omega) (Rn.some ⟨hv.2,fun x hx=>r1 x (hv.1.mem_iff.1 hx),fun t=>?_,by have:=hv.1.length_eq;omega⟩))
  rw[← r2 t]
  constructor
  ·rintro⟨x,hx,h⟩
   exact⟨x,hv.1.mem_iff.1 hx,h⟩
  ·rintro⟨x,hx,h⟩
   exact⟨x,hv.1.mem_iff.2 hx,h⟩
theorem SaysS.of {l:List Span} {p:Int→Prop} [DecidablePred p] (h:canP (l.map sP)) (hp:∀ t,(∃ x∈l,x.frm≤t∧t≤x.to)↔p t):SaysS l p:=by
 refine⟨h,fun s=>?_⟩
 rw[Jf]
 unfold fS
 simp only[hp s]
theorem G7 {l:List Span} (hl:SortableS l):Rn (D3 big l) fun r=>SaysS r (inS l)∧r.length≤l.length:=by
 have hl12:l.length≤1000000:=Nat.le_trans hl.1 (by omega)
 unfold D3
 refine Rn.bn (JC hl) fun v hv=>Rn.lt ?_
 obtain⟨v1,v2,v3,v4⟩:=hv
 refine Rn.bn (P:=fun r=>SaysS r (inS l)∧r.length≤l.length) (Rn.iter _ (fun j y=>∃ out:List Span,y=((j:Int),out)∧canP (out.map sP)∧(∀ t,(∃ x∈out,x.frm≤t∧t≤x.to)↔∃ x∈v.take j,x.frm≤t∧t≤x.to)∧(∀ x∈out,x.to≤16383∧0≤x.to∧∀ y∈v.drop j,x.frm≤y.frm)∧out.length≤j) v.length (by unfold big;omega) ⟨[],rfl,trivial,by simp,by simp,by simp⟩ fun j y hj hI=>?_) fun r hr=>Rn.chk (by have:=hr.2;simp[room];omega) (Rn.some hr)
 obtain⟨out,rfl,o1,o2,o3,o4⟩:=hI
 refine Rn.lt (Rn.ite (fun hd=>?_) fun hd=>?_)
 ·have hjl:j<v.length:=by
   have:=of_decide_eq_true (p:=((j:Int)<(v.length:Int))) hd
   omega
  have hnth:=AM hjl
  have htk:v.take (j+1)=v.take j++[v[j]]:=(List.take_append_getElem hjl).symm
  have hdr:=List.drop_eq_getElem_cons hjl
  have hs:=v2 _ (List.getElem_mem hjl)
  have hri:∀ y∈v.drop (j+1),v[j].frm≤y.frm:=by
   intro y hy
   have h1:(v.drop j).Pairwise fun x y=>x.frm≤y.frm:=v1.sublist (List.drop_sublist _ _)
   rw[hdr] at h1
   exact List.rel_of_pairwise_cons h1 hy
  have ho3:∀ x∈out,x.to≤16383∧0≤x.to∧x.frm≤v[j].frm∧∀ y∈v.drop (j+1),x.frm≤y.frm:=by
   intro x hx
   obtain⟨a,a',b⟩:=o3 x hx
   rw[hdr] at b
   exact⟨a,a',b _ List.mem_cons_self,fun y hy=>b y (List.mem_cons_of_mem _ hy)⟩
  generalize v[j]=s at hnth htk hs hri ho3
  have hin:∀ t,(∃ x∈v.take (j+1),x.frm≤t∧t≤x.to)↔(∃ x∈out,x.frm≤t∧t≤x.to)∨(s.frm≤t∧t≤s.to):=by
   intro t
   rw[htk,o2 t]
   constructor
   ·rintro⟨y,hy,h2⟩
    rcases List.mem_append.1 hy with hy|hy
    ·exact .inl ⟨y,hy,h2⟩
    ·simp at hy
     subst hy
     exact .inr h2
   ·rintro (⟨y,hy,h2⟩|h2)
    ·exact⟨y,by simp[hy],h2⟩
    ·exact⟨s,by simp,h2⟩
  refine Rn.bn (P:=fun o=>canP (o.map sP)∧(∀ t,(∃ x∈o,x.frm≤t∧t≤x.to)↔∃ x∈v.take (j+1),x.frm≤t∧t≤x.to)∧(∀ x∈o,x.to≤16383∧0≤x.to∧∀ y∈v.drop (j+1),x.frm≤y.frm)∧o.length≤j+1) ?_ fun o ho=>Rn.lt (Rn.some ⟨hjl,o,?_,ho⟩)
  ·refine Rn.bnE hnth (Rn.lt ?_)
   have happ:(∀ q,(out.map sP).getLast?=some q→q.2.1<s.frm∧¬ (q.2.1+1=s.frm∧q.2.2=()))→canP ((out++[s]).map sP)∧(∀ t,(∃ x∈out++[s],x.frm≤t∧t≤x.to)↔∃ x∈v.take (j+1),x.frm≤t∧t≤x.to)∧(∀ x∈out++[s],x.to≤16383∧0≤x.to∧∀ y∈v.drop (j+1),x.frm≤y.frm)∧(out++[s]).length≤j+1:=by
    intro hc
    refine⟨?_,fun t=>?_,fun x hx=>?_,by simp;omega⟩
    ·rw[List.map_append]
     exact DV (p:=sP s) o1 hs.2.1 hc
    ·rw[hin t]
     constructor
     ·rintro⟨y,hy,h2⟩
      rcases List.mem_append.1 hy with hy|hy
      ·exact .inl ⟨y,hy,h2⟩
      ·simp at hy
       subst hy
       exact .inr h2
     ·rintro (⟨y,hy,h2⟩|h2)
      ·exact⟨y,by simp[hy],h2⟩
      ·exact⟨s,by simp,h2⟩
    ·rcases List.mem_append.1 hx with hx|hx
     ·have:=ho3 x hx
      exact⟨this.1,this.2.1,this.2.2.2⟩
     ·simp at hx
      subst hx
      exact⟨hs.2.2,by omega,hri⟩
   rcases Decidable.em (out=[]) with he|he
   ·subst he
    exact Rn.bnE (v:=false) rfl (Rn.lt (Rn.ite (fun h=>by simp at h) fun _=>Rn.chk rfl (Rn.lt (Rn.some (happ (by simp))))))
   ·obtain⟨k,x,rfl⟩:∃ k x,out=k++[x]:=⟨out.dropLast,out.getLast he,(List.dropLast_concat_getLast he).symm⟩
    have hx:=ho3 x (by simp)
    obtain⟨x1,x2,x3,x4⟩:=hx
    have el:subI .i64 (lenI (k++[x])) 1=((k.length:Nat):Int):=by
     rw[Ch,Ao (by omega) (by omega)]
     simp
    have hk:k.length<(k++[x]).length:=by simp
    have hn:nth (k++[x]) ((k.length:Nat):Int)=some x:=by rw[AM hk];simp
    refine Rn.bnE (v:=leI s.frm (x.to+1)) ?_ (Rn.lt (Rn.ite (fun h=>?_) fun h=>Rn.chk (by simp[room];simp at o4;omega) (Rn.lt (Rn.some (happ fun q hq=>?_)))))
    ·simp only[AA]
     rw[gt_t (by rw[Ch];simp),AX,el,hn]
     simp only[An]
     rw[Am (by omega) (by omega)]
    ·have hle:s.frm≤x.to+1:=of_decide_eq_true h
     rw[List.map_append] at o1
     obtain⟨c1,c2,c3⟩:=E2 (p:=sP x) o1
     have c2':x.frm≤x.to:=c2
     refine Rn.lt ?_
     rw[el]
     refine Rn.bnE hn (Rn.lt (Rn.lt (Rn.some ?_)))
     rw[Int.toNat_natCast,List.set_append_right _ _ (by omega),Nat.sub_self,show [x].set 0 (⟨x.frm,maxI x.to s.to⟩:Span)=[⟨x.frm,maxI x.to s.to⟩] from rfl]
     have hm:maxI x.to s.to=max x.to s.to:=rfl
     rw[hm]
     refine⟨?_,fun t=>?_,fun y hy=>?_,by simp at o4 ⊢;omega⟩
     ·rw[List.map_append]
      exact DV (p:=sP ⟨x.frm,max x.to s.to⟩) c1 (show x.frm≤max x.to s.to by omega) c3
     ·rw[hin t]
      constructor
      ·rintro⟨y,hy,h2⟩
       rcases List.mem_append.1 hy with hy|hy
       ·exact .inl ⟨y,by simp[hy],h2⟩
       ·simp at hy
        subst hy
        simp only at h2
        rcases Decidable.em (t≤x.to) with h3|h3
        ·exact .inl ⟨x,by simp,h2.1,h3⟩
        ·exact .inr ⟨by omega,by omega⟩
      ·rintro (⟨y,hy,h2⟩|h2)
       ·rcases List.mem_append.1 hy with hy|hy
        ·exact⟨y,by simp[hy],h2⟩
        ·simp at hy
         subst hy
         exact⟨⟨y.frm,max y.to s.to⟩,by simp,h2.1,by simp only;omega⟩
       ·exact⟨⟨x.frm,max x.to s.to⟩,by simp,by simp only;omega,by simp only;omega⟩
     ·rcases List.mem_append.1 hy with hy|hy
      ·have:=ho3 y (by simp[hy])
       exact⟨this.1,this.2.1,this.2.2.2⟩
      ·simp at hy
       subst hy
       exact⟨by simp only;omega,by simp only;omega,x4⟩
    ·have hle:¬ s.frm≤x.to+1:=of_decide_eq_false h
     rw[List.map_append,show [x].map sP=[sP x] from rfl,List.getLast?_concat] at hq
     have:=Option.some.inj hq
     subst this
     show x.to<s.frm∧¬ (x.to+1=s.frm∧()=())
     omega
  ·rw[Am (by first|omega|(simp only;omega)) (by first|omega|(simp only;omega))]
   rfl
 ·have hjl:j=v.length:=by
   have:=of_decide_eq_false (p:=((j:Int)<(v.length:Int))) hd
   omega
  subst hjl
  rw[List.take_length] at o2
  exact Rn.some ⟨SaysS.of o1 fun t=>by rw[o2 t,v3 t],show out.length≤l.length by omega⟩
end Go.Proofs.Ythjenkmbbnjcnaa
namespace Go.Proofs.Ythjenkmbbnjcnaa
open Go Go.RowKit
end Go.Proofs.Ythjenkmbbnjcnaa
namespace Go.Proofs.Ythjenkmbbnjcnaa
open Go Go.RowKit
def B8 (n:Nat) (a0:List Claim) (a1:Int):Option (List Span) :=
lt (lenI a0) fun v1 =>
bn (iter n (fun (y2:Int×List Span) =>
lt (ltI y2.1 v1) fun v5 =>
ite' v5 (bn (bn (nth a0 y2.1) fun v7 =>
lt (eqI v7.node a1) fun v8 =>
ite' v8 (chk (room (y2.2.length+1) 16) <|
lt (y2.2++[(⟨v7.frm,v7.to⟩:Span)]) fun v10 =>
some (v10)) (some (y2.2))) fun (y6:List Span) =>
lt (addI .i64 y2.1 1) fun v11 =>
some (.inl (v11,y6))) (some (.inr y2.2))) (0,[])) fun (y3:List Span) =>
chk (room y3.length 1) <|
bn (B7 n y3) fun v13 =>
some v13
theorem F6 {n:Nat} {a0:List Claim} {a1:Int} {r:List Span} (h:B8 n a0 a1=some r):Sound Try.prog 23 [.l (.d false 4 (encClaim a0)),.l (.s (.int .i64 a1))] [] (.l (.d false 2 (encSpan r))) []:=by
 unfold B8 at h
 refine Sound.of_aw (fn:=Try.f23) (c:=_) Try.func23 rfl (by simp[Try.f23]) fun cx hG hnb=>?_
 rw[show Try.f23.ntmps=29 from rfl]
 have hn0:cx.nb=0:=hnb
 simp only[At,initTm,List.map_cons,List.map_nil]
 apply AW.step
 ·simp
  intros;rfl
 apply AW.step
 ·simp
  intros;rfl
 refine AW.seq ?_
 replace h:=ltE h;obtain⟨v1,e1,h⟩:=h
 apply AW.step
 ·simp[Al e1]
  intros;rfl
 refine AW.block ?_
 replace h:=bnE h;obtain⟨y3,g3,h⟩:=h
 refine AW.iterP g3 (mk:=fun gh ls q=>(⟨[(1,.l (.s (.int .i64 a1))),(5,.l (.r 0 2 0 q.2.length)),(8,.l (.d false 4 (encClaim a0))),(9,.l (.s (.int .i64 v1))),(10,.l (.s (.int .i64 q.1)))],[some ⟨43,2,true,none,lvs (encSpan q.2)⟩],29,gh,ls⟩:St)) (N:=fun gh ls=>(xP 0 (cx:=cx) (fun q=>(⟨[(5,.l (.r 0 2 0 q.length))],[some ⟨43,2,true,none,lvs (encSpan q)⟩],29,gh,ls⟩:St)))) ?_ noX ?_ ?_
 ·refine W.nilRow 5 43 2 0 (by simp) rfl rfl ?_
  refine Weak.mixN [some 0] hn0 (by decide) ?_ ?_ rfl
  all_goals first|(simp[Ab,Ac,pickOb];done)|rfl
 ·clear h;intro y2 y4 h
  replace h:=ltE h;obtain⟨v5,e5,h⟩:=h
  apply AW.step
  ·simp[← e5]
   intros;rfl
  refine AW.seq ?_
  cases v5 with
  |true =>
   replace h:=iteT rfl h
   refine AW.cond_true (by simp) ?_
   refine AW.skip ?_
   try simp only[nm]
   replace h:=bnE h;obtain⟨y6,g6,h⟩:=h
   refine AW.flow (p:=fun gh ls=>(nP (cx:=cx) (fun q=>(⟨[(1,.l (.s (.int .i64 a1))),(5,.l (.r 0 2 0 q.length)),(8,.l (.d false 4 (encClaim a0))),(9,.l (.s (.int .i64 v1))),(10,.l (.s (.int .i64 y2.1)))],[some ⟨43,2,true,none,lvs (encSpan q)⟩],29,gh,ls⟩:St))) y6) ?_ ?_
   ·replace h:=g6;clear g6
    refine AW.block ?_
    replace h:=bnE h;obtain⟨v7,e7,h⟩:=h
    apply AW.step
    ·simp[Aa e7]
     intros;rfl
    replace h:=ltE h;obtain⟨v8,e8,h⟩:=h
    apply AW.step
    ·simp[← e8]
     intros;rfl
    cases v8 with
    |true =>
     replace h:=iteT rfl h
     refine AW.cond_true (by simp) ?_
     replace h:=chkE h;obtain⟨e9,h⟩:=h
     replace h:=ltE h;obtain⟨v10,e10,h⟩:=h
     apply AW.last
     ·simp[← Ap,← e10,Ax e10]
      intros
      refine Bu ?_
      try simp[← Ap,← e10,Ax e10]
      intros
      refine Br (acc:=encSpan y2.2) (ys:=encSpan [(⟨v7.frm,v7.to⟩:Span)]) (cap:=none) (k:=1) Dv Du (by simp) (by simp[encSpan,lvs]) (AP _) (by simp) (by simp) (by first|(simp;done)|simpa using (Av e9).1) ?_
      try simp[← Ap,← e10,Ax e10]
      intros;rfl
     obtain rfl:=oi h
     refine nP_i ?_
     refine Weak.mixN [some 3] hn0 (by decide) ?_ ?_ rfl
     all_goals first|(simp[Ab,Ac,pickOb,Bk];done)|rfl
    |false =>
     replace h:=iteF rfl h
     refine AW.cond_false (by simp) ?_
     refine AW.skip ?_
     try simp only[nm]
     obtain rfl:=oi h
     refine nP_i ?_
     refine Weak.mixN [some 0] hn0 (by decide) ?_ ?_ rfl
     all_goals first|(simp[Ab,Ac,pickOb];done)|rfl
   ·rintro e s hp
    obtain⟨rfl,hw⟩:=hp
    refine⟨_,hw,?_⟩
    try simp only[nm]
    replace h:=ltE h;obtain⟨v11,e11,h⟩:=h
    apply AW.last
    ·simp[← e11]
     intros;rfl
    obtain rfl:=oi h
    refine nP_i ?_
    refine Weak.mixN [some 0] hn0 (by decide) ?_ ?_ rfl
    all_goals first|(simp[Ab,Ac,pickOb];done)|rfl
  |false =>
   replace h:=iteF rfl h
   refine AW.cond_false (by simp) ?_
   refine AW.exit ?_
   try simp only[nm]
   obtain rfl:=oi h
   refine xP_i ?_
   refine Weak.mixN [some 0] hn0 (by decide) ?_ ?_ rfl
   all_goals first|(simp[Ab,Ac,pickOb];done)|rfl
 ·rintro e s hp
  obtain⟨rfl,hw⟩:=hp
  refine⟨_,hw,?_⟩
  try simp only[nm]
  replace h:=chkE h;obtain⟨e12,h⟩:=h
  replace h:=bnE h;obtain⟨v13,e13,h⟩:=h
  apply AW.step
  ·simp
   intros
   refine Ai Eq (Ey e13) rfl ⟨.rowd (by simp) rfl (by omega) (AP _) (by simp) (by first|exact (Av e12).2|simpa using (Av e12).2|simp),trivial⟩ ?_
   try simp
   intros;rfl
  obtain rfl:=oi h
  refine AW.ret ?_
  refine Left.plain hnb (by simp[Try.f23,resV,resC,comp];rfl) rfl rfl ?_
  simp
theorem FS:Enters Try.prog 23:=enters Try.func23 (by kernel_rfl) rfl
end Go.Proofs.Ythjenkmbbnjcnaa
namespace Go.Proofs.Ythjenkmbbnjcnaa
open Go Go.RowKit
def minP (a b:List Span) (t:Int):Prop:=inS a t∧¬ inS b t
instance (a b:List Span) (t:Int):Decidable (minP a b t):=by unfold minP;infer_instance
theorem Gs {β:Type} {l:List (Int×Int×β)} (h:canP l) {s:Int} {w:β} (h1:fnP l s=some w) (h2:fnP l (s - 1)≠some w):∃ p∈l,p.1=s:=by
 induction l with
 |nil=>simp[fnP] at h1
 |cons p l ih =>
  rcases Decidable.em (p.1≤s∧s≤p.2.1) with hc|hc
  ·rw[Bv hc.1 hc.2] at h1
   rcases Decidable.em (p.1=s) with e|e
   ·exact⟨p,by simp,e⟩
   ·exact absurd (by rw[Bv (by omega) (by omega)];exact h1) h2
  ·rw[BI hc] at h1
   rcases Decidable.em (p.1≤s - 1∧s - 1≤p.2.1) with hd|hd
   ·-- s is just behind p: it begins a piece of the rest
    have h3:fnP l (s - 1)≠some w:=by
     rw[CR h hd.2]
     simp
    obtain⟨q,hq,e⟩:=ih h.tail h1 h3
    exact⟨q,by simp[hq],e⟩
   ·rw[BI hd] at h2
    obtain⟨q,hq,e⟩:=ih h.tail h1 h2
    exact⟨q,by simp[hq],e⟩
theorem Ht {β:Type} {l:List (Int×Int×β)} (h:canP l) {p:Int×Int×β} (hp:p∈l):fnP l p.1=some p.2.2∧fnP l (p.1 - 1)≠some p.2.2:=by
 refine⟨(CS h hp).2 _ (Int.le_refl _) (CS h hp).1,?_⟩
 induction l with
 |nil=>simp at hp
 |cons q l ih =>
  rcases List.mem_cons.1 hp with rfl|hp'
  ·have:=h.head
   rw[BI (by omega),CR h (by omega)]
   simp
  ·rcases Decidable.em (q.1≤p.1 - 1∧p.1 - 1≤q.2.1) with hc|hc
   ·rw[Bv hc.1 hc.2]
    intro e
    have e:=Option.some.inj e
    cases l with
    |nil=>simp at hp'
    |cons r l =>
     have hqr:=h.2.1
     rcases List.mem_cons.1 hp' with rfl|hp2
     ·exact h.2.2.1 ⟨by omega,e⟩
     ·have h3:=(canP.tail h).lt p hp2
      have h4:=(canP.tail h).head
      omega
   ·rw[BI hc]
    exact ih h.tail hp'
theorem Gt:∀ (l m:List Int),l.Pairwise (·≠·)→(∀ x∈l,x∈m)→l.length≤m.length
 |[],m,_,_=>Nat.zero_le _
 |x::l,m,hn,hs=>by
  rw[List.pairwise_cons] at hn
  have hx:=hs x (by simp)
  have:=Gt l (m.erase x) hn.2 fun y hy=>(List.mem_erase_of_ne (fun e=>hn.1 y hy e.symm)).2 (hs y (by simp[hy]))
  rw[List.length_erase_of_mem hx] at this
  have h0:0<m.length:=List.length_pos_of_mem hx
  simp
  omega
theorem Fp {β:Type}:∀ {l:List (Int×Int×β)},canP l→(l.map fun p=>p.1).Pairwise (·≠·)
 |[],_=>List.Pairwise.nil
 |p::l,h=>by
  rw[List.map_cons,List.pairwise_cons]
  refine⟨fun x hx=>?_,Fp h.tail⟩
  obtain⟨q,hq,rfl⟩:=List.mem_map.1 hx
  have h1:=h.lt q hq
  have h2:=h.head
  omega
theorem I5 {a r:List Claim} {v:List Span} {p:Int→Prop} [DecidablePred p] {w:Int×Int} (ha:GoodC a) (hr:GoodC r) (hv:SaysS v p) (hf:∀ s,fC r s=giveF (fC a) p w s):r.length≤a.length+2*v.length:=by
 have h1:=Gt ((r.map cP).map fun q=>q.1) (a.map (·.frm)++(v.map (·.frm)++v.map fun x=>x.to+1)) (Fp hr.1) fun s hs=>?_
 ·simpa [Nat.two_mul] using h1
 ·obtain⟨q,hq,rfl⟩:=List.mem_map.1 hs
  obtain⟨e1,e2⟩:=Ht hr.1 hq
  have e1:fC r q.1=some q.2.2:=e1
  have e2:fC r (q.1 - 1)≠some q.2.2:=e2
  rw[hf] at e1 e2
  unfold giveF at e1 e2
  generalize q.1=s at e1 e2
  generalize q.2.2=u at e1 e2
  rw[List.mem_append,List.mem_append,List.mem_map,List.mem_map,List.mem_map]
  by_cases h3:p s
  ·rw[if_pos h3] at e1
   by_cases h4:p (s - 1)
   ·rw[if_pos h4] at e2
    exact absurd e1 e2
   ·refine .inr (.inl ?_)
    have g1:fnP (v.map sP) s=some ():=by rw[hv.2];exact F0 h3
    have g2:fnP (v.map sP) (s - 1)≠some ():=by rw[hv.2,Fc h4];simp
    obtain⟨x,hx,e⟩:=Gs hv.1 g1 g2
    obtain⟨y,hy,rfl⟩:=List.mem_map.1 hx
    exact⟨y,hy,e⟩
  ·rw[if_neg h3] at e1
   by_cases h4:p (s - 1)
   ·-- a span ends just ahead
    refine .inr (.inr ?_)
    obtain⟨x,hx,g1,g2⟩:=(hv.iff (s - 1)).2 h4
    have g3:¬ (x.frm≤s∧s≤x.to):=fun h=>h3 ((hv.iff s).1 ⟨x,hx,h⟩)
    exact⟨x,hx,by omega⟩
   ·rw[if_neg h4] at e2
    refine .inl ?_
    obtain⟨x,hx,e⟩:=Gs ha.1 e1 e2
    obtain⟨y,hy,rfl⟩:=List.mem_map.1 hx
    exact⟨y,hy,e⟩
theorem Hu {a:List Claim} {l:List Span} {nd ep:Int} (ha:GoodC a) (hl:SortableS l) (h1:0≤nd) (h2:1≤ep) :
  Rn (CB big a l nd ep) fun r=>GoodC r∧(∀ s,fC r s=giveF (fC a) (inS l) (nd,ep) s)∧r.length≤a.length+2*l.length:=by
 refine (IE ha (by have:=hl.1;omega) h1 h2).mono fun r hr=>?_
 have hg:=hr.good (Hp ha.tells DN h1 h2)
 obtain⟨v,-,h3,h4⟩:=G7 hl
 have:=I5 ha hg h3 fun s=>hr.2 s
 exact⟨hg,fun s=>hr.2 s,by omega⟩
structure Made (a:List Claim) (n:Nat):Prop where
 good:GoodC a
 few:a.length≤n
 low:∀ s v,fC a s=some v→v.1≤3∧v.2≤6
theorem I6 {ns:List Int} (hn:rngH ns) (hl:ns.length≤60):Rn (Dd big ns) fun r=>Made r 30:=by
 unfold Dd
 refine Rn.bn (P:=fun r=>Made r 30) (Rn.iter _ (fun j a=>∃ r:List Claim,a=(r,((4*j:Nat):Int))∧Made r (2*j)∧4*j≤ns.length) 100 (by unfold big;omega) ⟨[],rfl,⟨⟨trivial,fun c hc=>by simp at hc⟩,by simp,fun s v h=>by simp[fC,fnP] at h⟩,by omega⟩ fun j a hj hI=>?_) fun r hr=>Rn.some hr
 obtain⟨r,rfl,r1,r2⟩:=hI
 refine Rn.bn (P:=fun y=>y=true→4*j+3<ns.length) ?_ fun y hy=>Rn.lt (Rn.ite (fun hd=>?_) fun hd=>Rn.some ⟨r1.good,by have:=r1.few;show r.length≤30;omega,r1.low⟩)
 ·refine Rn.lt (Rn.lt (Rn.lt ?_))
  simp only
  rw[Am (by omega) (by omega)]
  refine Rn.ite (fun hd=>Rn.lt (Rn.some fun _=>?_)) fun hd=>Rn.some (by simp)
  have:=of_decide_eq_true (p:=(((4*j:Nat):Int)+3<(ns.length:Int))) hd
  omega
 ·have hjl:=hy hd
  refine Rn.lt ?_
  have e1:addI .i64 ((4*j:Nat):Int) 2=((4*j+2:Nat):Int):=by rw[Am (by omega) (by omega)];omega
  have e2:addI .i64 ((4*j:Nat):Int) 3=((4*j+3:Nat):Int):=by rw[Am (by omega) (by omega)];omega
  have e3:addI .i64 ((4*j:Nat):Int) 4=((4*(j+1):Nat):Int):=by rw[Am (by omega) (by omega)];omega
  simp only
  rw[e1,e2,e3,IB (show 4*j≤4*j+2 by omega) (by omega)]
  refine Rn.bnE rfl (Rn.bn (IG (fun x hx=>hn x (List.mem_of_mem_drop (List.mem_of_mem_take hx))) (by simp;omega)) fun s hs=>?_)
  have h2:=hn _ (List.getElem_mem (show 4*j+2<ns.length by omega))
  have h3:=hn _ (List.getElem_mem hjl)
  refine Rn.bnE (AM (show 4*j+2<ns.length by omega)) (Rn.lt ?_)
  rw[Ex (by omega) (by omega)]
  refine Rn.bnE (vrem h2.1 (by omega)) (Rn.lt (Rn.bnE (AM hjl) (Rn.lt ?_)))
  rw[Ex (by omega) (by omega)]
  refine Rn.bnE (vrem h3.1 (by omega)) (Rn.lt ?_)
  rw[Am (by omega) (by omega)]
  simp at hs
  refine Rn.bn (Hu r1.good ⟨by omega,.inl (by unfold sortMost;omega)⟩ (by omega) (by omega)) fun g hg=>Rn.lt (Rn.some ⟨by omega,g,rfl,⟨hg.1,by have:=hg.2.2;have:=r1.few;omega,fun s v h=>?_⟩,by omega⟩)
  rw[hg.2.1] at h
  unfold giveF at h
  split at h
  ·have:=Option.some.inj h
   subst this
   exact⟨by simp only;omega,by simp only;omega⟩
  ·exact r1.low s v h
def ownP (f:Int→Option (Int×Int)) (nd:Int) (s:Int):Prop:=(f s).map (·.1)=some nd
instance (f:Int→Option (Int×Int)) (nd s:Int):Decidable (ownP f nd s):=by unfold ownP;infer_instance
theorem GoodC.iff {l:List Claim} (h:GoodC l) (s:Int) (v:Int×Int):fC l s=some v↔∃ c∈l,(c.frm≤s∧s≤c.to)∧(c.node,c.epoch)=v:=by
 constructor
 ·intro hv
  have key:∀ l:List Claim,fC l s=some v→∃ c∈l,(c.frm≤s∧s≤c.to)∧(c.node,c.epoch)=v:=by
   intro l
   induction l with
   |nil=>intro h;simp[fC,fnP] at h
   |cons c l ih =>
    intro hf
    rcases Decidable.em (c.frm≤s∧s≤c.to) with h1|h1
    ·have:fC (c::l) s=some (c.node,c.epoch):=Bv (p:=cP c) h1.1 h1.2
     rw[this] at hf
     exact⟨c,by simp,h1,Option.some.inj hf⟩
    ·have:fC (c::l) s=fC l s:=BI (p:=cP c) h1
     rw[this] at hf
     obtain⟨x,hx,h2⟩:=ih hf
     exact⟨x,by simp[hx],h2⟩
  exact key l hv
 ·rintro⟨c,hc,h1,rfl⟩
  exact (CS h.1 (List.mem_map_of_mem hc)).2 s h1.1 h1.2
theorem GoodC.rises {l:List Claim} (h:GoodC l):l.Pairwise fun x y=>x.frm≤y.frm:=by
 have:∀ l:List Claim,canP (l.map cP)→l.Pairwise fun x y=>x.frm≤y.frm:=by
  intro l
  induction l with
  |nil=>intro _;exact List.Pairwise.nil
  |cons c l ih =>
   intro hc
   rw[List.pairwise_cons]
   refine⟨fun y hy=>?_,ih (canP.tail (p:=cP c) hc)⟩
   have h1:c.to<y.frm:=canP.lt (p:=cP c) hc (cP y) (List.mem_map_of_mem hy)
   have h2:c.frm≤c.to:=canP.head (p:=cP c) hc
   omega
 exact this l h.1
theorem normT:@B7=@D3:=rfl
theorem I7 {l:List Claim} {nd:Int} (hl:GoodC l) (h200:l.length≤200):Rn (B8 big l nd) fun r=>SaysS r (ownP (fC l) nd)∧r.length≤l.length:=by
 unfold B8
 refine Rn.lt (Rn.bn (P:=fun r=>Rises r∧r.length≤l.length∧∀ t,(∃ x∈r,x.frm≤t∧t≤x.to)↔∃ c∈l,(c.frm≤t∧t≤c.to)∧c.node=nd) (Rn.iter _ (fun j y=>∃ r:List Span,y=((j:Int),r)∧Rises r∧r.length≤j∧(∀ x∈r,∃ c∈l.take j,x.frm=c.frm)∧∀ t,(∃ x∈r,x.frm≤t∧t≤x.to)↔∃ c∈l.take j,(c.frm≤t∧t≤c.to)∧c.node=nd) l.length (by unfold big;omega) ⟨[],rfl,List.Pairwise.nil,by simp,by simp,by simp⟩ fun j y hj hI=>?_) fun r hr=>?_)
 ·obtain⟨r,rfl,r1,r2,r3,r4⟩:=hI
  refine Rn.lt (Rn.ite (fun hd=>?_) fun hd=>?_)
  ·have hjl:j<l.length:=by
    have:=of_decide_eq_true (p:=((j:Int)<(l.length:Int))) hd
    omega
   have hnth:=AM hjl
   have htk:l.take (j+1)=l.take j++[l[j]]:=(List.take_append_getElem hjl).symm
   have hbef:∀ y∈l.take j,y.frm≤l[j].frm:=by
    intro y hy
    obtain⟨i,hi,rfl⟩:=List.mem_take_iff_getElem.1 hy
    exact List.pairwise_iff_getElem.1 hl.rises i j (by omega) hjl (by omega)
   generalize l[j]=c at hnth htk hbef
   refine Rn.bn (P:=fun r'=>Rises r'∧r'.length≤j+1∧(∀ x∈r',∃ c∈l.take (j+1),x.frm=c.frm)∧∀ t,(∃ x∈r',x.frm≤t∧t≤x.to)↔∃ c∈l.take (j+1),(c.frm≤t∧t≤c.to)∧c.node=nd) ?_ fun r' hr'=>Rn.lt (Rn.some ⟨hjl,r',?_,hr'⟩)
   ·refine Rn.bnE hnth (Rn.lt (Rn.ite (fun hc=>Rn.chk (by simp[room];omega) (Rn.lt (Rn.some ⟨?_,by simp;omega,fun x hx=>?_,fun t=>?_⟩))) fun hc=>Rn.some ⟨r1,Nat.le_succ_of_le r2,fun x hx=>?_,fun t=>?_⟩))
    ·refine List.pairwise_append.2 ⟨r1,List.pairwise_singleton _ _,fun u hu w hw=>?_⟩
     simp at hw
     subst hw
     obtain⟨y,hy,e⟩:=r3 u hu
     have:=hbef y hy
     simp only
     omega
    ·rw[htk]
     rcases List.mem_append.1 hx with hx|hx
     ·obtain⟨y,hy,e⟩:=r3 x hx
      exact⟨y,by simp[hy],e⟩
     ·simp at hx
      subst hx
      exact⟨c,by simp,rfl⟩
    ·have hn:c.node=nd:=of_decide_eq_true hc
     rw[htk]
     constructor
     ·rintro⟨x,hx,h⟩
      rcases List.mem_append.1 hx with hx|hx
      ·obtain⟨y,hy,h2⟩:=(r4 t).1 ⟨x,hx,h⟩
       exact⟨y,by simp[hy],h2⟩
      ·simp at hx
       subst hx
       exact⟨c,by simp,h,hn⟩
     ·rintro⟨y,hy,h,h2⟩
      rcases List.mem_append.1 hy with hy|hy
      ·obtain⟨x,hx,h3⟩:=(r4 t).2 ⟨y,hy,h,h2⟩
       exact⟨x,by simp[hx],h3⟩
      ·simp at hy
       subst hy
       exact⟨⟨y.frm,y.to⟩,by simp,h⟩
    ·obtain⟨y,hy,e⟩:=r3 x hx
     exact⟨y,by rw[htk];simp[hy],e⟩
    ·have hn:c.node≠nd:=of_decide_eq_false hc
     rw[r4 t,htk]
     constructor
     ·rintro⟨y,hy,h⟩
      exact⟨y,by simp[hy],h⟩
     ·rintro⟨y,hy,h,h2⟩
      rcases List.mem_append.1 hy with hy|hy
      ·exact⟨y,hy,h,h2⟩
      ·simp at hy
       subst hy
       exact absurd h2 hn
   ·rw[Am (by first|omega|(simp only;omega)) (by first|omega|(simp only;omega))]
    rfl
  ·have hjl:j=l.length:=by
    have:=of_decide_eq_false (p:=((j:Int)<(l.length:Int))) hd
    omega
   subst hjl
   rw[List.take_length] at r4
   exact Rn.some ⟨r1,r2,r4⟩
 ·obtain⟨r1,r2,r3⟩:=hr
  refine Rn.chk (by simp[room];omega) ?_
  rw[normT]
  refine Rn.bn (G7 ⟨by omega,.inr r1⟩) fun v hv=>Rn.some ⟨?_,by omega⟩
  refine SaysS.of hv.1.1 fun t=>?_
  rw[hv.1.iff]
  unfold inS ownP
  rw[r3 t]
  constructor
  ·rintro⟨h1,c,hc,h2,h3⟩
   rw[(hl.iff t _).2 ⟨c,hc,h2,rfl⟩,← h3]
   rfl
  ·intro h
   cases hf:fC l t with
   |none=>rw[hf] at h;simp at h
   |some w =>
    rw[hf] at h
    obtain⟨c,hc,h2,rfl⟩:=(hl.iff t w).1 hf
    have:=(hl.tells t _ hf).1
    exact⟨by omega,c,hc,h2,by simpa using h⟩
theorem SaysS.empty {l:List Span} {p:Int→Prop} [DecidablePred p] (h:SaysS l p) (hp:∀ t,¬ p t):l=[]:=by
 cases l with
 |nil=>rfl
 |cons x l=>exact absurd ((h.iff x.frm).1 ⟨x,by simp,Int.le_refl _,h.1.head⟩) (hp _)
end Go.Proofs.Ythjenkmbbnjcnaa
